/- What functions compute, and that they do. -/
import Derived.Test.YtjjakdmcnkldoaaDoorA2
set_option linter.unusedVariables false
set_option linter.unusedSimpArgs false
set_option maxRecDepth 100000
namespace Go.Proofs.YtjjakdmcnkldoaaDoor
open Go.Ev

/-! ### kinfolklaw02_EventForms -/
noncomputable def kinfolklaw02_EventForms (N : Nat) (p : List Int) (q : List Int) (n : Int) : Option (Bool) :=
  (kinfolklaw02_awake N).bind fun b =>
  bif b then
    (kinfolklaw02_made N p).bind fun (n2, t, t2) =>
    (kinfolklaw02_made N q).bind fun (n3, t3, t4) =>
    (event_Node N (IntKind.u64.wrap n) n2 t n3 t3).bind fun (n4, t5, n5) =>
    (kinfolkref02_Node N (IntKind.u64.wrap n) t2 t4).bind fun t6 =>
    (kinfolkref02_Depth N t6).bind fun n6 =>
    (kinfolkref02_Heights N t6 n6).bind fun l_ =>
    (kinfolkref02_Of N l_).bind fun t7 =>
    (kinfolklaw02_like N n2 t t2).bind fun b2 =>
    bif b2 then
      bif (decide ((n5 : Int) = 0)) then
        (kinfolklaw02_like N n4 t5 t6).bind fun b3 =>
        bif b3 then
          (kinfolkref02_Text N t7).bind fun s =>
          (event_Event_Text N n4 t5).bind fun s2 =>
          bif (decide (s = s2)) then
            (kinfolkref02_Leaf 0).bind fun t8 =>
            (kinfolklaw02_like N 0 T_event_halves.nil t8).bind fun b4 =>
            some b4
          else
            some false
        else
          some false
      else
        some false
    else
      some false
  else
    some false
theorem kinfolklaw02_EventForms_runs (N : Nat) (p : List Int) (q : List Int) (n : Int) (r_ : Bool) (h : kinfolklaw02_EventForms N p q n = some r_) : Runs Tryd.prog 12 [(.one (.pv (.ints .u8 p false))), (.one (.pv (.ints .u8 q false))), (.one (.pv (.int .u8 n)))] [] [] (kinfolklaw02_EventForms_out p q n r_) := by
  unfold kinfolklaw02_EventForms at h
  obtain ⟨b, h1, h⟩ := bind_of h
  rcases cond_of h with ⟨h2, h⟩ | ⟨h2, h⟩
  · obtain ⟨⟨n2, t, t2⟩, h3, h⟩ := bind_of h
    obtain ⟨⟨n3, t3, t4⟩, h4, h⟩ := bind_of h
    obtain ⟨⟨n4, t5, n5⟩, h5, h⟩ := bind_of h
    obtain ⟨t6, h6, h⟩ := bind_of h
    obtain ⟨n6, h7, h⟩ := bind_of h
    obtain ⟨l_, h8, h⟩ := bind_of h
    obtain ⟨t7, h9, h⟩ := bind_of h
    obtain ⟨b2, h10, h⟩ := bind_of h
    rcases cond_of h with ⟨h11, h⟩ | ⟨h11, h⟩
    · rcases cond_of h with ⟨h12, h⟩ | ⟨h12, h⟩
      · obtain ⟨b3, h13, h⟩ := bind_of h
        rcases cond_of h with ⟨h14, h⟩ | ⟨h14, h⟩
        · obtain ⟨s, h15, h⟩ := bind_of h
          obtain ⟨s2, h16, h⟩ := bind_of h
          rcases cond_of h with ⟨h17, h⟩ | ⟨h17, h⟩
          · obtain ⟨t8, h18, h⟩ := bind_of h
            obtain ⟨b4, h19, h⟩ := bind_of h
            have h := some_of h
            subst h
            exact runs_of (C := cfg) (objs := []) (sc := [.res (kinfolklaw02_awake_out b), .br false, .res (kinfolklaw02_made_out p (n2, t, t2)), .res (kinfolklaw02_made_out q (n3, t3, t4)), .res (event_Node_out (IntKind.u64.wrap n) n2 t n3 t3 (n4, t5, n5)), .res (kinfolkref02_Node_out (IntKind.u64.wrap n) t2 t4 t6), .res (kinfolkref02_Depth_out t6 n6), .res (kinfolkref02_Heights_out t6 n6 l_), .res (kinfolkref02_Of_out l_ t7), .res (kinfolklaw02_like_out n2 t t2 b2), .br true, .br true, .res (kinfolklaw02_like_out n4 t5 t6 b3), .br true, .res (kinfolkref02_Text_out t7 s), .res (kinfolkref02_Text_out t7 s), .res (event_Event_Text_out n4 t5 s2), .br true, .res (kinfolkref02_Leaf_out 0 t8), .res (kinfolkref02_Leaf_out 0 t8), .res (kinfolklaw02_like_out 0 T_event_halves.nil t8 b4)]) (.k1 (an_ (kinfolklaw02_awake_runs N _ h1) (an_ (not_of2 h2) (an_ (kinfolklaw02_made_runs N p _ h3) (an_ (kinfolklaw02_made_runs N q _ h4) (an_ (event_Node_runs N (IntKind.u64.wrap n) n2 t n3 t3 _ h5) (an_ (kinfolkref02_Node_runs N (IntKind.u64.wrap n) t2 t4 _ h6) (an_ (kinfolkref02_Depth_runs N t6 _ h7) (an_ (kinfolkref02_Heights_runs N t6 n6 _ h8) (an_ (Runs.coe (as' := [(.one (.pv (.ints .u64 (List.take (l_).length l_) false)))]) (objs' := []) (rows' := []) (kinfolkref02_Of_runs N l_ _ h9) ⟨.pv (.ints (by first | rfl | (simp only [List.take_length]; done) | (simp only [List.take_length, List.length_append, List.drop_zero, List.map_append, List.map_take, List.map_drop, List.map_cons, List.map_nil, List.append_nil, List.nil_append]; done) | (simp; done))), trivial⟩ trivial trivial) (an_ (kinfolklaw02_like_runs N n2 t t2 _ h10) (an_ h11 (an_ h12 (an_ (kinfolklaw02_like_runs N n4 t5 t6 _ h13) (an_ h14 (an_ (kinfolkref02_Text_runs N t7 _ h15) (an_ (kinfolkref02_Text_runs N t7 _ h15) (an_ (event_Event_Text_runs N n4 t5 _ h16) (an_ h17 (an_ (kinfolkref02_Leaf_runs 0 _ h18) (an_ (kinfolkref02_Leaf_runs 0 _ h18) (an_ (Runs.coe (as' := [(.agg [(.pv (.int .u64 0)), (.pv .nilp)]), (.one (.pv (T_kinfolkref02_Event.pv t8)))]) (objs' := []) (rows' := []) (kinfolklaw02_like_runs N 0 T_event_halves.nil t8 _ h19) ⟨⟨.eq rfl, .eq rfl, trivial⟩, .eq rfl, trivial⟩ trivial trivial) trivial))))))))))))))))))))) (by kernel_rfl) (by kernel_rfl))
          · have h := some_of h
            subst h
            exact runs_of (C := cfg) (objs := []) (sc := [.res (kinfolklaw02_awake_out b), .br false, .res (kinfolklaw02_made_out p (n2, t, t2)), .res (kinfolklaw02_made_out q (n3, t3, t4)), .res (event_Node_out (IntKind.u64.wrap n) n2 t n3 t3 (n4, t5, n5)), .res (kinfolkref02_Node_out (IntKind.u64.wrap n) t2 t4 t6), .res (kinfolkref02_Depth_out t6 n6), .res (kinfolkref02_Heights_out t6 n6 l_), .res (kinfolkref02_Of_out l_ t7), .res (kinfolklaw02_like_out n2 t t2 b2), .br true, .br true, .res (kinfolklaw02_like_out n4 t5 t6 b3), .br true, .res (kinfolkref02_Text_out t7 s), .res (kinfolkref02_Text_out t7 s), .res (event_Event_Text_out n4 t5 s2), .br false]) (.k1 (an_ (kinfolklaw02_awake_runs N _ h1) (an_ (not_of2 h2) (an_ (kinfolklaw02_made_runs N p _ h3) (an_ (kinfolklaw02_made_runs N q _ h4) (an_ (event_Node_runs N (IntKind.u64.wrap n) n2 t n3 t3 _ h5) (an_ (kinfolkref02_Node_runs N (IntKind.u64.wrap n) t2 t4 _ h6) (an_ (kinfolkref02_Depth_runs N t6 _ h7) (an_ (kinfolkref02_Heights_runs N t6 n6 _ h8) (an_ (Runs.coe (as' := [(.one (.pv (.ints .u64 (List.take (l_).length l_) false)))]) (objs' := []) (rows' := []) (kinfolkref02_Of_runs N l_ _ h9) ⟨.pv (.ints (by first | rfl | (simp only [List.take_length]; done) | (simp only [List.take_length, List.length_append, List.drop_zero, List.map_append, List.map_take, List.map_drop, List.map_cons, List.map_nil, List.append_nil, List.nil_append]; done) | (simp; done))), trivial⟩ trivial trivial) (an_ (kinfolklaw02_like_runs N n2 t t2 _ h10) (an_ h11 (an_ h12 (an_ (kinfolklaw02_like_runs N n4 t5 t6 _ h13) (an_ h14 (an_ (kinfolkref02_Text_runs N t7 _ h15) (an_ (kinfolkref02_Text_runs N t7 _ h15) (an_ (event_Event_Text_runs N n4 t5 _ h16) (an_ h17 trivial)))))))))))))))))) (by kernel_rfl) (by kernel_rfl))
        · have h := some_of h
          subst h
          exact runs_of (C := cfg) (objs := []) (sc := [.res (kinfolklaw02_awake_out b), .br false, .res (kinfolklaw02_made_out p (n2, t, t2)), .res (kinfolklaw02_made_out q (n3, t3, t4)), .res (event_Node_out (IntKind.u64.wrap n) n2 t n3 t3 (n4, t5, n5)), .res (kinfolkref02_Node_out (IntKind.u64.wrap n) t2 t4 t6), .res (kinfolkref02_Depth_out t6 n6), .res (kinfolkref02_Heights_out t6 n6 l_), .res (kinfolkref02_Of_out l_ t7), .res (kinfolklaw02_like_out n2 t t2 b2), .br true, .br true, .res (kinfolklaw02_like_out n4 t5 t6 b3), .br false, .br false]) (.k1 (an_ (kinfolklaw02_awake_runs N _ h1) (an_ (not_of2 h2) (an_ (kinfolklaw02_made_runs N p _ h3) (an_ (kinfolklaw02_made_runs N q _ h4) (an_ (event_Node_runs N (IntKind.u64.wrap n) n2 t n3 t3 _ h5) (an_ (kinfolkref02_Node_runs N (IntKind.u64.wrap n) t2 t4 _ h6) (an_ (kinfolkref02_Depth_runs N t6 _ h7) (an_ (kinfolkref02_Heights_runs N t6 n6 _ h8) (an_ (Runs.coe (as' := [(.one (.pv (.ints .u64 (List.take (l_).length l_) false)))]) (objs' := []) (rows' := []) (kinfolkref02_Of_runs N l_ _ h9) ⟨.pv (.ints (by first | rfl | (simp only [List.take_length]; done) | (simp only [List.take_length, List.length_append, List.drop_zero, List.map_append, List.map_take, List.map_drop, List.map_cons, List.map_nil, List.append_nil, List.nil_append]; done) | (simp; done))), trivial⟩ trivial trivial) (an_ (kinfolklaw02_like_runs N n2 t t2 _ h10) (an_ h11 (an_ h12 (an_ (kinfolklaw02_like_runs N n4 t5 t6 _ h13) (an_ h14 (an_ (rfl : false = false) trivial))))))))))))))) (by kernel_rfl) (by kernel_rfl))
      · have h := some_of h
        subst h
        exact runs_of (C := cfg) (objs := []) (sc := [.res (kinfolklaw02_awake_out b), .br false, .res (kinfolklaw02_made_out p (n2, t, t2)), .res (kinfolklaw02_made_out q (n3, t3, t4)), .res (event_Node_out (IntKind.u64.wrap n) n2 t n3 t3 (n4, t5, n5)), .res (kinfolkref02_Node_out (IntKind.u64.wrap n) t2 t4 t6), .res (kinfolkref02_Depth_out t6 n6), .res (kinfolkref02_Heights_out t6 n6 l_), .res (kinfolkref02_Of_out l_ t7), .res (kinfolklaw02_like_out n2 t t2 b2), .br true, .br false, .br false, .br false]) (.k1 (an_ (kinfolklaw02_awake_runs N _ h1) (an_ (not_of2 h2) (an_ (kinfolklaw02_made_runs N p _ h3) (an_ (kinfolklaw02_made_runs N q _ h4) (an_ (event_Node_runs N (IntKind.u64.wrap n) n2 t n3 t3 _ h5) (an_ (kinfolkref02_Node_runs N (IntKind.u64.wrap n) t2 t4 _ h6) (an_ (kinfolkref02_Depth_runs N t6 _ h7) (an_ (kinfolkref02_Heights_runs N t6 n6 _ h8) (an_ (Runs.coe (as' := [(.one (.pv (.ints .u64 (List.take (l_).length l_) false)))]) (objs' := []) (rows' := []) (kinfolkref02_Of_runs N l_ _ h9) ⟨.pv (.ints (by first | rfl | (simp only [List.take_length]; done) | (simp only [List.take_length, List.length_append, List.drop_zero, List.map_append, List.map_take, List.map_drop, List.map_cons, List.map_nil, List.append_nil, List.nil_append]; done) | (simp; done))), trivial⟩ trivial trivial) (an_ (kinfolklaw02_like_runs N n2 t t2 _ h10) (an_ h11 (an_ h12 (an_ (rfl : false = false) (an_ (rfl : false = false) trivial)))))))))))))) (by kernel_rfl) (by kernel_rfl))
    · have h := some_of h
      subst h
      exact runs_of (C := cfg) (objs := []) (sc := [.res (kinfolklaw02_awake_out b), .br false, .res (kinfolklaw02_made_out p (n2, t, t2)), .res (kinfolklaw02_made_out q (n3, t3, t4)), .res (event_Node_out (IntKind.u64.wrap n) n2 t n3 t3 (n4, t5, n5)), .res (kinfolkref02_Node_out (IntKind.u64.wrap n) t2 t4 t6), .res (kinfolkref02_Depth_out t6 n6), .res (kinfolkref02_Heights_out t6 n6 l_), .res (kinfolkref02_Of_out l_ t7), .res (kinfolklaw02_like_out n2 t t2 b2), .br false, .br false, .br false, .br false]) (.k1 (an_ (kinfolklaw02_awake_runs N _ h1) (an_ (not_of2 h2) (an_ (kinfolklaw02_made_runs N p _ h3) (an_ (kinfolklaw02_made_runs N q _ h4) (an_ (event_Node_runs N (IntKind.u64.wrap n) n2 t n3 t3 _ h5) (an_ (kinfolkref02_Node_runs N (IntKind.u64.wrap n) t2 t4 _ h6) (an_ (kinfolkref02_Depth_runs N t6 _ h7) (an_ (kinfolkref02_Heights_runs N t6 n6 _ h8) (an_ (Runs.coe (as' := [(.one (.pv (.ints .u64 (List.take (l_).length l_) false)))]) (objs' := []) (rows' := []) (kinfolkref02_Of_runs N l_ _ h9) ⟨.pv (.ints (by first | rfl | (simp only [List.take_length]; done) | (simp only [List.take_length, List.length_append, List.drop_zero, List.map_append, List.map_take, List.map_drop, List.map_cons, List.map_nil, List.append_nil, List.nil_append]; done) | (simp; done))), trivial⟩ trivial trivial) (an_ (kinfolklaw02_like_runs N n2 t t2 _ h10) (an_ h11 (an_ (rfl : false = false) (an_ (rfl : false = false) (an_ (rfl : false = false) trivial)))))))))))))) (by kernel_rfl) (by kernel_rfl))
  · have h := some_of h
    subst h
    exact runs_of (C := cfg) (objs := []) (sc := [.res (kinfolklaw02_awake_out b), .br true]) (.k0 (an_ (kinfolklaw02_awake_runs N _ h1) (an_ (not_of h2) trivial)) (by kernel_rfl))
/-! ### kinfolklaw02_EventLeq_out -/
def kinfolklaw02_EventLeq_out (p : List Int) (q : List Int) : Bool → Res
  | r1 => ([(.one (.pv (.bool r1)))], [], [])
/-! ### slices_Clone_uint64_uint64_out -/
def slices_Clone_uint64_uint64_out (s : List Int) : List Int → Res
  | r1 => ([(.one (.own 0 0 (r1).length false))], [], [(.ints .u64 r1)])
/-! ### slices_Clone_uint64_uint64 -/
noncomputable def slices_Clone_uint64_uint64 (s : List Int) : Option (List Int) :=
  bif !(Nat.beq (s).length 0) then
  bif Nat.beq (s).length 0 then
    some []
  else
    bif fits (([] ++ s)).length then
    some ([] ++ s)
    else none
  else none
theorem slices_Clone_uint64_uint64_runs (s : List Int) (r_ : List Int) (h : slices_Clone_uint64_uint64 s = some r_) : Runs Tryd.prog 69 [(.one (.pv (.ints .u64 s false)))] [] [] (slices_Clone_uint64_uint64_out s r_) := by
  unfold slices_Clone_uint64_uint64 at h
  obtain ⟨h1, h⟩ := need_of h
  rcases cond_of h with ⟨h2, h⟩ | ⟨h2, h⟩
  · have h := some_of h
    subst h
    have e_ : Runs Tryd.prog 69 [(.one (.pv (.ints .u64 s false)))] [] [] ([(.one (.own 0 0 0 false))], [], [(.ints .u64 [])]) := runs_of (C := cfg) (objs := []) (sc := [.br false, .br true]) (.k0 (an_ h1 (an_ (rfl : false = false) (an_ h2 trivial))) (by kernel_rfl))
    exact e_.out ⟨.own (by first | rfl | (simp only [List.take_length]; done) | (simp only [List.take_length, List.length_append, List.drop_zero, List.map_append, List.map_take, List.map_drop, List.map_cons, List.map_nil, List.append_nil, List.nil_append]; done) | (simp; done)), trivial⟩ trivial ⟨.eq rfl, trivial⟩ rfl
  · obtain ⟨h3, h⟩ := need_of h
    have h := some_of h
    subst h
    exact runs_of (C := cfg) (objs := []) (sc := [.br false, .br false]) (.k0 (an_ h1 (an_ (rfl : false = false) (an_ (not_of h2) (an_ h3 trivial)))) (by kernel_rfl))
/-! ### kinfolklaw02_EventLeq_L0 -/
def kinfolklaw02_EventLeq_L0_st (l : List Int) (n : Int) (n2 : Int) (t : T_event_halves) (n3 : Int) (t2 : T_event_halves) (l2 : List Int) : Bool × Int × List Int → St
  | (leq, n4, l3) => ⟨[(5, (.av (.one (.ref 0 0)))), (7, (.av (.one (.ref 1 0)))), (10, (.av (.one (.pv (.ints .u64 l false))))), (11, (.av (.one (.own 0 0 (l2).length false)))), (12, (.av (.one (.pv (.bool leq))))), (13, (.av (.one (.own 1 0 (l3).length false)))), (42, (.av (.one (.pv (.int .i64 n))))), (43, (.av (.one (.pv (.int .i64 n4)))))], [(0, [(.pv (.int .u64 n2)), (.pv (T_event_halves.pv t))]), (1, [(.pv (.int .u64 n3)), (.pv (T_event_halves.pv t2))])], [(0, (.live (.ints .u64 l2))), (1, (.live (.ints .u64 l3)))]⟩
def kinfolklaw02_EventLeq_L0_ex (l : List Int) (n : Int) (n2 : Int) (t : T_event_halves) (n3 : Int) (t2 : T_event_halves) (l2 : List Int) : Bool × List Int → Ex × St
  | (r1, r2) => ((.exit 0), ⟨[(5, (.av (.one (.ref 0 0)))), (7, (.av (.one (.ref 1 0)))), (12, (.av (.one (.pv (.bool r1))))), (13, (.av (.one (.own 1 0 (r2).length false))))], [(0, [(.pv (.int .u64 n2)), (.pv (T_event_halves.pv t))]), (1, [(.pv (.int .u64 n3)), (.pv (T_event_halves.pv t2))])], [(0, (.live (.ints .u64 l2))), (1, (.live (.ints .u64 r2)))]⟩)
noncomputable def kinfolklaw02_EventLeq_L0_step (l : List Int) (n : Int) (n2 : Int) (t : T_event_halves) (n3 : Int) (t2 : T_event_halves) (l2 : List Int) : Bool × Int × List Int → Option ((Bool × Int × List Int) ⊕ (Bool × List Int))
  | (leq, n4, l3) =>
  bif (decide ((n4 : Int) < n)) then
    bif leq then
      bif decide ((0 : Int) ≤ n4) && decide ((n4 : Int) < ((l).length : Int)) then
      bif decide ((0 : Int) ≤ n4) && decide ((n4 : Int) < ((l2).length : Int)) then
      bif decide ((0 : Int) ≤ n4) && decide ((n4 : Int) < ((l3).length : Int)) then
      some (.inl ((decide (((l.getD (n4).toNat 0) : Int) ≤ (l2.getD (0 + (n4).toNat) 0))), (iadd .i64 n4 1), (l3.set (0 + (n4).toNat) (if ((l.getD (n4).toNat 0) : Int) < (l2.getD (0 + (n4).toNat) 0) then (l2.getD (0 + (n4).toNat) 0) else (l.getD (n4).toNat 0)))))
      else none
      else none
      else none
    else
      bif decide ((0 : Int) ≤ n4) && decide ((n4 : Int) < ((l).length : Int)) then
      bif decide ((0 : Int) ≤ n4) && decide ((n4 : Int) < ((l2).length : Int)) then
      bif decide ((0 : Int) ≤ n4) && decide ((n4 : Int) < ((l3).length : Int)) then
      some (.inl (false, (iadd .i64 n4 1), (l3.set (0 + (n4).toNat) (if ((l.getD (n4).toNat 0) : Int) < (l2.getD (0 + (n4).toNat) 0) then (l2.getD (0 + (n4).toNat) 0) else (l.getD (n4).toNat 0)))))
      else none
      else none
      else none
  else
    some (.inr (leq, l3))
theorem kinfolklaw02_EventLeq_L0_ok (l : List Int) (n : Int) (n2 : Int) (t : T_event_halves) (n3 : Int) (t2 : T_event_halves) (l2 : List Int) (s_ : Bool × Int × List Int) (z_ : (Bool × Int × List Int) ⊕ (Bool × List Int)) (h : kinfolklaw02_EventLeq_L0_step l n n2 t n3 t2 l2 s_ = some z_) : RoundOk Tryd.prog cfg 15 0 (loopAt Tryd.prog 15 0) (kinfolklaw02_EventLeq_L0_st l n n2 t n3 t2 l2) (kinfolklaw02_EventLeq_L0_ex l n n2 t n3 t2 l2) s_ z_ := by
  rcases s_ with ⟨leq, n4, l3⟩
  rcases cond_of h with ⟨h1, h⟩ | ⟨h1, h⟩
  · rcases cond_of h with ⟨h2, h⟩ | ⟨h2, h⟩
    · obtain ⟨h3, h⟩ := need_of h
      obtain ⟨h4, h⟩ := need_of h
      obtain ⟨h5, h⟩ := need_of h
      have h := some_of h
      subst h
      exact ⟨[.br true, .br true], ⟨[(5, (.av (.one (.ref 0 0)))), (7, (.av (.one (.ref 1 0)))), (10, (.av (.one (.pv (.ints .u64 l false))))), (11, (.av (.one (.own 0 0 (l2).length false)))), (12, (.av (.one (.pv (.bool (decide (((l.getD (n4).toNat 0) : Int) ≤ (l2.getD (0 + (n4).toNat) 0)))))))), (13, (.av (.one (.own 1 0 (l3).length false)))), (42, (.av (.one (.pv (.int .i64 n))))), (43, (.av (.one (.pv (.int .i64 (iadd .i64 n4 1))))))], [(0, [(.pv (.int .u64 n2)), (.pv (T_event_halves.pv t))]), (1, [(.pv (.int .u64 n3)), (.pv (T_event_halves.pv t2))])], [(0, (.live (.ints .u64 l2))), (1, (.live (.ints .u64 (l3.set (0 + (n4).toNat) (if ((l.getD (n4).toNat 0) : Int) < (l2.getD (0 + (n4).toNat) 0) then (l2.getD (0 + (n4).toNat) 0) else (l.getD (n4).toNat 0))))))]⟩, .k0 (an_ h1 (an_ h2 (an_ h3 (an_ h4 (an_ h3 (an_ h4 (an_ h5 trivial))))))) (by kernel_rfl), ⟨⟨⟨_, rfl, .eq rfl⟩, ⟨_, rfl, .eq rfl⟩, ⟨_, rfl, .eq rfl⟩, ⟨_, rfl, .eq rfl⟩, ⟨_, rfl, .eq rfl⟩, ⟨_, rfl, .own (by first | rfl | (simp only [List.take_length]; done) | (simp only [List.take_length, List.length_append, List.drop_zero, List.map_append, List.map_take, List.map_drop, List.map_cons, List.map_nil, List.append_nil, List.nil_append]; done) | (simp; done))⟩, ⟨_, rfl, .eq rfl⟩, ⟨_, rfl, .eq rfl⟩, trivial⟩, ⟨⟨rfl, ⟨.eq rfl, .eq rfl, trivial⟩⟩, ⟨rfl, ⟨.eq rfl, .eq rfl, trivial⟩⟩, trivial⟩, ⟨⟨rfl, .eq rfl⟩, ⟨rfl, .eq rfl⟩, trivial⟩⟩⟩
    · obtain ⟨h3, h⟩ := need_of h
      obtain ⟨h4, h⟩ := need_of h
      obtain ⟨h5, h⟩ := need_of h
      have h := some_of h
      subst h
      exact ⟨[.br true, .br false], ⟨[(5, (.av (.one (.ref 0 0)))), (7, (.av (.one (.ref 1 0)))), (10, (.av (.one (.pv (.ints .u64 l false))))), (11, (.av (.one (.own 0 0 (l2).length false)))), (12, (.av (.one (.pv (.bool false))))), (13, (.av (.one (.own 1 0 (l3).length false)))), (42, (.av (.one (.pv (.int .i64 n))))), (43, (.av (.one (.pv (.int .i64 (iadd .i64 n4 1))))))], [(0, [(.pv (.int .u64 n2)), (.pv (T_event_halves.pv t))]), (1, [(.pv (.int .u64 n3)), (.pv (T_event_halves.pv t2))])], [(0, (.live (.ints .u64 l2))), (1, (.live (.ints .u64 (l3.set (0 + (n4).toNat) (if ((l.getD (n4).toNat 0) : Int) < (l2.getD (0 + (n4).toNat) 0) then (l2.getD (0 + (n4).toNat) 0) else (l.getD (n4).toNat 0))))))]⟩, .k1 (an_ h1 (an_ h2 (an_ h3 (an_ h4 (an_ h5 trivial))))) (by kernel_rfl) (by kernel_rfl), ⟨⟨⟨_, rfl, .eq rfl⟩, ⟨_, rfl, .eq rfl⟩, ⟨_, rfl, .eq rfl⟩, ⟨_, rfl, .eq rfl⟩, ⟨_, rfl, .eq rfl⟩, ⟨_, rfl, .own (by first | rfl | (simp only [List.take_length]; done) | (simp only [List.take_length, List.length_append, List.drop_zero, List.map_append, List.map_take, List.map_drop, List.map_cons, List.map_nil, List.append_nil, List.nil_append]; done) | (simp; done))⟩, ⟨_, rfl, .eq rfl⟩, ⟨_, rfl, .eq rfl⟩, trivial⟩, ⟨⟨rfl, ⟨.eq rfl, .eq rfl, trivial⟩⟩, ⟨rfl, ⟨.eq rfl, .eq rfl, trivial⟩⟩, trivial⟩, ⟨⟨rfl, .eq rfl⟩, ⟨rfl, .eq rfl⟩, trivial⟩⟩⟩
  · have h := some_of h
    subst h
    exact ⟨[.br false], ⟨[(44, (.av (.one (.pv (.bool false))))), (5, (.av (.one (.ref 0 0)))), (7, (.av (.one (.ref 1 0)))), (10, (.av (.one (.pv (.ints .u64 l false))))), (11, (.av (.one (.own 0 0 (l2).length false)))), (12, (.av (.one (.pv (.bool leq))))), (13, (.av (.one (.own 1 0 (l3).length false)))), (42, (.av (.one (.pv (.int .i64 n))))), (43, (.av (.one (.pv (.int .i64 n4))))), (44, (.av (.one (.pv (.bool (decide ((n4 : Int) < n)))))))], [(0, [(.pv (.int .u64 n2)), (.pv (T_event_halves.pv t))]), (1, [(.pv (.int .u64 n3)), (.pv (T_event_halves.pv t2))])], [(0, (.live (.ints .u64 l2))), (1, (.live (.ints .u64 l3)))]⟩, .k0 (an_ h1 trivial) (by kernel_rfl), ⟨⟨⟨_, rfl, .eq rfl⟩, ⟨_, rfl, .eq rfl⟩, ⟨_, rfl, .eq rfl⟩, ⟨_, rfl, .eq rfl⟩, trivial⟩, ⟨⟨rfl, ⟨.eq rfl, .eq rfl, trivial⟩⟩, ⟨rfl, ⟨.eq rfl, .eq rfl, trivial⟩⟩, trivial⟩, ⟨⟨rfl, .eq rfl⟩, ⟨rfl, .eq rfl⟩, trivial⟩⟩⟩
theorem kinfolklaw02_EventLeq_L0_runs (l : List Int) (n : Int) (n2 : Int) (t : T_event_halves) (n3 : Int) (t2 : T_event_halves) (l2 : List Int) (s_ : Bool × Int × List Int) (r_ : Bool × List Int) (h : runL (kinfolklaw02_EventLeq_L0_step l n n2 t n3 t2 l2) s_ = some r_) : LRuns Tryd.prog (lEnv Tryd.prog cfg 15 0).nt 0 (.loop (loopAt Tryd.prog 15 0)) (kinfolklaw02_EventLeq_L0_st l n n2 t n3 t2 l2 s_) (kinfolklaw02_EventLeq_L0_ex l n n2 t n3 t2 l2 r_).1 (kinfolklaw02_EventLeq_L0_ex l n n2 t n3 t2 l2 r_).2 :=
  loop_run h (kinfolklaw02_EventLeq_L0_ok l n n2 t n3 t2 l2) (by intro r_; rcases r_ with ⟨r1, r2⟩ <;> simp [kinfolklaw02_EventLeq_L0_ex])
/-! ### kinfolklaw02_EventLeq -/
noncomputable def kinfolklaw02_EventLeq (N : Nat) (p : List Int) (q : List Int) : Option (Bool) :=
  (kinfolklaw02_awake N).bind fun b =>
  bif b then
    (kinfolklaw02_made N p).bind fun (n, t, t2) =>
    (kinfolklaw02_made N q).bind fun (n2, t3, t4) =>
    (kinfolkref02_Depth N t2).bind fun n3 =>
    (kinfolkref02_Depth N t4).bind fun n4 =>
    (kinfolkref02_Heights N t2 (if (n3 : Int) < n4 then n4 else n3)).bind fun l_ =>
    (kinfolkref02_Heights N t4 (if (n3 : Int) < n4 then n4 else n3)).bind fun l_2 =>
    (slices_Clone_uint64_uint64 l_).bind fun l_3 =>
    (runL (kinfolklaw02_EventLeq_L0_step l_ (((List.take (l_).length l_)).length : Int) n t n2 t3 l_2) (true, 0, l_3)).bind fun (b2, l_4) =>
    (event_Join N n t n2 t3).bind fun (n5, t5) =>
    (event_Leq N n t n2 t3).bind fun b3 =>
    bif (b3 == b2) then
      (event_Same N n t n2 t3).bind fun b4 =>
      (event_Event_Text N n t).bind fun s =>
      (event_Event_Text N n2 t3).bind fun s2 =>
      bif (b4 == (decide (s = s2))) then
        (kinfolkref02_Of N l_4).bind fun t6 =>
        (kinfolklaw02_like N n5 t5 t6).bind fun b5 =>
        bif b5 then
          (event_Leq N n t n5 t5).bind fun b6 =>
          bif b6 then
            (event_Leq N n2 t3 n5 t5).bind fun b7 =>
            bif b7 then
              bif b2 then
                (event_Same N n5 t5 n2 t3).bind fun b8 =>
                some b8
              else
                some true
            else
              some false
          else
            some false
        else
          some false
      else
        some false
    else
      some false
  else
    some false
theorem kinfolklaw02_EventLeq_runs (N : Nat) (p : List Int) (q : List Int) (r_ : Bool) (h : kinfolklaw02_EventLeq N p q = some r_) : Runs Tryd.prog 15 [(.one (.pv (.ints .u8 p false))), (.one (.pv (.ints .u8 q false)))] [] [] (kinfolklaw02_EventLeq_out p q r_) := by
  unfold kinfolklaw02_EventLeq at h
  obtain ⟨b, h1, h⟩ := bind_of h
  rcases cond_of h with ⟨h2, h⟩ | ⟨h2, h⟩
  · obtain ⟨⟨n, t, t2⟩, h3, h⟩ := bind_of h
    obtain ⟨⟨n2, t3, t4⟩, h4, h⟩ := bind_of h
    obtain ⟨n3, h5, h⟩ := bind_of h
    obtain ⟨n4, h6, h⟩ := bind_of h
    obtain ⟨l_, h7, h⟩ := bind_of h
    obtain ⟨l_2, h8, h⟩ := bind_of h
    obtain ⟨l_3, h9, h⟩ := bind_of h
    obtain ⟨⟨b2, l_4⟩, h10, h⟩ := bind_of h
    obtain ⟨⟨n5, t5⟩, h11, h⟩ := bind_of h
    obtain ⟨b3, h12, h⟩ := bind_of h
    rcases cond_of h with ⟨h13, h⟩ | ⟨h13, h⟩
    · obtain ⟨b4, h14, h⟩ := bind_of h
      obtain ⟨s, h15, h⟩ := bind_of h
      obtain ⟨s2, h16, h⟩ := bind_of h
      rcases cond_of h with ⟨h17, h⟩ | ⟨h17, h⟩
      · obtain ⟨t6, h18, h⟩ := bind_of h
        obtain ⟨b5, h19, h⟩ := bind_of h
        rcases cond_of h with ⟨h20, h⟩ | ⟨h20, h⟩
        · obtain ⟨b6, h21, h⟩ := bind_of h
          rcases cond_of h with ⟨h22, h⟩ | ⟨h22, h⟩
          · obtain ⟨b7, h23, h⟩ := bind_of h
            rcases cond_of h with ⟨h24, h⟩ | ⟨h24, h⟩
            · rcases cond_of h with ⟨h25, h⟩ | ⟨h25, h⟩
              · obtain ⟨b8, h26, h⟩ := bind_of h
                have h := some_of h
                subst h
                exact runs_of (C := cfg) (objs := []) (sc := [.res (kinfolklaw02_awake_out b), .br false, .res (kinfolklaw02_made_out p (n, t, t2)), .res (kinfolklaw02_made_out q (n2, t3, t4)), .res (kinfolkref02_Depth_out t2 n3), .res (kinfolkref02_Depth_out t4 n4), .res (kinfolkref02_Heights_out t2 (if (n3 : Int) < n4 then n4 else n3) l_), .res (kinfolkref02_Heights_out t4 (if (n3 : Int) < n4 then n4 else n3) l_2), .res (slices_Clone_uint64_uint64_out l_ l_3), .lp (kinfolklaw02_EventLeq_L0_ex l_ (((List.take (l_).length l_)).length : Int) n t n2 t3 l_2 (b2, l_4)).1 (kinfolklaw02_EventLeq_L0_ex l_ (((List.take (l_).length l_)).length : Int) n t n2 t3 l_2 (b2, l_4)).2, .res (event_Join_out n t n2 t3 (n5, t5)), .res (event_Leq_out n t n2 t3 b3), .br true, .res (event_Same_out n t n2 t3 b4), .res (event_Same_out n t n2 t3 b4), .res (event_Same_out n t n2 t3 b4), .res (event_Event_Text_out n t s), .res (event_Same_out n t n2 t3 b4), .res (event_Event_Text_out n t s), .res (event_Event_Text_out n2 t3 s2), .br true, .res (kinfolkref02_Of_out l_4 t6), .res (kinfolkref02_Of_out l_4 t6), .res (kinfolklaw02_like_out n5 t5 t6 b5), .br true, .res (event_Leq_out n t n5 t5 b6), .br true, .res (event_Leq_out n2 t3 n5 t5 b7), .br true, .br false, .res (event_Same_out n5 t5 n2 t3 b8)]) (.k1 (an_ (kinfolklaw02_awake_runs N _ h1) (an_ (not_of2 h2) (an_ (kinfolklaw02_made_runs N p _ h3) (an_ (kinfolklaw02_made_runs N q _ h4) (an_ (kinfolkref02_Depth_runs N t2 _ h5) (an_ (kinfolkref02_Depth_runs N t4 _ h6) (an_ (kinfolkref02_Heights_runs N t2 (if (n3 : Int) < n4 then n4 else n3) _ h7) (an_ (kinfolkref02_Heights_runs N t4 (if (n3 : Int) < n4 then n4 else n3) _ h8) (an_ (Runs.coe (as' := [(.one (.pv (.ints .u64 (List.take (l_).length l_) false)))]) (objs' := []) (rows' := []) (slices_Clone_uint64_uint64_runs l_ _ h9) ⟨.pv (.ints (by first | rfl | (simp only [List.take_length]; done) | (simp only [List.take_length, List.length_append, List.drop_zero, List.map_append, List.map_take, List.map_drop, List.map_cons, List.map_nil, List.append_nil, List.nil_append]; done) | (simp; done))), trivial⟩ trivial trivial) (an_ (LRuns.coe (s0 := ⟨[(5, (.av (.one (.ref 0 0)))), (7, (.av (.one (.ref 1 0)))), (10, (.av (.one (.pv (.ints .u64 (List.take (l_).length l_) false))))), (11, (.av (.one (.own 0 0 (l_2).length false)))), (12, (.av (.one (.pv (.bool true))))), (13, (.av (.one (.own 1 0 (l_3).length false)))), (42, (.av (.one (.pv (.int .i64 (((List.take (l_).length l_)).length : Int)))))), (43, (.av (.one (.pv (.int .i64 0)))))], [(0, [(.pv (.int .u64 n)), (.pv (T_event_halves.pv t))]), (1, [(.pv (.int .u64 n2)), (.pv (T_event_halves.pv t3))])], [(0, (.live (.ints .u64 l_2))), (1, (.live (.ints .u64 l_3)))]⟩) (kinfolklaw02_EventLeq_L0_runs l_ (((List.take (l_).length l_)).length : Int) n t n2 t3 l_2 _ _ h10) ⟨⟨⟨_, rfl, .eq rfl⟩, ⟨_, rfl, .eq rfl⟩, ⟨_, rfl, .pv (.ints (by first | rfl | (simp only [List.take_length]; done) | (simp only [List.take_length, List.length_append, List.drop_zero, List.map_append, List.map_take, List.map_drop, List.map_cons, List.map_nil, List.append_nil, List.nil_append]; done) | (simp; done)))⟩, ⟨_, rfl, .eq rfl⟩, ⟨_, rfl, .eq rfl⟩, ⟨_, rfl, .eq rfl⟩, ⟨_, rfl, .eq rfl⟩, ⟨_, rfl, .eq rfl⟩, trivial⟩, ⟨⟨rfl, ⟨.eq rfl, .eq rfl, trivial⟩⟩, ⟨rfl, ⟨.eq rfl, .eq rfl, trivial⟩⟩, trivial⟩, ⟨⟨rfl, .eq rfl⟩, ⟨rfl, .eq rfl⟩, trivial⟩⟩) (an_ (event_Join_runs N n t n2 t3 _ h11) (an_ (event_Leq_runs N n t n2 t3 _ h12) (an_ h13 (an_ (event_Same_runs N n t n2 t3 _ h14) (an_ (event_Same_runs N n t n2 t3 _ h14) (an_ (event_Same_runs N n t n2 t3 _ h14) (an_ (event_Event_Text_runs N n t _ h15) (an_ (event_Same_runs N n t n2 t3 _ h14) (an_ (event_Event_Text_runs N n t _ h15) (an_ (event_Event_Text_runs N n2 t3 _ h16) (an_ h17 (an_ (Runs.coe (as' := [(.one (.pv (.ints .u64 (List.take (l_4).length l_4) false)))]) (objs' := []) (rows' := []) (kinfolkref02_Of_runs N l_4 _ h18) ⟨.pv (.ints (by first | rfl | (simp only [List.take_length]; done) | (simp only [List.take_length, List.length_append, List.drop_zero, List.map_append, List.map_take, List.map_drop, List.map_cons, List.map_nil, List.append_nil, List.nil_append]; done) | (simp; done))), trivial⟩ trivial trivial) (an_ (Runs.coe (as' := [(.one (.pv (.ints .u64 (List.take (l_4).length l_4) false)))]) (objs' := []) (rows' := []) (kinfolkref02_Of_runs N l_4 _ h18) ⟨.pv (.ints (by first | rfl | (simp only [List.take_length]; done) | (simp only [List.take_length, List.length_append, List.drop_zero, List.map_append, List.map_take, List.map_drop, List.map_cons, List.map_nil, List.append_nil, List.nil_append]; done) | (simp; done))), trivial⟩ trivial trivial) (an_ (kinfolklaw02_like_runs N n5 t5 t6 _ h19) (an_ h20 (an_ (event_Leq_runs N n t n5 t5 _ h21) (an_ h22 (an_ (event_Leq_runs N n2 t3 n5 t5 _ h23) (an_ h24 (an_ (not_of2 h25) (an_ (event_Same_runs N n5 t5 n2 t3 _ h26) trivial))))))))))))))))))))))))))))))) (by kernel_rfl) (by kernel_rfl))
              · have h := some_of h
                subst h
                exact runs_of (C := cfg) (objs := []) (sc := [.res (kinfolklaw02_awake_out b), .br false, .res (kinfolklaw02_made_out p (n, t, t2)), .res (kinfolklaw02_made_out q (n2, t3, t4)), .res (kinfolkref02_Depth_out t2 n3), .res (kinfolkref02_Depth_out t4 n4), .res (kinfolkref02_Heights_out t2 (if (n3 : Int) < n4 then n4 else n3) l_), .res (kinfolkref02_Heights_out t4 (if (n3 : Int) < n4 then n4 else n3) l_2), .res (slices_Clone_uint64_uint64_out l_ l_3), .lp (kinfolklaw02_EventLeq_L0_ex l_ (((List.take (l_).length l_)).length : Int) n t n2 t3 l_2 (b2, l_4)).1 (kinfolklaw02_EventLeq_L0_ex l_ (((List.take (l_).length l_)).length : Int) n t n2 t3 l_2 (b2, l_4)).2, .res (event_Join_out n t n2 t3 (n5, t5)), .res (event_Leq_out n t n2 t3 b3), .br true, .res (event_Same_out n t n2 t3 b4), .res (event_Same_out n t n2 t3 b4), .res (event_Same_out n t n2 t3 b4), .res (event_Event_Text_out n t s), .res (event_Same_out n t n2 t3 b4), .res (event_Event_Text_out n t s), .res (event_Event_Text_out n2 t3 s2), .br true, .res (kinfolkref02_Of_out l_4 t6), .res (kinfolkref02_Of_out l_4 t6), .res (kinfolklaw02_like_out n5 t5 t6 b5), .br true, .res (event_Leq_out n t n5 t5 b6), .br true, .res (event_Leq_out n2 t3 n5 t5 b7), .br true, .br true]) (.k1 (an_ (kinfolklaw02_awake_runs N _ h1) (an_ (not_of2 h2) (an_ (kinfolklaw02_made_runs N p _ h3) (an_ (kinfolklaw02_made_runs N q _ h4) (an_ (kinfolkref02_Depth_runs N t2 _ h5) (an_ (kinfolkref02_Depth_runs N t4 _ h6) (an_ (kinfolkref02_Heights_runs N t2 (if (n3 : Int) < n4 then n4 else n3) _ h7) (an_ (kinfolkref02_Heights_runs N t4 (if (n3 : Int) < n4 then n4 else n3) _ h8) (an_ (Runs.coe (as' := [(.one (.pv (.ints .u64 (List.take (l_).length l_) false)))]) (objs' := []) (rows' := []) (slices_Clone_uint64_uint64_runs l_ _ h9) ⟨.pv (.ints (by first | rfl | (simp only [List.take_length]; done) | (simp only [List.take_length, List.length_append, List.drop_zero, List.map_append, List.map_take, List.map_drop, List.map_cons, List.map_nil, List.append_nil, List.nil_append]; done) | (simp; done))), trivial⟩ trivial trivial) (an_ (LRuns.coe (s0 := ⟨[(5, (.av (.one (.ref 0 0)))), (7, (.av (.one (.ref 1 0)))), (10, (.av (.one (.pv (.ints .u64 (List.take (l_).length l_) false))))), (11, (.av (.one (.own 0 0 (l_2).length false)))), (12, (.av (.one (.pv (.bool true))))), (13, (.av (.one (.own 1 0 (l_3).length false)))), (42, (.av (.one (.pv (.int .i64 (((List.take (l_).length l_)).length : Int)))))), (43, (.av (.one (.pv (.int .i64 0)))))], [(0, [(.pv (.int .u64 n)), (.pv (T_event_halves.pv t))]), (1, [(.pv (.int .u64 n2)), (.pv (T_event_halves.pv t3))])], [(0, (.live (.ints .u64 l_2))), (1, (.live (.ints .u64 l_3)))]⟩) (kinfolklaw02_EventLeq_L0_runs l_ (((List.take (l_).length l_)).length : Int) n t n2 t3 l_2 _ _ h10) ⟨⟨⟨_, rfl, .eq rfl⟩, ⟨_, rfl, .eq rfl⟩, ⟨_, rfl, .pv (.ints (by first | rfl | (simp only [List.take_length]; done) | (simp only [List.take_length, List.length_append, List.drop_zero, List.map_append, List.map_take, List.map_drop, List.map_cons, List.map_nil, List.append_nil, List.nil_append]; done) | (simp; done)))⟩, ⟨_, rfl, .eq rfl⟩, ⟨_, rfl, .eq rfl⟩, ⟨_, rfl, .eq rfl⟩, ⟨_, rfl, .eq rfl⟩, ⟨_, rfl, .eq rfl⟩, trivial⟩, ⟨⟨rfl, ⟨.eq rfl, .eq rfl, trivial⟩⟩, ⟨rfl, ⟨.eq rfl, .eq rfl, trivial⟩⟩, trivial⟩, ⟨⟨rfl, .eq rfl⟩, ⟨rfl, .eq rfl⟩, trivial⟩⟩) (an_ (event_Join_runs N n t n2 t3 _ h11) (an_ (event_Leq_runs N n t n2 t3 _ h12) (an_ h13 (an_ (event_Same_runs N n t n2 t3 _ h14) (an_ (event_Same_runs N n t n2 t3 _ h14) (an_ (event_Same_runs N n t n2 t3 _ h14) (an_ (event_Event_Text_runs N n t _ h15) (an_ (event_Same_runs N n t n2 t3 _ h14) (an_ (event_Event_Text_runs N n t _ h15) (an_ (event_Event_Text_runs N n2 t3 _ h16) (an_ h17 (an_ (Runs.coe (as' := [(.one (.pv (.ints .u64 (List.take (l_4).length l_4) false)))]) (objs' := []) (rows' := []) (kinfolkref02_Of_runs N l_4 _ h18) ⟨.pv (.ints (by first | rfl | (simp only [List.take_length]; done) | (simp only [List.take_length, List.length_append, List.drop_zero, List.map_append, List.map_take, List.map_drop, List.map_cons, List.map_nil, List.append_nil, List.nil_append]; done) | (simp; done))), trivial⟩ trivial trivial) (an_ (Runs.coe (as' := [(.one (.pv (.ints .u64 (List.take (l_4).length l_4) false)))]) (objs' := []) (rows' := []) (kinfolkref02_Of_runs N l_4 _ h18) ⟨.pv (.ints (by first | rfl | (simp only [List.take_length]; done) | (simp only [List.take_length, List.length_append, List.drop_zero, List.map_append, List.map_take, List.map_drop, List.map_cons, List.map_nil, List.append_nil, List.nil_append]; done) | (simp; done))), trivial⟩ trivial trivial) (an_ (kinfolklaw02_like_runs N n5 t5 t6 _ h19) (an_ h20 (an_ (event_Leq_runs N n t n5 t5 _ h21) (an_ h22 (an_ (event_Leq_runs N n2 t3 n5 t5 _ h23) (an_ h24 (an_ (not_of h25) trivial)))))))))))))))))))))))))))))) (by kernel_rfl) (by kernel_rfl))
            · have h := some_of h
              subst h
              exact runs_of (C := cfg) (objs := []) (sc := [.res (kinfolklaw02_awake_out b), .br false, .res (kinfolklaw02_made_out p (n, t, t2)), .res (kinfolklaw02_made_out q (n2, t3, t4)), .res (kinfolkref02_Depth_out t2 n3), .res (kinfolkref02_Depth_out t4 n4), .res (kinfolkref02_Heights_out t2 (if (n3 : Int) < n4 then n4 else n3) l_), .res (kinfolkref02_Heights_out t4 (if (n3 : Int) < n4 then n4 else n3) l_2), .res (slices_Clone_uint64_uint64_out l_ l_3), .lp (kinfolklaw02_EventLeq_L0_ex l_ (((List.take (l_).length l_)).length : Int) n t n2 t3 l_2 (b2, l_4)).1 (kinfolklaw02_EventLeq_L0_ex l_ (((List.take (l_).length l_)).length : Int) n t n2 t3 l_2 (b2, l_4)).2, .res (event_Join_out n t n2 t3 (n5, t5)), .res (event_Leq_out n t n2 t3 b3), .br true, .res (event_Same_out n t n2 t3 b4), .res (event_Same_out n t n2 t3 b4), .res (event_Same_out n t n2 t3 b4), .res (event_Event_Text_out n t s), .res (event_Same_out n t n2 t3 b4), .res (event_Event_Text_out n t s), .res (event_Event_Text_out n2 t3 s2), .br true, .res (kinfolkref02_Of_out l_4 t6), .res (kinfolkref02_Of_out l_4 t6), .res (kinfolklaw02_like_out n5 t5 t6 b5), .br true, .res (event_Leq_out n t n5 t5 b6), .br true, .res (event_Leq_out n2 t3 n5 t5 b7), .br false]) (.k1 (an_ (kinfolklaw02_awake_runs N _ h1) (an_ (not_of2 h2) (an_ (kinfolklaw02_made_runs N p _ h3) (an_ (kinfolklaw02_made_runs N q _ h4) (an_ (kinfolkref02_Depth_runs N t2 _ h5) (an_ (kinfolkref02_Depth_runs N t4 _ h6) (an_ (kinfolkref02_Heights_runs N t2 (if (n3 : Int) < n4 then n4 else n3) _ h7) (an_ (kinfolkref02_Heights_runs N t4 (if (n3 : Int) < n4 then n4 else n3) _ h8) (an_ (Runs.coe (as' := [(.one (.pv (.ints .u64 (List.take (l_).length l_) false)))]) (objs' := []) (rows' := []) (slices_Clone_uint64_uint64_runs l_ _ h9) ⟨.pv (.ints (by first | rfl | (simp only [List.take_length]; done) | (simp only [List.take_length, List.length_append, List.drop_zero, List.map_append, List.map_take, List.map_drop, List.map_cons, List.map_nil, List.append_nil, List.nil_append]; done) | (simp; done))), trivial⟩ trivial trivial) (an_ (LRuns.coe (s0 := ⟨[(5, (.av (.one (.ref 0 0)))), (7, (.av (.one (.ref 1 0)))), (10, (.av (.one (.pv (.ints .u64 (List.take (l_).length l_) false))))), (11, (.av (.one (.own 0 0 (l_2).length false)))), (12, (.av (.one (.pv (.bool true))))), (13, (.av (.one (.own 1 0 (l_3).length false)))), (42, (.av (.one (.pv (.int .i64 (((List.take (l_).length l_)).length : Int)))))), (43, (.av (.one (.pv (.int .i64 0)))))], [(0, [(.pv (.int .u64 n)), (.pv (T_event_halves.pv t))]), (1, [(.pv (.int .u64 n2)), (.pv (T_event_halves.pv t3))])], [(0, (.live (.ints .u64 l_2))), (1, (.live (.ints .u64 l_3)))]⟩) (kinfolklaw02_EventLeq_L0_runs l_ (((List.take (l_).length l_)).length : Int) n t n2 t3 l_2 _ _ h10) ⟨⟨⟨_, rfl, .eq rfl⟩, ⟨_, rfl, .eq rfl⟩, ⟨_, rfl, .pv (.ints (by first | rfl | (simp only [List.take_length]; done) | (simp only [List.take_length, List.length_append, List.drop_zero, List.map_append, List.map_take, List.map_drop, List.map_cons, List.map_nil, List.append_nil, List.nil_append]; done) | (simp; done)))⟩, ⟨_, rfl, .eq rfl⟩, ⟨_, rfl, .eq rfl⟩, ⟨_, rfl, .eq rfl⟩, ⟨_, rfl, .eq rfl⟩, ⟨_, rfl, .eq rfl⟩, trivial⟩, ⟨⟨rfl, ⟨.eq rfl, .eq rfl, trivial⟩⟩, ⟨rfl, ⟨.eq rfl, .eq rfl, trivial⟩⟩, trivial⟩, ⟨⟨rfl, .eq rfl⟩, ⟨rfl, .eq rfl⟩, trivial⟩⟩) (an_ (event_Join_runs N n t n2 t3 _ h11) (an_ (event_Leq_runs N n t n2 t3 _ h12) (an_ h13 (an_ (event_Same_runs N n t n2 t3 _ h14) (an_ (event_Same_runs N n t n2 t3 _ h14) (an_ (event_Same_runs N n t n2 t3 _ h14) (an_ (event_Event_Text_runs N n t _ h15) (an_ (event_Same_runs N n t n2 t3 _ h14) (an_ (event_Event_Text_runs N n t _ h15) (an_ (event_Event_Text_runs N n2 t3 _ h16) (an_ h17 (an_ (Runs.coe (as' := [(.one (.pv (.ints .u64 (List.take (l_4).length l_4) false)))]) (objs' := []) (rows' := []) (kinfolkref02_Of_runs N l_4 _ h18) ⟨.pv (.ints (by first | rfl | (simp only [List.take_length]; done) | (simp only [List.take_length, List.length_append, List.drop_zero, List.map_append, List.map_take, List.map_drop, List.map_cons, List.map_nil, List.append_nil, List.nil_append]; done) | (simp; done))), trivial⟩ trivial trivial) (an_ (Runs.coe (as' := [(.one (.pv (.ints .u64 (List.take (l_4).length l_4) false)))]) (objs' := []) (rows' := []) (kinfolkref02_Of_runs N l_4 _ h18) ⟨.pv (.ints (by first | rfl | (simp only [List.take_length]; done) | (simp only [List.take_length, List.length_append, List.drop_zero, List.map_append, List.map_take, List.map_drop, List.map_cons, List.map_nil, List.append_nil, List.nil_append]; done) | (simp; done))), trivial⟩ trivial trivial) (an_ (kinfolklaw02_like_runs N n5 t5 t6 _ h19) (an_ h20 (an_ (event_Leq_runs N n t n5 t5 _ h21) (an_ h22 (an_ (event_Leq_runs N n2 t3 n5 t5 _ h23) (an_ h24 trivial))))))))))))))))))))))))))))) (by kernel_rfl) (by kernel_rfl))
          · have h := some_of h
            subst h
            exact runs_of (C := cfg) (objs := []) (sc := [.res (kinfolklaw02_awake_out b), .br false, .res (kinfolklaw02_made_out p (n, t, t2)), .res (kinfolklaw02_made_out q (n2, t3, t4)), .res (kinfolkref02_Depth_out t2 n3), .res (kinfolkref02_Depth_out t4 n4), .res (kinfolkref02_Heights_out t2 (if (n3 : Int) < n4 then n4 else n3) l_), .res (kinfolkref02_Heights_out t4 (if (n3 : Int) < n4 then n4 else n3) l_2), .res (slices_Clone_uint64_uint64_out l_ l_3), .lp (kinfolklaw02_EventLeq_L0_ex l_ (((List.take (l_).length l_)).length : Int) n t n2 t3 l_2 (b2, l_4)).1 (kinfolklaw02_EventLeq_L0_ex l_ (((List.take (l_).length l_)).length : Int) n t n2 t3 l_2 (b2, l_4)).2, .res (event_Join_out n t n2 t3 (n5, t5)), .res (event_Leq_out n t n2 t3 b3), .br true, .res (event_Same_out n t n2 t3 b4), .res (event_Same_out n t n2 t3 b4), .res (event_Same_out n t n2 t3 b4), .res (event_Event_Text_out n t s), .res (event_Same_out n t n2 t3 b4), .res (event_Event_Text_out n t s), .res (event_Event_Text_out n2 t3 s2), .br true, .res (kinfolkref02_Of_out l_4 t6), .res (kinfolkref02_Of_out l_4 t6), .res (kinfolklaw02_like_out n5 t5 t6 b5), .br true, .res (event_Leq_out n t n5 t5 b6), .br false, .br false]) (.k1 (an_ (kinfolklaw02_awake_runs N _ h1) (an_ (not_of2 h2) (an_ (kinfolklaw02_made_runs N p _ h3) (an_ (kinfolklaw02_made_runs N q _ h4) (an_ (kinfolkref02_Depth_runs N t2 _ h5) (an_ (kinfolkref02_Depth_runs N t4 _ h6) (an_ (kinfolkref02_Heights_runs N t2 (if (n3 : Int) < n4 then n4 else n3) _ h7) (an_ (kinfolkref02_Heights_runs N t4 (if (n3 : Int) < n4 then n4 else n3) _ h8) (an_ (Runs.coe (as' := [(.one (.pv (.ints .u64 (List.take (l_).length l_) false)))]) (objs' := []) (rows' := []) (slices_Clone_uint64_uint64_runs l_ _ h9) ⟨.pv (.ints (by first | rfl | (simp only [List.take_length]; done) | (simp only [List.take_length, List.length_append, List.drop_zero, List.map_append, List.map_take, List.map_drop, List.map_cons, List.map_nil, List.append_nil, List.nil_append]; done) | (simp; done))), trivial⟩ trivial trivial) (an_ (LRuns.coe (s0 := ⟨[(5, (.av (.one (.ref 0 0)))), (7, (.av (.one (.ref 1 0)))), (10, (.av (.one (.pv (.ints .u64 (List.take (l_).length l_) false))))), (11, (.av (.one (.own 0 0 (l_2).length false)))), (12, (.av (.one (.pv (.bool true))))), (13, (.av (.one (.own 1 0 (l_3).length false)))), (42, (.av (.one (.pv (.int .i64 (((List.take (l_).length l_)).length : Int)))))), (43, (.av (.one (.pv (.int .i64 0)))))], [(0, [(.pv (.int .u64 n)), (.pv (T_event_halves.pv t))]), (1, [(.pv (.int .u64 n2)), (.pv (T_event_halves.pv t3))])], [(0, (.live (.ints .u64 l_2))), (1, (.live (.ints .u64 l_3)))]⟩) (kinfolklaw02_EventLeq_L0_runs l_ (((List.take (l_).length l_)).length : Int) n t n2 t3 l_2 _ _ h10) ⟨⟨⟨_, rfl, .eq rfl⟩, ⟨_, rfl, .eq rfl⟩, ⟨_, rfl, .pv (.ints (by first | rfl | (simp only [List.take_length]; done) | (simp only [List.take_length, List.length_append, List.drop_zero, List.map_append, List.map_take, List.map_drop, List.map_cons, List.map_nil, List.append_nil, List.nil_append]; done) | (simp; done)))⟩, ⟨_, rfl, .eq rfl⟩, ⟨_, rfl, .eq rfl⟩, ⟨_, rfl, .eq rfl⟩, ⟨_, rfl, .eq rfl⟩, ⟨_, rfl, .eq rfl⟩, trivial⟩, ⟨⟨rfl, ⟨.eq rfl, .eq rfl, trivial⟩⟩, ⟨rfl, ⟨.eq rfl, .eq rfl, trivial⟩⟩, trivial⟩, ⟨⟨rfl, .eq rfl⟩, ⟨rfl, .eq rfl⟩, trivial⟩⟩) (an_ (event_Join_runs N n t n2 t3 _ h11) (an_ (event_Leq_runs N n t n2 t3 _ h12) (an_ h13 (an_ (event_Same_runs N n t n2 t3 _ h14) (an_ (event_Same_runs N n t n2 t3 _ h14) (an_ (event_Same_runs N n t n2 t3 _ h14) (an_ (event_Event_Text_runs N n t _ h15) (an_ (event_Same_runs N n t n2 t3 _ h14) (an_ (event_Event_Text_runs N n t _ h15) (an_ (event_Event_Text_runs N n2 t3 _ h16) (an_ h17 (an_ (Runs.coe (as' := [(.one (.pv (.ints .u64 (List.take (l_4).length l_4) false)))]) (objs' := []) (rows' := []) (kinfolkref02_Of_runs N l_4 _ h18) ⟨.pv (.ints (by first | rfl | (simp only [List.take_length]; done) | (simp only [List.take_length, List.length_append, List.drop_zero, List.map_append, List.map_take, List.map_drop, List.map_cons, List.map_nil, List.append_nil, List.nil_append]; done) | (simp; done))), trivial⟩ trivial trivial) (an_ (Runs.coe (as' := [(.one (.pv (.ints .u64 (List.take (l_4).length l_4) false)))]) (objs' := []) (rows' := []) (kinfolkref02_Of_runs N l_4 _ h18) ⟨.pv (.ints (by first | rfl | (simp only [List.take_length]; done) | (simp only [List.take_length, List.length_append, List.drop_zero, List.map_append, List.map_take, List.map_drop, List.map_cons, List.map_nil, List.append_nil, List.nil_append]; done) | (simp; done))), trivial⟩ trivial trivial) (an_ (kinfolklaw02_like_runs N n5 t5 t6 _ h19) (an_ h20 (an_ (event_Leq_runs N n t n5 t5 _ h21) (an_ h22 (an_ (rfl : false = false) trivial)))))))))))))))))))))))))))) (by kernel_rfl) (by kernel_rfl))
        · have h := some_of h
          subst h
          exact runs_of (C := cfg) (objs := []) (sc := [.res (kinfolklaw02_awake_out b), .br false, .res (kinfolklaw02_made_out p (n, t, t2)), .res (kinfolklaw02_made_out q (n2, t3, t4)), .res (kinfolkref02_Depth_out t2 n3), .res (kinfolkref02_Depth_out t4 n4), .res (kinfolkref02_Heights_out t2 (if (n3 : Int) < n4 then n4 else n3) l_), .res (kinfolkref02_Heights_out t4 (if (n3 : Int) < n4 then n4 else n3) l_2), .res (slices_Clone_uint64_uint64_out l_ l_3), .lp (kinfolklaw02_EventLeq_L0_ex l_ (((List.take (l_).length l_)).length : Int) n t n2 t3 l_2 (b2, l_4)).1 (kinfolklaw02_EventLeq_L0_ex l_ (((List.take (l_).length l_)).length : Int) n t n2 t3 l_2 (b2, l_4)).2, .res (event_Join_out n t n2 t3 (n5, t5)), .res (event_Leq_out n t n2 t3 b3), .br true, .res (event_Same_out n t n2 t3 b4), .res (event_Same_out n t n2 t3 b4), .res (event_Same_out n t n2 t3 b4), .res (event_Event_Text_out n t s), .res (event_Same_out n t n2 t3 b4), .res (event_Event_Text_out n t s), .res (event_Event_Text_out n2 t3 s2), .br true, .res (kinfolkref02_Of_out l_4 t6), .res (kinfolkref02_Of_out l_4 t6), .res (kinfolklaw02_like_out n5 t5 t6 b5), .br false, .br false, .br false]) (.k1 (an_ (kinfolklaw02_awake_runs N _ h1) (an_ (not_of2 h2) (an_ (kinfolklaw02_made_runs N p _ h3) (an_ (kinfolklaw02_made_runs N q _ h4) (an_ (kinfolkref02_Depth_runs N t2 _ h5) (an_ (kinfolkref02_Depth_runs N t4 _ h6) (an_ (kinfolkref02_Heights_runs N t2 (if (n3 : Int) < n4 then n4 else n3) _ h7) (an_ (kinfolkref02_Heights_runs N t4 (if (n3 : Int) < n4 then n4 else n3) _ h8) (an_ (Runs.coe (as' := [(.one (.pv (.ints .u64 (List.take (l_).length l_) false)))]) (objs' := []) (rows' := []) (slices_Clone_uint64_uint64_runs l_ _ h9) ⟨.pv (.ints (by first | rfl | (simp only [List.take_length]; done) | (simp only [List.take_length, List.length_append, List.drop_zero, List.map_append, List.map_take, List.map_drop, List.map_cons, List.map_nil, List.append_nil, List.nil_append]; done) | (simp; done))), trivial⟩ trivial trivial) (an_ (LRuns.coe (s0 := ⟨[(5, (.av (.one (.ref 0 0)))), (7, (.av (.one (.ref 1 0)))), (10, (.av (.one (.pv (.ints .u64 (List.take (l_).length l_) false))))), (11, (.av (.one (.own 0 0 (l_2).length false)))), (12, (.av (.one (.pv (.bool true))))), (13, (.av (.one (.own 1 0 (l_3).length false)))), (42, (.av (.one (.pv (.int .i64 (((List.take (l_).length l_)).length : Int)))))), (43, (.av (.one (.pv (.int .i64 0)))))], [(0, [(.pv (.int .u64 n)), (.pv (T_event_halves.pv t))]), (1, [(.pv (.int .u64 n2)), (.pv (T_event_halves.pv t3))])], [(0, (.live (.ints .u64 l_2))), (1, (.live (.ints .u64 l_3)))]⟩) (kinfolklaw02_EventLeq_L0_runs l_ (((List.take (l_).length l_)).length : Int) n t n2 t3 l_2 _ _ h10) ⟨⟨⟨_, rfl, .eq rfl⟩, ⟨_, rfl, .eq rfl⟩, ⟨_, rfl, .pv (.ints (by first | rfl | (simp only [List.take_length]; done) | (simp only [List.take_length, List.length_append, List.drop_zero, List.map_append, List.map_take, List.map_drop, List.map_cons, List.map_nil, List.append_nil, List.nil_append]; done) | (simp; done)))⟩, ⟨_, rfl, .eq rfl⟩, ⟨_, rfl, .eq rfl⟩, ⟨_, rfl, .eq rfl⟩, ⟨_, rfl, .eq rfl⟩, ⟨_, rfl, .eq rfl⟩, trivial⟩, ⟨⟨rfl, ⟨.eq rfl, .eq rfl, trivial⟩⟩, ⟨rfl, ⟨.eq rfl, .eq rfl, trivial⟩⟩, trivial⟩, ⟨⟨rfl, .eq rfl⟩, ⟨rfl, .eq rfl⟩, trivial⟩⟩) (an_ (event_Join_runs N n t n2 t3 _ h11) (an_ (event_Leq_runs N n t n2 t3 _ h12) (an_ h13 (an_ (event_Same_runs N n t n2 t3 _ h14) (an_ (event_Same_runs N n t n2 t3 _ h14) (an_ (event_Same_runs N n t n2 t3 _ h14) (an_ (event_Event_Text_runs N n t _ h15) (an_ (event_Same_runs N n t n2 t3 _ h14) (an_ (event_Event_Text_runs N n t _ h15) (an_ (event_Event_Text_runs N n2 t3 _ h16) (an_ h17 (an_ (Runs.coe (as' := [(.one (.pv (.ints .u64 (List.take (l_4).length l_4) false)))]) (objs' := []) (rows' := []) (kinfolkref02_Of_runs N l_4 _ h18) ⟨.pv (.ints (by first | rfl | (simp only [List.take_length]; done) | (simp only [List.take_length, List.length_append, List.drop_zero, List.map_append, List.map_take, List.map_drop, List.map_cons, List.map_nil, List.append_nil, List.nil_append]; done) | (simp; done))), trivial⟩ trivial trivial) (an_ (Runs.coe (as' := [(.one (.pv (.ints .u64 (List.take (l_4).length l_4) false)))]) (objs' := []) (rows' := []) (kinfolkref02_Of_runs N l_4 _ h18) ⟨.pv (.ints (by first | rfl | (simp only [List.take_length]; done) | (simp only [List.take_length, List.length_append, List.drop_zero, List.map_append, List.map_take, List.map_drop, List.map_cons, List.map_nil, List.append_nil, List.nil_append]; done) | (simp; done))), trivial⟩ trivial trivial) (an_ (kinfolklaw02_like_runs N n5 t5 t6 _ h19) (an_ h20 (an_ (rfl : false = false) (an_ (rfl : false = false) trivial))))))))))))))))))))))))))) (by kernel_rfl) (by kernel_rfl))
      · have h := some_of h
        subst h
        exact runs_of (C := cfg) (objs := []) (sc := [.res (kinfolklaw02_awake_out b), .br false, .res (kinfolklaw02_made_out p (n, t, t2)), .res (kinfolklaw02_made_out q (n2, t3, t4)), .res (kinfolkref02_Depth_out t2 n3), .res (kinfolkref02_Depth_out t4 n4), .res (kinfolkref02_Heights_out t2 (if (n3 : Int) < n4 then n4 else n3) l_), .res (kinfolkref02_Heights_out t4 (if (n3 : Int) < n4 then n4 else n3) l_2), .res (slices_Clone_uint64_uint64_out l_ l_3), .lp (kinfolklaw02_EventLeq_L0_ex l_ (((List.take (l_).length l_)).length : Int) n t n2 t3 l_2 (b2, l_4)).1 (kinfolklaw02_EventLeq_L0_ex l_ (((List.take (l_).length l_)).length : Int) n t n2 t3 l_2 (b2, l_4)).2, .res (event_Join_out n t n2 t3 (n5, t5)), .res (event_Leq_out n t n2 t3 b3), .br true, .res (event_Same_out n t n2 t3 b4), .res (event_Same_out n t n2 t3 b4), .res (event_Same_out n t n2 t3 b4), .res (event_Event_Text_out n t s), .res (event_Same_out n t n2 t3 b4), .res (event_Event_Text_out n t s), .res (event_Event_Text_out n2 t3 s2), .br false, .br false, .br false, .br false]) (.k1 (an_ (kinfolklaw02_awake_runs N _ h1) (an_ (not_of2 h2) (an_ (kinfolklaw02_made_runs N p _ h3) (an_ (kinfolklaw02_made_runs N q _ h4) (an_ (kinfolkref02_Depth_runs N t2 _ h5) (an_ (kinfolkref02_Depth_runs N t4 _ h6) (an_ (kinfolkref02_Heights_runs N t2 (if (n3 : Int) < n4 then n4 else n3) _ h7) (an_ (kinfolkref02_Heights_runs N t4 (if (n3 : Int) < n4 then n4 else n3) _ h8) (an_ (Runs.coe (as' := [(.one (.pv (.ints .u64 (List.take (l_).length l_) false)))]) (objs' := []) (rows' := []) (slices_Clone_uint64_uint64_runs l_ _ h9) ⟨.pv (.ints (by first | rfl | (simp only [List.take_length]; done) | (simp only [List.take_length, List.length_append, List.drop_zero, List.map_append, List.map_take, List.map_drop, List.map_cons, List.map_nil, List.append_nil, List.nil_append]; done) | (simp; done))), trivial⟩ trivial trivial) (an_ (LRuns.coe (s0 := ⟨[(5, (.av (.one (.ref 0 0)))), (7, (.av (.one (.ref 1 0)))), (10, (.av (.one (.pv (.ints .u64 (List.take (l_).length l_) false))))), (11, (.av (.one (.own 0 0 (l_2).length false)))), (12, (.av (.one (.pv (.bool true))))), (13, (.av (.one (.own 1 0 (l_3).length false)))), (42, (.av (.one (.pv (.int .i64 (((List.take (l_).length l_)).length : Int)))))), (43, (.av (.one (.pv (.int .i64 0)))))], [(0, [(.pv (.int .u64 n)), (.pv (T_event_halves.pv t))]), (1, [(.pv (.int .u64 n2)), (.pv (T_event_halves.pv t3))])], [(0, (.live (.ints .u64 l_2))), (1, (.live (.ints .u64 l_3)))]⟩) (kinfolklaw02_EventLeq_L0_runs l_ (((List.take (l_).length l_)).length : Int) n t n2 t3 l_2 _ _ h10) ⟨⟨⟨_, rfl, .eq rfl⟩, ⟨_, rfl, .eq rfl⟩, ⟨_, rfl, .pv (.ints (by first | rfl | (simp only [List.take_length]; done) | (simp only [List.take_length, List.length_append, List.drop_zero, List.map_append, List.map_take, List.map_drop, List.map_cons, List.map_nil, List.append_nil, List.nil_append]; done) | (simp; done)))⟩, ⟨_, rfl, .eq rfl⟩, ⟨_, rfl, .eq rfl⟩, ⟨_, rfl, .eq rfl⟩, ⟨_, rfl, .eq rfl⟩, ⟨_, rfl, .eq rfl⟩, trivial⟩, ⟨⟨rfl, ⟨.eq rfl, .eq rfl, trivial⟩⟩, ⟨rfl, ⟨.eq rfl, .eq rfl, trivial⟩⟩, trivial⟩, ⟨⟨rfl, .eq rfl⟩, ⟨rfl, .eq rfl⟩, trivial⟩⟩) (an_ (event_Join_runs N n t n2 t3 _ h11) (an_ (event_Leq_runs N n t n2 t3 _ h12) (an_ h13 (an_ (event_Same_runs N n t n2 t3 _ h14) (an_ (event_Same_runs N n t n2 t3 _ h14) (an_ (event_Same_runs N n t n2 t3 _ h14) (an_ (event_Event_Text_runs N n t _ h15) (an_ (event_Same_runs N n t n2 t3 _ h14) (an_ (event_Event_Text_runs N n t _ h15) (an_ (event_Event_Text_runs N n2 t3 _ h16) (an_ h17 (an_ (rfl : false = false) (an_ (rfl : false = false) (an_ (rfl : false = false) trivial)))))))))))))))))))))))) (by kernel_rfl) (by kernel_rfl))
    · have h := some_of h
      subst h
      exact runs_of (C := cfg) (objs := []) (sc := [.res (kinfolklaw02_awake_out b), .br false, .res (kinfolklaw02_made_out p (n, t, t2)), .res (kinfolklaw02_made_out q (n2, t3, t4)), .res (kinfolkref02_Depth_out t2 n3), .res (kinfolkref02_Depth_out t4 n4), .res (kinfolkref02_Heights_out t2 (if (n3 : Int) < n4 then n4 else n3) l_), .res (kinfolkref02_Heights_out t4 (if (n3 : Int) < n4 then n4 else n3) l_2), .res (slices_Clone_uint64_uint64_out l_ l_3), .lp (kinfolklaw02_EventLeq_L0_ex l_ (((List.take (l_).length l_)).length : Int) n t n2 t3 l_2 (b2, l_4)).1 (kinfolklaw02_EventLeq_L0_ex l_ (((List.take (l_).length l_)).length : Int) n t n2 t3 l_2 (b2, l_4)).2, .res (event_Join_out n t n2 t3 (n5, t5)), .res (event_Leq_out n t n2 t3 b3), .br false, .br false, .br false, .br false, .br false]) (.k1 (an_ (kinfolklaw02_awake_runs N _ h1) (an_ (not_of2 h2) (an_ (kinfolklaw02_made_runs N p _ h3) (an_ (kinfolklaw02_made_runs N q _ h4) (an_ (kinfolkref02_Depth_runs N t2 _ h5) (an_ (kinfolkref02_Depth_runs N t4 _ h6) (an_ (kinfolkref02_Heights_runs N t2 (if (n3 : Int) < n4 then n4 else n3) _ h7) (an_ (kinfolkref02_Heights_runs N t4 (if (n3 : Int) < n4 then n4 else n3) _ h8) (an_ (Runs.coe (as' := [(.one (.pv (.ints .u64 (List.take (l_).length l_) false)))]) (objs' := []) (rows' := []) (slices_Clone_uint64_uint64_runs l_ _ h9) ⟨.pv (.ints (by first | rfl | (simp only [List.take_length]; done) | (simp only [List.take_length, List.length_append, List.drop_zero, List.map_append, List.map_take, List.map_drop, List.map_cons, List.map_nil, List.append_nil, List.nil_append]; done) | (simp; done))), trivial⟩ trivial trivial) (an_ (LRuns.coe (s0 := ⟨[(5, (.av (.one (.ref 0 0)))), (7, (.av (.one (.ref 1 0)))), (10, (.av (.one (.pv (.ints .u64 (List.take (l_).length l_) false))))), (11, (.av (.one (.own 0 0 (l_2).length false)))), (12, (.av (.one (.pv (.bool true))))), (13, (.av (.one (.own 1 0 (l_3).length false)))), (42, (.av (.one (.pv (.int .i64 (((List.take (l_).length l_)).length : Int)))))), (43, (.av (.one (.pv (.int .i64 0)))))], [(0, [(.pv (.int .u64 n)), (.pv (T_event_halves.pv t))]), (1, [(.pv (.int .u64 n2)), (.pv (T_event_halves.pv t3))])], [(0, (.live (.ints .u64 l_2))), (1, (.live (.ints .u64 l_3)))]⟩) (kinfolklaw02_EventLeq_L0_runs l_ (((List.take (l_).length l_)).length : Int) n t n2 t3 l_2 _ _ h10) ⟨⟨⟨_, rfl, .eq rfl⟩, ⟨_, rfl, .eq rfl⟩, ⟨_, rfl, .pv (.ints (by first | rfl | (simp only [List.take_length]; done) | (simp only [List.take_length, List.length_append, List.drop_zero, List.map_append, List.map_take, List.map_drop, List.map_cons, List.map_nil, List.append_nil, List.nil_append]; done) | (simp; done)))⟩, ⟨_, rfl, .eq rfl⟩, ⟨_, rfl, .eq rfl⟩, ⟨_, rfl, .eq rfl⟩, ⟨_, rfl, .eq rfl⟩, ⟨_, rfl, .eq rfl⟩, trivial⟩, ⟨⟨rfl, ⟨.eq rfl, .eq rfl, trivial⟩⟩, ⟨rfl, ⟨.eq rfl, .eq rfl, trivial⟩⟩, trivial⟩, ⟨⟨rfl, .eq rfl⟩, ⟨rfl, .eq rfl⟩, trivial⟩⟩) (an_ (event_Join_runs N n t n2 t3 _ h11) (an_ (event_Leq_runs N n t n2 t3 _ h12) (an_ h13 (an_ (rfl : false = false) (an_ (rfl : false = false) (an_ (rfl : false = false) (an_ (rfl : false = false) trivial))))))))))))))))) (by kernel_rfl) (by kernel_rfl))
  · have h := some_of h
    subst h
    exact runs_of (C := cfg) (objs := []) (sc := [.res (kinfolklaw02_awake_out b), .br true]) (.k0 (an_ (kinfolklaw02_awake_runs N _ h1) (an_ (not_of h2) trivial)) (by kernel_rfl))
/-! ### kinfolklaw02_EventTexts_out -/
def kinfolklaw02_EventTexts_out (s : ByteArray) : Bool → Res
  | r1 => ([(.one (.pv (.bool r1)))], [], [])
/-! ### kinfolkref02_Parse_out -/
def kinfolkref02_Parse_out (s : ByteArray) : T_kinfolkref02_Event × Int → Res
  | (r1, r2) => ([(.one (.pv (T_kinfolkref02_Event.pv r1))), (.one (.pv (.int .i64 r2)))], [], [])
/-! ### kinfolkref02_number_out -/
def kinfolkref02_number_out (s : ByteArray) : Int × ByteArray × Bool × Bool → Res
  | (r1, r2, r3, r4) => ([(.one (.pv (.int .u64 r1))), (.one (.pv (.str r2))), (.one (.pv (.bool r3))), (.one (.pv (.bool r4)))], [], [])
/-! ### kinfolkref02_number_L0 -/
def kinfolkref02_number_L0_st (s : ByteArray) : Int × Int → St
  | (n, k) => ⟨[(0, (.av (.one (.pv (.str s))))), (6, (.av (.one (.pv (.int .u64 n))))), (7, (.av (.one (.pv (.int .i64 k)))))], [], []⟩
def kinfolkref02_number_L0_ex (s : ByteArray) : (Unit) ⊕ (Int × Int) → Ex × St
  | .inl _ => (.ret, ⟨[(2, (.av (.one (.pv (.int .u64 0))))), (3, (.av (.one (.pv (.str s))))), (4, (.av (.one (.pv (.bool false))))), (5, (.av (.one (.pv (.bool false)))))], [], []⟩)
  | .inr (r1, r2) => ((.exit 0), ⟨[(0, (.av (.one (.pv (.str s))))), (6, (.av (.one (.pv (.int .u64 r1))))), (7, (.av (.one (.pv (.int .i64 r2)))))], [], []⟩)
noncomputable def kinfolkref02_number_L0_step (s : ByteArray) : Int × Int → Option ((Int × Int) ⊕ ((Unit) ⊕ (Int × Int)))
  | (n, k) =>
  bif (decide ((k : Int) < (s.size : Int))) then
    bif decide ((0 : Int) ≤ k) && decide ((k : Int) < (s.size : Int)) then
    bif (decide ((48 : Int) ≤ ((s.data.getD (k).toNat 0).toNat : Int))) then
      bif (decide ((((s.data.getD (k).toNat 0).toNat : Int) : Int) ≤ 57)) then
        bif (decide ((k : Int) = 19)) then
          some (.inr (.inl ()))
        else
          bif (decide ((k : Int) = 1)) then
            bif decide ((0 : Int) ≤ 0) && decide ((0 : Int) < (s.size : Int)) then
            bif (decide ((((s.data.getD 0 0).toNat : Int) : Int) = 48)) then
              some (.inr (.inl ()))
            else
              some (.inl ((iadd .u64 (imul .u64 10 n) (IntKind.u64.wrap (isub .u8 ((s.data.getD (k).toNat 0).toNat : Int) 48))), (iadd .i64 k 1)))
            else none
          else
            some (.inl ((iadd .u64 (imul .u64 10 n) (IntKind.u64.wrap (isub .u8 ((s.data.getD (k).toNat 0).toNat : Int) 48))), (iadd .i64 k 1)))
      else
        some (.inr (.inr (n, k)))
    else
      some (.inr (.inr (n, k)))
    else none
  else
    some (.inr (.inr (n, k)))
theorem kinfolkref02_number_L0_ok (s : ByteArray) (s_ : Int × Int) (z_ : (Int × Int) ⊕ ((Unit) ⊕ (Int × Int))) (h : kinfolkref02_number_L0_step s s_ = some z_) : RoundOk Tryd.prog cfg 146 0 (loopAt Tryd.prog 146 0) (kinfolkref02_number_L0_st s) (kinfolkref02_number_L0_ex s) s_ z_ := by
  rcases s_ with ⟨n, k⟩
  rcases cond_of h with ⟨h1, h⟩ | ⟨h1, h⟩
  · obtain ⟨h2, h⟩ := need_of h
    rcases cond_of h with ⟨h3, h⟩ | ⟨h3, h⟩
    · rcases cond_of h with ⟨h4, h⟩ | ⟨h4, h⟩
      · rcases cond_of h with ⟨h5, h⟩ | ⟨h5, h⟩
        · have h := some_of h
          subst h
          exact ⟨[.br true, .br true, .br true, .br true, .br true], (kinfolkref02_number_L0_ex s (.inl ())).2, .k0 (an_ h1 (an_ h2 (an_ h3 (an_ h2 (an_ h4 (an_ h5 (an_ (rfl : true = true) trivial))))))) (by kernel_rfl), .same (by kernel_rfl)⟩
        · rcases cond_of h with ⟨h6, h⟩ | ⟨h6, h⟩
          · obtain ⟨h7, h⟩ := need_of h
            rcases cond_of h with ⟨h8, h⟩ | ⟨h8, h⟩
            · have h := some_of h
              subst h
              exact ⟨[.br true, .br true, .br true, .br false, .br true, .br true], (kinfolkref02_number_L0_ex s (.inl ())).2, .k0 (an_ h1 (an_ h2 (an_ h3 (an_ h2 (an_ h4 (an_ h5 (an_ h6 (an_ h7 (an_ h8 trivial))))))))) (by kernel_rfl), .same (by kernel_rfl)⟩
            · have h := some_of h
              subst h
              exact ⟨[.br true, .br true, .br true, .br false, .br true, .br false], kinfolkref02_number_L0_st s ((iadd .u64 (imul .u64 10 n) (IntKind.u64.wrap (isub .u8 ((s.data.getD (k).toNat 0).toNat : Int) 48))), (iadd .i64 k 1)), .k0 (an_ h1 (an_ h2 (an_ h3 (an_ h2 (an_ h4 (an_ h5 (an_ h6 (an_ h7 (an_ h8 (an_ h2 trivial)))))))))) (by kernel_rfl), .same (by kernel_rfl)⟩
          · have h := some_of h
            subst h
            exact ⟨[.br true, .br true, .br true, .br false, .br false, .br false], kinfolkref02_number_L0_st s ((iadd .u64 (imul .u64 10 n) (IntKind.u64.wrap (isub .u8 ((s.data.getD (k).toNat 0).toNat : Int) 48))), (iadd .i64 k 1)), .k0 (an_ h1 (an_ h2 (an_ h3 (an_ h2 (an_ h4 (an_ h5 (an_ h6 (an_ (rfl : false = false) (an_ h2 trivial))))))))) (by kernel_rfl), .same (by kernel_rfl)⟩
      · have h := some_of h
        subst h
        exact ⟨[.br true, .br true, .br false], ⟨[(23, (.av (.one (.pv (.bool false))))), (0, (.av (.one (.pv (.str s))))), (6, (.av (.one (.pv (.int .u64 n))))), (7, (.av (.one (.pv (.int .i64 k))))), (23, (.av (.one (.pv (.bool (decide ((((s.data.getD (k).toNat 0).toNat : Int) : Int) ≤ 57)))))))], [], []⟩, .k0 (an_ h1 (an_ h2 (an_ h3 (an_ h2 (an_ h4 trivial))))) (by kernel_rfl), ⟨⟨⟨_, rfl, .eq rfl⟩, ⟨_, rfl, .eq rfl⟩, ⟨_, rfl, .eq rfl⟩, trivial⟩, trivial, trivial⟩⟩
    · have h := some_of h
      subst h
      exact ⟨[.br true, .br false, .br false], ⟨[(23, (.av (.one (.pv (.bool false))))), (0, (.av (.one (.pv (.str s))))), (6, (.av (.one (.pv (.int .u64 n))))), (7, (.av (.one (.pv (.int .i64 k))))), (23, (.av (.one (.pv (.bool false)))))], [], []⟩, .k0 (an_ h1 (an_ h2 (an_ h3 (an_ (rfl : false = false) trivial)))) (by kernel_rfl), ⟨⟨⟨_, rfl, .eq rfl⟩, ⟨_, rfl, .eq rfl⟩, ⟨_, rfl, .eq rfl⟩, trivial⟩, trivial, trivial⟩⟩
  · have h := some_of h
    subst h
    exact ⟨[.br false, .br false, .br false], ⟨[(23, (.av (.one (.pv (.bool false))))), (0, (.av (.one (.pv (.str s))))), (6, (.av (.one (.pv (.int .u64 n))))), (7, (.av (.one (.pv (.int .i64 k))))), (23, (.av (.one (.pv (.bool false)))))], [], []⟩, .k0 (an_ h1 (an_ (rfl : false = false) (an_ (rfl : false = false) trivial))) (by kernel_rfl), ⟨⟨⟨_, rfl, .eq rfl⟩, ⟨_, rfl, .eq rfl⟩, ⟨_, rfl, .eq rfl⟩, trivial⟩, trivial, trivial⟩⟩
theorem kinfolkref02_number_L0_runs (s : ByteArray) (s_ : Int × Int) (r_ : (Unit) ⊕ (Int × Int)) (h : runL (kinfolkref02_number_L0_step s) s_ = some r_) : LRuns Tryd.prog (lEnv Tryd.prog cfg 146 0).nt 0 (.loop (loopAt Tryd.prog 146 0)) (kinfolkref02_number_L0_st s s_) (kinfolkref02_number_L0_ex s r_).1 (kinfolkref02_number_L0_ex s r_).2 :=
  loop_run h (kinfolkref02_number_L0_ok s) (by intro r_; rcases r_ with _ | ⟨r1, r2⟩ <;> simp [kinfolkref02_number_L0_ex])
/-! ### kinfolkref02_number -/
noncomputable def kinfolkref02_number (s : ByteArray) : Option (Int × ByteArray × Bool × Bool) :=
  (runL (kinfolkref02_number_L0_step s) (0, 0)).bind fun z_ => match z_ with
  | .inl _ =>
    some (0, s, false, false)
  | .inr (n, n2) =>
    bif (decide ((1048576 : Int) < n)) then
      bif decide ((0 : Int) ≤ n2) && decide ((n2 : Int) ≤ (s.size : Int)) && decide (((s.size : Int) : Int) ≤ (s.size : Int)) then
      some (1048576, (s.extract (n2).toNat ((s.size : Int)).toNat), true, true)
      else none
    else
      bif decide ((0 : Int) ≤ n2) && decide ((n2 : Int) ≤ (s.size : Int)) && decide (((s.size : Int) : Int) ≤ (s.size : Int)) then
      some (n, (s.extract (n2).toNat ((s.size : Int)).toNat), (decide ((0 : Int) < n2)), false)
      else none
theorem kinfolkref02_number_runs (s : ByteArray) (r_ : Int × ByteArray × Bool × Bool) (h : kinfolkref02_number s = some r_) : Runs Tryd.prog 146 [(.one (.pv (.str s)))] [] [] (kinfolkref02_number_out s r_) := by
  unfold kinfolkref02_number at h
  obtain ⟨z_, h1, h⟩ := bind_of h
  rcases z_ with _ | ⟨n, n2⟩
  · have h := some_of h
    subst h
    exact runs_of (C := cfg) (objs := []) (sc := [.lp (kinfolkref02_number_L0_ex s (.inl ())).1 (kinfolkref02_number_L0_ex s (.inl ())).2]) (.k0 (an_ (kinfolkref02_number_L0_runs s _ _ h1) trivial) (by kernel_rfl))
  · rcases cond_of h with ⟨h2, h⟩ | ⟨h2, h⟩
    · obtain ⟨h3, h⟩ := need_of h
      have h := some_of h
      subst h
      exact runs_of (C := cfg) (objs := []) (sc := [.lp (kinfolkref02_number_L0_ex s (.inr (n, n2))).1 (kinfolkref02_number_L0_ex s (.inr (n, n2))).2, .br true]) (.k0 (an_ (kinfolkref02_number_L0_runs s _ _ h1) (an_ h2 (an_ h3 trivial))) (by kernel_rfl))
    · obtain ⟨h3, h⟩ := need_of h
      have h := some_of h
      subst h
      exact runs_of (C := cfg) (objs := []) (sc := [.lp (kinfolkref02_number_L0_ex s (.inr (n, n2))).1 (kinfolkref02_number_L0_ex s (.inr (n, n2))).2, .br false]) (.k0 (an_ (kinfolkref02_number_L0_runs s _ _ h1) (an_ h2 (an_ h3 trivial))) (by kernel_rfl))
/-! ### kinfolkref02_parse_2_out -/
def kinfolkref02_parse_2_out (s : ByteArray) : T_kinfolkref02_Event × ByteArray × Bool × Bool → Res
  | (r1, r2, r3, r4) => ([(.one (.pv (T_kinfolkref02_Event.pv r1))), (.one (.pv (.str r2))), (.one (.pv (.bool r3))), (.one (.pv (.bool r4)))], [], [])

end Go.Proofs.YtjjakdmcnkldoaaDoor
