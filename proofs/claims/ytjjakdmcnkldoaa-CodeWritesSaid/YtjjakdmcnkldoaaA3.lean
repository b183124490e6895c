/- What functions compute, and that they do. -/
import Derived.Test.YtjjakdmcnkldoaaA2
set_option linter.unusedVariables false
set_option linter.unusedSimpArgs false
namespace Go.Proofs.Ytjjakdmcnkldoaa
open Go.Ev

/-! ### code_PutEvent_2 -/
noncomputable def code_PutEvent_2 (N : Nat) (e : Int) (e2 : T_event_halves) (n : Int) : Option (Int × List Int) :=
  (event_Event_Left e e2).bind fun (n2, t) =>
  (event_Event_Right e e2).bind fun (n3, t2) =>
  (event_Event_IsLeaf e e2).bind fun b =>
  bif b then
    (bits_Writer_Put 1 1 n).bind fun (n4, l_) =>
    (event_Event_Base e e2).bind fun _ =>
    (bits_Writer_Num e n4 l_).bind fun (n5, l_2) =>
    some (n5, l_2)
  else
    (bits_Writer_Put 0 1 n).bind fun (n4, l_) =>
    (event_Event_Base e e2).bind fun _ =>
    bif (decide ((e : Int) = 0)) then
      (code_zero n2 t).bind fun b2 =>
      bif b2 then
        (bits_Writer_Put_2 0 2 n4 l_).bind fun (n5, l_2) =>
        bif (decide ((0 : Int) < e)) then
          (bits_Writer_Num e n5 l_2).bind fun (n6, l_3) =>
          (runL (code_PutEvent_L0_step (code_PutEvent N) [(E_event_Event.mk n2 t), (E_event_Event.mk n3 t2)]) (0, n6, l_3)).bind fun (n7, l_4) =>
          some (n7, l_4)
        else
          (runL (code_PutEvent_L0_step (code_PutEvent N) [(E_event_Event.mk n2 t), (E_event_Event.mk n3 t2)]) (0, n5, l_2)).bind fun (n6, l_3) =>
          some (n6, l_3)
      else
        (code_zero n3 t2).bind fun b3 =>
        bif b3 then
          (bits_Writer_Put_2 1 2 n4 l_).bind fun (n5, l_2) =>
          bif (decide ((0 : Int) < e)) then
            (bits_Writer_Num e n5 l_2).bind fun (n6, l_3) =>
            (runL (code_PutEvent_L0_step (code_PutEvent N) [(E_event_Event.mk n2 t), (E_event_Event.mk n3 t2)]) (0, n6, l_3)).bind fun (n7, l_4) =>
            some (n7, l_4)
          else
            (runL (code_PutEvent_L0_step (code_PutEvent N) [(E_event_Event.mk n2 t), (E_event_Event.mk n3 t2)]) (0, n5, l_2)).bind fun (n6, l_3) =>
            some (n6, l_3)
        else
          (bits_Writer_Put_2 2 2 n4 l_).bind fun (n5, l_2) =>
          bif (decide ((0 : Int) < e)) then
            (bits_Writer_Num e n5 l_2).bind fun (n6, l_3) =>
            (runL (code_PutEvent_L0_step (code_PutEvent N) [(E_event_Event.mk n2 t), (E_event_Event.mk n3 t2)]) (0, n6, l_3)).bind fun (n7, l_4) =>
            some (n7, l_4)
          else
            (runL (code_PutEvent_L0_step (code_PutEvent N) [(E_event_Event.mk n2 t), (E_event_Event.mk n3 t2)]) (0, n5, l_2)).bind fun (n6, l_3) =>
            some (n6, l_3)
    else
      (code_zero n2 t).bind fun b2 =>
      bif b2 then
        (bits_Writer_Put_2 3 2 n4 l_).bind fun (n5, l_2) =>
        (bits_Writer_Put_2 0 2 n5 l_2).bind fun (n6, l_3) =>
        bif (decide ((0 : Int) < e)) then
          (bits_Writer_Num e n6 l_3).bind fun (n7, l_4) =>
          (runL (code_PutEvent_L0_step (code_PutEvent N) [(E_event_Event.mk n2 t), (E_event_Event.mk n3 t2)]) (0, n7, l_4)).bind fun (n8, l_5) =>
          some (n8, l_5)
        else
          (runL (code_PutEvent_L0_step (code_PutEvent N) [(E_event_Event.mk n2 t), (E_event_Event.mk n3 t2)]) (0, n6, l_3)).bind fun (n7, l_4) =>
          some (n7, l_4)
      else
        (code_zero n3 t2).bind fun b3 =>
        bif b3 then
          (bits_Writer_Put_2 3 2 n4 l_).bind fun (n5, l_2) =>
          (bits_Writer_Put_2 1 2 n5 l_2).bind fun (n6, l_3) =>
          bif (decide ((0 : Int) < e)) then
            (bits_Writer_Num e n6 l_3).bind fun (n7, l_4) =>
            (runL (code_PutEvent_L0_step (code_PutEvent N) [(E_event_Event.mk n2 t), (E_event_Event.mk n3 t2)]) (0, n7, l_4)).bind fun (n8, l_5) =>
            some (n8, l_5)
          else
            (runL (code_PutEvent_L0_step (code_PutEvent N) [(E_event_Event.mk n2 t), (E_event_Event.mk n3 t2)]) (0, n6, l_3)).bind fun (n7, l_4) =>
            some (n7, l_4)
        else
          (bits_Writer_Put_2 3 2 n4 l_).bind fun (n5, l_2) =>
          (bits_Writer_Put_2 1 1 n5 l_2).bind fun (n6, l_3) =>
          bif (decide ((0 : Int) < e)) then
            (bits_Writer_Num e n6 l_3).bind fun (n7, l_4) =>
            (runL (code_PutEvent_L0_step (code_PutEvent N) [(E_event_Event.mk n2 t), (E_event_Event.mk n3 t2)]) (0, n7, l_4)).bind fun (n8, l_5) =>
            some (n8, l_5)
          else
            (runL (code_PutEvent_L0_step (code_PutEvent N) [(E_event_Event.mk n2 t), (E_event_Event.mk n3 t2)]) (0, n6, l_3)).bind fun (n7, l_4) =>
            some (n7, l_4)
theorem code_PutEvent_2_runs (N : Nat) (e : Int) (e2 : T_event_halves) (n : Int) (r_ : Int × List Int) (h : code_PutEvent_2 N e e2 n = some r_) : Runs Try.prog 16 [(.one (.ref 0 0)), (.agg [(.pv (.int .u64 e)), (.pv (T_event_halves.pv e2))])] [[(.pv .nils), (.pv (.int .i64 n))]] [] (code_PutEvent_2_out e e2 n r_) := by
  unfold code_PutEvent_2 at h
  obtain ⟨⟨n2, t⟩, h1, h⟩ := bind_of h
  obtain ⟨⟨n3, t2⟩, h2, h⟩ := bind_of h
  obtain ⟨b, h3, h⟩ := bind_of h
  rcases cond_of h with ⟨h4, h⟩ | ⟨h4, h⟩
  · obtain ⟨⟨n4, l_⟩, h5, h⟩ := bind_of h
    obtain ⟨_, h6, h⟩ := bind_of h
    obtain ⟨⟨n5, l_2⟩, h7, h⟩ := bind_of h
    have h := some_of h
    subst h
    exact runs_of (C := cfg) (objs := [[(.pv .nils), (.pv (.int .i64 n))]]) (sc := [.res (event_Event_Left_out e e2 (n2, t)), .res (event_Event_Left_out e e2 (n2, t)), .res (event_Event_Left_out e e2 (n2, t)), .res (event_Event_Left_out e e2 (n2, t)), .res (event_Event_Left_out e e2 (n2, t)), .res (event_Event_Left_out e e2 (n2, t)), .res (event_Event_Left_out e e2 (n2, t)), .res (event_Event_Right_out e e2 (n3, t2)), .res (event_Event_Right_out e e2 (n3, t2)), .res (event_Event_Right_out e e2 (n3, t2)), .res (event_Event_Left_out e e2 (n2, t)), .res (event_Event_Right_out e e2 (n3, t2)), .res (event_Event_IsLeaf_out e e2 b), .br true, .res (bits_Writer_Put_out 1 1 n (n4, l_)), .res (event_Event_Base_out e e2 ()), .res (bits_Writer_Num_out e n4 l_ (n5, l_2))]) (.k1 (an_ (event_Event_Left_runs e e2 _ h1) (an_ (event_Event_Left_runs e e2 _ h1) (an_ (event_Event_Left_runs e e2 _ h1) (an_ (event_Event_Left_runs e e2 _ h1) (an_ (event_Event_Left_runs e e2 _ h1) (an_ (event_Event_Left_runs e e2 _ h1) (an_ (event_Event_Left_runs e e2 _ h1) (an_ (event_Event_Right_runs e e2 _ h2) (an_ (event_Event_Right_runs e e2 _ h2) (an_ (event_Event_Right_runs e e2 _ h2) (an_ (event_Event_Left_runs e e2 _ h1) (an_ (event_Event_Right_runs e e2 _ h2) (an_ (event_Event_IsLeaf_runs e e2 _ h3) (an_ h4 (an_ (bits_Writer_Put_runs 1 1 n _ h5) (an_ (event_Event_Base_runs e e2 _ h6) (an_ (bits_Writer_Num_runs e n4 l_ _ h7) trivial))))))))))))))))) (by kernel_rfl) (by kernel_rfl))
  · obtain ⟨⟨n4, l_⟩, h5, h⟩ := bind_of h
    obtain ⟨_, h6, h⟩ := bind_of h
    rcases cond_of h with ⟨h7, h⟩ | ⟨h7, h⟩
    · obtain ⟨b2, h8, h⟩ := bind_of h
      rcases cond_of h with ⟨h9, h⟩ | ⟨h9, h⟩
      · obtain ⟨⟨n5, l_2⟩, h10, h⟩ := bind_of h
        rcases cond_of h with ⟨h11, h⟩ | ⟨h11, h⟩
        · obtain ⟨⟨n6, l_3⟩, h12, h⟩ := bind_of h
          obtain ⟨⟨n7, l_4⟩, h13, h⟩ := bind_of h
          have h := some_of h
          subst h
          exact runs_of (C := cfg) (objs := [[(.pv .nils), (.pv (.int .i64 n))]]) (sc := [.res (event_Event_Left_out e e2 (n2, t)), .res (event_Event_Left_out e e2 (n2, t)), .res (event_Event_Left_out e e2 (n2, t)), .res (event_Event_Left_out e e2 (n2, t)), .res (event_Event_Left_out e e2 (n2, t)), .res (event_Event_Left_out e e2 (n2, t)), .res (event_Event_Left_out e e2 (n2, t)), .res (event_Event_Right_out e e2 (n3, t2)), .res (event_Event_Right_out e e2 (n3, t2)), .res (event_Event_Right_out e e2 (n3, t2)), .res (event_Event_Left_out e e2 (n2, t)), .res (event_Event_Right_out e e2 (n3, t2)), .res (event_Event_IsLeaf_out e e2 b), .br false, .res (bits_Writer_Put_out 0 1 n (n4, l_)), .res (event_Event_Base_out e e2 ()), .br true, .res (code_zero_out n2 t b2), .br true, .res (bits_Writer_Put_2_out 0 2 n4 l_ (n5, l_2)), .res (event_Event_Base_out e e2 ()), .br true, .res (event_Event_Base_out e e2 ()), .res (bits_Writer_Num_out e n5 l_2 (n6, l_3)), .lp (code_PutEvent_L0_ex [(E_event_Event.mk n2 t), (E_event_Event.mk n3 t2)] (n7, l_4)).1 (code_PutEvent_L0_ex [(E_event_Event.mk n2 t), (E_event_Event.mk n3 t2)] (n7, l_4)).2]) (.k1 (an_ (event_Event_Left_runs e e2 _ h1) (an_ (event_Event_Left_runs e e2 _ h1) (an_ (event_Event_Left_runs e e2 _ h1) (an_ (event_Event_Left_runs e e2 _ h1) (an_ (event_Event_Left_runs e e2 _ h1) (an_ (event_Event_Left_runs e e2 _ h1) (an_ (event_Event_Left_runs e e2 _ h1) (an_ (event_Event_Right_runs e e2 _ h2) (an_ (event_Event_Right_runs e e2 _ h2) (an_ (event_Event_Right_runs e e2 _ h2) (an_ (event_Event_Left_runs e e2 _ h1) (an_ (event_Event_Right_runs e e2 _ h2) (an_ (event_Event_IsLeaf_runs e e2 _ h3) (an_ h4 (an_ (bits_Writer_Put_runs 0 1 n _ h5) (an_ (event_Event_Base_runs e e2 _ h6) (an_ h7 (an_ (code_zero_runs n2 t _ h8) (an_ h9 (an_ (bits_Writer_Put_2_runs 0 2 n4 l_ _ h10) (an_ (event_Event_Base_runs e e2 _ h6) (an_ h11 (an_ (event_Event_Base_runs e e2 _ h6) (an_ (bits_Writer_Num_runs e n5 l_2 _ h12) (an_ (LRuns.coe (s0 := ⟨[(0, (.av (.one (.ref 0 0)))), (75, (.av (.one (.own 1 0 2 true)))), (76, (.av (.one (.pv (.int .i64 2))))), (77, (.av (.one (.pv (.int .i64 0)))))], [(0, [(.own 0 0 (l_3).length false), (.pv (.int .i64 n6))])], [(0, (.live (.ints .u8 l_3))), (1, (.live (.recs 2 [[(.int .u64 n2), (T_event_halves.pv t)], [(.int .u64 n3), (T_event_halves.pv t2)]])))]⟩) (code_PutEvent_L0_runs (code_PutEvent N) (code_PutEvent_runs N) [(E_event_Event.mk n2 t), (E_event_Event.mk n3 t2)] _ _ h13) ⟨⟨⟨_, rfl, .eq rfl⟩, ⟨_, rfl, .own (by first | rfl | (simp only [List.take_length]; done) | (simp only [List.take_length, List.length_append, List.drop_zero, List.map_append, List.map_take, List.map_drop, List.map_cons, List.map_nil, List.append_nil, List.nil_append, E_event_Event.pv]; done) | (simp; done))⟩, ⟨_, rfl, .eq rfl⟩, ⟨_, rfl, .eq rfl⟩, trivial⟩, ⟨⟨rfl, ⟨.eq rfl, .eq rfl, trivial⟩⟩, trivial⟩, ⟨⟨rfl, .eq rfl⟩, ⟨rfl, .recs (.cons (.cons (.eq rfl) (.cons (.eq rfl) (.nil))) (.cons (.cons (.eq rfl) (.cons (.eq rfl) (.nil))) (.nil)))⟩, trivial⟩⟩) trivial))))))))))))))))))))))))) (by kernel_rfl) (by kernel_rfl))
        · obtain ⟨⟨n6, l_3⟩, h12, h⟩ := bind_of h
          have h := some_of h
          subst h
          exact runs_of (C := cfg) (objs := [[(.pv .nils), (.pv (.int .i64 n))]]) (sc := [.res (event_Event_Left_out e e2 (n2, t)), .res (event_Event_Left_out e e2 (n2, t)), .res (event_Event_Left_out e e2 (n2, t)), .res (event_Event_Left_out e e2 (n2, t)), .res (event_Event_Left_out e e2 (n2, t)), .res (event_Event_Left_out e e2 (n2, t)), .res (event_Event_Left_out e e2 (n2, t)), .res (event_Event_Right_out e e2 (n3, t2)), .res (event_Event_Right_out e e2 (n3, t2)), .res (event_Event_Right_out e e2 (n3, t2)), .res (event_Event_Left_out e e2 (n2, t)), .res (event_Event_Right_out e e2 (n3, t2)), .res (event_Event_IsLeaf_out e e2 b), .br false, .res (bits_Writer_Put_out 0 1 n (n4, l_)), .res (event_Event_Base_out e e2 ()), .br true, .res (code_zero_out n2 t b2), .br true, .res (bits_Writer_Put_2_out 0 2 n4 l_ (n5, l_2)), .res (event_Event_Base_out e e2 ()), .br false, .lp (code_PutEvent_L0_ex [(E_event_Event.mk n2 t), (E_event_Event.mk n3 t2)] (n6, l_3)).1 (code_PutEvent_L0_ex [(E_event_Event.mk n2 t), (E_event_Event.mk n3 t2)] (n6, l_3)).2]) (.k1 (an_ (event_Event_Left_runs e e2 _ h1) (an_ (event_Event_Left_runs e e2 _ h1) (an_ (event_Event_Left_runs e e2 _ h1) (an_ (event_Event_Left_runs e e2 _ h1) (an_ (event_Event_Left_runs e e2 _ h1) (an_ (event_Event_Left_runs e e2 _ h1) (an_ (event_Event_Left_runs e e2 _ h1) (an_ (event_Event_Right_runs e e2 _ h2) (an_ (event_Event_Right_runs e e2 _ h2) (an_ (event_Event_Right_runs e e2 _ h2) (an_ (event_Event_Left_runs e e2 _ h1) (an_ (event_Event_Right_runs e e2 _ h2) (an_ (event_Event_IsLeaf_runs e e2 _ h3) (an_ h4 (an_ (bits_Writer_Put_runs 0 1 n _ h5) (an_ (event_Event_Base_runs e e2 _ h6) (an_ h7 (an_ (code_zero_runs n2 t _ h8) (an_ h9 (an_ (bits_Writer_Put_2_runs 0 2 n4 l_ _ h10) (an_ (event_Event_Base_runs e e2 _ h6) (an_ h11 (an_ (LRuns.coe (s0 := ⟨[(0, (.av (.one (.ref 0 0)))), (75, (.av (.one (.own 1 0 2 true)))), (76, (.av (.one (.pv (.int .i64 2))))), (77, (.av (.one (.pv (.int .i64 0)))))], [(0, [(.own 0 0 (l_2).length false), (.pv (.int .i64 n5))])], [(0, (.live (.ints .u8 l_2))), (1, (.live (.recs 2 [[(.int .u64 n2), (T_event_halves.pv t)], [(.int .u64 n3), (T_event_halves.pv t2)]])))]⟩) (code_PutEvent_L0_runs (code_PutEvent N) (code_PutEvent_runs N) [(E_event_Event.mk n2 t), (E_event_Event.mk n3 t2)] _ _ h12) ⟨⟨⟨_, rfl, .eq rfl⟩, ⟨_, rfl, .own (by first | rfl | (simp only [List.take_length]; done) | (simp only [List.take_length, List.length_append, List.drop_zero, List.map_append, List.map_take, List.map_drop, List.map_cons, List.map_nil, List.append_nil, List.nil_append, E_event_Event.pv]; done) | (simp; done))⟩, ⟨_, rfl, .eq rfl⟩, ⟨_, rfl, .eq rfl⟩, trivial⟩, ⟨⟨rfl, ⟨.eq rfl, .eq rfl, trivial⟩⟩, trivial⟩, ⟨⟨rfl, .eq rfl⟩, ⟨rfl, .recs (.cons (.cons (.eq rfl) (.cons (.eq rfl) (.nil))) (.cons (.cons (.eq rfl) (.cons (.eq rfl) (.nil))) (.nil)))⟩, trivial⟩⟩) trivial))))))))))))))))))))))) (by kernel_rfl) (by kernel_rfl))
      · obtain ⟨b3, h10, h⟩ := bind_of h
        rcases cond_of h with ⟨h11, h⟩ | ⟨h11, h⟩
        · obtain ⟨⟨n5, l_2⟩, h12, h⟩ := bind_of h
          rcases cond_of h with ⟨h13, h⟩ | ⟨h13, h⟩
          · obtain ⟨⟨n6, l_3⟩, h14, h⟩ := bind_of h
            obtain ⟨⟨n7, l_4⟩, h15, h⟩ := bind_of h
            have h := some_of h
            subst h
            exact runs_of (C := cfg) (objs := [[(.pv .nils), (.pv (.int .i64 n))]]) (sc := [.res (event_Event_Left_out e e2 (n2, t)), .res (event_Event_Left_out e e2 (n2, t)), .res (event_Event_Left_out e e2 (n2, t)), .res (event_Event_Left_out e e2 (n2, t)), .res (event_Event_Left_out e e2 (n2, t)), .res (event_Event_Left_out e e2 (n2, t)), .res (event_Event_Left_out e e2 (n2, t)), .res (event_Event_Right_out e e2 (n3, t2)), .res (event_Event_Right_out e e2 (n3, t2)), .res (event_Event_Right_out e e2 (n3, t2)), .res (event_Event_Left_out e e2 (n2, t)), .res (event_Event_Right_out e e2 (n3, t2)), .res (event_Event_IsLeaf_out e e2 b), .br false, .res (bits_Writer_Put_out 0 1 n (n4, l_)), .res (event_Event_Base_out e e2 ()), .br true, .res (code_zero_out n2 t b2), .br false, .res (event_Event_Base_out e e2 ()), .br true, .res (code_zero_out n3 t2 b3), .br true, .res (bits_Writer_Put_2_out 1 2 n4 l_ (n5, l_2)), .res (event_Event_Base_out e e2 ()), .br true, .res (event_Event_Base_out e e2 ()), .res (bits_Writer_Num_out e n5 l_2 (n6, l_3)), .lp (code_PutEvent_L0_ex [(E_event_Event.mk n2 t), (E_event_Event.mk n3 t2)] (n7, l_4)).1 (code_PutEvent_L0_ex [(E_event_Event.mk n2 t), (E_event_Event.mk n3 t2)] (n7, l_4)).2]) (.k1 (an_ (event_Event_Left_runs e e2 _ h1) (an_ (event_Event_Left_runs e e2 _ h1) (an_ (event_Event_Left_runs e e2 _ h1) (an_ (event_Event_Left_runs e e2 _ h1) (an_ (event_Event_Left_runs e e2 _ h1) (an_ (event_Event_Left_runs e e2 _ h1) (an_ (event_Event_Left_runs e e2 _ h1) (an_ (event_Event_Right_runs e e2 _ h2) (an_ (event_Event_Right_runs e e2 _ h2) (an_ (event_Event_Right_runs e e2 _ h2) (an_ (event_Event_Left_runs e e2 _ h1) (an_ (event_Event_Right_runs e e2 _ h2) (an_ (event_Event_IsLeaf_runs e e2 _ h3) (an_ h4 (an_ (bits_Writer_Put_runs 0 1 n _ h5) (an_ (event_Event_Base_runs e e2 _ h6) (an_ h7 (an_ (code_zero_runs n2 t _ h8) (an_ h9 (an_ (event_Event_Base_runs e e2 _ h6) (an_ h7 (an_ (code_zero_runs n3 t2 _ h10) (an_ h11 (an_ (bits_Writer_Put_2_runs 1 2 n4 l_ _ h12) (an_ (event_Event_Base_runs e e2 _ h6) (an_ h13 (an_ (event_Event_Base_runs e e2 _ h6) (an_ (bits_Writer_Num_runs e n5 l_2 _ h14) (an_ (LRuns.coe (s0 := ⟨[(0, (.av (.one (.ref 0 0)))), (75, (.av (.one (.own 1 0 2 true)))), (76, (.av (.one (.pv (.int .i64 2))))), (77, (.av (.one (.pv (.int .i64 0)))))], [(0, [(.own 0 0 (l_3).length false), (.pv (.int .i64 n6))])], [(0, (.live (.ints .u8 l_3))), (1, (.live (.recs 2 [[(.int .u64 n2), (T_event_halves.pv t)], [(.int .u64 n3), (T_event_halves.pv t2)]])))]⟩) (code_PutEvent_L0_runs (code_PutEvent N) (code_PutEvent_runs N) [(E_event_Event.mk n2 t), (E_event_Event.mk n3 t2)] _ _ h15) ⟨⟨⟨_, rfl, .eq rfl⟩, ⟨_, rfl, .own (by first | rfl | (simp only [List.take_length]; done) | (simp only [List.take_length, List.length_append, List.drop_zero, List.map_append, List.map_take, List.map_drop, List.map_cons, List.map_nil, List.append_nil, List.nil_append, E_event_Event.pv]; done) | (simp; done))⟩, ⟨_, rfl, .eq rfl⟩, ⟨_, rfl, .eq rfl⟩, trivial⟩, ⟨⟨rfl, ⟨.eq rfl, .eq rfl, trivial⟩⟩, trivial⟩, ⟨⟨rfl, .eq rfl⟩, ⟨rfl, .recs (.cons (.cons (.eq rfl) (.cons (.eq rfl) (.nil))) (.cons (.cons (.eq rfl) (.cons (.eq rfl) (.nil))) (.nil)))⟩, trivial⟩⟩) trivial))))))))))))))))))))))))))))) (by kernel_rfl) (by kernel_rfl))
          · obtain ⟨⟨n6, l_3⟩, h14, h⟩ := bind_of h
            have h := some_of h
            subst h
            exact runs_of (C := cfg) (objs := [[(.pv .nils), (.pv (.int .i64 n))]]) (sc := [.res (event_Event_Left_out e e2 (n2, t)), .res (event_Event_Left_out e e2 (n2, t)), .res (event_Event_Left_out e e2 (n2, t)), .res (event_Event_Left_out e e2 (n2, t)), .res (event_Event_Left_out e e2 (n2, t)), .res (event_Event_Left_out e e2 (n2, t)), .res (event_Event_Left_out e e2 (n2, t)), .res (event_Event_Right_out e e2 (n3, t2)), .res (event_Event_Right_out e e2 (n3, t2)), .res (event_Event_Right_out e e2 (n3, t2)), .res (event_Event_Left_out e e2 (n2, t)), .res (event_Event_Right_out e e2 (n3, t2)), .res (event_Event_IsLeaf_out e e2 b), .br false, .res (bits_Writer_Put_out 0 1 n (n4, l_)), .res (event_Event_Base_out e e2 ()), .br true, .res (code_zero_out n2 t b2), .br false, .res (event_Event_Base_out e e2 ()), .br true, .res (code_zero_out n3 t2 b3), .br true, .res (bits_Writer_Put_2_out 1 2 n4 l_ (n5, l_2)), .res (event_Event_Base_out e e2 ()), .br false, .lp (code_PutEvent_L0_ex [(E_event_Event.mk n2 t), (E_event_Event.mk n3 t2)] (n6, l_3)).1 (code_PutEvent_L0_ex [(E_event_Event.mk n2 t), (E_event_Event.mk n3 t2)] (n6, l_3)).2]) (.k1 (an_ (event_Event_Left_runs e e2 _ h1) (an_ (event_Event_Left_runs e e2 _ h1) (an_ (event_Event_Left_runs e e2 _ h1) (an_ (event_Event_Left_runs e e2 _ h1) (an_ (event_Event_Left_runs e e2 _ h1) (an_ (event_Event_Left_runs e e2 _ h1) (an_ (event_Event_Left_runs e e2 _ h1) (an_ (event_Event_Right_runs e e2 _ h2) (an_ (event_Event_Right_runs e e2 _ h2) (an_ (event_Event_Right_runs e e2 _ h2) (an_ (event_Event_Left_runs e e2 _ h1) (an_ (event_Event_Right_runs e e2 _ h2) (an_ (event_Event_IsLeaf_runs e e2 _ h3) (an_ h4 (an_ (bits_Writer_Put_runs 0 1 n _ h5) (an_ (event_Event_Base_runs e e2 _ h6) (an_ h7 (an_ (code_zero_runs n2 t _ h8) (an_ h9 (an_ (event_Event_Base_runs e e2 _ h6) (an_ h7 (an_ (code_zero_runs n3 t2 _ h10) (an_ h11 (an_ (bits_Writer_Put_2_runs 1 2 n4 l_ _ h12) (an_ (event_Event_Base_runs e e2 _ h6) (an_ h13 (an_ (LRuns.coe (s0 := ⟨[(0, (.av (.one (.ref 0 0)))), (75, (.av (.one (.own 1 0 2 true)))), (76, (.av (.one (.pv (.int .i64 2))))), (77, (.av (.one (.pv (.int .i64 0)))))], [(0, [(.own 0 0 (l_2).length false), (.pv (.int .i64 n5))])], [(0, (.live (.ints .u8 l_2))), (1, (.live (.recs 2 [[(.int .u64 n2), (T_event_halves.pv t)], [(.int .u64 n3), (T_event_halves.pv t2)]])))]⟩) (code_PutEvent_L0_runs (code_PutEvent N) (code_PutEvent_runs N) [(E_event_Event.mk n2 t), (E_event_Event.mk n3 t2)] _ _ h14) ⟨⟨⟨_, rfl, .eq rfl⟩, ⟨_, rfl, .own (by first | rfl | (simp only [List.take_length]; done) | (simp only [List.take_length, List.length_append, List.drop_zero, List.map_append, List.map_take, List.map_drop, List.map_cons, List.map_nil, List.append_nil, List.nil_append, E_event_Event.pv]; done) | (simp; done))⟩, ⟨_, rfl, .eq rfl⟩, ⟨_, rfl, .eq rfl⟩, trivial⟩, ⟨⟨rfl, ⟨.eq rfl, .eq rfl, trivial⟩⟩, trivial⟩, ⟨⟨rfl, .eq rfl⟩, ⟨rfl, .recs (.cons (.cons (.eq rfl) (.cons (.eq rfl) (.nil))) (.cons (.cons (.eq rfl) (.cons (.eq rfl) (.nil))) (.nil)))⟩, trivial⟩⟩) trivial))))))))))))))))))))))))))) (by kernel_rfl) (by kernel_rfl))
        · obtain ⟨⟨n5, l_2⟩, h12, h⟩ := bind_of h
          rcases cond_of h with ⟨h13, h⟩ | ⟨h13, h⟩
          · obtain ⟨⟨n6, l_3⟩, h14, h⟩ := bind_of h
            obtain ⟨⟨n7, l_4⟩, h15, h⟩ := bind_of h
            have h := some_of h
            subst h
            exact runs_of (C := cfg) (objs := [[(.pv .nils), (.pv (.int .i64 n))]]) (sc := [.res (event_Event_Left_out e e2 (n2, t)), .res (event_Event_Left_out e e2 (n2, t)), .res (event_Event_Left_out e e2 (n2, t)), .res (event_Event_Left_out e e2 (n2, t)), .res (event_Event_Left_out e e2 (n2, t)), .res (event_Event_Left_out e e2 (n2, t)), .res (event_Event_Left_out e e2 (n2, t)), .res (event_Event_Right_out e e2 (n3, t2)), .res (event_Event_Right_out e e2 (n3, t2)), .res (event_Event_Right_out e e2 (n3, t2)), .res (event_Event_Left_out e e2 (n2, t)), .res (event_Event_Right_out e e2 (n3, t2)), .res (event_Event_IsLeaf_out e e2 b), .br false, .res (bits_Writer_Put_out 0 1 n (n4, l_)), .res (event_Event_Base_out e e2 ()), .br true, .res (code_zero_out n2 t b2), .br false, .res (event_Event_Base_out e e2 ()), .br true, .res (code_zero_out n3 t2 b3), .br false, .res (event_Event_Base_out e e2 ()), .br true, .res (bits_Writer_Put_2_out 2 2 n4 l_ (n5, l_2)), .res (event_Event_Base_out e e2 ()), .br true, .res (event_Event_Base_out e e2 ()), .res (bits_Writer_Num_out e n5 l_2 (n6, l_3)), .lp (code_PutEvent_L0_ex [(E_event_Event.mk n2 t), (E_event_Event.mk n3 t2)] (n7, l_4)).1 (code_PutEvent_L0_ex [(E_event_Event.mk n2 t), (E_event_Event.mk n3 t2)] (n7, l_4)).2]) (.k1 (an_ (event_Event_Left_runs e e2 _ h1) (an_ (event_Event_Left_runs e e2 _ h1) (an_ (event_Event_Left_runs e e2 _ h1) (an_ (event_Event_Left_runs e e2 _ h1) (an_ (event_Event_Left_runs e e2 _ h1) (an_ (event_Event_Left_runs e e2 _ h1) (an_ (event_Event_Left_runs e e2 _ h1) (an_ (event_Event_Right_runs e e2 _ h2) (an_ (event_Event_Right_runs e e2 _ h2) (an_ (event_Event_Right_runs e e2 _ h2) (an_ (event_Event_Left_runs e e2 _ h1) (an_ (event_Event_Right_runs e e2 _ h2) (an_ (event_Event_IsLeaf_runs e e2 _ h3) (an_ h4 (an_ (bits_Writer_Put_runs 0 1 n _ h5) (an_ (event_Event_Base_runs e e2 _ h6) (an_ h7 (an_ (code_zero_runs n2 t _ h8) (an_ h9 (an_ (event_Event_Base_runs e e2 _ h6) (an_ h7 (an_ (code_zero_runs n3 t2 _ h10) (an_ h11 (an_ (event_Event_Base_runs e e2 _ h6) (an_ h7 (an_ (bits_Writer_Put_2_runs 2 2 n4 l_ _ h12) (an_ (event_Event_Base_runs e e2 _ h6) (an_ h13 (an_ (event_Event_Base_runs e e2 _ h6) (an_ (bits_Writer_Num_runs e n5 l_2 _ h14) (an_ (LRuns.coe (s0 := ⟨[(0, (.av (.one (.ref 0 0)))), (75, (.av (.one (.own 1 0 2 true)))), (76, (.av (.one (.pv (.int .i64 2))))), (77, (.av (.one (.pv (.int .i64 0)))))], [(0, [(.own 0 0 (l_3).length false), (.pv (.int .i64 n6))])], [(0, (.live (.ints .u8 l_3))), (1, (.live (.recs 2 [[(.int .u64 n2), (T_event_halves.pv t)], [(.int .u64 n3), (T_event_halves.pv t2)]])))]⟩) (code_PutEvent_L0_runs (code_PutEvent N) (code_PutEvent_runs N) [(E_event_Event.mk n2 t), (E_event_Event.mk n3 t2)] _ _ h15) ⟨⟨⟨_, rfl, .eq rfl⟩, ⟨_, rfl, .own (by first | rfl | (simp only [List.take_length]; done) | (simp only [List.take_length, List.length_append, List.drop_zero, List.map_append, List.map_take, List.map_drop, List.map_cons, List.map_nil, List.append_nil, List.nil_append, E_event_Event.pv]; done) | (simp; done))⟩, ⟨_, rfl, .eq rfl⟩, ⟨_, rfl, .eq rfl⟩, trivial⟩, ⟨⟨rfl, ⟨.eq rfl, .eq rfl, trivial⟩⟩, trivial⟩, ⟨⟨rfl, .eq rfl⟩, ⟨rfl, .recs (.cons (.cons (.eq rfl) (.cons (.eq rfl) (.nil))) (.cons (.cons (.eq rfl) (.cons (.eq rfl) (.nil))) (.nil)))⟩, trivial⟩⟩) trivial))))))))))))))))))))))))))))))) (by kernel_rfl) (by kernel_rfl))
          · obtain ⟨⟨n6, l_3⟩, h14, h⟩ := bind_of h
            have h := some_of h
            subst h
            exact runs_of (C := cfg) (objs := [[(.pv .nils), (.pv (.int .i64 n))]]) (sc := [.res (event_Event_Left_out e e2 (n2, t)), .res (event_Event_Left_out e e2 (n2, t)), .res (event_Event_Left_out e e2 (n2, t)), .res (event_Event_Left_out e e2 (n2, t)), .res (event_Event_Left_out e e2 (n2, t)), .res (event_Event_Left_out e e2 (n2, t)), .res (event_Event_Left_out e e2 (n2, t)), .res (event_Event_Right_out e e2 (n3, t2)), .res (event_Event_Right_out e e2 (n3, t2)), .res (event_Event_Right_out e e2 (n3, t2)), .res (event_Event_Left_out e e2 (n2, t)), .res (event_Event_Right_out e e2 (n3, t2)), .res (event_Event_IsLeaf_out e e2 b), .br false, .res (bits_Writer_Put_out 0 1 n (n4, l_)), .res (event_Event_Base_out e e2 ()), .br true, .res (code_zero_out n2 t b2), .br false, .res (event_Event_Base_out e e2 ()), .br true, .res (code_zero_out n3 t2 b3), .br false, .res (event_Event_Base_out e e2 ()), .br true, .res (bits_Writer_Put_2_out 2 2 n4 l_ (n5, l_2)), .res (event_Event_Base_out e e2 ()), .br false, .lp (code_PutEvent_L0_ex [(E_event_Event.mk n2 t), (E_event_Event.mk n3 t2)] (n6, l_3)).1 (code_PutEvent_L0_ex [(E_event_Event.mk n2 t), (E_event_Event.mk n3 t2)] (n6, l_3)).2]) (.k1 (an_ (event_Event_Left_runs e e2 _ h1) (an_ (event_Event_Left_runs e e2 _ h1) (an_ (event_Event_Left_runs e e2 _ h1) (an_ (event_Event_Left_runs e e2 _ h1) (an_ (event_Event_Left_runs e e2 _ h1) (an_ (event_Event_Left_runs e e2 _ h1) (an_ (event_Event_Left_runs e e2 _ h1) (an_ (event_Event_Right_runs e e2 _ h2) (an_ (event_Event_Right_runs e e2 _ h2) (an_ (event_Event_Right_runs e e2 _ h2) (an_ (event_Event_Left_runs e e2 _ h1) (an_ (event_Event_Right_runs e e2 _ h2) (an_ (event_Event_IsLeaf_runs e e2 _ h3) (an_ h4 (an_ (bits_Writer_Put_runs 0 1 n _ h5) (an_ (event_Event_Base_runs e e2 _ h6) (an_ h7 (an_ (code_zero_runs n2 t _ h8) (an_ h9 (an_ (event_Event_Base_runs e e2 _ h6) (an_ h7 (an_ (code_zero_runs n3 t2 _ h10) (an_ h11 (an_ (event_Event_Base_runs e e2 _ h6) (an_ h7 (an_ (bits_Writer_Put_2_runs 2 2 n4 l_ _ h12) (an_ (event_Event_Base_runs e e2 _ h6) (an_ h13 (an_ (LRuns.coe (s0 := ⟨[(0, (.av (.one (.ref 0 0)))), (75, (.av (.one (.own 1 0 2 true)))), (76, (.av (.one (.pv (.int .i64 2))))), (77, (.av (.one (.pv (.int .i64 0)))))], [(0, [(.own 0 0 (l_2).length false), (.pv (.int .i64 n5))])], [(0, (.live (.ints .u8 l_2))), (1, (.live (.recs 2 [[(.int .u64 n2), (T_event_halves.pv t)], [(.int .u64 n3), (T_event_halves.pv t2)]])))]⟩) (code_PutEvent_L0_runs (code_PutEvent N) (code_PutEvent_runs N) [(E_event_Event.mk n2 t), (E_event_Event.mk n3 t2)] _ _ h14) ⟨⟨⟨_, rfl, .eq rfl⟩, ⟨_, rfl, .own (by first | rfl | (simp only [List.take_length]; done) | (simp only [List.take_length, List.length_append, List.drop_zero, List.map_append, List.map_take, List.map_drop, List.map_cons, List.map_nil, List.append_nil, List.nil_append, E_event_Event.pv]; done) | (simp; done))⟩, ⟨_, rfl, .eq rfl⟩, ⟨_, rfl, .eq rfl⟩, trivial⟩, ⟨⟨rfl, ⟨.eq rfl, .eq rfl, trivial⟩⟩, trivial⟩, ⟨⟨rfl, .eq rfl⟩, ⟨rfl, .recs (.cons (.cons (.eq rfl) (.cons (.eq rfl) (.nil))) (.cons (.cons (.eq rfl) (.cons (.eq rfl) (.nil))) (.nil)))⟩, trivial⟩⟩) trivial))))))))))))))))))))))))))))) (by kernel_rfl) (by kernel_rfl))
    · obtain ⟨b2, h8, h⟩ := bind_of h
      rcases cond_of h with ⟨h9, h⟩ | ⟨h9, h⟩
      · obtain ⟨⟨n5, l_2⟩, h10, h⟩ := bind_of h
        obtain ⟨⟨n6, l_3⟩, h11, h⟩ := bind_of h
        rcases cond_of h with ⟨h12, h⟩ | ⟨h12, h⟩
        · obtain ⟨⟨n7, l_4⟩, h13, h⟩ := bind_of h
          obtain ⟨⟨n8, l_5⟩, h14, h⟩ := bind_of h
          have h := some_of h
          subst h
          exact runs_of (C := cfg) (objs := [[(.pv .nils), (.pv (.int .i64 n))]]) (sc := [.res (event_Event_Left_out e e2 (n2, t)), .res (event_Event_Left_out e e2 (n2, t)), .res (event_Event_Left_out e e2 (n2, t)), .res (event_Event_Left_out e e2 (n2, t)), .res (event_Event_Left_out e e2 (n2, t)), .res (event_Event_Left_out e e2 (n2, t)), .res (event_Event_Left_out e e2 (n2, t)), .res (event_Event_Right_out e e2 (n3, t2)), .res (event_Event_Right_out e e2 (n3, t2)), .res (event_Event_Right_out e e2 (n3, t2)), .res (event_Event_Left_out e e2 (n2, t)), .res (event_Event_Right_out e e2 (n3, t2)), .res (event_Event_IsLeaf_out e e2 b), .br false, .res (bits_Writer_Put_out 0 1 n (n4, l_)), .res (event_Event_Base_out e e2 ()), .br false, .br false, .res (event_Event_Base_out e e2 ()), .br false, .br false, .res (event_Event_Base_out e e2 ()), .br false, .res (code_zero_out n2 t b2), .br true, .res (bits_Writer_Put_2_out 3 2 n4 l_ (n5, l_2)), .res (bits_Writer_Put_2_out 0 2 n5 l_2 (n6, l_3)), .res (event_Event_Base_out e e2 ()), .br true, .res (event_Event_Base_out e e2 ()), .res (bits_Writer_Num_out e n6 l_3 (n7, l_4)), .lp (code_PutEvent_L0_ex [(E_event_Event.mk n2 t), (E_event_Event.mk n3 t2)] (n8, l_5)).1 (code_PutEvent_L0_ex [(E_event_Event.mk n2 t), (E_event_Event.mk n3 t2)] (n8, l_5)).2]) (.k1 (an_ (event_Event_Left_runs e e2 _ h1) (an_ (event_Event_Left_runs e e2 _ h1) (an_ (event_Event_Left_runs e e2 _ h1) (an_ (event_Event_Left_runs e e2 _ h1) (an_ (event_Event_Left_runs e e2 _ h1) (an_ (event_Event_Left_runs e e2 _ h1) (an_ (event_Event_Left_runs e e2 _ h1) (an_ (event_Event_Right_runs e e2 _ h2) (an_ (event_Event_Right_runs e e2 _ h2) (an_ (event_Event_Right_runs e e2 _ h2) (an_ (event_Event_Left_runs e e2 _ h1) (an_ (event_Event_Right_runs e e2 _ h2) (an_ (event_Event_IsLeaf_runs e e2 _ h3) (an_ h4 (an_ (bits_Writer_Put_runs 0 1 n _ h5) (an_ (event_Event_Base_runs e e2 _ h6) (an_ h7 (an_ (rfl : false = false) (an_ (event_Event_Base_runs e e2 _ h6) (an_ h7 (an_ (rfl : false = false) (an_ (event_Event_Base_runs e e2 _ h6) (an_ h7 (an_ (code_zero_runs n2 t _ h8) (an_ h9 (an_ (bits_Writer_Put_2_runs 3 2 n4 l_ _ h10) (an_ (bits_Writer_Put_2_runs 0 2 n5 l_2 _ h11) (an_ (event_Event_Base_runs e e2 _ h6) (an_ h12 (an_ (event_Event_Base_runs e e2 _ h6) (an_ (bits_Writer_Num_runs e n6 l_3 _ h13) (an_ (LRuns.coe (s0 := ⟨[(0, (.av (.one (.ref 0 0)))), (75, (.av (.one (.own 1 0 2 true)))), (76, (.av (.one (.pv (.int .i64 2))))), (77, (.av (.one (.pv (.int .i64 0)))))], [(0, [(.own 0 0 (l_4).length false), (.pv (.int .i64 n7))])], [(0, (.live (.ints .u8 l_4))), (1, (.live (.recs 2 [[(.int .u64 n2), (T_event_halves.pv t)], [(.int .u64 n3), (T_event_halves.pv t2)]])))]⟩) (code_PutEvent_L0_runs (code_PutEvent N) (code_PutEvent_runs N) [(E_event_Event.mk n2 t), (E_event_Event.mk n3 t2)] _ _ h14) ⟨⟨⟨_, rfl, .eq rfl⟩, ⟨_, rfl, .own (by first | rfl | (simp only [List.take_length]; done) | (simp only [List.take_length, List.length_append, List.drop_zero, List.map_append, List.map_take, List.map_drop, List.map_cons, List.map_nil, List.append_nil, List.nil_append, E_event_Event.pv]; done) | (simp; done))⟩, ⟨_, rfl, .eq rfl⟩, ⟨_, rfl, .eq rfl⟩, trivial⟩, ⟨⟨rfl, ⟨.eq rfl, .eq rfl, trivial⟩⟩, trivial⟩, ⟨⟨rfl, .eq rfl⟩, ⟨rfl, .recs (.cons (.cons (.eq rfl) (.cons (.eq rfl) (.nil))) (.cons (.cons (.eq rfl) (.cons (.eq rfl) (.nil))) (.nil)))⟩, trivial⟩⟩) trivial)))))))))))))))))))))))))))))))) (by kernel_rfl) (by kernel_rfl))
        · obtain ⟨⟨n7, l_4⟩, h13, h⟩ := bind_of h
          have h := some_of h
          subst h
          exact runs_of (C := cfg) (objs := [[(.pv .nils), (.pv (.int .i64 n))]]) (sc := [.res (event_Event_Left_out e e2 (n2, t)), .res (event_Event_Left_out e e2 (n2, t)), .res (event_Event_Left_out e e2 (n2, t)), .res (event_Event_Left_out e e2 (n2, t)), .res (event_Event_Left_out e e2 (n2, t)), .res (event_Event_Left_out e e2 (n2, t)), .res (event_Event_Left_out e e2 (n2, t)), .res (event_Event_Right_out e e2 (n3, t2)), .res (event_Event_Right_out e e2 (n3, t2)), .res (event_Event_Right_out e e2 (n3, t2)), .res (event_Event_Left_out e e2 (n2, t)), .res (event_Event_Right_out e e2 (n3, t2)), .res (event_Event_IsLeaf_out e e2 b), .br false, .res (bits_Writer_Put_out 0 1 n (n4, l_)), .res (event_Event_Base_out e e2 ()), .br false, .br false, .res (event_Event_Base_out e e2 ()), .br false, .br false, .res (event_Event_Base_out e e2 ()), .br false, .res (code_zero_out n2 t b2), .br true, .res (bits_Writer_Put_2_out 3 2 n4 l_ (n5, l_2)), .res (bits_Writer_Put_2_out 0 2 n5 l_2 (n6, l_3)), .res (event_Event_Base_out e e2 ()), .br false, .lp (code_PutEvent_L0_ex [(E_event_Event.mk n2 t), (E_event_Event.mk n3 t2)] (n7, l_4)).1 (code_PutEvent_L0_ex [(E_event_Event.mk n2 t), (E_event_Event.mk n3 t2)] (n7, l_4)).2]) (.k1 (an_ (event_Event_Left_runs e e2 _ h1) (an_ (event_Event_Left_runs e e2 _ h1) (an_ (event_Event_Left_runs e e2 _ h1) (an_ (event_Event_Left_runs e e2 _ h1) (an_ (event_Event_Left_runs e e2 _ h1) (an_ (event_Event_Left_runs e e2 _ h1) (an_ (event_Event_Left_runs e e2 _ h1) (an_ (event_Event_Right_runs e e2 _ h2) (an_ (event_Event_Right_runs e e2 _ h2) (an_ (event_Event_Right_runs e e2 _ h2) (an_ (event_Event_Left_runs e e2 _ h1) (an_ (event_Event_Right_runs e e2 _ h2) (an_ (event_Event_IsLeaf_runs e e2 _ h3) (an_ h4 (an_ (bits_Writer_Put_runs 0 1 n _ h5) (an_ (event_Event_Base_runs e e2 _ h6) (an_ h7 (an_ (rfl : false = false) (an_ (event_Event_Base_runs e e2 _ h6) (an_ h7 (an_ (rfl : false = false) (an_ (event_Event_Base_runs e e2 _ h6) (an_ h7 (an_ (code_zero_runs n2 t _ h8) (an_ h9 (an_ (bits_Writer_Put_2_runs 3 2 n4 l_ _ h10) (an_ (bits_Writer_Put_2_runs 0 2 n5 l_2 _ h11) (an_ (event_Event_Base_runs e e2 _ h6) (an_ h12 (an_ (LRuns.coe (s0 := ⟨[(0, (.av (.one (.ref 0 0)))), (75, (.av (.one (.own 1 0 2 true)))), (76, (.av (.one (.pv (.int .i64 2))))), (77, (.av (.one (.pv (.int .i64 0)))))], [(0, [(.own 0 0 (l_3).length false), (.pv (.int .i64 n6))])], [(0, (.live (.ints .u8 l_3))), (1, (.live (.recs 2 [[(.int .u64 n2), (T_event_halves.pv t)], [(.int .u64 n3), (T_event_halves.pv t2)]])))]⟩) (code_PutEvent_L0_runs (code_PutEvent N) (code_PutEvent_runs N) [(E_event_Event.mk n2 t), (E_event_Event.mk n3 t2)] _ _ h13) ⟨⟨⟨_, rfl, .eq rfl⟩, ⟨_, rfl, .own (by first | rfl | (simp only [List.take_length]; done) | (simp only [List.take_length, List.length_append, List.drop_zero, List.map_append, List.map_take, List.map_drop, List.map_cons, List.map_nil, List.append_nil, List.nil_append, E_event_Event.pv]; done) | (simp; done))⟩, ⟨_, rfl, .eq rfl⟩, ⟨_, rfl, .eq rfl⟩, trivial⟩, ⟨⟨rfl, ⟨.eq rfl, .eq rfl, trivial⟩⟩, trivial⟩, ⟨⟨rfl, .eq rfl⟩, ⟨rfl, .recs (.cons (.cons (.eq rfl) (.cons (.eq rfl) (.nil))) (.cons (.cons (.eq rfl) (.cons (.eq rfl) (.nil))) (.nil)))⟩, trivial⟩⟩) trivial)))))))))))))))))))))))))))))) (by kernel_rfl) (by kernel_rfl))
      · obtain ⟨b3, h10, h⟩ := bind_of h
        rcases cond_of h with ⟨h11, h⟩ | ⟨h11, h⟩
        · obtain ⟨⟨n5, l_2⟩, h12, h⟩ := bind_of h
          obtain ⟨⟨n6, l_3⟩, h13, h⟩ := bind_of h
          rcases cond_of h with ⟨h14, h⟩ | ⟨h14, h⟩
          · obtain ⟨⟨n7, l_4⟩, h15, h⟩ := bind_of h
            obtain ⟨⟨n8, l_5⟩, h16, h⟩ := bind_of h
            have h := some_of h
            subst h
            exact runs_of (C := cfg) (objs := [[(.pv .nils), (.pv (.int .i64 n))]]) (sc := [.res (event_Event_Left_out e e2 (n2, t)), .res (event_Event_Left_out e e2 (n2, t)), .res (event_Event_Left_out e e2 (n2, t)), .res (event_Event_Left_out e e2 (n2, t)), .res (event_Event_Left_out e e2 (n2, t)), .res (event_Event_Left_out e e2 (n2, t)), .res (event_Event_Left_out e e2 (n2, t)), .res (event_Event_Right_out e e2 (n3, t2)), .res (event_Event_Right_out e e2 (n3, t2)), .res (event_Event_Right_out e e2 (n3, t2)), .res (event_Event_Left_out e e2 (n2, t)), .res (event_Event_Right_out e e2 (n3, t2)), .res (event_Event_IsLeaf_out e e2 b), .br false, .res (bits_Writer_Put_out 0 1 n (n4, l_)), .res (event_Event_Base_out e e2 ()), .br false, .br false, .res (event_Event_Base_out e e2 ()), .br false, .br false, .res (event_Event_Base_out e e2 ()), .br false, .res (code_zero_out n2 t b2), .br false, .res (code_zero_out n3 t2 b3), .br true, .res (bits_Writer_Put_2_out 3 2 n4 l_ (n5, l_2)), .res (bits_Writer_Put_2_out 1 2 n5 l_2 (n6, l_3)), .res (event_Event_Base_out e e2 ()), .br true, .res (event_Event_Base_out e e2 ()), .res (bits_Writer_Num_out e n6 l_3 (n7, l_4)), .lp (code_PutEvent_L0_ex [(E_event_Event.mk n2 t), (E_event_Event.mk n3 t2)] (n8, l_5)).1 (code_PutEvent_L0_ex [(E_event_Event.mk n2 t), (E_event_Event.mk n3 t2)] (n8, l_5)).2]) (.k1 (an_ (event_Event_Left_runs e e2 _ h1) (an_ (event_Event_Left_runs e e2 _ h1) (an_ (event_Event_Left_runs e e2 _ h1) (an_ (event_Event_Left_runs e e2 _ h1) (an_ (event_Event_Left_runs e e2 _ h1) (an_ (event_Event_Left_runs e e2 _ h1) (an_ (event_Event_Left_runs e e2 _ h1) (an_ (event_Event_Right_runs e e2 _ h2) (an_ (event_Event_Right_runs e e2 _ h2) (an_ (event_Event_Right_runs e e2 _ h2) (an_ (event_Event_Left_runs e e2 _ h1) (an_ (event_Event_Right_runs e e2 _ h2) (an_ (event_Event_IsLeaf_runs e e2 _ h3) (an_ h4 (an_ (bits_Writer_Put_runs 0 1 n _ h5) (an_ (event_Event_Base_runs e e2 _ h6) (an_ h7 (an_ (rfl : false = false) (an_ (event_Event_Base_runs e e2 _ h6) (an_ h7 (an_ (rfl : false = false) (an_ (event_Event_Base_runs e e2 _ h6) (an_ h7 (an_ (code_zero_runs n2 t _ h8) (an_ h9 (an_ (code_zero_runs n3 t2 _ h10) (an_ h11 (an_ (bits_Writer_Put_2_runs 3 2 n4 l_ _ h12) (an_ (bits_Writer_Put_2_runs 1 2 n5 l_2 _ h13) (an_ (event_Event_Base_runs e e2 _ h6) (an_ h14 (an_ (event_Event_Base_runs e e2 _ h6) (an_ (bits_Writer_Num_runs e n6 l_3 _ h15) (an_ (LRuns.coe (s0 := ⟨[(0, (.av (.one (.ref 0 0)))), (75, (.av (.one (.own 1 0 2 true)))), (76, (.av (.one (.pv (.int .i64 2))))), (77, (.av (.one (.pv (.int .i64 0)))))], [(0, [(.own 0 0 (l_4).length false), (.pv (.int .i64 n7))])], [(0, (.live (.ints .u8 l_4))), (1, (.live (.recs 2 [[(.int .u64 n2), (T_event_halves.pv t)], [(.int .u64 n3), (T_event_halves.pv t2)]])))]⟩) (code_PutEvent_L0_runs (code_PutEvent N) (code_PutEvent_runs N) [(E_event_Event.mk n2 t), (E_event_Event.mk n3 t2)] _ _ h16) ⟨⟨⟨_, rfl, .eq rfl⟩, ⟨_, rfl, .own (by first | rfl | (simp only [List.take_length]; done) | (simp only [List.take_length, List.length_append, List.drop_zero, List.map_append, List.map_take, List.map_drop, List.map_cons, List.map_nil, List.append_nil, List.nil_append, E_event_Event.pv]; done) | (simp; done))⟩, ⟨_, rfl, .eq rfl⟩, ⟨_, rfl, .eq rfl⟩, trivial⟩, ⟨⟨rfl, ⟨.eq rfl, .eq rfl, trivial⟩⟩, trivial⟩, ⟨⟨rfl, .eq rfl⟩, ⟨rfl, .recs (.cons (.cons (.eq rfl) (.cons (.eq rfl) (.nil))) (.cons (.cons (.eq rfl) (.cons (.eq rfl) (.nil))) (.nil)))⟩, trivial⟩⟩) trivial)))))))))))))))))))))))))))))))))) (by kernel_rfl) (by kernel_rfl))
          · obtain ⟨⟨n7, l_4⟩, h15, h⟩ := bind_of h
            have h := some_of h
            subst h
            exact runs_of (C := cfg) (objs := [[(.pv .nils), (.pv (.int .i64 n))]]) (sc := [.res (event_Event_Left_out e e2 (n2, t)), .res (event_Event_Left_out e e2 (n2, t)), .res (event_Event_Left_out e e2 (n2, t)), .res (event_Event_Left_out e e2 (n2, t)), .res (event_Event_Left_out e e2 (n2, t)), .res (event_Event_Left_out e e2 (n2, t)), .res (event_Event_Left_out e e2 (n2, t)), .res (event_Event_Right_out e e2 (n3, t2)), .res (event_Event_Right_out e e2 (n3, t2)), .res (event_Event_Right_out e e2 (n3, t2)), .res (event_Event_Left_out e e2 (n2, t)), .res (event_Event_Right_out e e2 (n3, t2)), .res (event_Event_IsLeaf_out e e2 b), .br false, .res (bits_Writer_Put_out 0 1 n (n4, l_)), .res (event_Event_Base_out e e2 ()), .br false, .br false, .res (event_Event_Base_out e e2 ()), .br false, .br false, .res (event_Event_Base_out e e2 ()), .br false, .res (code_zero_out n2 t b2), .br false, .res (code_zero_out n3 t2 b3), .br true, .res (bits_Writer_Put_2_out 3 2 n4 l_ (n5, l_2)), .res (bits_Writer_Put_2_out 1 2 n5 l_2 (n6, l_3)), .res (event_Event_Base_out e e2 ()), .br false, .lp (code_PutEvent_L0_ex [(E_event_Event.mk n2 t), (E_event_Event.mk n3 t2)] (n7, l_4)).1 (code_PutEvent_L0_ex [(E_event_Event.mk n2 t), (E_event_Event.mk n3 t2)] (n7, l_4)).2]) (.k1 (an_ (event_Event_Left_runs e e2 _ h1) (an_ (event_Event_Left_runs e e2 _ h1) (an_ (event_Event_Left_runs e e2 _ h1) (an_ (event_Event_Left_runs e e2 _ h1) (an_ (event_Event_Left_runs e e2 _ h1) (an_ (event_Event_Left_runs e e2 _ h1) (an_ (event_Event_Left_runs e e2 _ h1) (an_ (event_Event_Right_runs e e2 _ h2) (an_ (event_Event_Right_runs e e2 _ h2) (an_ (event_Event_Right_runs e e2 _ h2) (an_ (event_Event_Left_runs e e2 _ h1) (an_ (event_Event_Right_runs e e2 _ h2) (an_ (event_Event_IsLeaf_runs e e2 _ h3) (an_ h4 (an_ (bits_Writer_Put_runs 0 1 n _ h5) (an_ (event_Event_Base_runs e e2 _ h6) (an_ h7 (an_ (rfl : false = false) (an_ (event_Event_Base_runs e e2 _ h6) (an_ h7 (an_ (rfl : false = false) (an_ (event_Event_Base_runs e e2 _ h6) (an_ h7 (an_ (code_zero_runs n2 t _ h8) (an_ h9 (an_ (code_zero_runs n3 t2 _ h10) (an_ h11 (an_ (bits_Writer_Put_2_runs 3 2 n4 l_ _ h12) (an_ (bits_Writer_Put_2_runs 1 2 n5 l_2 _ h13) (an_ (event_Event_Base_runs e e2 _ h6) (an_ h14 (an_ (LRuns.coe (s0 := ⟨[(0, (.av (.one (.ref 0 0)))), (75, (.av (.one (.own 1 0 2 true)))), (76, (.av (.one (.pv (.int .i64 2))))), (77, (.av (.one (.pv (.int .i64 0)))))], [(0, [(.own 0 0 (l_3).length false), (.pv (.int .i64 n6))])], [(0, (.live (.ints .u8 l_3))), (1, (.live (.recs 2 [[(.int .u64 n2), (T_event_halves.pv t)], [(.int .u64 n3), (T_event_halves.pv t2)]])))]⟩) (code_PutEvent_L0_runs (code_PutEvent N) (code_PutEvent_runs N) [(E_event_Event.mk n2 t), (E_event_Event.mk n3 t2)] _ _ h15) ⟨⟨⟨_, rfl, .eq rfl⟩, ⟨_, rfl, .own (by first | rfl | (simp only [List.take_length]; done) | (simp only [List.take_length, List.length_append, List.drop_zero, List.map_append, List.map_take, List.map_drop, List.map_cons, List.map_nil, List.append_nil, List.nil_append, E_event_Event.pv]; done) | (simp; done))⟩, ⟨_, rfl, .eq rfl⟩, ⟨_, rfl, .eq rfl⟩, trivial⟩, ⟨⟨rfl, ⟨.eq rfl, .eq rfl, trivial⟩⟩, trivial⟩, ⟨⟨rfl, .eq rfl⟩, ⟨rfl, .recs (.cons (.cons (.eq rfl) (.cons (.eq rfl) (.nil))) (.cons (.cons (.eq rfl) (.cons (.eq rfl) (.nil))) (.nil)))⟩, trivial⟩⟩) trivial)))))))))))))))))))))))))))))))) (by kernel_rfl) (by kernel_rfl))
        · obtain ⟨⟨n5, l_2⟩, h12, h⟩ := bind_of h
          obtain ⟨⟨n6, l_3⟩, h13, h⟩ := bind_of h
          rcases cond_of h with ⟨h14, h⟩ | ⟨h14, h⟩
          · obtain ⟨⟨n7, l_4⟩, h15, h⟩ := bind_of h
            obtain ⟨⟨n8, l_5⟩, h16, h⟩ := bind_of h
            have h := some_of h
            subst h
            exact runs_of (C := cfg) (objs := [[(.pv .nils), (.pv (.int .i64 n))]]) (sc := [.res (event_Event_Left_out e e2 (n2, t)), .res (event_Event_Left_out e e2 (n2, t)), .res (event_Event_Left_out e e2 (n2, t)), .res (event_Event_Left_out e e2 (n2, t)), .res (event_Event_Left_out e e2 (n2, t)), .res (event_Event_Left_out e e2 (n2, t)), .res (event_Event_Left_out e e2 (n2, t)), .res (event_Event_Right_out e e2 (n3, t2)), .res (event_Event_Right_out e e2 (n3, t2)), .res (event_Event_Right_out e e2 (n3, t2)), .res (event_Event_Left_out e e2 (n2, t)), .res (event_Event_Right_out e e2 (n3, t2)), .res (event_Event_IsLeaf_out e e2 b), .br false, .res (bits_Writer_Put_out 0 1 n (n4, l_)), .res (event_Event_Base_out e e2 ()), .br false, .br false, .res (event_Event_Base_out e e2 ()), .br false, .br false, .res (event_Event_Base_out e e2 ()), .br false, .res (code_zero_out n2 t b2), .br false, .res (code_zero_out n3 t2 b3), .br false, .res (bits_Writer_Put_2_out 3 2 n4 l_ (n5, l_2)), .res (bits_Writer_Put_2_out 1 1 n5 l_2 (n6, l_3)), .res (event_Event_Base_out e e2 ()), .br true, .res (event_Event_Base_out e e2 ()), .res (bits_Writer_Num_out e n6 l_3 (n7, l_4)), .lp (code_PutEvent_L0_ex [(E_event_Event.mk n2 t), (E_event_Event.mk n3 t2)] (n8, l_5)).1 (code_PutEvent_L0_ex [(E_event_Event.mk n2 t), (E_event_Event.mk n3 t2)] (n8, l_5)).2]) (.k1 (an_ (event_Event_Left_runs e e2 _ h1) (an_ (event_Event_Left_runs e e2 _ h1) (an_ (event_Event_Left_runs e e2 _ h1) (an_ (event_Event_Left_runs e e2 _ h1) (an_ (event_Event_Left_runs e e2 _ h1) (an_ (event_Event_Left_runs e e2 _ h1) (an_ (event_Event_Left_runs e e2 _ h1) (an_ (event_Event_Right_runs e e2 _ h2) (an_ (event_Event_Right_runs e e2 _ h2) (an_ (event_Event_Right_runs e e2 _ h2) (an_ (event_Event_Left_runs e e2 _ h1) (an_ (event_Event_Right_runs e e2 _ h2) (an_ (event_Event_IsLeaf_runs e e2 _ h3) (an_ h4 (an_ (bits_Writer_Put_runs 0 1 n _ h5) (an_ (event_Event_Base_runs e e2 _ h6) (an_ h7 (an_ (rfl : false = false) (an_ (event_Event_Base_runs e e2 _ h6) (an_ h7 (an_ (rfl : false = false) (an_ (event_Event_Base_runs e e2 _ h6) (an_ h7 (an_ (code_zero_runs n2 t _ h8) (an_ h9 (an_ (code_zero_runs n3 t2 _ h10) (an_ h11 (an_ (bits_Writer_Put_2_runs 3 2 n4 l_ _ h12) (an_ (bits_Writer_Put_2_runs 1 1 n5 l_2 _ h13) (an_ (event_Event_Base_runs e e2 _ h6) (an_ h14 (an_ (event_Event_Base_runs e e2 _ h6) (an_ (bits_Writer_Num_runs e n6 l_3 _ h15) (an_ (LRuns.coe (s0 := ⟨[(0, (.av (.one (.ref 0 0)))), (75, (.av (.one (.own 1 0 2 true)))), (76, (.av (.one (.pv (.int .i64 2))))), (77, (.av (.one (.pv (.int .i64 0)))))], [(0, [(.own 0 0 (l_4).length false), (.pv (.int .i64 n7))])], [(0, (.live (.ints .u8 l_4))), (1, (.live (.recs 2 [[(.int .u64 n2), (T_event_halves.pv t)], [(.int .u64 n3), (T_event_halves.pv t2)]])))]⟩) (code_PutEvent_L0_runs (code_PutEvent N) (code_PutEvent_runs N) [(E_event_Event.mk n2 t), (E_event_Event.mk n3 t2)] _ _ h16) ⟨⟨⟨_, rfl, .eq rfl⟩, ⟨_, rfl, .own (by first | rfl | (simp only [List.take_length]; done) | (simp only [List.take_length, List.length_append, List.drop_zero, List.map_append, List.map_take, List.map_drop, List.map_cons, List.map_nil, List.append_nil, List.nil_append, E_event_Event.pv]; done) | (simp; done))⟩, ⟨_, rfl, .eq rfl⟩, ⟨_, rfl, .eq rfl⟩, trivial⟩, ⟨⟨rfl, ⟨.eq rfl, .eq rfl, trivial⟩⟩, trivial⟩, ⟨⟨rfl, .eq rfl⟩, ⟨rfl, .recs (.cons (.cons (.eq rfl) (.cons (.eq rfl) (.nil))) (.cons (.cons (.eq rfl) (.cons (.eq rfl) (.nil))) (.nil)))⟩, trivial⟩⟩) trivial)))))))))))))))))))))))))))))))))) (by kernel_rfl) (by kernel_rfl))
          · obtain ⟨⟨n7, l_4⟩, h15, h⟩ := bind_of h
            have h := some_of h
            subst h
            exact runs_of (C := cfg) (objs := [[(.pv .nils), (.pv (.int .i64 n))]]) (sc := [.res (event_Event_Left_out e e2 (n2, t)), .res (event_Event_Left_out e e2 (n2, t)), .res (event_Event_Left_out e e2 (n2, t)), .res (event_Event_Left_out e e2 (n2, t)), .res (event_Event_Left_out e e2 (n2, t)), .res (event_Event_Left_out e e2 (n2, t)), .res (event_Event_Left_out e e2 (n2, t)), .res (event_Event_Right_out e e2 (n3, t2)), .res (event_Event_Right_out e e2 (n3, t2)), .res (event_Event_Right_out e e2 (n3, t2)), .res (event_Event_Left_out e e2 (n2, t)), .res (event_Event_Right_out e e2 (n3, t2)), .res (event_Event_IsLeaf_out e e2 b), .br false, .res (bits_Writer_Put_out 0 1 n (n4, l_)), .res (event_Event_Base_out e e2 ()), .br false, .br false, .res (event_Event_Base_out e e2 ()), .br false, .br false, .res (event_Event_Base_out e e2 ()), .br false, .res (code_zero_out n2 t b2), .br false, .res (code_zero_out n3 t2 b3), .br false, .res (bits_Writer_Put_2_out 3 2 n4 l_ (n5, l_2)), .res (bits_Writer_Put_2_out 1 1 n5 l_2 (n6, l_3)), .res (event_Event_Base_out e e2 ()), .br false, .lp (code_PutEvent_L0_ex [(E_event_Event.mk n2 t), (E_event_Event.mk n3 t2)] (n7, l_4)).1 (code_PutEvent_L0_ex [(E_event_Event.mk n2 t), (E_event_Event.mk n3 t2)] (n7, l_4)).2]) (.k1 (an_ (event_Event_Left_runs e e2 _ h1) (an_ (event_Event_Left_runs e e2 _ h1) (an_ (event_Event_Left_runs e e2 _ h1) (an_ (event_Event_Left_runs e e2 _ h1) (an_ (event_Event_Left_runs e e2 _ h1) (an_ (event_Event_Left_runs e e2 _ h1) (an_ (event_Event_Left_runs e e2 _ h1) (an_ (event_Event_Right_runs e e2 _ h2) (an_ (event_Event_Right_runs e e2 _ h2) (an_ (event_Event_Right_runs e e2 _ h2) (an_ (event_Event_Left_runs e e2 _ h1) (an_ (event_Event_Right_runs e e2 _ h2) (an_ (event_Event_IsLeaf_runs e e2 _ h3) (an_ h4 (an_ (bits_Writer_Put_runs 0 1 n _ h5) (an_ (event_Event_Base_runs e e2 _ h6) (an_ h7 (an_ (rfl : false = false) (an_ (event_Event_Base_runs e e2 _ h6) (an_ h7 (an_ (rfl : false = false) (an_ (event_Event_Base_runs e e2 _ h6) (an_ h7 (an_ (code_zero_runs n2 t _ h8) (an_ h9 (an_ (code_zero_runs n3 t2 _ h10) (an_ h11 (an_ (bits_Writer_Put_2_runs 3 2 n4 l_ _ h12) (an_ (bits_Writer_Put_2_runs 1 1 n5 l_2 _ h13) (an_ (event_Event_Base_runs e e2 _ h6) (an_ h14 (an_ (LRuns.coe (s0 := ⟨[(0, (.av (.one (.ref 0 0)))), (75, (.av (.one (.own 1 0 2 true)))), (76, (.av (.one (.pv (.int .i64 2))))), (77, (.av (.one (.pv (.int .i64 0)))))], [(0, [(.own 0 0 (l_3).length false), (.pv (.int .i64 n6))])], [(0, (.live (.ints .u8 l_3))), (1, (.live (.recs 2 [[(.int .u64 n2), (T_event_halves.pv t)], [(.int .u64 n3), (T_event_halves.pv t2)]])))]⟩) (code_PutEvent_L0_runs (code_PutEvent N) (code_PutEvent_runs N) [(E_event_Event.mk n2 t), (E_event_Event.mk n3 t2)] _ _ h15) ⟨⟨⟨_, rfl, .eq rfl⟩, ⟨_, rfl, .own (by first | rfl | (simp only [List.take_length]; done) | (simp only [List.take_length, List.length_append, List.drop_zero, List.map_append, List.map_take, List.map_drop, List.map_cons, List.map_nil, List.append_nil, List.nil_append, E_event_Event.pv]; done) | (simp; done))⟩, ⟨_, rfl, .eq rfl⟩, ⟨_, rfl, .eq rfl⟩, trivial⟩, ⟨⟨rfl, ⟨.eq rfl, .eq rfl, trivial⟩⟩, trivial⟩, ⟨⟨rfl, .eq rfl⟩, ⟨rfl, .recs (.cons (.cons (.eq rfl) (.cons (.eq rfl) (.nil))) (.cons (.cons (.eq rfl) (.cons (.eq rfl) (.nil))) (.nil)))⟩, trivial⟩⟩) trivial)))))))))))))))))))))))))))))))) (by kernel_rfl) (by kernel_rfl))
/-! ### code_Event -/
noncomputable def code_Event (N : Nat) (e : Int) (e2 : T_event_halves) : Option (List Int) :=
  (bits_NewWriter).bind fun _ =>
  (code_PutEvent_2 N e e2 0).bind fun (n, l_) =>
  (bits_Writer_Bytes n l_).bind fun _ =>
  some l_
theorem code_Event_runs (N : Nat) (e : Int) (e2 : T_event_halves) (r_ : List Int) (h : code_Event N e e2 = some r_) : Runs Try.prog 13 [(.agg [(.pv (.int .u64 e)), (.pv (T_event_halves.pv e2))])] [] [] (code_Event_out e e2 r_) := by
  unfold code_Event at h
  obtain ⟨_, h1, h⟩ := bind_of h
  obtain ⟨⟨n, l_⟩, h2, h⟩ := bind_of h
  obtain ⟨_, h3, h⟩ := bind_of h
  have h := some_of h
  subst h
  exact runs_of (C := cfg) (objs := []) (sc := [.res (bits_NewWriter_out ()), .res (code_PutEvent_2_out e e2 0 (n, l_)), .res (bits_Writer_Bytes_out n l_ ())]) (.k0 (an_ (bits_NewWriter_runs _ h1) (an_ (code_PutEvent_2_runs N e e2 0 _ h2) (an_ (bits_Writer_Bytes_runs n l_ _ h3) trivial))) (by kernel_rfl))
/-! ### kinfolklaw07_CodeOnce -/
noncomputable def kinfolklaw07_CodeOnce (N : Nat) (p : List Int) (q : List Int) (r : List Int) (s : List Int) (same : Bool) : Option (Bool) :=
  (kinfolklaw07_awake N).bind fun b =>
  bif b then
    (kinfolklaw07_made N p q).bind fun (b2, t, n, t2, t3, t4) =>
    (kinfolklaw07_made N r s).bind fun (b3, t5, n2, t6, t7, t8) =>
    bif same then
      (code_Stamp N b2 t n t2).bind fun l_ =>
      (bytes_Equal l_ l_).bind fun b4 =>
      (stamp_Same N b2 t n t2 b2 t n t2).bind fun b5 =>
      bif (b4 == b5) then
        (code_ID N b2 t).bind fun l_2 =>
        (bytes_Equal l_2 l_2).bind fun b6 =>
        (id_Same N b2 t b2 t).bind fun b7 =>
        bif (b6 == b7) then
          (code_Event N n t2).bind fun l_3 =>
          (bytes_Equal l_3 l_3).bind fun b8 =>
          (event_Same N n t2 n t2).bind fun b9 =>
          some (b8 == b9)
        else
          some false
      else
        some false
    else
      (code_Stamp N b2 t n t2).bind fun l_ =>
      (code_Stamp N b3 t5 n2 t6).bind fun l_2 =>
      (bytes_Equal l_ l_2).bind fun b4 =>
      (stamp_Same N b2 t n t2 b3 t5 n2 t6).bind fun b5 =>
      bif (b4 == b5) then
        (code_ID N b2 t).bind fun l_3 =>
        (code_ID N b3 t5).bind fun l_4 =>
        (bytes_Equal l_3 l_4).bind fun b6 =>
        (id_Same N b2 t b3 t5).bind fun b7 =>
        bif (b6 == b7) then
          (code_Event N n t2).bind fun l_5 =>
          (code_Event N n2 t6).bind fun l_6 =>
          (bytes_Equal l_5 l_6).bind fun b8 =>
          (event_Same N n t2 n2 t6).bind fun b9 =>
          some (b8 == b9)
        else
          some false
      else
        some false
  else
    some false
theorem kinfolklaw07_CodeOnce_runs (N : Nat) (p : List Int) (q : List Int) (r : List Int) (s : List Int) (same : Bool) (r_ : Bool) (h : kinfolklaw07_CodeOnce N p q r s same = some r_) : Runs Try.prog 3 [(.one (.pv (.ints .u8 p false))), (.one (.pv (.ints .u8 q false))), (.one (.pv (.ints .u8 r false))), (.one (.pv (.ints .u8 s false))), (.one (.pv (.bool same)))] [] [] (kinfolklaw07_CodeOnce_out p q r s same r_) := by
  unfold kinfolklaw07_CodeOnce at h
  obtain ⟨b, h1, h⟩ := bind_of h
  rcases cond_of h with ⟨h2, h⟩ | ⟨h2, h⟩
  · obtain ⟨⟨b2, t, n, t2, t3, t4⟩, h3, h⟩ := bind_of h
    obtain ⟨⟨b3, t5, n2, t6, t7, t8⟩, h4, h⟩ := bind_of h
    rcases cond_of h with ⟨h5, h⟩ | ⟨h5, h⟩
    · obtain ⟨l_, h6, h⟩ := bind_of h
      obtain ⟨b4, h7, h⟩ := bind_of h
      obtain ⟨b5, h8, h⟩ := bind_of h
      rcases cond_of h with ⟨h9, h⟩ | ⟨h9, h⟩
      · obtain ⟨l_2, h10, h⟩ := bind_of h
        obtain ⟨b6, h11, h⟩ := bind_of h
        obtain ⟨b7, h12, h⟩ := bind_of h
        rcases cond_of h with ⟨h13, h⟩ | ⟨h13, h⟩
        · obtain ⟨l_3, h14, h⟩ := bind_of h
          obtain ⟨b8, h15, h⟩ := bind_of h
          obtain ⟨b9, h16, h⟩ := bind_of h
          have h := some_of h
          subst h
          exact runs_of (C := cfg) (objs := []) (sc := [.res (kinfolklaw07_awake_out b), .br false, .res (kinfolklaw07_made_out p q (b2, t, n, t2, t3, t4)), .res (kinfolklaw07_made_out r s (b3, t5, n2, t6, t7, t8)), .br true, .res (code_Stamp_out b2 t n t2 l_), .res (code_Stamp_out b2 t n t2 l_), .res (code_Stamp_out b2 t n t2 l_), .res (code_Stamp_out b2 t n t2 l_), .res (code_Stamp_out b2 t n t2 l_), .res (code_Stamp_out b2 t n t2 l_), .res (code_Stamp_out b2 t n t2 l_), .res (code_Stamp_out b2 t n t2 l_), .res (bytes_Equal_out l_ l_ b4), .res (code_Stamp_out b2 t n t2 l_), .res (code_Stamp_out b2 t n t2 l_), .res (code_Stamp_out b2 t n t2 l_), .res (code_Stamp_out b2 t n t2 l_), .res (bytes_Equal_out l_ l_ b4), .res (bytes_Equal_out l_ l_ b4), .res (bytes_Equal_out l_ l_ b4), .res (stamp_Same_out b2 t n t2 b2 t n t2 b5), .br true, .res (code_ID_out b2 t l_2), .res (code_ID_out b2 t l_2), .res (code_ID_out b2 t l_2), .res (code_ID_out b2 t l_2), .res (code_ID_out b2 t l_2), .res (code_ID_out b2 t l_2), .res (code_ID_out b2 t l_2), .res (code_ID_out b2 t l_2), .res (bytes_Equal_out l_2 l_2 b6), .res (code_ID_out b2 t l_2), .res (code_ID_out b2 t l_2), .res (code_ID_out b2 t l_2), .res (code_ID_out b2 t l_2), .res (bytes_Equal_out l_2 l_2 b6), .res (bytes_Equal_out l_2 l_2 b6), .res (bytes_Equal_out l_2 l_2 b6), .res (id_Same_out b2 t b2 t b7), .br true, .res (code_Event_out n t2 l_3), .res (code_Event_out n t2 l_3), .res (code_Event_out n t2 l_3), .res (code_Event_out n t2 l_3), .res (code_Event_out n t2 l_3), .res (code_Event_out n t2 l_3), .res (code_Event_out n t2 l_3), .res (code_Event_out n t2 l_3), .res (bytes_Equal_out l_3 l_3 b8), .res (code_Event_out n t2 l_3), .res (code_Event_out n t2 l_3), .res (code_Event_out n t2 l_3), .res (code_Event_out n t2 l_3), .res (bytes_Equal_out l_3 l_3 b8), .res (bytes_Equal_out l_3 l_3 b8), .res (bytes_Equal_out l_3 l_3 b8), .res (event_Same_out n t2 n t2 b9)]) (.k1 (an_ (kinfolklaw07_awake_runs N _ h1) (an_ (not_of2 h2) (an_ (kinfolklaw07_made_runs N p q _ h3) (an_ (kinfolklaw07_made_runs N r s _ h4) (an_ h5 (an_ (code_Stamp_runs N b2 t n t2 _ h6) (an_ (code_Stamp_runs N b2 t n t2 _ h6) (an_ (code_Stamp_runs N b2 t n t2 _ h6) (an_ (code_Stamp_runs N b2 t n t2 _ h6) (an_ (code_Stamp_runs N b2 t n t2 _ h6) (an_ (code_Stamp_runs N b2 t n t2 _ h6) (an_ (code_Stamp_runs N b2 t n t2 _ h6) (an_ (code_Stamp_runs N b2 t n t2 _ h6) (an_ (bytes_Equal_runs l_ l_ _ h7) (an_ (code_Stamp_runs N b2 t n t2 _ h6) (an_ (code_Stamp_runs N b2 t n t2 _ h6) (an_ (code_Stamp_runs N b2 t n t2 _ h6) (an_ (code_Stamp_runs N b2 t n t2 _ h6) (an_ (bytes_Equal_runs l_ l_ _ h7) (an_ (bytes_Equal_runs l_ l_ _ h7) (an_ (bytes_Equal_runs l_ l_ _ h7) (an_ (stamp_Same_runs N b2 t n t2 b2 t n t2 _ h8) (an_ h9 (an_ (code_ID_runs N b2 t _ h10) (an_ (code_ID_runs N b2 t _ h10) (an_ (code_ID_runs N b2 t _ h10) (an_ (code_ID_runs N b2 t _ h10) (an_ (code_ID_runs N b2 t _ h10) (an_ (code_ID_runs N b2 t _ h10) (an_ (code_ID_runs N b2 t _ h10) (an_ (code_ID_runs N b2 t _ h10) (an_ (bytes_Equal_runs l_2 l_2 _ h11) (an_ (code_ID_runs N b2 t _ h10) (an_ (code_ID_runs N b2 t _ h10) (an_ (code_ID_runs N b2 t _ h10) (an_ (code_ID_runs N b2 t _ h10) (an_ (bytes_Equal_runs l_2 l_2 _ h11) (an_ (bytes_Equal_runs l_2 l_2 _ h11) (an_ (bytes_Equal_runs l_2 l_2 _ h11) (an_ (id_Same_runs N b2 t b2 t _ h12) (an_ h13 (an_ (code_Event_runs N n t2 _ h14) (an_ (code_Event_runs N n t2 _ h14) (an_ (code_Event_runs N n t2 _ h14) (an_ (code_Event_runs N n t2 _ h14) (an_ (code_Event_runs N n t2 _ h14) (an_ (code_Event_runs N n t2 _ h14) (an_ (code_Event_runs N n t2 _ h14) (an_ (code_Event_runs N n t2 _ h14) (an_ (bytes_Equal_runs l_3 l_3 _ h15) (an_ (code_Event_runs N n t2 _ h14) (an_ (code_Event_runs N n t2 _ h14) (an_ (code_Event_runs N n t2 _ h14) (an_ (code_Event_runs N n t2 _ h14) (an_ (bytes_Equal_runs l_3 l_3 _ h15) (an_ (bytes_Equal_runs l_3 l_3 _ h15) (an_ (bytes_Equal_runs l_3 l_3 _ h15) (an_ (event_Same_runs N n t2 n t2 _ h16) trivial)))))))))))))))))))))))))))))))))))))))))))))))))))))))))) (by kernel_rfl) (by kernel_rfl))
        · have h := some_of h
          subst h
          exact runs_of (C := cfg) (objs := []) (sc := [.res (kinfolklaw07_awake_out b), .br false, .res (kinfolklaw07_made_out p q (b2, t, n, t2, t3, t4)), .res (kinfolklaw07_made_out r s (b3, t5, n2, t6, t7, t8)), .br true, .res (code_Stamp_out b2 t n t2 l_), .res (code_Stamp_out b2 t n t2 l_), .res (code_Stamp_out b2 t n t2 l_), .res (code_Stamp_out b2 t n t2 l_), .res (code_Stamp_out b2 t n t2 l_), .res (code_Stamp_out b2 t n t2 l_), .res (code_Stamp_out b2 t n t2 l_), .res (code_Stamp_out b2 t n t2 l_), .res (bytes_Equal_out l_ l_ b4), .res (code_Stamp_out b2 t n t2 l_), .res (code_Stamp_out b2 t n t2 l_), .res (code_Stamp_out b2 t n t2 l_), .res (code_Stamp_out b2 t n t2 l_), .res (bytes_Equal_out l_ l_ b4), .res (bytes_Equal_out l_ l_ b4), .res (bytes_Equal_out l_ l_ b4), .res (stamp_Same_out b2 t n t2 b2 t n t2 b5), .br true, .res (code_ID_out b2 t l_2), .res (code_ID_out b2 t l_2), .res (code_ID_out b2 t l_2), .res (code_ID_out b2 t l_2), .res (code_ID_out b2 t l_2), .res (code_ID_out b2 t l_2), .res (code_ID_out b2 t l_2), .res (code_ID_out b2 t l_2), .res (bytes_Equal_out l_2 l_2 b6), .res (code_ID_out b2 t l_2), .res (code_ID_out b2 t l_2), .res (code_ID_out b2 t l_2), .res (code_ID_out b2 t l_2), .res (bytes_Equal_out l_2 l_2 b6), .res (bytes_Equal_out l_2 l_2 b6), .res (bytes_Equal_out l_2 l_2 b6), .res (id_Same_out b2 t b2 t b7), .br false]) (.k1 (an_ (kinfolklaw07_awake_runs N _ h1) (an_ (not_of2 h2) (an_ (kinfolklaw07_made_runs N p q _ h3) (an_ (kinfolklaw07_made_runs N r s _ h4) (an_ h5 (an_ (code_Stamp_runs N b2 t n t2 _ h6) (an_ (code_Stamp_runs N b2 t n t2 _ h6) (an_ (code_Stamp_runs N b2 t n t2 _ h6) (an_ (code_Stamp_runs N b2 t n t2 _ h6) (an_ (code_Stamp_runs N b2 t n t2 _ h6) (an_ (code_Stamp_runs N b2 t n t2 _ h6) (an_ (code_Stamp_runs N b2 t n t2 _ h6) (an_ (code_Stamp_runs N b2 t n t2 _ h6) (an_ (bytes_Equal_runs l_ l_ _ h7) (an_ (code_Stamp_runs N b2 t n t2 _ h6) (an_ (code_Stamp_runs N b2 t n t2 _ h6) (an_ (code_Stamp_runs N b2 t n t2 _ h6) (an_ (code_Stamp_runs N b2 t n t2 _ h6) (an_ (bytes_Equal_runs l_ l_ _ h7) (an_ (bytes_Equal_runs l_ l_ _ h7) (an_ (bytes_Equal_runs l_ l_ _ h7) (an_ (stamp_Same_runs N b2 t n t2 b2 t n t2 _ h8) (an_ h9 (an_ (code_ID_runs N b2 t _ h10) (an_ (code_ID_runs N b2 t _ h10) (an_ (code_ID_runs N b2 t _ h10) (an_ (code_ID_runs N b2 t _ h10) (an_ (code_ID_runs N b2 t _ h10) (an_ (code_ID_runs N b2 t _ h10) (an_ (code_ID_runs N b2 t _ h10) (an_ (code_ID_runs N b2 t _ h10) (an_ (bytes_Equal_runs l_2 l_2 _ h11) (an_ (code_ID_runs N b2 t _ h10) (an_ (code_ID_runs N b2 t _ h10) (an_ (code_ID_runs N b2 t _ h10) (an_ (code_ID_runs N b2 t _ h10) (an_ (bytes_Equal_runs l_2 l_2 _ h11) (an_ (bytes_Equal_runs l_2 l_2 _ h11) (an_ (bytes_Equal_runs l_2 l_2 _ h11) (an_ (id_Same_runs N b2 t b2 t _ h12) (an_ h13 trivial))))))))))))))))))))))))))))))))))))))))) (by kernel_rfl) (by kernel_rfl))
      · have h := some_of h
        subst h
        exact runs_of (C := cfg) (objs := []) (sc := [.res (kinfolklaw07_awake_out b), .br false, .res (kinfolklaw07_made_out p q (b2, t, n, t2, t3, t4)), .res (kinfolklaw07_made_out r s (b3, t5, n2, t6, t7, t8)), .br true, .res (code_Stamp_out b2 t n t2 l_), .res (code_Stamp_out b2 t n t2 l_), .res (code_Stamp_out b2 t n t2 l_), .res (code_Stamp_out b2 t n t2 l_), .res (code_Stamp_out b2 t n t2 l_), .res (code_Stamp_out b2 t n t2 l_), .res (code_Stamp_out b2 t n t2 l_), .res (code_Stamp_out b2 t n t2 l_), .res (bytes_Equal_out l_ l_ b4), .res (code_Stamp_out b2 t n t2 l_), .res (code_Stamp_out b2 t n t2 l_), .res (code_Stamp_out b2 t n t2 l_), .res (code_Stamp_out b2 t n t2 l_), .res (bytes_Equal_out l_ l_ b4), .res (bytes_Equal_out l_ l_ b4), .res (bytes_Equal_out l_ l_ b4), .res (stamp_Same_out b2 t n t2 b2 t n t2 b5), .br false, .br false]) (.k1 (an_ (kinfolklaw07_awake_runs N _ h1) (an_ (not_of2 h2) (an_ (kinfolklaw07_made_runs N p q _ h3) (an_ (kinfolklaw07_made_runs N r s _ h4) (an_ h5 (an_ (code_Stamp_runs N b2 t n t2 _ h6) (an_ (code_Stamp_runs N b2 t n t2 _ h6) (an_ (code_Stamp_runs N b2 t n t2 _ h6) (an_ (code_Stamp_runs N b2 t n t2 _ h6) (an_ (code_Stamp_runs N b2 t n t2 _ h6) (an_ (code_Stamp_runs N b2 t n t2 _ h6) (an_ (code_Stamp_runs N b2 t n t2 _ h6) (an_ (code_Stamp_runs N b2 t n t2 _ h6) (an_ (bytes_Equal_runs l_ l_ _ h7) (an_ (code_Stamp_runs N b2 t n t2 _ h6) (an_ (code_Stamp_runs N b2 t n t2 _ h6) (an_ (code_Stamp_runs N b2 t n t2 _ h6) (an_ (code_Stamp_runs N b2 t n t2 _ h6) (an_ (bytes_Equal_runs l_ l_ _ h7) (an_ (bytes_Equal_runs l_ l_ _ h7) (an_ (bytes_Equal_runs l_ l_ _ h7) (an_ (stamp_Same_runs N b2 t n t2 b2 t n t2 _ h8) (an_ h9 (an_ (rfl : false = false) trivial)))))))))))))))))))))))) (by kernel_rfl) (by kernel_rfl))
    · obtain ⟨l_, h6, h⟩ := bind_of h
      obtain ⟨l_2, h7, h⟩ := bind_of h
      obtain ⟨b4, h8, h⟩ := bind_of h
      obtain ⟨b5, h9, h⟩ := bind_of h
      rcases cond_of h with ⟨h10, h⟩ | ⟨h10, h⟩
      · obtain ⟨l_3, h11, h⟩ := bind_of h
        obtain ⟨l_4, h12, h⟩ := bind_of h
        obtain ⟨b6, h13, h⟩ := bind_of h
        obtain ⟨b7, h14, h⟩ := bind_of h
        rcases cond_of h with ⟨h15, h⟩ | ⟨h15, h⟩
        · obtain ⟨l_5, h16, h⟩ := bind_of h
          obtain ⟨l_6, h17, h⟩ := bind_of h
          obtain ⟨b8, h18, h⟩ := bind_of h
          obtain ⟨b9, h19, h⟩ := bind_of h
          have h := some_of h
          subst h
          exact runs_of (C := cfg) (objs := []) (sc := [.res (kinfolklaw07_awake_out b), .br false, .res (kinfolklaw07_made_out p q (b2, t, n, t2, t3, t4)), .res (kinfolklaw07_made_out r s (b3, t5, n2, t6, t7, t8)), .br false, .res (code_Stamp_out b2 t n t2 l_), .res (code_Stamp_out b2 t n t2 l_), .res (code_Stamp_out b2 t n t2 l_), .res (code_Stamp_out b2 t n t2 l_), .res (code_Stamp_out b2 t n t2 l_), .res (code_Stamp_out b2 t n t2 l_), .res (code_Stamp_out b2 t n t2 l_), .res (code_Stamp_out b3 t5 n2 t6 l_2), .res (bytes_Equal_out l_ l_2 b4), .res (code_Stamp_out b3 t5 n2 t6 l_2), .res (code_Stamp_out b3 t5 n2 t6 l_2), .res (code_Stamp_out b2 t n t2 l_), .res (code_Stamp_out b3 t5 n2 t6 l_2), .res (bytes_Equal_out l_ l_2 b4), .res (bytes_Equal_out l_ l_2 b4), .res (bytes_Equal_out l_ l_2 b4), .res (stamp_Same_out b2 t n t2 b3 t5 n2 t6 b5), .br true, .res (code_ID_out b2 t l_3), .res (code_ID_out b2 t l_3), .res (code_ID_out b2 t l_3), .res (code_ID_out b2 t l_3), .res (code_ID_out b2 t l_3), .res (code_ID_out b2 t l_3), .res (code_ID_out b2 t l_3), .res (code_ID_out b3 t5 l_4), .res (bytes_Equal_out l_3 l_4 b6), .res (code_ID_out b3 t5 l_4), .res (code_ID_out b3 t5 l_4), .res (code_ID_out b2 t l_3), .res (code_ID_out b3 t5 l_4), .res (bytes_Equal_out l_3 l_4 b6), .res (bytes_Equal_out l_3 l_4 b6), .res (bytes_Equal_out l_3 l_4 b6), .res (id_Same_out b2 t b3 t5 b7), .br true, .res (code_Event_out n t2 l_5), .res (code_Event_out n t2 l_5), .res (code_Event_out n t2 l_5), .res (code_Event_out n t2 l_5), .res (code_Event_out n t2 l_5), .res (code_Event_out n t2 l_5), .res (code_Event_out n t2 l_5), .res (code_Event_out n2 t6 l_6), .res (bytes_Equal_out l_5 l_6 b8), .res (code_Event_out n2 t6 l_6), .res (code_Event_out n2 t6 l_6), .res (code_Event_out n t2 l_5), .res (code_Event_out n2 t6 l_6), .res (bytes_Equal_out l_5 l_6 b8), .res (bytes_Equal_out l_5 l_6 b8), .res (bytes_Equal_out l_5 l_6 b8), .res (event_Same_out n t2 n2 t6 b9)]) (.k1 (an_ (kinfolklaw07_awake_runs N _ h1) (an_ (not_of2 h2) (an_ (kinfolklaw07_made_runs N p q _ h3) (an_ (kinfolklaw07_made_runs N r s _ h4) (an_ h5 (an_ (code_Stamp_runs N b2 t n t2 _ h6) (an_ (code_Stamp_runs N b2 t n t2 _ h6) (an_ (code_Stamp_runs N b2 t n t2 _ h6) (an_ (code_Stamp_runs N b2 t n t2 _ h6) (an_ (code_Stamp_runs N b2 t n t2 _ h6) (an_ (code_Stamp_runs N b2 t n t2 _ h6) (an_ (code_Stamp_runs N b2 t n t2 _ h6) (an_ (code_Stamp_runs N b3 t5 n2 t6 _ h7) (an_ (bytes_Equal_runs l_ l_2 _ h8) (an_ (code_Stamp_runs N b3 t5 n2 t6 _ h7) (an_ (code_Stamp_runs N b3 t5 n2 t6 _ h7) (an_ (code_Stamp_runs N b2 t n t2 _ h6) (an_ (code_Stamp_runs N b3 t5 n2 t6 _ h7) (an_ (bytes_Equal_runs l_ l_2 _ h8) (an_ (bytes_Equal_runs l_ l_2 _ h8) (an_ (bytes_Equal_runs l_ l_2 _ h8) (an_ (stamp_Same_runs N b2 t n t2 b3 t5 n2 t6 _ h9) (an_ h10 (an_ (code_ID_runs N b2 t _ h11) (an_ (code_ID_runs N b2 t _ h11) (an_ (code_ID_runs N b2 t _ h11) (an_ (code_ID_runs N b2 t _ h11) (an_ (code_ID_runs N b2 t _ h11) (an_ (code_ID_runs N b2 t _ h11) (an_ (code_ID_runs N b2 t _ h11) (an_ (code_ID_runs N b3 t5 _ h12) (an_ (bytes_Equal_runs l_3 l_4 _ h13) (an_ (code_ID_runs N b3 t5 _ h12) (an_ (code_ID_runs N b3 t5 _ h12) (an_ (code_ID_runs N b2 t _ h11) (an_ (code_ID_runs N b3 t5 _ h12) (an_ (bytes_Equal_runs l_3 l_4 _ h13) (an_ (bytes_Equal_runs l_3 l_4 _ h13) (an_ (bytes_Equal_runs l_3 l_4 _ h13) (an_ (id_Same_runs N b2 t b3 t5 _ h14) (an_ h15 (an_ (code_Event_runs N n t2 _ h16) (an_ (code_Event_runs N n t2 _ h16) (an_ (code_Event_runs N n t2 _ h16) (an_ (code_Event_runs N n t2 _ h16) (an_ (code_Event_runs N n t2 _ h16) (an_ (code_Event_runs N n t2 _ h16) (an_ (code_Event_runs N n t2 _ h16) (an_ (code_Event_runs N n2 t6 _ h17) (an_ (bytes_Equal_runs l_5 l_6 _ h18) (an_ (code_Event_runs N n2 t6 _ h17) (an_ (code_Event_runs N n2 t6 _ h17) (an_ (code_Event_runs N n t2 _ h16) (an_ (code_Event_runs N n2 t6 _ h17) (an_ (bytes_Equal_runs l_5 l_6 _ h18) (an_ (bytes_Equal_runs l_5 l_6 _ h18) (an_ (bytes_Equal_runs l_5 l_6 _ h18) (an_ (event_Same_runs N n t2 n2 t6 _ h19) trivial)))))))))))))))))))))))))))))))))))))))))))))))))))))))))) (by kernel_rfl) (by kernel_rfl))
        · have h := some_of h
          subst h
          exact runs_of (C := cfg) (objs := []) (sc := [.res (kinfolklaw07_awake_out b), .br false, .res (kinfolklaw07_made_out p q (b2, t, n, t2, t3, t4)), .res (kinfolklaw07_made_out r s (b3, t5, n2, t6, t7, t8)), .br false, .res (code_Stamp_out b2 t n t2 l_), .res (code_Stamp_out b2 t n t2 l_), .res (code_Stamp_out b2 t n t2 l_), .res (code_Stamp_out b2 t n t2 l_), .res (code_Stamp_out b2 t n t2 l_), .res (code_Stamp_out b2 t n t2 l_), .res (code_Stamp_out b2 t n t2 l_), .res (code_Stamp_out b3 t5 n2 t6 l_2), .res (bytes_Equal_out l_ l_2 b4), .res (code_Stamp_out b3 t5 n2 t6 l_2), .res (code_Stamp_out b3 t5 n2 t6 l_2), .res (code_Stamp_out b2 t n t2 l_), .res (code_Stamp_out b3 t5 n2 t6 l_2), .res (bytes_Equal_out l_ l_2 b4), .res (bytes_Equal_out l_ l_2 b4), .res (bytes_Equal_out l_ l_2 b4), .res (stamp_Same_out b2 t n t2 b3 t5 n2 t6 b5), .br true, .res (code_ID_out b2 t l_3), .res (code_ID_out b2 t l_3), .res (code_ID_out b2 t l_3), .res (code_ID_out b2 t l_3), .res (code_ID_out b2 t l_3), .res (code_ID_out b2 t l_3), .res (code_ID_out b2 t l_3), .res (code_ID_out b3 t5 l_4), .res (bytes_Equal_out l_3 l_4 b6), .res (code_ID_out b3 t5 l_4), .res (code_ID_out b3 t5 l_4), .res (code_ID_out b2 t l_3), .res (code_ID_out b3 t5 l_4), .res (bytes_Equal_out l_3 l_4 b6), .res (bytes_Equal_out l_3 l_4 b6), .res (bytes_Equal_out l_3 l_4 b6), .res (id_Same_out b2 t b3 t5 b7), .br false]) (.k1 (an_ (kinfolklaw07_awake_runs N _ h1) (an_ (not_of2 h2) (an_ (kinfolklaw07_made_runs N p q _ h3) (an_ (kinfolklaw07_made_runs N r s _ h4) (an_ h5 (an_ (code_Stamp_runs N b2 t n t2 _ h6) (an_ (code_Stamp_runs N b2 t n t2 _ h6) (an_ (code_Stamp_runs N b2 t n t2 _ h6) (an_ (code_Stamp_runs N b2 t n t2 _ h6) (an_ (code_Stamp_runs N b2 t n t2 _ h6) (an_ (code_Stamp_runs N b2 t n t2 _ h6) (an_ (code_Stamp_runs N b2 t n t2 _ h6) (an_ (code_Stamp_runs N b3 t5 n2 t6 _ h7) (an_ (bytes_Equal_runs l_ l_2 _ h8) (an_ (code_Stamp_runs N b3 t5 n2 t6 _ h7) (an_ (code_Stamp_runs N b3 t5 n2 t6 _ h7) (an_ (code_Stamp_runs N b2 t n t2 _ h6) (an_ (code_Stamp_runs N b3 t5 n2 t6 _ h7) (an_ (bytes_Equal_runs l_ l_2 _ h8) (an_ (bytes_Equal_runs l_ l_2 _ h8) (an_ (bytes_Equal_runs l_ l_2 _ h8) (an_ (stamp_Same_runs N b2 t n t2 b3 t5 n2 t6 _ h9) (an_ h10 (an_ (code_ID_runs N b2 t _ h11) (an_ (code_ID_runs N b2 t _ h11) (an_ (code_ID_runs N b2 t _ h11) (an_ (code_ID_runs N b2 t _ h11) (an_ (code_ID_runs N b2 t _ h11) (an_ (code_ID_runs N b2 t _ h11) (an_ (code_ID_runs N b2 t _ h11) (an_ (code_ID_runs N b3 t5 _ h12) (an_ (bytes_Equal_runs l_3 l_4 _ h13) (an_ (code_ID_runs N b3 t5 _ h12) (an_ (code_ID_runs N b3 t5 _ h12) (an_ (code_ID_runs N b2 t _ h11) (an_ (code_ID_runs N b3 t5 _ h12) (an_ (bytes_Equal_runs l_3 l_4 _ h13) (an_ (bytes_Equal_runs l_3 l_4 _ h13) (an_ (bytes_Equal_runs l_3 l_4 _ h13) (an_ (id_Same_runs N b2 t b3 t5 _ h14) (an_ h15 trivial))))))))))))))))))))))))))))))))))))))))) (by kernel_rfl) (by kernel_rfl))
      · have h := some_of h
        subst h
        exact runs_of (C := cfg) (objs := []) (sc := [.res (kinfolklaw07_awake_out b), .br false, .res (kinfolklaw07_made_out p q (b2, t, n, t2, t3, t4)), .res (kinfolklaw07_made_out r s (b3, t5, n2, t6, t7, t8)), .br false, .res (code_Stamp_out b2 t n t2 l_), .res (code_Stamp_out b2 t n t2 l_), .res (code_Stamp_out b2 t n t2 l_), .res (code_Stamp_out b2 t n t2 l_), .res (code_Stamp_out b2 t n t2 l_), .res (code_Stamp_out b2 t n t2 l_), .res (code_Stamp_out b2 t n t2 l_), .res (code_Stamp_out b3 t5 n2 t6 l_2), .res (bytes_Equal_out l_ l_2 b4), .res (code_Stamp_out b3 t5 n2 t6 l_2), .res (code_Stamp_out b3 t5 n2 t6 l_2), .res (code_Stamp_out b2 t n t2 l_), .res (code_Stamp_out b3 t5 n2 t6 l_2), .res (bytes_Equal_out l_ l_2 b4), .res (bytes_Equal_out l_ l_2 b4), .res (bytes_Equal_out l_ l_2 b4), .res (stamp_Same_out b2 t n t2 b3 t5 n2 t6 b5), .br false, .br false]) (.k1 (an_ (kinfolklaw07_awake_runs N _ h1) (an_ (not_of2 h2) (an_ (kinfolklaw07_made_runs N p q _ h3) (an_ (kinfolklaw07_made_runs N r s _ h4) (an_ h5 (an_ (code_Stamp_runs N b2 t n t2 _ h6) (an_ (code_Stamp_runs N b2 t n t2 _ h6) (an_ (code_Stamp_runs N b2 t n t2 _ h6) (an_ (code_Stamp_runs N b2 t n t2 _ h6) (an_ (code_Stamp_runs N b2 t n t2 _ h6) (an_ (code_Stamp_runs N b2 t n t2 _ h6) (an_ (code_Stamp_runs N b2 t n t2 _ h6) (an_ (code_Stamp_runs N b3 t5 n2 t6 _ h7) (an_ (bytes_Equal_runs l_ l_2 _ h8) (an_ (code_Stamp_runs N b3 t5 n2 t6 _ h7) (an_ (code_Stamp_runs N b3 t5 n2 t6 _ h7) (an_ (code_Stamp_runs N b2 t n t2 _ h6) (an_ (code_Stamp_runs N b3 t5 n2 t6 _ h7) (an_ (bytes_Equal_runs l_ l_2 _ h8) (an_ (bytes_Equal_runs l_ l_2 _ h8) (an_ (bytes_Equal_runs l_ l_2 _ h8) (an_ (stamp_Same_runs N b2 t n t2 b3 t5 n2 t6 _ h9) (an_ h10 (an_ (rfl : false = false) trivial)))))))))))))))))))))))) (by kernel_rfl) (by kernel_rfl))
  · have h := some_of h
    subst h
    exact runs_of (C := cfg) (objs := []) (sc := [.res (kinfolklaw07_awake_out b), .br true]) (.k0 (an_ (kinfolklaw07_awake_runs N _ h1) (an_ (not_of h2) trivial)) (by kernel_rfl))
/-! ### kinfolklaw07_CodeRows_out -/
def kinfolklaw07_CodeRows_out (p : List Int) (q : List Int) (r : List Int) (tail : Int) : Bool → Res
  | r1 => ([(.one (.pv (.bool r1)))], [], [])
/-! ### bits_NewReader_out -/
def bits_NewReader_out (p : List Int) : Unit → Res
  | _ => ([(.one (.ref 0 0))], [[(.pv (.ints .u8 p false)), (.pv (.int .i64 0)), (.pv (.int .i64 0))]], [])
/-! ### bits_NewReader -/
noncomputable def bits_NewReader (p : List Int) : Option (Unit) :=
  bif fits (p).length then
  some ()
  else none
theorem bits_NewReader_runs (p : List Int) (r_ : Unit) (h : bits_NewReader p = some r_) : Runs Try.prog 19 [(.one (.pv (.ints .u8 p false)))] [] [] (bits_NewReader_out p r_) := by
  unfold bits_NewReader at h
  obtain ⟨h1, h⟩ := need_of h
  have h := some_of h
  subst h
  exact runs_of (C := cfg) (objs := []) (sc := [.res ([(.one (.pv (.ints .u8 p false)))], [], [])]) (.k0 (an_ (bytes_Clone_runs (l := p) (t := false) h1) trivial) (by kernel_rfl))
/-! ### code_GetEvent_out -/
def code_GetEvent_out (l : List Int) (n : Int) (n2 : Int) : Int × T_event_halves × Int × Int × Int → Res
  | (r1, r2, r3, r4, r5) => ([(.agg [(.pv (.int .u64 r1)), (.pv (T_event_halves.pv r2))]), (.one (.pv (.int .i64 r3)))], [[(.pv (.ints .u8 l false)), (.pv (.int .i64 r4)), (.pv (.int .i64 r5))]], [])
/-! ### code_source_bit_out -/
def code_source_bit_out (k : Int) (n : Int) (l : List Int) (n2 : Int) (n3 : Int) : Int × Int × Int × Int → Res
  | (r1, r2, r3, r4) => ([(.one (.pv (.int .u64 r1)))], [[(.ref 1 0), (.pv (.int .i64 r2))], [(.pv (.ints .u8 l false)), (.pv (.int .i64 r3)), (.pv (.int .i64 r4))]], [])
/-! ### code_source_ok_out -/
def code_source_ok_out (n : Int) (l : List Int) (n2 : Int) (n3 : Int) : Bool × Int → Res
  | (r1, r2) => ([(.one (.pv (.bool r1)))], [[(.ref 1 0), (.pv (.int .i64 r2))], [(.pv (.ints .u8 l false)), (.pv (.int .i64 n2)), (.pv (.int .i64 n3))]], [])
/-! ### bits_Reader_Err_out -/
def bits_Reader_Err_out (l : List Int) (n : Int) (n2 : Int) : Unit → Res
  | _ => ([(.one (.pv (.int .i64 n2)))], [[(.pv (.ints .u8 l false)), (.pv (.int .i64 n)), (.pv (.int .i64 n2))]], [])
/-! ### bits_Reader_Err -/
noncomputable def bits_Reader_Err (l : List Int) (n : Int) (n2 : Int) : Option (Unit) :=
  some ()
theorem bits_Reader_Err_runs (l : List Int) (n : Int) (n2 : Int) (r_ : Unit) (h : bits_Reader_Err l n n2 = some r_) : Runs Try.prog 54 [(.one (.ref 0 0))] [[(.pv (.ints .u8 l false)), (.pv (.int .i64 n)), (.pv (.int .i64 n2))]] [] (bits_Reader_Err_out l n n2 r_) := by
  unfold bits_Reader_Err at h
  have h := some_of h
  subst h
  exact runs_of (C := cfg) (objs := [[(.pv (.ints .u8 l false)), (.pv (.int .i64 n)), (.pv (.int .i64 n2))]]) (sc := [.br false]) (.k0 (an_ (rfl : false = false) trivial) (by kernel_rfl))
/-! ### code_source_fail_out -/
def code_source_fail_out (e : Int) (n : Int) (l : List Int) (n2 : Int) (n3 : Int) : Int → Res
  | r1 => ([], [[(.ref 1 0), (.pv (.int .i64 r1))], [(.pv (.ints .u8 l false)), (.pv (.int .i64 n2)), (.pv (.int .i64 n3))]], [])
/-! ### code_source_fail -/
noncomputable def code_source_fail (e : Int) (n : Int) (l : List Int) (n2 : Int) (n3 : Int) : Option (Int) :=
  bif (decide ((n : Int) = 0)) then
    some e
  else
    some n
theorem code_source_fail_runs (e : Int) (n : Int) (l : List Int) (n2 : Int) (n3 : Int) (r_ : Int) (h : code_source_fail e n l n2 n3 = some r_) : Runs Try.prog 74 [(.one (.ref 0 0)), (.one (.pv (.int .i64 e)))] [[(.ref 1 0), (.pv (.int .i64 n))], [(.pv (.ints .u8 l false)), (.pv (.int .i64 n2)), (.pv (.int .i64 n3))]] [] (code_source_fail_out e n l n2 n3 r_) := by
  unfold code_source_fail at h
  rcases cond_of h with ⟨h1, h⟩ | ⟨h1, h⟩
  · have h := some_of h
    subst h
    exact runs_of (C := cfg) (objs := [[(.ref 1 0), (.pv (.int .i64 n))], [(.pv (.ints .u8 l false)), (.pv (.int .i64 n2)), (.pv (.int .i64 n3))]]) (sc := [.br true]) (.k0 (an_ h1 trivial) (by kernel_rfl))
  · have h := some_of h
    subst h
    exact runs_of (C := cfg) (objs := [[(.ref 1 0), (.pv (.int .i64 n))], [(.pv (.ints .u8 l false)), (.pv (.int .i64 n2)), (.pv (.int .i64 n3))]]) (sc := [.br false]) (.k0 (an_ h1 trivial) (by kernel_rfl))
/-! ### code_source_ok -/
noncomputable def code_source_ok (n : Int) (l : List Int) (n2 : Int) (n3 : Int) : Option (Bool × Int) :=
  (bits_Reader_Err l n2 n3).bind fun _ =>
  bif (decide ((n3 : Int) = 0)) then
    some ((decide ((n : Int) = 0)), n)
  else
    (code_source_fail 6 n l n2 n3).bind fun n4 =>
    some ((decide ((n4 : Int) = 0)), n4)
theorem code_source_ok_runs (n : Int) (l : List Int) (n2 : Int) (n3 : Int) (r_ : Bool × Int) (h : code_source_ok n l n2 n3 = some r_) : Runs Try.prog 76 [(.one (.ref 0 0))] [[(.ref 1 0), (.pv (.int .i64 n))], [(.pv (.ints .u8 l false)), (.pv (.int .i64 n2)), (.pv (.int .i64 n3))]] [] (code_source_ok_out n l n2 n3 r_) := by
  unfold code_source_ok at h
  obtain ⟨_, h1, h⟩ := bind_of h
  rcases cond_of h with ⟨h2, h⟩ | ⟨h2, h⟩
  · have h := some_of h
    subst h
    exact runs_of (C := cfg) (objs := [[(.ref 1 0), (.pv (.int .i64 n))], [(.pv (.ints .u8 l false)), (.pv (.int .i64 n2)), (.pv (.int .i64 n3))]]) (sc := [.res (bits_Reader_Err_out l n2 n3 ()), .br false]) (.k0 (an_ (bits_Reader_Err_runs l n2 n3 _ h1) (an_ (not_of2 h2) trivial)) (by kernel_rfl))
  · obtain ⟨n4, h3, h⟩ := bind_of h
    have h := some_of h
    subst h
    exact runs_of (C := cfg) (objs := [[(.ref 1 0), (.pv (.int .i64 n))], [(.pv (.ints .u8 l false)), (.pv (.int .i64 n2)), (.pv (.int .i64 n3))]]) (sc := [.res (bits_Reader_Err_out l n2 n3 ()), .br true, .res (code_source_fail_out 6 n l n2 n3 n4)]) (.k0 (an_ (bits_Reader_Err_runs l n2 n3 _ h1) (an_ (not_of h2) (an_ (code_source_fail_runs 6 n l n2 n3 _ h3) trivial))) (by kernel_rfl))
/-! ### bits_Reader_Get_out -/
def bits_Reader_Get_out (k : Int) (l : List Int) (n : Int) (n2 : Int) : Int × Int × Int → Res
  | (r1, r2, r3) => ([(.one (.pv (.int .u64 r1)))], [[(.pv (.ints .u8 l false)), (.pv (.int .i64 r2)), (.pv (.int .i64 r3))]], [])
/-! ### bits_Reader_Left_out -/
def bits_Reader_Left_out (l : List Int) (n : Int) (n2 : Int) : Int → Res
  | r1 => ([(.one (.pv (.int .i64 r1)))], [[(.pv (.ints .u8 l false)), (.pv (.int .i64 n)), (.pv (.int .i64 n2))]], [])
/-! ### bits_Reader_Left -/
noncomputable def bits_Reader_Left (l : List Int) (n : Int) (n2 : Int) : Option (Int) :=
  some (isub .i64 (imul .i64 8 ((l).length : Int)) n)
theorem bits_Reader_Left_runs (l : List Int) (n : Int) (n2 : Int) (r_ : Int) (h : bits_Reader_Left l n n2 = some r_) : Runs Try.prog 55 [(.one (.ref 0 0))] [[(.pv (.ints .u8 l false)), (.pv (.int .i64 n)), (.pv (.int .i64 n2))]] [] (bits_Reader_Left_out l n n2 r_) := by
  unfold bits_Reader_Left at h
  have h := some_of h
  subst h
  exact runs_of (C := cfg) (objs := [[(.pv (.ints .u8 l false)), (.pv (.int .i64 n)), (.pv (.int .i64 n2))]]) (sc := [.br false]) (.k1 (an_ (rfl : false = false) trivial) (by kernel_rfl) (by kernel_rfl))
/-! ### bits_Reader_fail_out -/
def bits_Reader_fail_out (l : List Int) (n : Int) (n2 : Int) : Int → Res
  | r1 => ([(.one (.pv (.int .u64 0)))], [[(.pv (.ints .u8 l false)), (.pv (.int .i64 n)), (.pv (.int .i64 r1))]], [])
/-! ### bits_Reader_fail -/
noncomputable def bits_Reader_fail (l : List Int) (n : Int) (n2 : Int) : Option (Int) :=
  bif (decide ((n2 : Int) = 0)) then
    some 6
  else
    some n2
theorem bits_Reader_fail_runs (l : List Int) (n : Int) (n2 : Int) (r_ : Int) (h : bits_Reader_fail l n n2 = some r_) : Runs Try.prog 56 [(.one (.ref 0 0))] [[(.pv (.ints .u8 l false)), (.pv (.int .i64 n)), (.pv (.int .i64 n2))]] [] (bits_Reader_fail_out l n n2 r_) := by
  unfold bits_Reader_fail at h
  rcases cond_of h with ⟨h1, h⟩ | ⟨h1, h⟩
  · have h := some_of h
    subst h
    exact runs_of (C := cfg) (objs := [[(.pv (.ints .u8 l false)), (.pv (.int .i64 n)), (.pv (.int .i64 n2))]]) (sc := [.br true, .br true]) (.k0 (an_ (rfl : true = true) (an_ h1 trivial)) (by kernel_rfl))
  · have h := some_of h
    subst h
    exact runs_of (C := cfg) (objs := [[(.pv (.ints .u8 l false)), (.pv (.int .i64 n)), (.pv (.int .i64 n2))]]) (sc := [.br true, .br false]) (.k0 (an_ (rfl : true = true) (an_ h1 trivial)) (by kernel_rfl))
/-! ### bits_Reader_Get_L0 -/
def bits_Reader_Get_L0_st (n : Int) (l : List Int) (n3 : Int) : Int × Int × Int → St
  | (n4, n5, n2) => ⟨[(0, (.av (.one (.ref 0 0)))), (5, (.av (.one (.pv (.int .u64 n4))))), (20, (.av (.one (.pv (.int .i64 n))))), (21, (.av (.one (.pv (.int .i64 n5)))))], [(0, [(.pv (.ints .u8 l false)), (.pv (.int .i64 n2)), (.pv (.int .i64 n3))])], []⟩
def bits_Reader_Get_L0_ex (n : Int) (l : List Int) (n3 : Int) : Int × Int → Ex × St
  | (r1, r2) => ((.exit 0), ⟨[(5, (.av (.one (.pv (.int .u64 r1)))))], [(0, [(.pv (.ints .u8 l false)), (.pv (.int .i64 r2)), (.pv (.int .i64 n3))])], []⟩)
noncomputable def bits_Reader_Get_L0_step (n : Int) (l : List Int) (n3 : Int) : Int × Int × Int → Option ((Int × Int × Int) ⊕ (Int × Int))
  | (n4, n5, n2) =>
  bif (decide ((n5 : Int) < n)) then
    bif decide ((0 : Int) ≤ (iquo .i64 n2 8)) && decide (((iquo .i64 n2 8) : Int) < ((l).length : Int)) then
    bif decide ((0 : Int) ≤ (isub .i64 7 (irem .i64 n2 8))) then
    some (.inl ((ior .u64 (ishl .u64 n4 1) (IntKind.u64.wrap (iand .u8 (ishr .u8 (l.getD ((iquo .i64 n2 8)).toNat 0) (isub .i64 7 (irem .i64 n2 8))) 1))), (iadd .i64 n5 1), (iadd .i64 n2 1)))
    else none
    else none
  else
    some (.inr (n4, n2))
theorem bits_Reader_Get_L0_ok (n : Int) (l : List Int) (n3 : Int) (s_ : Int × Int × Int) (z_ : (Int × Int × Int) ⊕ (Int × Int)) (h : bits_Reader_Get_L0_step n l n3 s_ = some z_) : RoundOk Try.prog cfg 23 1 (loopAt Try.prog 23 0) (bits_Reader_Get_L0_st n l n3) (bits_Reader_Get_L0_ex n l n3) s_ z_ := by
  rcases s_ with ⟨n4, n5, n2⟩
  rcases cond_of h with ⟨h1, h⟩ | ⟨h1, h⟩
  · obtain ⟨h2, h⟩ := need_of h
    obtain ⟨h3, h⟩ := need_of h
    have h := some_of h
    subst h
    exact ⟨[.br true], bits_Reader_Get_L0_st n l n3 ((ior .u64 (ishl .u64 n4 1) (IntKind.u64.wrap (iand .u8 (ishr .u8 (l.getD ((iquo .i64 n2 8)).toNat 0) (isub .i64 7 (irem .i64 n2 8))) 1))), (iadd .i64 n5 1), (iadd .i64 n2 1)), .k1 (an_ h1 (an_ (rfl : true = true) (an_ (rfl : true = true) (an_ (rfl : true = true) (an_ (rfl : true = true) (an_ (rfl : true = true) (an_ h2 (an_ (rfl : true = true) (an_ (rfl : true = true) (an_ (rfl : true = true) (an_ h2 (an_ h3 (an_ (rfl : true = true) trivial))))))))))))) (by kernel_rfl) (by kernel_rfl), .same (by kernel_rfl)⟩
  · have h := some_of h
    subst h
    exact ⟨[.br false], ⟨[(22, (.av (.one (.pv (.bool false))))), (0, (.av (.one (.ref 0 0)))), (5, (.av (.one (.pv (.int .u64 n4))))), (20, (.av (.one (.pv (.int .i64 n))))), (21, (.av (.one (.pv (.int .i64 n5))))), (22, (.av (.one (.pv (.bool (decide ((n5 : Int) < n)))))))], [(0, [(.pv (.ints .u8 l false)), (.pv (.int .i64 n2)), (.pv (.int .i64 n3))])], []⟩, .k0 (an_ h1 trivial) (by kernel_rfl), ⟨⟨⟨_, rfl, .eq rfl⟩, trivial⟩, ⟨⟨rfl, ⟨.eq rfl, .eq rfl, .eq rfl, trivial⟩⟩, trivial⟩, trivial⟩⟩
theorem bits_Reader_Get_L0_runs (n : Int) (l : List Int) (n3 : Int) (s_ : Int × Int × Int) (r_ : Int × Int) (h : runL (bits_Reader_Get_L0_step n l n3) s_ = some r_) : LRuns Try.prog (lEnv Try.prog cfg 23 1).nt 1 (.loop (loopAt Try.prog 23 0)) (bits_Reader_Get_L0_st n l n3 s_) (bits_Reader_Get_L0_ex n l n3 r_).1 (bits_Reader_Get_L0_ex n l n3 r_).2 :=
  loop_run h (bits_Reader_Get_L0_ok n l n3) (by intro r_; rcases r_ with ⟨r1, r2⟩ <;> simp [bits_Reader_Get_L0_ex])
/-! ### bits_Reader_Get -/
noncomputable def bits_Reader_Get (k : Int) (l : List Int) (n : Int) (n2 : Int) : Option (Int × Int × Int) :=
  (bits_within k).bind fun n3 =>
  (bits_Reader_Err l n n2).bind fun _ =>
  bif (decide ((n2 : Int) = 0)) then
    (bits_Reader_Left l n n2).bind fun n4 =>
    bif (decide ((n4 : Int) < n3)) then
      (bits_Reader_fail l n n2).bind fun n5 =>
      some (0, n, n5)
    else
      (runL (bits_Reader_Get_L0_step n3 l n2) (0, 0, n)).bind fun (n5, n6) =>
      some (n5, n6, n2)
  else
    (bits_Reader_fail l n n2).bind fun n4 =>
    some (0, n, n4)
theorem bits_Reader_Get_runs (k : Int) (l : List Int) (n : Int) (n2 : Int) (r_ : Int × Int × Int) (h : bits_Reader_Get k l n n2 = some r_) : Runs Try.prog 23 [(.one (.ref 0 0)), (.one (.pv (.int .i64 k)))] [[(.pv (.ints .u8 l false)), (.pv (.int .i64 n)), (.pv (.int .i64 n2))]] [] (bits_Reader_Get_out k l n n2 r_) := by
  unfold bits_Reader_Get at h
  obtain ⟨n3, h1, h⟩ := bind_of h
  obtain ⟨_, h2, h⟩ := bind_of h
  rcases cond_of h with ⟨h3, h⟩ | ⟨h3, h⟩
  · obtain ⟨n4, h4, h⟩ := bind_of h
    rcases cond_of h with ⟨h5, h⟩ | ⟨h5, h⟩
    · obtain ⟨n5, h6, h⟩ := bind_of h
      have h := some_of h
      subst h
      exact runs_of (C := cfg) (objs := [[(.pv (.ints .u8 l false)), (.pv (.int .i64 n)), (.pv (.int .i64 n2))]]) (sc := [.res (bits_within_out k n3), .res (bits_Reader_Err_out l n n2 ()), .br false, .res (bits_Reader_Left_out l n n2 n4), .br true, .res (bits_Reader_fail_out l n n2 n5)]) (.k0 (an_ (bits_within_runs k _ h1) (an_ (bits_Reader_Err_runs l n n2 _ h2) (an_ (not_of2 h3) (an_ (bits_Reader_Left_runs l n n2 _ h4) (an_ h5 (an_ (bits_Reader_fail_runs l n n2 _ h6) trivial)))))) (by kernel_rfl))
    · obtain ⟨⟨n5, n6⟩, h6, h⟩ := bind_of h
      have h := some_of h
      subst h
      exact runs_of (C := cfg) (objs := [[(.pv (.ints .u8 l false)), (.pv (.int .i64 n)), (.pv (.int .i64 n2))]]) (sc := [.res (bits_within_out k n3), .res (bits_Reader_Err_out l n n2 ()), .br false, .res (bits_Reader_Left_out l n n2 n4), .br false, .lp (bits_Reader_Get_L0_ex n3 l n2 (n5, n6)).1 (bits_Reader_Get_L0_ex n3 l n2 (n5, n6)).2]) (.k0 (an_ (bits_within_runs k _ h1) (an_ (bits_Reader_Err_runs l n n2 _ h2) (an_ (not_of2 h3) (an_ (bits_Reader_Left_runs l n n2 _ h4) (an_ h5 (an_ (bits_Reader_Get_L0_runs n3 l n2 _ _ h6) trivial)))))) (by kernel_rfl))
  · obtain ⟨n4, h4, h⟩ := bind_of h
    have h := some_of h
    subst h
    exact runs_of (C := cfg) (objs := [[(.pv (.ints .u8 l false)), (.pv (.int .i64 n)), (.pv (.int .i64 n2))]]) (sc := [.res (bits_within_out k n3), .res (bits_Reader_Err_out l n n2 ()), .br true, .br true, .res (bits_Reader_fail_out l n n2 n4)]) (.k0 (an_ (bits_within_runs k _ h1) (an_ (bits_Reader_Err_runs l n n2 _ h2) (an_ (not_of h3) (an_ (rfl : true = true) (an_ (bits_Reader_fail_runs l n n2 _ h4) trivial))))) (by kernel_rfl))
/-! ### code_source_bit -/
noncomputable def code_source_bit (k : Int) (n : Int) (l : List Int) (n2 : Int) (n3 : Int) : Option (Int × Int × Int × Int) :=
  (code_source_ok n l n2 n3).bind fun (b, n4) =>
  bif b then
    (bits_Reader_Get k l n2 n3).bind fun (n5, n6, n7) =>
    (code_source_ok n4 l n6 n7).bind fun (b2, n8) =>
    some (n5, n8, n6, n7)
  else
    some (0, n4, n2, n3)
theorem code_source_bit_runs (k : Int) (n : Int) (l : List Int) (n2 : Int) (n3 : Int) (r_ : Int × Int × Int × Int) (h : code_source_bit k n l n2 n3 = some r_) : Runs Try.prog 72 [(.one (.ref 0 0)), (.one (.pv (.int .i64 k)))] [[(.ref 1 0), (.pv (.int .i64 n))], [(.pv (.ints .u8 l false)), (.pv (.int .i64 n2)), (.pv (.int .i64 n3))]] [] (code_source_bit_out k n l n2 n3 r_) := by
  unfold code_source_bit at h
  obtain ⟨⟨b, n4⟩, h1, h⟩ := bind_of h
  rcases cond_of h with ⟨h2, h⟩ | ⟨h2, h⟩
  · obtain ⟨⟨n5, n6, n7⟩, h3, h⟩ := bind_of h
    obtain ⟨⟨b2, n8⟩, h4, h⟩ := bind_of h
    have h := some_of h
    subst h
    exact runs_of (C := cfg) (objs := [[(.ref 1 0), (.pv (.int .i64 n))], [(.pv (.ints .u8 l false)), (.pv (.int .i64 n2)), (.pv (.int .i64 n3))]]) (sc := [.res (code_source_ok_out n l n2 n3 (b, n4)), .br false, .res (bits_Reader_Get_out k l n2 n3 (n5, n6, n7)), .res (code_source_ok_out n4 l n6 n7 (b2, n8))]) (.k0 (an_ (code_source_ok_runs n l n2 n3 _ h1) (an_ (not_of2 h2) (an_ (bits_Reader_Get_runs k l n2 n3 _ h3) (an_ (code_source_ok_runs n4 l n6 n7 _ h4) trivial)))) (by kernel_rfl))
  · have h := some_of h
    subst h
    exact runs_of (C := cfg) (objs := [[(.ref 1 0), (.pv (.int .i64 n))], [(.pv (.ints .u8 l false)), (.pv (.int .i64 n2)), (.pv (.int .i64 n3))]]) (sc := [.res (code_source_ok_out n l n2 n3 (b, n4)), .br true]) (.k0 (an_ (code_source_ok_runs n l n2 n3 _ h1) (an_ (not_of h2) trivial)) (by kernel_rfl))
/-! ### code_source_number_out -/
def code_source_number_out (n : Int) (l : List Int) (n2 : Int) (n3 : Int) : Int × Int × Int × Int → Res
  | (r1, r2, r3, r4) => ([(.one (.pv (.int .u64 r1)))], [[(.ref 1 0), (.pv (.int .i64 r2))], [(.pv (.ints .u8 l false)), (.pv (.int .i64 r3)), (.pv (.int .i64 r4))]], [])
/-! ### bits_Reader_Num_out -/
def bits_Reader_Num_out (l : List Int) (n : Int) (n2 : Int) : Int × Int × Int → Res
  | (r1, r2, r3) => ([(.one (.pv (.int .u64 r1)))], [[(.pv (.ints .u8 l false)), (.pv (.int .i64 r2)), (.pv (.int .i64 r3))]], [])
/-! ### bits_Reader_Num_S0 -/
def bits_Reader_Num_S0_st (was : Int) (l : List Int) : Int × Int × Int × Int → St
  | (b, base, n, n2) => ⟨[(0, (.av (.one (.ref 0 0)))), (3, (.av (.one (.pv (.int .i64 was))))), (4, (.av (.one (.pv (.int .i64 b))))), (5, (.av (.one (.pv (.int .u64 base)))))], [(0, [(.pv (.ints .u8 l false)), (.pv (.int .i64 n)), (.pv (.int .i64 n2))])], []⟩
def bits_Reader_Num_S0_ex (was : Int) (l : List Int) : Int × Int × Int → Ex × St
  | (r1, r2, r3) => (.ret, ⟨[(2, (.av (.one (.pv (.int .u64 r1)))))], [(0, [(.pv (.ints .u8 l false)), (.pv (.int .i64 r2)), (.pv (.int .i64 r3))])], []⟩)
noncomputable def bits_Reader_Num_S0_step (was : Int) (l : List Int) : Int × Int × Int × Int → Option ((Int × Int × Int × Int) ⊕ (Int × Int × Int))
  | (b, base, n, n2) =>
  (bits_Reader_Get 1 l n n2).bind fun (n3, n4, n5) =>
  bif (decide ((n3 : Int) = 1)) then
    bif decide ((0 : Int) ≤ b) then
    bif (decide (((iadd .i64 b 1) : Int) < 64)) then
      some (.inl ((iadd .i64 b 1), (iadd .u64 base (ishl .u64 1 b)), n4, n5))
    else
      (bits_Reader_Get 1 l n4 n5).bind fun (n6, n7, n8) =>
      bif (decide ((n6 : Int) = 1)) then
        (bits_Reader_fail l n7 n8).bind fun n9 =>
        (bits_Reader_Get (iadd .i64 b 1) l n7 n9).bind fun (n10, n11, n12) =>
        bif (decide ((n12 : Int) = 0)) then
          bif (decide (((isub .u64 18446744073709551615 (iadd .u64 base (ishl .u64 1 b))) : Int) < n10)) then
            (bits_Reader_fail l was n12).bind fun n13 =>
            some (.inr (0, was, n13))
          else
            some (.inr ((iadd .u64 (iadd .u64 base (ishl .u64 1 b)) n10), n11, n12))
        else
          (bits_Reader_fail l was n12).bind fun n13 =>
          some (.inr (0, was, n13))
      else
        (bits_Reader_Get (iadd .i64 b 1) l n7 n8).bind fun (n9, n10, n11) =>
        bif (decide ((n11 : Int) = 0)) then
          bif (decide (((isub .u64 18446744073709551615 (iadd .u64 base (ishl .u64 1 b))) : Int) < n9)) then
            (bits_Reader_fail l was n11).bind fun n12 =>
            some (.inr (0, was, n12))
          else
            some (.inr ((iadd .u64 (iadd .u64 base (ishl .u64 1 b)) n9), n10, n11))
        else
          (bits_Reader_fail l was n11).bind fun n12 =>
          some (.inr (0, was, n12))
    else none
  else
    (bits_Reader_Get b l n4 n5).bind fun (n6, n7, n8) =>
    bif (decide ((n8 : Int) = 0)) then
      bif (decide (((isub .u64 18446744073709551615 base) : Int) < n6)) then
        (bits_Reader_fail l was n8).bind fun n9 =>
        some (.inr (0, was, n9))
      else
        some (.inr ((iadd .u64 base n6), n7, n8))
    else
      (bits_Reader_fail l was n8).bind fun n9 =>
      some (.inr (0, was, n9))
theorem bits_Reader_Num_S0_ok (was : Int) (l : List Int) (s_ : Int × Int × Int × Int) (z_ : (Int × Int × Int × Int) ⊕ (Int × Int × Int)) (h : bits_Reader_Num_S0_step was l s_ = some z_) : RoundOkS Try.prog cfg 85 1 (scopeAt Try.prog 85 0) (bits_Reader_Num_S0_st was l) (bits_Reader_Num_S0_ex was l) s_ z_ := by
  rcases s_ with ⟨b, base, n, n2⟩
  obtain ⟨⟨n3, n4, n5⟩, h1, h⟩ := bind_of h
  rcases cond_of h with ⟨h2, h⟩ | ⟨h2, h⟩
  · obtain ⟨h3, h⟩ := need_of h
    rcases cond_of h with ⟨h4, h⟩ | ⟨h4, h⟩
    · have h := some_of h
      subst h
      exact ⟨[.res (bits_Reader_Get_out 1 l n n2 (n3, n4, n5)), .br true, .br true], bits_Reader_Num_S0_st was l ((iadd .i64 b 1), (iadd .u64 base (ishl .u64 1 b)), n4, n5), .k0 (an_ (bits_Reader_Get_runs 1 l n n2 _ h1) (an_ h2 (an_ h3 (an_ h4 trivial)))) (by kernel_rfl), .same (by kernel_rfl)⟩
    · obtain ⟨⟨n6, n7, n8⟩, h5, h⟩ := bind_of h
      rcases cond_of h with ⟨h6, h⟩ | ⟨h6, h⟩
      · obtain ⟨n9, h7, h⟩ := bind_of h
        obtain ⟨⟨n10, n11, n12⟩, h8, h⟩ := bind_of h
        rcases cond_of h with ⟨h9, h⟩ | ⟨h9, h⟩
        · rcases cond_of h with ⟨h10, h⟩ | ⟨h10, h⟩
          · obtain ⟨n13, h11, h⟩ := bind_of h
            have h := some_of h
            subst h
            exact ⟨[.res (bits_Reader_Get_out 1 l n n2 (n3, n4, n5)), .br true, .br false, .res (bits_Reader_Get_out 1 l n4 n5 (n6, n7, n8)), .br true, .res (bits_Reader_fail_out l n7 n8 n9), .res (bits_Reader_Get_out (iadd .i64 b 1) l n7 n9 (n10, n11, n12)), .br false, .br true, .res (bits_Reader_fail_out l was n12 n13)], (bits_Reader_Num_S0_ex was l (0, was, n13)).2, .k0 (an_ (bits_Reader_Get_runs 1 l n n2 _ h1) (an_ h2 (an_ h3 (an_ h4 (an_ (bits_Reader_Get_runs 1 l n4 n5 _ h5) (an_ h6 (an_ (bits_Reader_fail_runs l n7 n8 _ h7) (an_ (bits_Reader_Get_runs (iadd .i64 b 1) l n7 n9 _ h8) (an_ (not_of2 h9) (an_ h10 (an_ (bits_Reader_fail_runs l was n12 _ h11) trivial))))))))))) (by kernel_rfl), .same (by kernel_rfl)⟩
          · have h := some_of h
            subst h
            exact ⟨[.res (bits_Reader_Get_out 1 l n n2 (n3, n4, n5)), .br true, .br false, .res (bits_Reader_Get_out 1 l n4 n5 (n6, n7, n8)), .br true, .res (bits_Reader_fail_out l n7 n8 n9), .res (bits_Reader_Get_out (iadd .i64 b 1) l n7 n9 (n10, n11, n12)), .br false, .br false], (bits_Reader_Num_S0_ex was l ((iadd .u64 (iadd .u64 base (ishl .u64 1 b)) n10), n11, n12)).2, .k0 (an_ (bits_Reader_Get_runs 1 l n n2 _ h1) (an_ h2 (an_ h3 (an_ h4 (an_ (bits_Reader_Get_runs 1 l n4 n5 _ h5) (an_ h6 (an_ (bits_Reader_fail_runs l n7 n8 _ h7) (an_ (bits_Reader_Get_runs (iadd .i64 b 1) l n7 n9 _ h8) (an_ (not_of2 h9) (an_ h10 trivial)))))))))) (by kernel_rfl), .same (by kernel_rfl)⟩
        · obtain ⟨n13, h10, h⟩ := bind_of h
          have h := some_of h
          subst h
          exact ⟨[.res (bits_Reader_Get_out 1 l n n2 (n3, n4, n5)), .br true, .br false, .res (bits_Reader_Get_out 1 l n4 n5 (n6, n7, n8)), .br true, .res (bits_Reader_fail_out l n7 n8 n9), .res (bits_Reader_Get_out (iadd .i64 b 1) l n7 n9 (n10, n11, n12)), .br true, .br true, .res (bits_Reader_fail_out l was n12 n13)], (bits_Reader_Num_S0_ex was l (0, was, n13)).2, .k0 (an_ (bits_Reader_Get_runs 1 l n n2 _ h1) (an_ h2 (an_ h3 (an_ h4 (an_ (bits_Reader_Get_runs 1 l n4 n5 _ h5) (an_ h6 (an_ (bits_Reader_fail_runs l n7 n8 _ h7) (an_ (bits_Reader_Get_runs (iadd .i64 b 1) l n7 n9 _ h8) (an_ (not_of h9) (an_ (rfl : true = true) (an_ (bits_Reader_fail_runs l was n12 _ h10) trivial))))))))))) (by kernel_rfl), .same (by kernel_rfl)⟩
      · obtain ⟨⟨n9, n10, n11⟩, h7, h⟩ := bind_of h
        rcases cond_of h with ⟨h8, h⟩ | ⟨h8, h⟩
        · rcases cond_of h with ⟨h9, h⟩ | ⟨h9, h⟩
          · obtain ⟨n12, h10, h⟩ := bind_of h
            have h := some_of h
            subst h
            exact ⟨[.res (bits_Reader_Get_out 1 l n n2 (n3, n4, n5)), .br true, .br false, .res (bits_Reader_Get_out 1 l n4 n5 (n6, n7, n8)), .br false, .res (bits_Reader_Get_out (iadd .i64 b 1) l n7 n8 (n9, n10, n11)), .br false, .br true, .res (bits_Reader_fail_out l was n11 n12)], (bits_Reader_Num_S0_ex was l (0, was, n12)).2, .k0 (an_ (bits_Reader_Get_runs 1 l n n2 _ h1) (an_ h2 (an_ h3 (an_ h4 (an_ (bits_Reader_Get_runs 1 l n4 n5 _ h5) (an_ h6 (an_ (bits_Reader_Get_runs (iadd .i64 b 1) l n7 n8 _ h7) (an_ (not_of2 h8) (an_ h9 (an_ (bits_Reader_fail_runs l was n11 _ h10) trivial)))))))))) (by kernel_rfl), .same (by kernel_rfl)⟩
          · have h := some_of h
            subst h
            exact ⟨[.res (bits_Reader_Get_out 1 l n n2 (n3, n4, n5)), .br true, .br false, .res (bits_Reader_Get_out 1 l n4 n5 (n6, n7, n8)), .br false, .res (bits_Reader_Get_out (iadd .i64 b 1) l n7 n8 (n9, n10, n11)), .br false, .br false], (bits_Reader_Num_S0_ex was l ((iadd .u64 (iadd .u64 base (ishl .u64 1 b)) n9), n10, n11)).2, .k0 (an_ (bits_Reader_Get_runs 1 l n n2 _ h1) (an_ h2 (an_ h3 (an_ h4 (an_ (bits_Reader_Get_runs 1 l n4 n5 _ h5) (an_ h6 (an_ (bits_Reader_Get_runs (iadd .i64 b 1) l n7 n8 _ h7) (an_ (not_of2 h8) (an_ h9 trivial))))))))) (by kernel_rfl), .same (by kernel_rfl)⟩
        · obtain ⟨n12, h9, h⟩ := bind_of h
          have h := some_of h
          subst h
          exact ⟨[.res (bits_Reader_Get_out 1 l n n2 (n3, n4, n5)), .br true, .br false, .res (bits_Reader_Get_out 1 l n4 n5 (n6, n7, n8)), .br false, .res (bits_Reader_Get_out (iadd .i64 b 1) l n7 n8 (n9, n10, n11)), .br true, .br true, .res (bits_Reader_fail_out l was n11 n12)], (bits_Reader_Num_S0_ex was l (0, was, n12)).2, .k0 (an_ (bits_Reader_Get_runs 1 l n n2 _ h1) (an_ h2 (an_ h3 (an_ h4 (an_ (bits_Reader_Get_runs 1 l n4 n5 _ h5) (an_ h6 (an_ (bits_Reader_Get_runs (iadd .i64 b 1) l n7 n8 _ h7) (an_ (not_of h8) (an_ (rfl : true = true) (an_ (bits_Reader_fail_runs l was n11 _ h9) trivial)))))))))) (by kernel_rfl), .same (by kernel_rfl)⟩
  · obtain ⟨⟨n6, n7, n8⟩, h3, h⟩ := bind_of h
    rcases cond_of h with ⟨h4, h⟩ | ⟨h4, h⟩
    · rcases cond_of h with ⟨h5, h⟩ | ⟨h5, h⟩
      · obtain ⟨n9, h6, h⟩ := bind_of h
        have h := some_of h
        subst h
        exact ⟨[.res (bits_Reader_Get_out 1 l n n2 (n3, n4, n5)), .br false, .res (bits_Reader_Get_out b l n4 n5 (n6, n7, n8)), .br false, .br true, .res (bits_Reader_fail_out l was n8 n9)], (bits_Reader_Num_S0_ex was l (0, was, n9)).2, .k0 (an_ (bits_Reader_Get_runs 1 l n n2 _ h1) (an_ h2 (an_ (bits_Reader_Get_runs b l n4 n5 _ h3) (an_ (not_of2 h4) (an_ h5 (an_ (bits_Reader_fail_runs l was n8 _ h6) trivial)))))) (by kernel_rfl), .same (by kernel_rfl)⟩
      · have h := some_of h
        subst h
        exact ⟨[.res (bits_Reader_Get_out 1 l n n2 (n3, n4, n5)), .br false, .res (bits_Reader_Get_out b l n4 n5 (n6, n7, n8)), .br false, .br false], (bits_Reader_Num_S0_ex was l ((iadd .u64 base n6), n7, n8)).2, .k0 (an_ (bits_Reader_Get_runs 1 l n n2 _ h1) (an_ h2 (an_ (bits_Reader_Get_runs b l n4 n5 _ h3) (an_ (not_of2 h4) (an_ h5 trivial))))) (by kernel_rfl), .same (by kernel_rfl)⟩
    · obtain ⟨n9, h5, h⟩ := bind_of h
      have h := some_of h
      subst h
      exact ⟨[.res (bits_Reader_Get_out 1 l n n2 (n3, n4, n5)), .br false, .res (bits_Reader_Get_out b l n4 n5 (n6, n7, n8)), .br true, .br true, .res (bits_Reader_fail_out l was n8 n9)], (bits_Reader_Num_S0_ex was l (0, was, n9)).2, .k0 (an_ (bits_Reader_Get_runs 1 l n n2 _ h1) (an_ h2 (an_ (bits_Reader_Get_runs b l n4 n5 _ h3) (an_ (not_of h4) (an_ (rfl : true = true) (an_ (bits_Reader_fail_runs l was n8 _ h5) trivial)))))) (by kernel_rfl), .same (by kernel_rfl)⟩
theorem bits_Reader_Num_S0_runs (was : Int) (l : List Int) (s_ : Int × Int × Int × Int) (r_ : Int × Int × Int) (h : runL (bits_Reader_Num_S0_step was l) s_ = some r_) : LRuns Try.prog (lEnv Try.prog cfg 85 1).nt 1 (.scope (scopeAt Try.prog 85 0)) (bits_Reader_Num_S0_st was l s_) (bits_Reader_Num_S0_ex was l r_).1 (bits_Reader_Num_S0_ex was l r_).2 :=
  scope_run h (bits_Reader_Num_S0_ok was l) (by intro r_; rcases r_ with ⟨r1, r2, r3⟩ <;> simp [bits_Reader_Num_S0_ex])
/-! ### bits_Reader_Num -/
noncomputable def bits_Reader_Num (l : List Int) (n : Int) (n2 : Int) : Option (Int × Int × Int) :=
  (runL (bits_Reader_Num_S0_step n l) (2, 0, n, n2)).bind fun (n3, n4, n5) =>
  some (n3, n4, n5)
theorem bits_Reader_Num_runs (l : List Int) (n : Int) (n2 : Int) (r_ : Int × Int × Int) (h : bits_Reader_Num l n n2 = some r_) : Runs Try.prog 85 [(.one (.ref 0 0))] [[(.pv (.ints .u8 l false)), (.pv (.int .i64 n)), (.pv (.int .i64 n2))]] [] (bits_Reader_Num_out l n n2 r_) := by
  unfold bits_Reader_Num at h
  obtain ⟨⟨n3, n4, n5⟩, h1, h⟩ := bind_of h
  have h := some_of h
  subst h
  exact runs_of (C := cfg) (objs := [[(.pv (.ints .u8 l false)), (.pv (.int .i64 n)), (.pv (.int .i64 n2))]]) (sc := [.br false, .lp (bits_Reader_Num_S0_ex n l (n3, n4, n5)).1 (bits_Reader_Num_S0_ex n l (n3, n4, n5)).2]) (.k0 (an_ (rfl : false = false) (an_ (bits_Reader_Num_S0_runs n l _ _ h1) trivial)) (by kernel_rfl))
/-! ### code_source_number -/
noncomputable def code_source_number (n : Int) (l : List Int) (n2 : Int) (n3 : Int) : Option (Int × Int × Int × Int) :=
  (code_source_ok n l n2 n3).bind fun (b, n4) =>
  bif b then
    (bits_Reader_Num l n2 n3).bind fun (n5, n6, n7) =>
    (code_source_ok n4 l n6 n7).bind fun (b2, n8) =>
    bif b2 then
      bif (decide ((1048576 : Int) < n5)) then
        (code_source_fail 4 n8 l n6 n7).bind fun n9 =>
        some (n5, n9, n6, n7)
      else
        some (n5, n8, n6, n7)
    else
      some (n5, n8, n6, n7)
  else
    some (0, n4, n2, n3)
theorem code_source_number_runs (n : Int) (l : List Int) (n2 : Int) (n3 : Int) (r_ : Int × Int × Int × Int) (h : code_source_number n l n2 n3 = some r_) : Runs Try.prog 73 [(.one (.ref 0 0))] [[(.ref 1 0), (.pv (.int .i64 n))], [(.pv (.ints .u8 l false)), (.pv (.int .i64 n2)), (.pv (.int .i64 n3))]] [] (code_source_number_out n l n2 n3 r_) := by
  unfold code_source_number at h
  obtain ⟨⟨b, n4⟩, h1, h⟩ := bind_of h
  rcases cond_of h with ⟨h2, h⟩ | ⟨h2, h⟩
  · obtain ⟨⟨n5, n6, n7⟩, h3, h⟩ := bind_of h
    obtain ⟨⟨b2, n8⟩, h4, h⟩ := bind_of h
    rcases cond_of h with ⟨h5, h⟩ | ⟨h5, h⟩
    · rcases cond_of h with ⟨h6, h⟩ | ⟨h6, h⟩
      · obtain ⟨n9, h7, h⟩ := bind_of h
        have h := some_of h
        subst h
        exact runs_of (C := cfg) (objs := [[(.ref 1 0), (.pv (.int .i64 n))], [(.pv (.ints .u8 l false)), (.pv (.int .i64 n2)), (.pv (.int .i64 n3))]]) (sc := [.res (code_source_ok_out n l n2 n3 (b, n4)), .br false, .res (bits_Reader_Num_out l n2 n3 (n5, n6, n7)), .res (code_source_ok_out n4 l n6 n7 (b2, n8)), .br true, .br true, .res (code_source_fail_out 4 n8 l n6 n7 n9)]) (.k0 (an_ (code_source_ok_runs n l n2 n3 _ h1) (an_ (not_of2 h2) (an_ (bits_Reader_Num_runs l n2 n3 _ h3) (an_ (code_source_ok_runs n4 l n6 n7 _ h4) (an_ h5 (an_ h6 (an_ (code_source_fail_runs 4 n8 l n6 n7 _ h7) trivial))))))) (by kernel_rfl))
      · have h := some_of h
        subst h
        exact runs_of (C := cfg) (objs := [[(.ref 1 0), (.pv (.int .i64 n))], [(.pv (.ints .u8 l false)), (.pv (.int .i64 n2)), (.pv (.int .i64 n3))]]) (sc := [.res (code_source_ok_out n l n2 n3 (b, n4)), .br false, .res (bits_Reader_Num_out l n2 n3 (n5, n6, n7)), .res (code_source_ok_out n4 l n6 n7 (b2, n8)), .br true, .br false]) (.k0 (an_ (code_source_ok_runs n l n2 n3 _ h1) (an_ (not_of2 h2) (an_ (bits_Reader_Num_runs l n2 n3 _ h3) (an_ (code_source_ok_runs n4 l n6 n7 _ h4) (an_ h5 (an_ h6 trivial)))))) (by kernel_rfl))
    · have h := some_of h
      subst h
      exact runs_of (C := cfg) (objs := [[(.ref 1 0), (.pv (.int .i64 n))], [(.pv (.ints .u8 l false)), (.pv (.int .i64 n2)), (.pv (.int .i64 n3))]]) (sc := [.res (code_source_ok_out n l n2 n3 (b, n4)), .br false, .res (bits_Reader_Num_out l n2 n3 (n5, n6, n7)), .res (code_source_ok_out n4 l n6 n7 (b2, n8)), .br false, .br false]) (.k0 (an_ (code_source_ok_runs n l n2 n3 _ h1) (an_ (not_of2 h2) (an_ (bits_Reader_Num_runs l n2 n3 _ h3) (an_ (code_source_ok_runs n4 l n6 n7 _ h4) (an_ h5 (an_ (rfl : false = false) trivial)))))) (by kernel_rfl))
  · have h := some_of h
    subst h
    exact runs_of (C := cfg) (objs := [[(.ref 1 0), (.pv (.int .i64 n))], [(.pv (.ints .u8 l false)), (.pv (.int .i64 n2)), (.pv (.int .i64 n3))]]) (sc := [.res (code_source_ok_out n l n2 n3 (b, n4)), .br true]) (.k0 (an_ (code_source_ok_runs n l n2 n3 _ h1) (an_ (not_of h2) trivial)) (by kernel_rfl))
/-! ### code_source_must_out -/
def code_source_must_out (is_ : Bool) (n : Int) (l : List Int) (n2 : Int) (n3 : Int) : Int → Res
  | r1 => ([], [[(.ref 1 0), (.pv (.int .i64 r1))], [(.pv (.ints .u8 l false)), (.pv (.int .i64 n2)), (.pv (.int .i64 n3))]], [])
/-! ### code_source_must -/
noncomputable def code_source_must (is_ : Bool) (n : Int) (l : List Int) (n2 : Int) (n3 : Int) : Option (Int) :=
  bif is_ then
    some n
  else
    (code_source_fail 6 n l n2 n3).bind fun n4 =>
    some n4
theorem code_source_must_runs (is_ : Bool) (n : Int) (l : List Int) (n2 : Int) (n3 : Int) (r_ : Int) (h : code_source_must is_ n l n2 n3 = some r_) : Runs Try.prog 75 [(.one (.ref 0 0)), (.one (.pv (.bool is_)))] [[(.ref 1 0), (.pv (.int .i64 n))], [(.pv (.ints .u8 l false)), (.pv (.int .i64 n2)), (.pv (.int .i64 n3))]] [] (code_source_must_out is_ n l n2 n3 r_) := by
  unfold code_source_must at h
  rcases cond_of h with ⟨h1, h⟩ | ⟨h1, h⟩
  · have h := some_of h
    subst h
    exact runs_of (C := cfg) (objs := [[(.ref 1 0), (.pv (.int .i64 n))], [(.pv (.ints .u8 l false)), (.pv (.int .i64 n2)), (.pv (.int .i64 n3))]]) (sc := [.br false]) (.k0 (an_ (not_of2 h1) trivial) (by kernel_rfl))
  · obtain ⟨n4, h2, h⟩ := bind_of h
    have h := some_of h
    subst h
    exact runs_of (C := cfg) (objs := [[(.ref 1 0), (.pv (.int .i64 n))], [(.pv (.ints .u8 l false)), (.pv (.int .i64 n2)), (.pv (.int .i64 n3))]]) (sc := [.br true, .res (code_source_fail_out 6 n l n2 n3 n4)]) (.k0 (an_ (not_of h1) (an_ (code_source_fail_runs 6 n l n2 n3 _ h2) trivial)) (by kernel_rfl))
/-! ### code_source_node_out -/
def code_source_node_out (base : Int) (l : Int) (l2 : T_event_halves) (r : Int) (r2 : T_event_halves) (n : Int) (l3 : List Int) (n2 : Int) (n3 : Int) : Int × T_event_halves × Int → Res
  | (r1, r2, r3) => ([(.agg [(.pv (.int .u64 r1)), (.pv (T_event_halves.pv r2))])], [[(.ref 1 0), (.pv (.int .i64 r3))], [(.pv (.ints .u8 l3 false)), (.pv (.int .i64 n2)), (.pv (.int .i64 n3))]], [])
/-! ### code_source_node -/
noncomputable def code_source_node (N : Nat) (base : Int) (l : Int) (l2 : T_event_halves) (r : Int) (r2 : T_event_halves) (n : Int) (l3 : List Int) (n2 : Int) (n3 : Int) : Option (Int × T_event_halves × Int) :=
  (event_Node N base l l2 r r2).bind fun (n4, t, n5) =>
  bif (decide ((n5 : Int) = 0)) then
    some (n4, t, n)
  else
    (code_source_fail n5 n l3 n2 n3).bind fun n6 =>
    some (n4, t, n6)
theorem code_source_node_runs (N : Nat) (base : Int) (l : Int) (l2 : T_event_halves) (r : Int) (r2 : T_event_halves) (n : Int) (l3 : List Int) (n2 : Int) (n3 : Int) (r_ : Int × T_event_halves × Int) (h : code_source_node N base l l2 r r2 n l3 n2 n3 = some r_) : Runs Try.prog 77 [(.one (.ref 0 0)), (.one (.pv (.int .u64 base))), (.agg [(.pv (.int .u64 l)), (.pv (T_event_halves.pv l2))]), (.agg [(.pv (.int .u64 r)), (.pv (T_event_halves.pv r2))])] [[(.ref 1 0), (.pv (.int .i64 n))], [(.pv (.ints .u8 l3 false)), (.pv (.int .i64 n2)), (.pv (.int .i64 n3))]] [] (code_source_node_out base l l2 r r2 n l3 n2 n3 r_) := by
  unfold code_source_node at h
  obtain ⟨⟨n4, t, n5⟩, h1, h⟩ := bind_of h
  rcases cond_of h with ⟨h2, h⟩ | ⟨h2, h⟩
  · have h := some_of h
    subst h
    exact runs_of (C := cfg) (objs := [[(.ref 1 0), (.pv (.int .i64 n))], [(.pv (.ints .u8 l3 false)), (.pv (.int .i64 n2)), (.pv (.int .i64 n3))]]) (sc := [.res (event_Node_out base l l2 r r2 (n4, t, n5)), .br false]) (.k0 (an_ (event_Node_runs N base l l2 r r2 _ h1) (an_ (not_of2 h2) trivial)) (by kernel_rfl))
  · obtain ⟨n6, h3, h⟩ := bind_of h
    have h := some_of h
    subst h
    exact runs_of (C := cfg) (objs := [[(.ref 1 0), (.pv (.int .i64 n))], [(.pv (.ints .u8 l3 false)), (.pv (.int .i64 n2)), (.pv (.int .i64 n3))]]) (sc := [.res (event_Node_out base l l2 r r2 (n4, t, n5)), .br true, .res (code_source_fail_out n5 n l3 n2 n3 n6)]) (.k0 (an_ (event_Node_runs N base l l2 r r2 _ h1) (an_ (not_of h2) (an_ (code_source_fail_runs n5 n l3 n2 n3 _ h3) trivial))) (by kernel_rfl))
/-! ### code_source_event_2_out -/
def code_source_event_2_out (depth : Int) (n : Int) (l : List Int) (n2 : Int) (n3 : Int) : Int × T_event_halves × Int × Int × Int → Res
  | (r1, r2, r3, r4, r5) => ([(.agg [(.pv (.int .u64 r1)), (.pv (T_event_halves.pv r2))])], [[(.ref 1 0), (.pv (.int .i64 r3))], [(.pv (.ints .u8 l false)), (.pv (.int .i64 r4)), (.pv (.int .i64 r5))]], [])
/-! ### code_source_event_C24 -/
def code_source_event_C24_ex (depth : Int) (b : Bool) (n : Int) (l : List Int) (n2 : Int) (n3 : Int) : Int → Ex × St
  | r1 => (.normal, ⟨[(0, (.av (.one (.ref 0 0)))), (1, (.av (.one (.pv (.int .i64 depth))))), (4, (.av (.one (.ref 2 0))))], [(0, [(.ref 1 0), (.pv (.int .i64 r1))]), (1, [(.pv (.ints .u8 l false)), (.pv (.int .i64 n2)), (.pv (.int .i64 n3))]), (2, [(.pv (.int .u64 0)), (.pv (T_event_halves.pv T_event_halves.nil))])], []⟩)
noncomputable def code_source_event_C24 (depth : Int) (b : Bool) (n : Int) (l : List Int) (n2 : Int) (n3 : Int) : Option (Int) :=
  bif b then
    (code_source_fail 3 n l n2 n3).bind fun n4 =>
    some n4
  else
    some n
theorem code_source_event_C24_runs (depth : Int) (b : Bool) (n : Int) (l : List Int) (n2 : Int) (n3 : Int) (r_ : Int) (h : code_source_event_C24 depth b n l n2 n3 = some r_) : LRuns Try.prog (lEnv Try.prog cfg 51 2).nt 2 (.cond (.tmp 24) (condAt Try.prog 51 24).1 (condAt Try.prog 51 24).2) ⟨[(0, (.av (.one (.ref 0 0)))), (1, (.av (.one (.pv (.int .i64 depth))))), (4, (.av (.one (.ref 2 0)))), (24, (.av (.one (.pv (.bool b)))))], [(0, [(.ref 1 0), (.pv (.int .i64 n))]), (1, [(.pv (.ints .u8 l false)), (.pv (.int .i64 n2)), (.pv (.int .i64 n3))]), (2, [(.pv (.int .u64 0)), (.pv (T_event_halves.pv T_event_halves.nil))])], []⟩ (code_source_event_C24_ex depth b n l n2 n3 r_).1 (code_source_event_C24_ex depth b n l n2 n3 r_).2 := by
  unfold code_source_event_C24 at h
  rcases cond_of h with ⟨h1, h⟩ | ⟨h1, h⟩
  · obtain ⟨n4, h2, h⟩ := bind_of h
    have h := some_of h
    subst h
    exact piece_ok (C := cfg) (sc := [.br true, .res (code_source_fail_out 3 n l n2 n3 n4)]) (.k0 (an_ h1 (an_ (code_source_fail_runs 3 n l n2 n3 _ h2) trivial)) (by kernel_rfl))
  · have h := some_of h
    subst h
    exact piece_ok (C := cfg) (sc := [.br false]) (.k0 (an_ h1 trivial) (by kernel_rfl))
/-! ### code_source_event_C37 -/
def code_source_event_C37_ex (depth : Int) (left : Bool) (right : Bool) (b : Bool) (n : Int) (l : List Int) (n2 : Int) (n3 : Int) : Bool × Bool × Int × Int × Int → Ex × St
  | (r1, r2, r3, r4, r5) => (.normal, ⟨[(0, (.av (.one (.ref 0 0)))), (1, (.av (.one (.pv (.int .i64 depth))))), (4, (.av (.one (.ref 2 0)))), (7, (.av (.one (.ref 3 0)))), (8, (.av (.one (.ref 4 0)))), (11, (.av (.one (.pv (.bool r1))))), (12, (.av (.one (.pv (.bool r2)))))], [(0, [(.ref 1 0), (.pv (.int .i64 r3))]), (1, [(.pv (.ints .u8 l false)), (.pv (.int .i64 r4)), (.pv (.int .i64 r5))]), (2, [(.pv (.int .u64 0)), (.pv (T_event_halves.pv T_event_halves.nil))]), (3, [(.pv (.int .u64 0)), (.pv (T_event_halves.pv T_event_halves.nil))]), (4, [(.pv (.int .u64 0)), (.pv (T_event_halves.pv T_event_halves.nil))])], []⟩)
noncomputable def code_source_event_C37 (depth : Int) (left : Bool) (right : Bool) (b : Bool) (n : Int) (l : List Int) (n2 : Int) (n3 : Int) : Option (Bool × Bool × Int × Int × Int) :=
  bif b then
    (code_source_bit 1 n l n2 n3).bind fun (n4, n5, n6, n7) =>
    some ((!(decide ((n4 : Int) = 0))), (decide ((n4 : Int) = 0)), n5, n6, n7)
  else
    some (left, right, n, n2, n3)
theorem code_source_event_C37_runs (depth : Int) (left : Bool) (right : Bool) (b : Bool) (n : Int) (l : List Int) (n2 : Int) (n3 : Int) (r_ : Bool × Bool × Int × Int × Int) (h : code_source_event_C37 depth left right b n l n2 n3 = some r_) : LRuns Try.prog (lEnv Try.prog cfg 51 2).nt 2 (.cond (.tmp 37) (condAt Try.prog 51 37).1 (condAt Try.prog 51 37).2) ⟨[(0, (.av (.one (.ref 0 0)))), (1, (.av (.one (.pv (.int .i64 depth))))), (4, (.av (.one (.ref 2 0)))), (7, (.av (.one (.ref 3 0)))), (8, (.av (.one (.ref 4 0)))), (11, (.av (.one (.pv (.bool left))))), (12, (.av (.one (.pv (.bool right))))), (37, (.av (.one (.pv (.bool b)))))], [(0, [(.ref 1 0), (.pv (.int .i64 n))]), (1, [(.pv (.ints .u8 l false)), (.pv (.int .i64 n2)), (.pv (.int .i64 n3))]), (2, [(.pv (.int .u64 0)), (.pv (T_event_halves.pv T_event_halves.nil))]), (3, [(.pv (.int .u64 0)), (.pv (T_event_halves.pv T_event_halves.nil))]), (4, [(.pv (.int .u64 0)), (.pv (T_event_halves.pv T_event_halves.nil))])], []⟩ (code_source_event_C37_ex depth left right b n l n2 n3 r_).1 (code_source_event_C37_ex depth left right b n l n2 n3 r_).2 := by
  unfold code_source_event_C37 at h
  rcases cond_of h with ⟨h1, h⟩ | ⟨h1, h⟩
  · obtain ⟨⟨n4, n5, n6, n7⟩, h2, h⟩ := bind_of h
    have h := some_of h
    subst h
    exact piece_ok (C := cfg) (sc := [.br true, .res (code_source_bit_out 1 n l n2 n3 (n4, n5, n6, n7))]) (.k0 (an_ h1 (an_ (code_source_bit_runs 1 n l n2 n3 _ h2) trivial)) (by kernel_rfl))
  · have h := some_of h
    subst h
    exact piece_ok (C := cfg) (sc := [.br false]) (.k0 (an_ h1 trivial) (by kernel_rfl))
/-! ### code_source_event_C34 -/
def code_source_event_C34_ex (depth : Int) (left : Bool) (right : Bool) (b : Bool) (n : Int) (l : List Int) (n2 : Int) (n3 : Int) : Int × Bool × Bool × Int × Int × Int → Ex × St
  | (r1, r2, r3, r4, r5, r6) => (.normal, ⟨[(0, (.av (.one (.ref 0 0)))), (1, (.av (.one (.pv (.int .i64 depth))))), (4, (.av (.one (.ref 2 0)))), (7, (.av (.one (.ref 3 0)))), (8, (.av (.one (.ref 4 0)))), (9, (.av (.one (.pv (.int .u64 r1))))), (11, (.av (.one (.pv (.bool r2))))), (12, (.av (.one (.pv (.bool r3)))))], [(0, [(.ref 1 0), (.pv (.int .i64 r4))]), (1, [(.pv (.ints .u8 l false)), (.pv (.int .i64 r5)), (.pv (.int .i64 r6))]), (2, [(.pv (.int .u64 0)), (.pv (T_event_halves.pv T_event_halves.nil))]), (3, [(.pv (.int .u64 0)), (.pv (T_event_halves.pv T_event_halves.nil))]), (4, [(.pv (.int .u64 0)), (.pv (T_event_halves.pv T_event_halves.nil))])], []⟩)
noncomputable def code_source_event_C34 (depth : Int) (left : Bool) (right : Bool) (b : Bool) (n : Int) (l : List Int) (n2 : Int) (n3 : Int) : Option (Int × Bool × Bool × Int × Int × Int) :=
  bif b then
    (code_source_bit 1 n l n2 n3).bind fun (n4, n5, n6, n7) =>
    (code_source_event_C37 depth left right (decide ((n4 : Int) = 0)) n5 l n6 n7).bind fun (b2, b3, n8, n9, n10) =>
    (code_source_number n8 l n9 n10).bind fun (n11, n12, n13, n14) =>
    (code_source_must (decide ((0 : Int) < n11)) n12 l n13 n14).bind fun n15 =>
    some (n11, b2, b3, n15, n13, n14)
  else
    some (0, left, right, n, n2, n3)
theorem code_source_event_C34_runs (depth : Int) (left : Bool) (right : Bool) (b : Bool) (n : Int) (l : List Int) (n2 : Int) (n3 : Int) (r_ : Int × Bool × Bool × Int × Int × Int) (h : code_source_event_C34 depth left right b n l n2 n3 = some r_) : LRuns Try.prog (lEnv Try.prog cfg 51 2).nt 2 (.cond (.tmp 34) (condAt Try.prog 51 34).1 (condAt Try.prog 51 34).2) ⟨[(0, (.av (.one (.ref 0 0)))), (1, (.av (.one (.pv (.int .i64 depth))))), (4, (.av (.one (.ref 2 0)))), (7, (.av (.one (.ref 3 0)))), (8, (.av (.one (.ref 4 0)))), (9, (.av (.one (.pv (.int .u64 0))))), (11, (.av (.one (.pv (.bool left))))), (12, (.av (.one (.pv (.bool right))))), (34, (.av (.one (.pv (.bool b)))))], [(0, [(.ref 1 0), (.pv (.int .i64 n))]), (1, [(.pv (.ints .u8 l false)), (.pv (.int .i64 n2)), (.pv (.int .i64 n3))]), (2, [(.pv (.int .u64 0)), (.pv (T_event_halves.pv T_event_halves.nil))]), (3, [(.pv (.int .u64 0)), (.pv (T_event_halves.pv T_event_halves.nil))]), (4, [(.pv (.int .u64 0)), (.pv (T_event_halves.pv T_event_halves.nil))])], []⟩ (code_source_event_C34_ex depth left right b n l n2 n3 r_).1 (code_source_event_C34_ex depth left right b n l n2 n3 r_).2 := by
  unfold code_source_event_C34 at h
  rcases cond_of h with ⟨h1, h⟩ | ⟨h1, h⟩
  · obtain ⟨⟨n4, n5, n6, n7⟩, h2, h⟩ := bind_of h
    obtain ⟨⟨b2, b3, n8, n9, n10⟩, h3, h⟩ := bind_of h
    obtain ⟨⟨n11, n12, n13, n14⟩, h4, h⟩ := bind_of h
    obtain ⟨n15, h5, h⟩ := bind_of h
    have h := some_of h
    subst h
    exact piece_ok (C := cfg) (sc := [.br true, .res (code_source_bit_out 1 n l n2 n3 (n4, n5, n6, n7)), .lp (code_source_event_C37_ex depth left right (decide ((n4 : Int) = 0)) n5 l n6 n7 (b2, b3, n8, n9, n10)).1 (code_source_event_C37_ex depth left right (decide ((n4 : Int) = 0)) n5 l n6 n7 (b2, b3, n8, n9, n10)).2, .res (code_source_number_out n8 l n9 n10 (n11, n12, n13, n14)), .res (code_source_must_out (decide ((0 : Int) < n11)) n12 l n13 n14 n15)]) (.k0 (an_ h1 (an_ (code_source_bit_runs 1 n l n2 n3 _ h2) (an_ (code_source_event_C37_runs depth left right (decide ((n4 : Int) = 0)) n5 l n6 n7 _ h3) (an_ (code_source_number_runs n8 l n9 n10 _ h4) (an_ (code_source_must_runs (decide ((0 : Int) < n11)) n12 l n13 n14 _ h5) trivial))))) (by kernel_rfl))
  · have h := some_of h
    subst h
    exact piece_ok (C := cfg) (sc := [.br false]) (.k0 (an_ h1 trivial) (by kernel_rfl))
/-! ### code_source_event_C53 -/
def code_source_event_C53_ex (depth : Int) (base : Int) (left : Bool) (right : Bool) (b : Bool) (n : Int) (l : List Int) (n2 : Int) (n3 : Int) : Int × Int × Int × Int × T_event_halves → Ex × St
  | (r1, r2, r3, r4, r5) => (.normal, ⟨[(0, (.av (.one (.ref 0 0)))), (1, (.av (.one (.pv (.int .i64 depth))))), (4, (.av (.one (.ref 2 0)))), (7, (.av (.one (.ref 3 0)))), (8, (.av (.one (.ref 4 0)))), (9, (.av (.one (.pv (.int .u64 base))))), (11, (.av (.one (.pv (.bool left))))), (12, (.av (.one (.pv (.bool right)))))], [(0, [(.ref 1 0), (.pv (.int .i64 r1))]), (1, [(.pv (.ints .u8 l false)), (.pv (.int .i64 r2)), (.pv (.int .i64 r3))]), (2, [(.pv (.int .u64 0)), (.pv (T_event_halves.pv T_event_halves.nil))]), (3, [(.pv (.int .u64 r4)), (.pv (T_event_halves.pv r5))]), (4, [(.pv (.int .u64 0)), (.pv (T_event_halves.pv T_event_halves.nil))])], []⟩)
noncomputable def code_source_event_C53 (rec_code_source_event_2 : Int → Int → List Int → Int → Int → Option (Int × T_event_halves × Int × Int × Int)) (depth : Int) (base : Int) (left : Bool) (right : Bool) (b : Bool) (n : Int) (l : List Int) (n2 : Int) (n3 : Int) : Option (Int × Int × Int × Int × T_event_halves) :=
  bif b then
    (rec_code_source_event_2 (iadd .i64 depth 1) n l n2 n3).bind fun (n4, t, n5, n6, n7) =>
    some (n5, n6, n7, n4, t)
  else
    some (n, n2, n3, 0, T_event_halves.nil)
theorem code_source_event_C53_runs (rec_code_source_event_2 : Int → Int → List Int → Int → Int → Option (Int × T_event_halves × Int × Int × Int)) (hrec_code_source_event_2 : ∀ depth n l n2 n3 r_, rec_code_source_event_2 depth n l n2 n3 = some r_ → Runs Try.prog 51 [(.one (.ref 0 0)), (.one (.pv (.int .i64 depth)))] [[(.ref 1 0), (.pv (.int .i64 n))], [(.pv (.ints .u8 l false)), (.pv (.int .i64 n2)), (.pv (.int .i64 n3))]] [] (code_source_event_2_out depth n l n2 n3 r_)) (depth : Int) (base : Int) (left : Bool) (right : Bool) (b : Bool) (n : Int) (l : List Int) (n2 : Int) (n3 : Int) (r_ : Int × Int × Int × Int × T_event_halves) (h : code_source_event_C53 rec_code_source_event_2 depth base left right b n l n2 n3 = some r_) : LRuns Try.prog (lEnv Try.prog cfg 51 2).nt 2 (.cond (.tmp 53) (condAt Try.prog 51 53).1 (condAt Try.prog 51 53).2) ⟨[(0, (.av (.one (.ref 0 0)))), (1, (.av (.one (.pv (.int .i64 depth))))), (4, (.av (.one (.ref 2 0)))), (7, (.av (.one (.ref 3 0)))), (8, (.av (.one (.ref 4 0)))), (9, (.av (.one (.pv (.int .u64 base))))), (11, (.av (.one (.pv (.bool left))))), (12, (.av (.one (.pv (.bool right))))), (53, (.av (.one (.pv (.bool b)))))], [(0, [(.ref 1 0), (.pv (.int .i64 n))]), (1, [(.pv (.ints .u8 l false)), (.pv (.int .i64 n2)), (.pv (.int .i64 n3))]), (2, [(.pv (.int .u64 0)), (.pv (T_event_halves.pv T_event_halves.nil))]), (3, [(.pv (.int .u64 0)), (.pv (T_event_halves.pv T_event_halves.nil))]), (4, [(.pv (.int .u64 0)), (.pv (T_event_halves.pv T_event_halves.nil))])], []⟩ (code_source_event_C53_ex depth base left right b n l n2 n3 r_).1 (code_source_event_C53_ex depth base left right b n l n2 n3 r_).2 := by
  unfold code_source_event_C53 at h
  rcases cond_of h with ⟨h1, h⟩ | ⟨h1, h⟩
  · obtain ⟨⟨n4, t, n5, n6, n7⟩, h2, h⟩ := bind_of h
    have h := some_of h
    subst h
    exact piece_ok (C := cfg) (sc := [.br true, .res (code_source_event_2_out (iadd .i64 depth 1) n l n2 n3 (n4, t, n5, n6, n7))]) (.k0 (an_ h1 (an_ (hrec_code_source_event_2 (iadd .i64 depth 1) n l n2 n3 _ h2) trivial)) (by kernel_rfl))
  · have h := some_of h
    subst h
    exact piece_ok (C := cfg) (sc := [.br false]) (.k0 (an_ h1 trivial) (by kernel_rfl))

end Go.Proofs.Ytjjakdmcnkldoaa
