/- What functions compute, and that they do. -/
import Derived.Test.YtjjcmgdgifcmgaaGreatA4
set_option linter.unusedVariables false
set_option linter.unusedSimpArgs false
set_option maxRecDepth 100000
namespace Go.Proofs.YtjjcmgdgifcmgaaGreat
open Go.Ev
def kr06_Num_out (n : Int) : List Int → Res
 | r1 => ([(.one (.own 0 0 (r1).length false))], [], [(.ints .u8 r1)])
noncomputable def kr06_Num_b (rec_kr06_Num : Int → Option (List Int)) (n : Int) : Option (List Int) :=
 bif (decide ((n : Int) < 128)) then
  some [(IntKind.u8.wrap n)]
 else
  (rec_kr06_Num (iquo .u64 n 128)).bind fun l_ =>
  bif Nat.beq ((List.take (l_).length l_)).length 0 then
   some [(IntKind.u8.wrap (iadd .u64 (irem .u64 n 128) 128))]
  else
   bif fits (([(IntKind.u8.wrap (iadd .u64 (irem .u64 n 128) 128))] ++ (List.take (l_).length l_))).length then
   some ([(IntKind.u8.wrap (iadd .u64 (irem .u64 n 128) 128))] ++ l_)
   else none
theorem kr06_Num_b_runs (rec_kr06_Num : Int → Option (List Int)) (hrec_kr06_Num : ∀ n r_, rec_kr06_Num n = some r_ → Runs Tryz.prog 75 [(.one (.pv (.int .u64 n)))] [] [] (kr06_Num_out n r_)) (n : Int) (r_ : List Int) (h : kr06_Num_b rec_kr06_Num n = some r_) : Runs Tryz.prog 75 [(.one (.pv (.int .u64 n)))] [] [] (kr06_Num_out n r_) := by
 unfold kr06_Num_b at h
 rcases cond_of h with ⟨h1, h⟩ | ⟨h1, h⟩
 ·have h := some_of h
  subst h
  have t_ := tT h1 <| tN
  have e_ : Runs Tryz.prog 75 [(.one (.pv (.int .u64 n)))] [] [] ([(.one (.own 0 0 1 true))], [], [(.ints .u8 [(IntKind.u8.wrap n)])]) := runs_of (C := cfg) (objs := []) (sc := t_.ev) (.k0 t_.pf (by kernel_rfl))
  exact e_.out ⟨.ownF (by first | rfl | (simp only [List.take_length]; done) | (simp; done) | (simp only [List.map_take, List.map_drop, List.map_append, List.take_length, List.nil_append]; done) | (simp only [List.length_map, List.take_length, List.length_append, List.drop_zero, List.map_append, List.map_take, List.map_drop, List.map_replicate, List.map_cons, List.map_nil, List.append_nil, List.nil_append]; done)), trivial⟩ trivial ⟨.eq rfl, trivial⟩ rfl
 ·obtain ⟨l_, h2, h⟩ := bind_of h
  rcases cond_of h with ⟨h3, h⟩ | ⟨h3, h⟩
  ·have h := some_of h
   subst h
   have t_ := tF h1 <| tO (rfl : true = true) <| tO (rfl : true = true) <| tR (hrec_kr06_Num (iquo .u64 n 128) _ h2) <| tT h3 <| tN
   have e_ : Runs Tryz.prog 75 [(.one (.pv (.int .u64 n)))] [] [] ([(.one (.own 0 0 1 false))], [], [(.ints .u8 [(IntKind.u8.wrap (iadd .u64 (irem .u64 n 128) 128))])]) := runs_of (C := cfg) (objs := []) (sc := t_.ev) (.k0 t_.pf (by kernel_rfl))
   exact e_.out ⟨.own (by first | rfl | (simp only [List.take_length]; done) | (simp; done) | (simp only [List.map_take, List.map_drop, List.map_append, List.take_length, List.nil_append]; done) | (simp only [List.length_map, List.take_length, List.length_append, List.drop_zero, List.map_append, List.map_take, List.map_drop, List.map_replicate, List.map_cons, List.map_nil, List.append_nil, List.nil_append]; done)), trivial⟩ trivial ⟨.eq rfl, trivial⟩ rfl
  ·obtain ⟨h4, h⟩ := need_of h
   have h := some_of h
   subst h
   have t_ := tF h1 <| tO (rfl : true = true) <| tO (rfl : true = true) <| tR (hrec_kr06_Num (iquo .u64 n 128) _ h2) <| tF (not_of h3) <| tO h4 <| tN
   have e_ : Runs Tryz.prog 75 [(.one (.pv (.int .u64 n)))] [] [] ([(.one (.own 0 0 (([(IntKind.u8.wrap (iadd .u64 (irem .u64 n 128) 128))] ++ (List.take (l_).length l_))).length false))], [], [(.ints .u8 ([(IntKind.u8.wrap (iadd .u64 (irem .u64 n 128) 128))] ++ (List.take (l_).length l_)))]) := runs_of (C := cfg) (objs := []) (sc := t_.ev) (.k0 t_.pf (by kernel_rfl))
   exact e_.out ⟨.own (by first | rfl | (simp only [List.take_length]; done) | (simp; done) | (simp only [List.map_take, List.map_drop, List.map_append, List.take_length, List.nil_append]; done) | (simp only [List.length_map, List.take_length, List.length_append, List.drop_zero, List.map_append, List.map_take, List.map_drop, List.map_replicate, List.map_cons, List.map_nil, List.append_nil, List.nil_append]; done)), trivial⟩ trivial ⟨.eq (by first | rfl | (simp only [List.take_length]; done) | (simp; done) | (simp only [List.map_take, List.map_drop, List.map_append, List.take_length, List.nil_append]; done) | (simp only [List.length_map, List.take_length, List.length_append, List.drop_zero, List.map_append, List.map_take, List.map_drop, List.map_replicate, List.map_cons, List.map_nil, List.append_nil, List.nil_append]; done)), trivial⟩ rfl
noncomputable def kr06_Num : Nat → Int → Option (List Int)
 | 0, _ => none
 | N + 1, n => kr06_Num_b (kr06_Num N) n
theorem kr06_Num_runs : ∀ (N : Nat) (n : Int) (r_ : List Int), kr06_Num N n = some r_ → Runs Tryz.prog 75 [(.one (.pv (.int .u64 n)))] [] [] (kr06_Num_out n r_)
 | 0, _, _, h => by cases h
 | N + 1, n, r_, h => kr06_Num_b_runs (kr06_Num N) (kr06_Num_runs N) n r_ h
def kr06_Join_out (l : List E_L_uint8) : List Int → Res
 | r1 => ([(.one (.own 0 0 (r1).length false))], [], [(.ints .u8 r1)])
def kr06_Join_L0_2_st (r : List E_L_uint8) (n : Int) : Int × List Int → St
 | (n2, l) => ⟨[(3, (.av (.one (.own 0 0 (l).length false)))), (6, (.av (.one (.pv (.recs 1 (List.map E_L_uint8.pv r) false))))), (7, (.av (.one (.pv (.int .i64 n))))), (8, (.av (.one (.pv (.int .i64 n2)))))], [], [(0, (.live (.ints .u8 l)))]⟩
def kr06_Join_L0_2_ex (r : List E_L_uint8) (n : Int) : List Int → Ex × St
 | r1 => ((.exit 0), ⟨[(3, (.av (.one (.own 0 0 (r1).length false))))], [], [(0, (.live (.ints .u8 r1)))]⟩)
noncomputable def kr06_Join_L0_2_step (r : List E_L_uint8) (n : Int) : Int × List Int → Option ((Int × List Int) ⊕ (List Int))
 | (n2, l) =>
 bif (decide ((n2 : Int) < n)) then
  bif decide ((0 : Int) ≤ n2) && decide ((n2 : Int) < (((List.map E_L_uint8.pv r)).length : Int)) then
  (r[(n2).toNat]?).bind fun e_ => match e_ with
  | .mk l_ =>
  bif fits ((l ++ l_)).length then
  some (.inl ((iadd .i64 n2 1), (l ++ l_)))
  else none
  else none
 else
  some (.inr l)
theorem kr06_Join_L0_2_ok (r : List E_L_uint8) (n : Int) (s_ : Int × List Int) (z_ : (Int × List Int) ⊕ (List Int)) (h : kr06_Join_L0_2_step r n s_ = some z_) : RoundOk Tryz.prog cfg 74 0 (loopAt Tryz.prog 74 0) (kr06_Join_L0_2_st r n) (kr06_Join_L0_2_ex r n) s_ z_ := by
 rcases s_ with ⟨n2, l⟩
 rcases cond_of h with ⟨h1, h⟩ | ⟨h1, h⟩
 ·obtain ⟨h2, h⟩ := need_of h
  obtain ⟨⟨l_⟩, h3, h⟩ := bind_of h
  obtain ⟨h4, h⟩ := need_of h
  have h := some_of h
  subst h
  have t_ := tT h1 <| tO h2 <| tE (.el [(.ints .u8 l_ false)]) <| tO (el_of (f := E_L_uint8.pv) h3) <| tO (show (Nat.beq (l).length (l).length) = true from Nat.beq_refl _) <| tO h4 <| tN
  exact ⟨t_.ev, kr06_Join_L0_2_st r n ((iadd .i64 n2 1), (l ++ l_)), .k0 t_.pf (by kernel_rfl), .same (by kernel_rfl)⟩
 ·have h := some_of h
  subst h
  have t_ := tF h1 <| tN
  exact ⟨t_.ev, ⟨[(9, (.av (.one (.pv (.bool false))))), (3, (.av (.one (.own 0 0 (l).length false)))), (6, (.av (.one (.pv (.recs 1 (List.map E_L_uint8.pv r) false))))), (7, (.av (.one (.pv (.int .i64 n))))), (8, (.av (.one (.pv (.int .i64 n2))))), (9, (.av (.one (.pv (.bool (decide ((n2 : Int) < n)))))))], [], [(0, (.live (.ints .u8 l)))]⟩, .k0 t_.pf (by kernel_rfl), ⟨⟨⟨_, rfl, .eq rfl⟩, trivial⟩, trivial, ⟨⟨rfl, .eq rfl⟩, trivial⟩⟩⟩
theorem kr06_Join_L0_2_runs (r : List E_L_uint8) (n : Int) (s_ : Int × List Int) (r_ : List Int) (h : runL (kr06_Join_L0_2_step r n) s_ = some r_) : LRuns Tryz.prog (lEnv Tryz.prog cfg 74 0).nt 0 (.loop (loopAt Tryz.prog 74 0)) (kr06_Join_L0_2_st r n s_) (kr06_Join_L0_2_ex r n r_).1 (kr06_Join_L0_2_ex r n r_).2 :=
 loop_run h (kr06_Join_L0_2_ok r n) (by intro r_; rcases r_ with r1 <;> simp [kr06_Join_L0_2_ex])
noncomputable def kr06_Join (l : List E_L_uint8) : Option (List Int) :=
 (runL (kr06_Join_L0_2_step l (((List.map E_L_uint8.pv l)).length : Int)) (0, [])).bind fun l_ =>
 some l_
theorem kr06_Join_runs (l : List E_L_uint8) (r_ : List Int) (h : kr06_Join l = some r_) : Runs Tryz.prog 74 [(.one (.pv (.recs 1 (List.map E_L_uint8.pv l) false)))] [] [] (kr06_Join_out l r_) := by
 unfold kr06_Join at h
 obtain ⟨l_, h1, h⟩ := bind_of h
 have h := some_of h
 subst h
 have t_ := tL (LRuns.coe (s0 := ⟨[(3, (.av (.one (.own 0 0 0 false)))), (6, (.av (.one (.pv (.recs 1 (List.map E_L_uint8.pv l) false))))), (7, (.av (.one (.pv (.int .i64 (((List.map E_L_uint8.pv l)).length : Int)))))), (8, (.av (.one (.pv (.int .i64 0)))))], [], [(0, (.live (.ints .u8 [])))]⟩) (kr06_Join_L0_2_runs l (((List.map E_L_uint8.pv l)).length : Int) _ _ h1) ⟨⟨⟨_, rfl, .own (by first | rfl | (simp only [List.take_length]; done) | (simp; done) | (simp only [List.map_take, List.map_drop, List.map_append, List.take_length, List.nil_append]; done) | (simp only [List.length_map, List.take_length, List.length_append, List.drop_zero, List.map_append, List.map_take, List.map_drop, List.map_replicate, List.map_cons, List.map_nil, List.append_nil, List.nil_append]; done))⟩, ⟨_, rfl, .eq rfl⟩, ⟨_, rfl, .eq rfl⟩, ⟨_, rfl, .eq rfl⟩, trivial⟩, trivial, ⟨⟨rfl, .eq rfl⟩, trivial⟩⟩) <| tN
 exact runs_of (C := cfg) (objs := []) (sc := t_.ev) (.k0 t_.pf (by kernel_rfl))
def kr15_PutGift_out (g : Int) (g2 : Int) (g3 : Int) (g4 : T_kr01_ID) : List Int → Res
 | r1 => ([(.one (.own 0 0 (r1).length false))], [], [(.ints .u8 r1)])
def kr07_ID_out (l : List Bool) (i : T_kr01_ID) : List Bool → Res
 | r1 => ([(.one (.own 0 0 (r1).length false))], [], [(.bools r1)])
def kr05_Put_out (l : List Bool) (n : Int) (k : Int) : List Bool → Res
 | r1 => ([(.one (.own 0 0 (r1).length false))], [], [(.bools r1)])
def kr05_within_out (k : Int) : Int → Res
 | r1 => ([(.one (.pv (.int .i64 r1)))], [], [])
noncomputable def kr05_within (k : Int) : Option (Int) :=
 bif (decide ((k : Int) < 0)) then
  some 0
 else
  bif (decide ((64 : Int) < k)) then
   some 64
  else
   some k
theorem kr05_within_runs (k : Int) (r_ : Int) (h : kr05_within k = some r_) : Runs Tryz.prog 159 [(.one (.pv (.int .i64 k)))] [] [] (kr05_within_out k r_) := by
 unfold kr05_within at h
 rcases cond_of h with ⟨h1, h⟩ | ⟨h1, h⟩
 ·have h := some_of h
  subst h
  have t_ := tT h1 <| tN
  exact runs_of (C := cfg) (objs := []) (sc := t_.ev) (.k0 t_.pf (by kernel_rfl))
 ·rcases cond_of h with ⟨h2, h⟩ | ⟨h2, h⟩
  ·have h := some_of h
   subst h
   have t_ := tF h1 <| tT h2 <| tN
   exact runs_of (C := cfg) (objs := []) (sc := t_.ev) (.k0 t_.pf (by kernel_rfl))
  ·have h := some_of h
   subst h
   have t_ := tF h1 <| tF h2 <| tN
   exact runs_of (C := cfg) (objs := []) (sc := t_.ev) (.k0 t_.pf (by kernel_rfl))
def kr05_Put_L0_2_st (l : List Bool) (k : Int) : Int × Int × List Bool → St
 | (n, i, l2) => ⟨[(0, (.av (.one (.pv (.bools l false))))), (1, (.av (.one (.pv (.int .u64 n))))), (2, (.av (.one (.pv (.int .i64 k))))), (7, (.av (.one (.own 0 0 (l2).length false)))), (8, (.av (.one (.pv (.int .i64 i)))))], [], [(0, (.live (.bools l2)))]⟩
def kr05_Put_L0_2_ex (l : List Bool) (k : Int) : List Bool → Ex × St
 | r1 => ((.exit 0), ⟨[(0, (.av (.one (.pv (.bools l false))))), (7, (.av (.one (.own 0 0 (r1).length false))))], [], [(0, (.live (.bools r1)))]⟩)
noncomputable def kr05_Put_L0_2_step (l : List Bool) (k : Int) : Int × Int × List Bool → Option ((Int × Int × List Bool) ⊕ (List Bool))
 | (n, i, l2) =>
 (kr05_within k).bind fun n2 =>
 bif (decide ((i : Int) < n2)) then
  bif Nat.beq ((List.take (l2).length l2)).length 0 then
   some (.inl ((iquo .u64 n 2), (iadd .i64 i 1), [(decide (((irem .u64 n 2) : Int) = 1))]))
  else
   bif fits (([(decide (((irem .u64 n 2) : Int) = 1))] ++ (List.take (l2).length l2))).length then
   some (.inl ((iquo .u64 n 2), (iadd .i64 i 1), ([(decide (((irem .u64 n 2) : Int) = 1))] ++ l2)))
   else none
 else
  some (.inr l2)
theorem kr05_Put_L0_2_ok (l : List Bool) (k : Int) (s_ : Int × Int × List Bool) (z_ : (Int × Int × List Bool) ⊕ (List Bool)) (h : kr05_Put_L0_2_step l k s_ = some z_) : RoundOk Tryz.prog cfg 132 0 (loopAt Tryz.prog 132 0) (kr05_Put_L0_2_st l k) (kr05_Put_L0_2_ex l k) s_ z_ := by
 rcases s_ with ⟨n, i, l2⟩
 rw [kr05_Put_L0_2_step] at h
 obtain ⟨n2, h1, h⟩ := bind_of h
 rcases cond_of h with ⟨h2, h⟩ | ⟨h2, h⟩
 ·rcases cond_of h with ⟨h3, h⟩ | ⟨h3, h⟩
  ·have h := some_of h
   subst h
   have t_ := tR (kr05_within_runs k _ h1) <| tT h2 <| tO (rfl : true = true) <| tT h3 <| tO (rfl : true = true) <| tN
   exact ⟨t_.ev, ⟨[(0, (.av (.one (.pv (.bools l false))))), (1, (.av (.one (.pv (.int .u64 (iquo .u64 n 2)))))), (2, (.av (.one (.pv (.int .i64 k))))), (7, (.av (.one (.own 0 0 1 false)))), (8, (.av (.one (.pv (.int .i64 (iadd .i64 i 1))))))], [], [(0, (.live (.bools [(decide (((irem .u64 n 2) : Int) = 1))])))]⟩, .k0 t_.pf (by kernel_rfl), ⟨⟨⟨_, rfl, .eq rfl⟩, ⟨_, rfl, .eq rfl⟩, ⟨_, rfl, .eq rfl⟩, ⟨_, rfl, .own (by first | rfl | (simp only [List.take_length]; done) | (simp; done) | (simp only [List.map_take, List.map_drop, List.map_append, List.take_length, List.nil_append]; done) | (simp only [List.length_map, List.take_length, List.length_append, List.drop_zero, List.map_append, List.map_take, List.map_drop, List.map_replicate, List.map_cons, List.map_nil, List.append_nil, List.nil_append]; done))⟩, ⟨_, rfl, .eq rfl⟩, trivial⟩, trivial, ⟨⟨rfl, .eq rfl⟩, trivial⟩⟩⟩
  ·obtain ⟨h4, h⟩ := need_of h
   have h := some_of h
   subst h
   have t_ := tR (kr05_within_runs k _ h1) <| tT h2 <| tO (rfl : true = true) <| tF (not_of h3) <| tO h4 <| tO (rfl : true = true) <| tN
   exact ⟨t_.ev, ⟨[(0, (.av (.one (.pv (.bools l false))))), (1, (.av (.one (.pv (.int .u64 (iquo .u64 n 2)))))), (2, (.av (.one (.pv (.int .i64 k))))), (7, (.av (.one (.own 0 0 (([(decide (((irem .u64 n 2) : Int) = 1))] ++ (List.take (l2).length l2))).length false)))), (8, (.av (.one (.pv (.int .i64 (iadd .i64 i 1))))))], [], [(0, (.live (.bools ([(decide (((irem .u64 n 2) : Int) = 1))] ++ (List.take (l2).length l2)))))]⟩, .k0 t_.pf (by kernel_rfl), ⟨⟨⟨_, rfl, .eq rfl⟩, ⟨_, rfl, .eq rfl⟩, ⟨_, rfl, .eq rfl⟩, ⟨_, rfl, .own (by first | rfl | (simp only [List.take_length]; done) | (simp; done) | (simp only [List.map_take, List.map_drop, List.map_append, List.take_length, List.nil_append]; done) | (simp only [List.length_map, List.take_length, List.length_append, List.drop_zero, List.map_append, List.map_take, List.map_drop, List.map_replicate, List.map_cons, List.map_nil, List.append_nil, List.nil_append]; done))⟩, ⟨_, rfl, .eq rfl⟩, trivial⟩, trivial, ⟨⟨rfl, .eq (by first | rfl | (simp only [List.take_length]; done) | (simp; done) | (simp only [List.map_take, List.map_drop, List.map_append, List.take_length, List.nil_append]; done) | (simp only [List.length_map, List.take_length, List.length_append, List.drop_zero, List.map_append, List.map_take, List.map_drop, List.map_replicate, List.map_cons, List.map_nil, List.append_nil, List.nil_append]; done))⟩, trivial⟩⟩⟩
 ·have h := some_of h
  subst h
  have t_ := tR (kr05_within_runs k _ h1) <| tF h2 <| tN
  exact ⟨t_.ev, ⟨[(12, (.av (.one (.pv (.bool false))))), (0, (.av (.one (.pv (.bools l false))))), (1, (.av (.one (.pv (.int .u64 n))))), (2, (.av (.one (.pv (.int .i64 k))))), (7, (.av (.one (.own 0 0 (l2).length false)))), (8, (.av (.one (.pv (.int .i64 i))))), (12, (.av (.one (.pv (.bool (decide ((i : Int) < n2)))))))], [], [(0, (.live (.bools l2)))]⟩, .k0 t_.pf (by kernel_rfl), ⟨⟨⟨_, rfl, .eq rfl⟩, ⟨_, rfl, .eq rfl⟩, trivial⟩, trivial, ⟨⟨rfl, .eq rfl⟩, trivial⟩⟩⟩
theorem kr05_Put_L0_2_runs (l : List Bool) (k : Int) (s_ : Int × Int × List Bool) (r_ : List Bool) (h : runL (kr05_Put_L0_2_step l k) s_ = some r_) : LRuns Tryz.prog (lEnv Tryz.prog cfg 132 0).nt 0 (.loop (loopAt Tryz.prog 132 0)) (kr05_Put_L0_2_st l k s_) (kr05_Put_L0_2_ex l k r_).1 (kr05_Put_L0_2_ex l k r_).2 :=
 loop_run h (kr05_Put_L0_2_ok l k) (by intro r_; rcases r_ with r1 <;> simp [kr05_Put_L0_2_ex])
noncomputable def kr05_Put (l : List Bool) (n : Int) (k : Int) : Option (List Bool) :=
 (runL (kr05_Put_L0_2_step l k) (n, 0, [])).bind fun l_ =>
 bif Nat.beq (l).length 0 then
  bif fits (([] ++ (List.take (l_).length l_))).length then
  some ([] ++ l_)
  else none
 else
  bif fits (([] ++ l)).length then
  bif fits ((([] ++ l) ++ (List.take (l_).length l_))).length then
  some (([] ++ l) ++ l_)
  else none
  else none
theorem kr05_Put_runs (l : List Bool) (n : Int) (k : Int) (r_ : List Bool) (h : kr05_Put l n k = some r_) : Runs Tryz.prog 132 [(.one (.pv (.bools l false))), (.one (.pv (.int .u64 n))), (.one (.pv (.int .i64 k)))] [] [] (kr05_Put_out l n k r_) := by
 unfold kr05_Put at h
 obtain ⟨l_, h1, h⟩ := bind_of h
 have q_1 := (LRuns.coe (s0 := ⟨[(0, (.av (.one (.pv (.bools l false))))), (1, (.av (.one (.pv (.int .u64 n))))), (2, (.av (.one (.pv (.int .i64 k))))), (7, (.av (.one (.own 0 0 0 false)))), (8, (.av (.one (.pv (.int .i64 0)))))], [], [(0, (.live (.bools [])))]⟩) (kr05_Put_L0_2_runs l k _ _ h1) ⟨⟨⟨_, rfl, .eq rfl⟩, ⟨_, rfl, .eq rfl⟩, ⟨_, rfl, .eq rfl⟩, ⟨_, rfl, .own (by first | rfl | (simp only [List.take_length]; done) | (simp; done) | (simp only [List.map_take, List.map_drop, List.map_append, List.take_length, List.nil_append]; done) | (simp only [List.length_map, List.take_length, List.length_append, List.drop_zero, List.map_append, List.map_take, List.map_drop, List.map_replicate, List.map_cons, List.map_nil, List.append_nil, List.nil_append]; done))⟩, ⟨_, rfl, .eq rfl⟩, trivial⟩, trivial, ⟨⟨rfl, .eq rfl⟩, trivial⟩⟩)
 rcases cond_of h with ⟨h2, h⟩ | ⟨h2, h⟩
 ·obtain ⟨h3, h⟩ := need_of h
  have h := some_of h
  subst h
  have t_ := tL q_1 <| tT h2 <| tO (rfl : true = true) <| tO h3 <| tN
  have e_ : Runs Tryz.prog 132 [(.one (.pv (.bools l false))), (.one (.pv (.int .u64 n))), (.one (.pv (.int .i64 k)))] [] [] ([(.one (.own 0 0 (([] ++ (List.take (l_).length l_))).length false))], [], [(.bools ([] ++ (List.take (l_).length l_)))]) := runs_of (C := cfg) (objs := []) (sc := t_.ev) (.k0 t_.pf (by kernel_rfl))
  exact e_.out ⟨.own (by first | rfl | (simp only [List.take_length]; done) | (simp; done) | (simp only [List.map_take, List.map_drop, List.map_append, List.take_length, List.nil_append]; done) | (simp only [List.length_map, List.take_length, List.length_append, List.drop_zero, List.map_append, List.map_take, List.map_drop, List.map_replicate, List.map_cons, List.map_nil, List.append_nil, List.nil_append]; done)), trivial⟩ trivial ⟨.eq (by first | rfl | (simp only [List.take_length]; done) | (simp; done) | (simp only [List.map_take, List.map_drop, List.map_append, List.take_length, List.nil_append]; done) | (simp only [List.length_map, List.take_length, List.length_append, List.drop_zero, List.map_append, List.map_take, List.map_drop, List.map_replicate, List.map_cons, List.map_nil, List.append_nil, List.nil_append]; done)), trivial⟩ rfl
 ·obtain ⟨h3, h⟩ := need_of h
  obtain ⟨h4, h⟩ := need_of h
  have h := some_of h
  subst h
  have t_ := tL q_1 <| tF (not_of h2) <| tO h3 <| tO (show (Nat.beq (([] ++ l)).length (([] ++ l)).length) = true from Nat.beq_refl _) <| tO h4 <| tN
  have e_ : Runs Tryz.prog 132 [(.one (.pv (.bools l false))), (.one (.pv (.int .u64 n))), (.one (.pv (.int .i64 k)))] [] [] ([(.one (.own 0 0 ((([] ++ l) ++ (List.take (l_).length l_))).length false))], [], [(.bools (([] ++ l) ++ (List.take (l_).length l_)))]) := runs_of (C := cfg) (objs := []) (sc := t_.ev) (.k0 t_.pf (by kernel_rfl))
  exact e_.out ⟨.own (by first | rfl | (simp only [List.take_length]; done) | (simp; done) | (simp only [List.map_take, List.map_drop, List.map_append, List.take_length, List.nil_append]; done) | (simp only [List.length_map, List.take_length, List.length_append, List.drop_zero, List.map_append, List.map_take, List.map_drop, List.map_replicate, List.map_cons, List.map_nil, List.append_nil, List.nil_append]; done)), trivial⟩ trivial ⟨.eq (by first | rfl | (simp only [List.take_length]; done) | (simp; done) | (simp only [List.map_take, List.map_drop, List.map_append, List.take_length, List.nil_append]; done) | (simp only [List.length_map, List.take_length, List.length_append, List.drop_zero, List.map_append, List.map_take, List.map_drop, List.map_replicate, List.map_cons, List.map_nil, List.append_nil, List.nil_append]; done)), trivial⟩ rfl
noncomputable def kr07_ID_b (rec_kr07_ID : List Bool → T_kr01_ID → Option (List Bool)) (l : List Bool) (i : T_kr01_ID) : Option (List Bool) :=
 match i with
 | .nil =>
  none
 | .mk n t t2 =>
  bif (decide ((n : Int) < 2)) then
   (kr05_Put l 0 2).bind fun l_ =>
   (kr05_Put l_ (IntKind.u64.wrap n) 1).bind fun l_2 =>
   some l_2
  else
   match t with
   | .nil =>
    none
   | .mk n2 t3 t4 =>
    bif (decide ((n2 : Int) = 0)) then
     (kr05_Put l 1 2).bind fun l_ =>
     (rec_kr07_ID l_ t2).bind fun l_2 =>
     some l_2
    else
     match t2 with
     | .nil =>
      none
     | .mk n3 t5 t6 =>
      bif (decide ((n3 : Int) = 0)) then
       (kr05_Put l 2 2).bind fun l_ =>
       (rec_kr07_ID l_ t).bind fun l_2 =>
       some l_2
      else
       (kr05_Put l 3 2).bind fun l_ =>
       (rec_kr07_ID l_ t).bind fun l_2 =>
       (rec_kr07_ID l_2 t2).bind fun l_3 =>
       some l_3
theorem kr07_ID_b_runs (rec_kr07_ID : List Bool → T_kr01_ID → Option (List Bool)) (hrec_kr07_ID : ∀ l i r_, rec_kr07_ID l i = some r_ → Runs Tryz.prog 112 [(.one (.pv (.bools l false))), (.one (.pv (T_kr01_ID.pv i)))] [] [] (kr07_ID_out l i r_)) (l : List Bool) (i : T_kr01_ID) (r_ : List Bool) (h : kr07_ID_b rec_kr07_ID l i = some r_) : Runs Tryz.prog 112 [(.one (.pv (.bools l false))), (.one (.pv (T_kr01_ID.pv i)))] [] [] (kr07_ID_out l i r_) := by
 unfold kr07_ID_b at h
 cases i with
 | nil =>
  cases h
 | mk n t t2 =>
  rcases cond_of h with ⟨h1, h⟩ | ⟨h1, h⟩
  ·obtain ⟨l_, h2, h⟩ := bind_of h
   obtain ⟨l_2, h3, h⟩ := bind_of h
   have h := some_of h
   subst h
   have t_ := tT h1 <| tR (kr05_Put_runs l 0 2 _ h2) <| tR (Runs.coe (as' := [(.one (.pv (.bools (List.take (l_).length l_) false))), (.one (.pv (.int .u64 (IntKind.u64.wrap n)))), (.one (.pv (.int .i64 1)))]) (objs' := []) (rows' := []) (kr05_Put_runs l_ (IntKind.u64.wrap n) 1 _ h3) ⟨.pv (.bools (by first | rfl | (simp only [List.take_length]; done) | (simp; done) | (simp only [List.map_take, List.map_drop, List.map_append, List.take_length, List.nil_append]; done) | (simp only [List.length_map, List.take_length, List.length_append, List.drop_zero, List.map_append, List.map_take, List.map_drop, List.map_replicate, List.map_cons, List.map_nil, List.append_nil, List.nil_append]; done))), .eq rfl, .eq rfl, trivial⟩ trivial trivial) <| tN
   exact runs_of (C := cfg) (objs := []) (sc := t_.ev) (.k0 t_.pf (by kernel_rfl))
  ·cases t with
   | nil =>
    cases h
   | mk n2 t3 t4 =>
    rcases cond_of h with ⟨h2, h⟩ | ⟨h2, h⟩
    ·obtain ⟨l_, h3, h⟩ := bind_of h
     obtain ⟨l_2, h4, h⟩ := bind_of h
     have h := some_of h
     subst h
     have t_ := tF h1 <| tT h2 <| tR (kr05_Put_runs l 1 2 _ h3) <| tR (Runs.coe (as' := [(.one (.pv (.bools (List.take (l_).length l_) false))), (.one (.pv (T_kr01_ID.pv t2)))]) (objs' := []) (rows' := []) (hrec_kr07_ID l_ t2 _ h4) ⟨.pv (.bools (by first | rfl | (simp only [List.take_length]; done) | (simp; done) | (simp only [List.map_take, List.map_drop, List.map_append, List.take_length, List.nil_append]; done) | (simp only [List.length_map, List.take_length, List.length_append, List.drop_zero, List.map_append, List.map_take, List.map_drop, List.map_replicate, List.map_cons, List.map_nil, List.append_nil, List.nil_append]; done))), .eq rfl, trivial⟩ trivial trivial) <| tN
     exact runs_of (C := cfg) (objs := []) (sc := t_.ev) (.k0 t_.pf (by kernel_rfl))
    ·cases t2 with
     | nil =>
      cases h
     | mk n3 t5 t6 =>
      rcases cond_of h with ⟨h3, h⟩ | ⟨h3, h⟩
      ·obtain ⟨l_, h4, h⟩ := bind_of h
       obtain ⟨l_2, h5, h⟩ := bind_of h
       have h := some_of h
       subst h
       have t_ := tF h1 <| tF h2 <| tT h3 <| tR (kr05_Put_runs l 2 2 _ h4) <| tR (Runs.coe (as' := [(.one (.pv (.bools (List.take (l_).length l_) false))), (.one (.pv (T_kr01_ID.pv (T_kr01_ID.mk n2 t3 t4))))]) (objs' := []) (rows' := []) (hrec_kr07_ID l_ (T_kr01_ID.mk n2 t3 t4) _ h5) ⟨.pv (.bools (by first | rfl | (simp only [List.take_length]; done) | (simp; done) | (simp only [List.map_take, List.map_drop, List.map_append, List.take_length, List.nil_append]; done) | (simp only [List.length_map, List.take_length, List.length_append, List.drop_zero, List.map_append, List.map_take, List.map_drop, List.map_replicate, List.map_cons, List.map_nil, List.append_nil, List.nil_append]; done))), .eq rfl, trivial⟩ trivial trivial) <| tN
       exact runs_of (C := cfg) (objs := []) (sc := t_.ev) (.k0 t_.pf (by kernel_rfl))
      ·obtain ⟨l_, h4, h⟩ := bind_of h
       obtain ⟨l_2, h5, h⟩ := bind_of h
       obtain ⟨l_3, h6, h⟩ := bind_of h
       have h := some_of h
       subst h
       have t_ := tF h1 <| tF h2 <| tF h3 <| tR (kr05_Put_runs l 3 2 _ h4) <| tR (Runs.coe (as' := [(.one (.pv (.bools (List.take (l_).length l_) false))), (.one (.pv (T_kr01_ID.pv (T_kr01_ID.mk n2 t3 t4))))]) (objs' := []) (rows' := []) (hrec_kr07_ID l_ (T_kr01_ID.mk n2 t3 t4) _ h5) ⟨.pv (.bools (by first | rfl | (simp only [List.take_length]; done) | (simp; done) | (simp only [List.map_take, List.map_drop, List.map_append, List.take_length, List.nil_append]; done) | (simp only [List.length_map, List.take_length, List.length_append, List.drop_zero, List.map_append, List.map_take, List.map_drop, List.map_replicate, List.map_cons, List.map_nil, List.append_nil, List.nil_append]; done))), .eq rfl, trivial⟩ trivial trivial) <| tR (Runs.coe (as' := [(.one (.pv (.bools (List.take (l_2).length l_2) false))), (.one (.pv (T_kr01_ID.pv (T_kr01_ID.mk n3 t5 t6))))]) (objs' := []) (rows' := []) (hrec_kr07_ID l_2 (T_kr01_ID.mk n3 t5 t6) _ h6) ⟨.pv (.bools (by first | rfl | (simp only [List.take_length]; done) | (simp; done) | (simp only [List.map_take, List.map_drop, List.map_append, List.take_length, List.nil_append]; done) | (simp only [List.length_map, List.take_length, List.length_append, List.drop_zero, List.map_append, List.map_take, List.map_drop, List.map_replicate, List.map_cons, List.map_nil, List.append_nil, List.nil_append]; done))), .eq rfl, trivial⟩ trivial trivial) <| tN
       exact runs_of (C := cfg) (objs := []) (sc := t_.ev) (.k0 t_.pf (by kernel_rfl))
noncomputable def kr07_ID : Nat → List Bool → T_kr01_ID → Option (List Bool)
 | 0, _, _ => none
 | N + 1, l, i => kr07_ID_b (kr07_ID N) l i
theorem kr07_ID_runs : ∀ (N : Nat) (l : List Bool) (i : T_kr01_ID) (r_ : List Bool), kr07_ID N l i = some r_ → Runs Tryz.prog 112 [(.one (.pv (.bools l false))), (.one (.pv (T_kr01_ID.pv i)))] [] [] (kr07_ID_out l i r_)
 | 0, _, _, _, h => by cases h
 | N + 1, l, i, r_, h => kr07_ID_b_runs (kr07_ID N) (kr07_ID_runs N) l i r_ h
def kr05_Bytes_out (l : List Bool) : List Int → Res
 | r1 => ([(.one (.own 0 0 (r1).length false))], [], [(.ints .u8 r1)])
def kr05_Bytes_L1_3_st (l : List Bool) (i : Int) (l2 : List Int) : Int × Int → St
 | (b, k) => ⟨[(0, (.av (.one (.pv (.bools l false))))), (3, (.av (.one (.own 0 0 (l2).length false)))), (4, (.av (.one (.pv (.int .i64 i))))), (5, (.av (.one (.pv (.int .u8 b))))), (6, (.av (.one (.pv (.int .i64 k)))))], [], [(0, (.live (.ints .u8 l2)))]⟩
def kr05_Bytes_L1_3_ex (l : List Bool) (i : Int) (l2 : List Int) : Int → Ex × St
 | r1 => ((.exit 2), ⟨[(0, (.av (.one (.pv (.bools l false))))), (3, (.av (.one (.own 0 0 (l2).length false)))), (4, (.av (.one (.pv (.int .i64 i))))), (5, (.av (.one (.pv (.int .u8 r1)))))], [], [(0, (.live (.ints .u8 l2)))]⟩)
noncomputable def kr05_Bytes_L1_3_step (l : List Bool) (i : Int) (l2 : List Int) : Int × Int → Option ((Int × Int) ⊕ (Int))
 | (b, k) =>
 bif (decide ((k : Int) < 8)) then
  bif (decide (((iadd .i64 i k) : Int) < ((l).length : Int))) then
   bif decide ((0 : Int) ≤ (iadd .i64 i k)) && decide (((iadd .i64 i k) : Int) < ((l).length : Int)) then
   bif (l.getD ((iadd .i64 i k)).toNat false) then
    some (.inl ((iadd .u8 (imul .u8 b 2) 1), (iadd .i64 k 1)))
   else
    some (.inl ((imul .u8 b 2), (iadd .i64 k 1)))
   else none
  else
   some (.inl ((imul .u8 b 2), (iadd .i64 k 1)))
 else
  some (.inr b)
theorem kr05_Bytes_L1_3_ok (l : List Bool) (i : Int) (l2 : List Int) (s_ : Int × Int) (z_ : (Int × Int) ⊕ (Int)) (h : kr05_Bytes_L1_3_step l i l2 s_ = some z_) : RoundOk Tryz.prog cfg 111 0 (loopAt Tryz.prog 111 1) (kr05_Bytes_L1_3_st l i l2) (kr05_Bytes_L1_3_ex l i l2) s_ z_ := by
 rcases s_ with ⟨b, k⟩
 rcases cond_of h with ⟨h1, h⟩ | ⟨h1, h⟩
 ·rcases cond_of h with ⟨h2, h⟩ | ⟨h2, h⟩
  ·obtain ⟨h3, h⟩ := need_of h
   rcases cond_of h with ⟨h4, h⟩ | ⟨h4, h⟩
   ·have h := some_of h
    subst h
    have t_ := tT h1 <| tT h2 <| tO h3 <| tT h4 <| tN
    exact ⟨t_.ev, kr05_Bytes_L1_3_st l i l2 ((iadd .u8 (imul .u8 b 2) 1), (iadd .i64 k 1)), .k0 t_.pf (by kernel_rfl), .same (by kernel_rfl)⟩
   ·have h := some_of h
    subst h
    have t_ := tT h1 <| tT h2 <| tO h3 <| tF h4 <| tN
    exact ⟨t_.ev, kr05_Bytes_L1_3_st l i l2 ((imul .u8 b 2), (iadd .i64 k 1)), .k0 t_.pf (by kernel_rfl), .same (by kernel_rfl)⟩
  ·have h := some_of h
   subst h
   have t_ := tT h1 <| tF h2 <| tF (rfl : false = false) <| tN
   exact ⟨t_.ev, kr05_Bytes_L1_3_st l i l2 ((imul .u8 b 2), (iadd .i64 k 1)), .k0 t_.pf (by kernel_rfl), .same (by kernel_rfl)⟩
 ·have h := some_of h
  subst h
  have t_ := tF h1 <| tN
  exact ⟨t_.ev, ⟨[(14, (.av (.one (.pv (.bool false))))), (0, (.av (.one (.pv (.bools l false))))), (3, (.av (.one (.own 0 0 (l2).length false)))), (4, (.av (.one (.pv (.int .i64 i))))), (5, (.av (.one (.pv (.int .u8 b))))), (6, (.av (.one (.pv (.int .i64 k))))), (14, (.av (.one (.pv (.bool (decide ((k : Int) < 8)))))))], [], [(0, (.live (.ints .u8 l2)))]⟩, .k0 t_.pf (by kernel_rfl), ⟨⟨⟨_, rfl, .eq rfl⟩, ⟨_, rfl, .eq rfl⟩, ⟨_, rfl, .eq rfl⟩, ⟨_, rfl, .eq rfl⟩, trivial⟩, trivial, ⟨⟨rfl, .eq rfl⟩, trivial⟩⟩⟩
theorem kr05_Bytes_L1_3_runs (l : List Bool) (i : Int) (l2 : List Int) (s_ : Int × Int) (r_ : Int) (h : runL (kr05_Bytes_L1_3_step l i l2) s_ = some r_) : LRuns Tryz.prog (lEnv Tryz.prog cfg 111 0).nt 0 (.loop (loopAt Tryz.prog 111 1)) (kr05_Bytes_L1_3_st l i l2 s_) (kr05_Bytes_L1_3_ex l i l2 r_).1 (kr05_Bytes_L1_3_ex l i l2 r_).2 :=
 loop_run h (kr05_Bytes_L1_3_ok l i l2) (by intro r_; rcases r_ with r1 <;> simp [kr05_Bytes_L1_3_ex])
def kr05_Bytes_L0_2_st (l : List Bool) : Int × List Int → St
 | (i, l2) => ⟨[(0, (.av (.one (.pv (.bools l false))))), (3, (.av (.one (.own 0 0 (l2).length false)))), (4, (.av (.one (.pv (.int .i64 i)))))], [], [(0, (.live (.ints .u8 l2)))]⟩
def kr05_Bytes_L0_2_ex (l : List Bool) : List Int → Ex × St
 | r1 => ((.exit 0), ⟨[(3, (.av (.one (.own 0 0 (r1).length false))))], [], [(0, (.live (.ints .u8 r1)))]⟩)
noncomputable def kr05_Bytes_L0_2_step (l : List Bool) : Int × List Int → Option ((Int × List Int) ⊕ (List Int))
 | (i, l2) =>
 bif (decide ((i : Int) < ((l).length : Int))) then
  (runL (kr05_Bytes_L1_3_step l i l2) (0, 0)).bind fun n =>
  bif fits ((l2 ++ [n])).length then
  some (.inl ((iadd .i64 i 8), (l2 ++ [n])))
  else none
 else
  some (.inr l2)
theorem kr05_Bytes_L0_2_ok (l : List Bool) (s_ : Int × List Int) (z_ : (Int × List Int) ⊕ (List Int)) (h : kr05_Bytes_L0_2_step l s_ = some z_) : RoundOk Tryz.prog cfg 111 0 (loopAt Tryz.prog 111 0) (kr05_Bytes_L0_2_st l) (kr05_Bytes_L0_2_ex l) s_ z_ := by
 rcases s_ with ⟨i, l2⟩
 rcases cond_of h with ⟨h1, h⟩ | ⟨h1, h⟩
 ·obtain ⟨n, h2, h⟩ := bind_of h
  obtain ⟨h3, h⟩ := need_of h
  have h := some_of h
  subst h
  have t_ := tT h1 <| tL (kr05_Bytes_L1_3_runs l i l2 _ _ h2) <| tO (show (Nat.beq (l2).length (l2).length) = true from Nat.beq_refl _) <| tO h3 <| tN
  exact ⟨t_.ev, kr05_Bytes_L0_2_st l ((iadd .i64 i 8), (l2 ++ [n])), .k0 t_.pf (by kernel_rfl), .same (by kernel_rfl)⟩
 ·have h := some_of h
  subst h
  have t_ := tF h1 <| tN
  exact ⟨t_.ev, ⟨[(10, (.av (.one (.pv (.bool false))))), (0, (.av (.one (.pv (.bools l false))))), (3, (.av (.one (.own 0 0 (l2).length false)))), (4, (.av (.one (.pv (.int .i64 i))))), (10, (.av (.one (.pv (.bool (decide ((i : Int) < ((l).length : Int))))))))], [], [(0, (.live (.ints .u8 l2)))]⟩, .k0 t_.pf (by kernel_rfl), ⟨⟨⟨_, rfl, .eq rfl⟩, trivial⟩, trivial, ⟨⟨rfl, .eq rfl⟩, trivial⟩⟩⟩
theorem kr05_Bytes_L0_2_runs (l : List Bool) (s_ : Int × List Int) (r_ : List Int) (h : runL (kr05_Bytes_L0_2_step l) s_ = some r_) : LRuns Tryz.prog (lEnv Tryz.prog cfg 111 0).nt 0 (.loop (loopAt Tryz.prog 111 0)) (kr05_Bytes_L0_2_st l s_) (kr05_Bytes_L0_2_ex l r_).1 (kr05_Bytes_L0_2_ex l r_).2 :=
 loop_run h (kr05_Bytes_L0_2_ok l) (by intro r_; rcases r_ with r1 <;> simp [kr05_Bytes_L0_2_ex])
noncomputable def kr05_Bytes (l : List Bool) : Option (List Int) :=
 (runL (kr05_Bytes_L0_2_step l) (0, [])).bind fun l_ =>
 some l_
theorem kr05_Bytes_runs (l : List Bool) (r_ : List Int) (h : kr05_Bytes l = some r_) : Runs Tryz.prog 111 [(.one (.pv (.bools l false)))] [] [] (kr05_Bytes_out l r_) := by
 unfold kr05_Bytes at h
 obtain ⟨l_, h1, h⟩ := bind_of h
 have h := some_of h
 subst h
 have t_ := tL (LRuns.coe (s0 := ⟨[(0, (.av (.one (.pv (.bools l false))))), (3, (.av (.one (.own 0 0 0 false)))), (4, (.av (.one (.pv (.int .i64 0)))))], [], [(0, (.live (.ints .u8 [])))]⟩) (kr05_Bytes_L0_2_runs l _ _ h1) ⟨⟨⟨_, rfl, .eq rfl⟩, ⟨_, rfl, .own (by first | rfl | (simp only [List.take_length]; done) | (simp; done) | (simp only [List.map_take, List.map_drop, List.map_append, List.take_length, List.nil_append]; done) | (simp only [List.length_map, List.take_length, List.length_append, List.drop_zero, List.map_append, List.map_take, List.map_drop, List.map_replicate, List.map_cons, List.map_nil, List.append_nil, List.nil_append]; done))⟩, ⟨_, rfl, .eq rfl⟩, trivial⟩, trivial, ⟨⟨rfl, .eq rfl⟩, trivial⟩⟩) <| tN
 exact runs_of (C := cfg) (objs := []) (sc := t_.ev) (.k0 t_.pf (by kernel_rfl))
def kr06_Text_out (s : ByteArray) : List Int → Res
 | r1 => ([(.one (.own 0 0 (r1).length false))], [], [(.ints .u8 r1)])
noncomputable def kr06_Text (N : Nat) (s : ByteArray) : Option (List Int) :=
 (kr06_Num N (IntKind.u64.wrap (s.size : Int))).bind fun l_ =>
 bif decide (s.size ≤ 140737488355328) then
 bif fits ((l_ ++ (List.take (bytesL s).length (bytesL s)))).length then
 some (l_ ++ (bytesL s))
 else none
 else none
theorem kr06_Text_runs (N : Nat) (s : ByteArray) (r_ : List Int) (h : kr06_Text N s = some r_) : Runs Tryz.prog 110 [(.one (.pv (.str s)))] [] [] (kr06_Text_out s r_) := by
 unfold kr06_Text at h
 obtain ⟨l_, h1, h⟩ := bind_of h
 obtain ⟨h2, h⟩ := need_of h
 obtain ⟨h3, h⟩ := need_of h
 have h := some_of h
 subst h
 have t_ := tR (kr06_Num_runs N (IntKind.u64.wrap (s.size : Int)) _ h1) <| tO h2 <| tO (show (Nat.beq (l_).length (l_).length) = true from Nat.beq_refl _) <| tO h3 <| tN
 have e_ : Runs Tryz.prog 110 [(.one (.pv (.str s)))] [] [] ([(.one (.own 0 0 ((l_ ++ (List.take (bytesL s).length (bytesL s)))).length false))], [], [(.ints .u8 (l_ ++ (List.take (bytesL s).length (bytesL s))))]) := runs_of (C := cfg) (objs := []) (sc := t_.ev) (.k0 t_.pf (by kernel_rfl))
 exact e_.out ⟨.own (by first | rfl | (simp only [List.take_length]; done) | (simp; done) | (simp only [List.map_take, List.map_drop, List.map_append, List.take_length, List.nil_append]; done) | (simp only [List.length_map, List.take_length, List.length_append, List.drop_zero, List.map_append, List.map_take, List.map_drop, List.map_replicate, List.map_cons, List.map_nil, List.append_nil, List.nil_append]; done)), trivial⟩ trivial ⟨.eq (by first | rfl | (simp only [List.take_length]; done) | (simp; done) | (simp only [List.map_take, List.map_drop, List.map_append, List.take_length, List.nil_append]; done) | (simp only [List.length_map, List.take_length, List.length_append, List.drop_zero, List.map_append, List.map_take, List.map_drop, List.map_replicate, List.map_cons, List.map_nil, List.append_nil, List.nil_append]; done)), trivial⟩ rfl
noncomputable def kr15_PutGift (N : Nat) (g : Int) (g2 : Int) (g3 : Int) (g4 : T_kr01_ID) : Option (List Int) :=
 (kr06_Num N g).bind fun l_ =>
 (kr06_Num N (IntKind.u64.wrap g2)).bind fun l_2 =>
 (kr06_Num N (IntKind.u64.wrap g3)).bind fun l_3 =>
 (kr07_ID N [] g4).bind fun l_4 =>
 (kr05_Bytes l_4).bind fun l_5 =>
 (kr06_Text N (Ev.strOf (List.take (l_5).length l_5))).bind fun l_6 =>
 (kr06_Join [(E_L_uint8.mk l_), (E_L_uint8.mk l_2), (E_L_uint8.mk l_3), (E_L_uint8.mk l_6)]).bind fun l_7 =>
 some l_7
theorem kr15_PutGift_runs (N : Nat) (g : Int) (g2 : Int) (g3 : Int) (g4 : T_kr01_ID) (r_ : List Int) (h : kr15_PutGift N g g2 g3 g4 = some r_) : Runs Tryz.prog 76 [(.agg [(.pv (.int .u64 g)), (.pv (.int .i64 g2)), (.pv (.int .i64 g3)), (.pv (T_kr01_ID.pv g4))])] [] [] (kr15_PutGift_out g g2 g3 g4 r_) := by
 unfold kr15_PutGift at h
 obtain ⟨l_, h1, h⟩ := bind_of h
 obtain ⟨l_2, h2, h⟩ := bind_of h
 obtain ⟨l_3, h3, h⟩ := bind_of h
 obtain ⟨l_4, h4, h⟩ := bind_of h
 obtain ⟨l_5, h5, h⟩ := bind_of h
 obtain ⟨l_6, h6, h⟩ := bind_of h
 obtain ⟨l_7, h7, h⟩ := bind_of h
 have h := some_of h
 subst h
 have t_ := tR (kr06_Num_runs N g _ h1) <| tR (kr06_Num_runs N g _ h1) <| tR (kr06_Num_runs N g _ h1) <| tR (kr06_Num_runs N g _ h1) <| tR (kr06_Num_runs N (IntKind.u64.wrap g2) _ h2) <| tR (kr06_Num_runs N g _ h1) <| tR (kr06_Num_runs N g _ h1) <| tR (kr06_Num_runs N (IntKind.u64.wrap g2) _ h2) <| tR (kr06_Num_runs N g _ h1) <| tR (kr06_Num_runs N (IntKind.u64.wrap g2) _ h2) <| tR (kr06_Num_runs N g _ h1) <| tR (kr06_Num_runs N (IntKind.u64.wrap g2) _ h2) <| tR (kr06_Num_runs N (IntKind.u64.wrap g3) _ h3) <| tR (kr06_Num_runs N (IntKind.u64.wrap g3) _ h3) <| tR (Runs.coe (as' := [(.one (.pv .nils)), (.one (.pv (T_kr01_ID.pv g4)))]) (objs' := []) (rows' := []) (kr07_ID_runs N [] g4 _ h4) ⟨.pv (.nilsB), .eq rfl, trivial⟩ trivial trivial) <| tR (Runs.coe (as' := [(.one (.pv (.bools (List.take (l_4).length l_4) false)))]) (objs' := []) (rows' := []) (kr05_Bytes_runs l_4 _ h5) ⟨.pv (.bools (by first | rfl | (simp only [List.take_length]; done) | (simp; done) | (simp only [List.map_take, List.map_drop, List.map_append, List.take_length, List.nil_append]; done) | (simp only [List.length_map, List.take_length, List.length_append, List.drop_zero, List.map_append, List.map_take, List.map_drop, List.map_replicate, List.map_cons, List.map_nil, List.append_nil, List.nil_append]; done))), trivial⟩ trivial trivial) <| tR (kr06_Text_runs N (Ev.strOf (List.take (l_5).length l_5)) _ h6) <| tR (Runs.coe (as' := [(.one (.pv (.recs 1 [[(.ints .u8 (List.take (l_).length l_) false)], [(.ints .u8 (List.take (l_2).length l_2) false)], [(.ints .u8 (List.take (l_3).length l_3) false)], [(.ints .u8 (List.take (l_6).length l_6) false)]] true)))]) (objs' := []) (rows' := []) (kr06_Join_runs [(E_L_uint8.mk l_), (E_L_uint8.mk l_2), (E_L_uint8.mk l_3), (E_L_uint8.mk l_6)] _ h7) ⟨.pv (.recs (.cons (.cons (.ints (by first | rfl | (simp only [List.take_length]; done) | (simp; done) | (simp only [List.map_take, List.map_drop, List.map_append, List.take_length, List.nil_append]; done) | (simp only [List.length_map, List.take_length, List.length_append, List.drop_zero, List.map_append, List.map_take, List.map_drop, List.map_replicate, List.map_cons, List.map_nil, List.append_nil, List.nil_append]; done))) (.nil)) (.cons (.cons (.ints (by first | rfl | (simp only [List.take_length]; done) | (simp; done) | (simp only [List.map_take, List.map_drop, List.map_append, List.take_length, List.nil_append]; done) | (simp only [List.length_map, List.take_length, List.length_append, List.drop_zero, List.map_append, List.map_take, List.map_drop, List.map_replicate, List.map_cons, List.map_nil, List.append_nil, List.nil_append]; done))) (.nil)) (.cons (.cons (.ints (by first | rfl | (simp only [List.take_length]; done) | (simp; done) | (simp only [List.map_take, List.map_drop, List.map_append, List.take_length, List.nil_append]; done) | (simp only [List.length_map, List.take_length, List.length_append, List.drop_zero, List.map_append, List.map_take, List.map_drop, List.map_replicate, List.map_cons, List.map_nil, List.append_nil, List.nil_append]; done))) (.nil)) (.cons (.cons (.ints (by first | rfl | (simp only [List.take_length]; done) | (simp; done) | (simp only [List.map_take, List.map_drop, List.map_append, List.take_length, List.nil_append]; done) | (simp only [List.length_map, List.take_length, List.length_append, List.drop_zero, List.map_append, List.map_take, List.map_drop, List.map_replicate, List.map_cons, List.map_nil, List.append_nil, List.nil_append]; done))) (.nil)) (.nil)))))), trivial⟩ trivial trivial) <| tN
 exact runs_of (C := cfg) (objs := []) (sc := t_.ev) (.k1 t_.pf (by kernel_rfl) (by kernel_rfl))
def kr15_Bytes_L0_st (r : List E_kr15_Gift) (n : Int) (n2 : Int) (n3 : Int) (r2 : List E_kr15_Gift) (l : List Int) (r3 : List E_kr15_Mark) : Int × List Int → St
 | (n4, l2) => ⟨[(0, (.av (.one (.ref 0 0)))), (3, (.av (.one (.own 0 0 (l2).length false)))), (33, (.av (.one (.pv (.recs 4 (List.map E_kr15_Gift.pv r) false))))), (34, (.av (.one (.pv (.int .i64 n))))), (35, (.av (.one (.pv (.int .i64 n4)))))], [(0, [(.pv (.int .i64 n2)), (.pv (.int .u64 n3)), (.pv (.recs 4 (List.map E_kr15_Gift.pv r2) false)), (.pv (.ints .i64 l false)), (.pv (.recs 2 (List.map E_kr15_Mark.pv r3) false))])], [(0, (.live (.ints .u8 l2)))]⟩
def kr15_Bytes_L0_ex (r : List E_kr15_Gift) (n : Int) (n2 : Int) (n3 : Int) (r2 : List E_kr15_Gift) (l : List Int) (r3 : List E_kr15_Mark) : List Int → Ex × St
 | r1 => ((.exit 0), ⟨[(0, (.av (.one (.ref 0 0)))), (3, (.av (.one (.own 0 0 (r1).length false))))], [(0, [(.pv (.int .i64 n2)), (.pv (.int .u64 n3)), (.pv (.recs 4 (List.map E_kr15_Gift.pv r2) false)), (.pv (.ints .i64 l false)), (.pv (.recs 2 (List.map E_kr15_Mark.pv r3) false))])], [(0, (.live (.ints .u8 r1)))]⟩)
noncomputable def kr15_Bytes_L0_step (N : Nat) (r : List E_kr15_Gift) (n : Int) (n2 : Int) (n3 : Int) (r2 : List E_kr15_Gift) (l : List Int) (r3 : List E_kr15_Mark) : Int × List Int → Option ((Int × List Int) ⊕ (List Int))
 | (n4, l2) =>
 bif (decide ((n4 : Int) < n)) then
  bif decide ((0 : Int) ≤ n4) && decide ((n4 : Int) < (((List.map E_kr15_Gift.pv r)).length : Int)) then
  (r[(n4).toNat]?).bind fun e_ => match e_ with
  | .mk n5 n6 n7 t =>
  (kr15_PutGift N n5 n6 n7 t).bind fun l_ =>
  (kr06_Join [(E_L_uint8.mk l2), (E_L_uint8.mk l_)]).bind fun l_2 =>
  some (.inl ((iadd .i64 n4 1), l_2))
  else none
 else
  some (.inr l2)
theorem kr15_Bytes_L0_ok (N : Nat) (r : List E_kr15_Gift) (n : Int) (n2 : Int) (n3 : Int) (r2 : List E_kr15_Gift) (l : List Int) (r3 : List E_kr15_Mark) (s_ : Int × List Int) (z_ : (Int × List Int) ⊕ (List Int)) (h : kr15_Bytes_L0_step N r n n2 n3 r2 l r3 s_ = some z_) : RoundOk Tryz.prog cfg 35 1 (loopAt Tryz.prog 35 0) (kr15_Bytes_L0_st r n n2 n3 r2 l r3) (kr15_Bytes_L0_ex r n n2 n3 r2 l r3) s_ z_ := by
 rcases s_ with ⟨n4, l2⟩
 rcases cond_of h with ⟨h1, h⟩ | ⟨h1, h⟩
 ·obtain ⟨h2, h⟩ := need_of h
  obtain ⟨⟨n5, n6, n7, t⟩, h3, h⟩ := bind_of h
  obtain ⟨l_, h4, h⟩ := bind_of h
  obtain ⟨l_2, h5, h⟩ := bind_of h
  have h := some_of h
  subst h
  have t_ := tT h1 <| tO h2 <| tE (.el [(.int .u64 n5), (.int .i64 n6), (.int .i64 n7), (T_kr01_ID.pv t)]) <| tO (el_of (f := E_kr15_Gift.pv) h3) <| tR (kr15_PutGift_runs N n5 n6 n7 t _ h4) <| tR (Runs.coe (as' := [(.one (.pv (.recs 1 [[(.ints .u8 (List.take (l2).length l2) false)], [(.ints .u8 (List.take (l_).length l_) false)]] true)))]) (objs' := []) (rows' := []) (kr06_Join_runs [(E_L_uint8.mk l2), (E_L_uint8.mk l_)] _ h5) ⟨.pv (.recs (.cons (.cons (.ints (by first | rfl | (simp only [List.take_length]; done) | (simp; done) | (simp only [List.map_take, List.map_drop, List.map_append, List.take_length, List.nil_append]; done) | (simp only [List.length_map, List.take_length, List.length_append, List.drop_zero, List.map_append, List.map_take, List.map_drop, List.map_replicate, List.map_cons, List.map_nil, List.append_nil, List.nil_append]; done))) (.nil)) (.cons (.cons (.ints (by first | rfl | (simp only [List.take_length]; done) | (simp; done) | (simp only [List.map_take, List.map_drop, List.map_append, List.take_length, List.nil_append]; done) | (simp only [List.length_map, List.take_length, List.length_append, List.drop_zero, List.map_append, List.map_take, List.map_drop, List.map_replicate, List.map_cons, List.map_nil, List.append_nil, List.nil_append]; done))) (.nil)) (.nil)))), trivial⟩ trivial trivial) <| tN
  exact ⟨t_.ev, kr15_Bytes_L0_st r n n2 n3 r2 l r3 ((iadd .i64 n4 1), l_2), .k0 t_.pf (by kernel_rfl), .same (by kernel_rfl)⟩
 ·have h := some_of h
  subst h
  have t_ := tF h1 <| tN
  exact ⟨t_.ev, ⟨[(36, (.av (.one (.pv (.bool false))))), (0, (.av (.one (.ref 0 0)))), (3, (.av (.one (.own 0 0 (l2).length false)))), (33, (.av (.one (.pv (.recs 4 (List.map E_kr15_Gift.pv r) false))))), (34, (.av (.one (.pv (.int .i64 n))))), (35, (.av (.one (.pv (.int .i64 n4))))), (36, (.av (.one (.pv (.bool (decide ((n4 : Int) < n)))))))], [(0, [(.pv (.int .i64 n2)), (.pv (.int .u64 n3)), (.pv (.recs 4 (List.map E_kr15_Gift.pv r2) false)), (.pv (.ints .i64 l false)), (.pv (.recs 2 (List.map E_kr15_Mark.pv r3) false))])], [(0, (.live (.ints .u8 l2)))]⟩, .k0 t_.pf (by kernel_rfl), ⟨⟨⟨_, rfl, .eq rfl⟩, ⟨_, rfl, .eq rfl⟩, trivial⟩, ⟨⟨rfl, ⟨.eq rfl, .eq rfl, .eq rfl, .eq rfl, .eq rfl, trivial⟩⟩, trivial⟩, ⟨⟨rfl, .eq rfl⟩, trivial⟩⟩⟩
theorem kr15_Bytes_L0_runs (N : Nat) (r : List E_kr15_Gift) (n : Int) (n2 : Int) (n3 : Int) (r2 : List E_kr15_Gift) (l : List Int) (r3 : List E_kr15_Mark) (s_ : Int × List Int) (r_ : List Int) (h : runL (kr15_Bytes_L0_step N r n n2 n3 r2 l r3) s_ = some r_) : LRuns Tryz.prog (lEnv Tryz.prog cfg 35 1).nt 1 (.loop (loopAt Tryz.prog 35 0)) (kr15_Bytes_L0_st r n n2 n3 r2 l r3 s_) (kr15_Bytes_L0_ex r n n2 n3 r2 l r3 r_).1 (kr15_Bytes_L0_ex r n n2 n3 r2 l r3 r_).2 :=
 loop_run h (kr15_Bytes_L0_ok N r n n2 n3 r2 l r3) (by intro r_; rcases r_ with r1 <;> simp [kr15_Bytes_L0_ex])
def kr15_Bytes_L1_st (l : List Int) (n : Int) (n2 : Int) (n3 : Int) (r : List E_kr15_Gift) (l2 : List Int) (r2 : List E_kr15_Mark) : Int × List Int → St
 | (n4, l3) => ⟨[(0, (.av (.one (.ref 0 0)))), (3, (.av (.one (.own 0 0 (l3).length false)))), (58, (.av (.one (.pv (.ints .i64 l false))))), (59, (.av (.one (.pv (.int .i64 n))))), (60, (.av (.one (.pv (.int .i64 n4)))))], [(0, [(.pv (.int .i64 n2)), (.pv (.int .u64 n3)), (.pv (.recs 4 (List.map E_kr15_Gift.pv r) false)), (.pv (.ints .i64 l2 false)), (.pv (.recs 2 (List.map E_kr15_Mark.pv r2) false))])], [(0, (.live (.ints .u8 l3)))]⟩
def kr15_Bytes_L1_ex (l : List Int) (n : Int) (n2 : Int) (n3 : Int) (r : List E_kr15_Gift) (l2 : List Int) (r2 : List E_kr15_Mark) : List Int → Ex × St
 | r1 => ((.exit 2), ⟨[(0, (.av (.one (.ref 0 0)))), (3, (.av (.one (.own 0 0 (r1).length false))))], [(0, [(.pv (.int .i64 n2)), (.pv (.int .u64 n3)), (.pv (.recs 4 (List.map E_kr15_Gift.pv r) false)), (.pv (.ints .i64 l2 false)), (.pv (.recs 2 (List.map E_kr15_Mark.pv r2) false))])], [(0, (.live (.ints .u8 r1)))]⟩)
noncomputable def kr15_Bytes_L1_step (N : Nat) (l : List Int) (n : Int) (n2 : Int) (n3 : Int) (r : List E_kr15_Gift) (l2 : List Int) (r2 : List E_kr15_Mark) : Int × List Int → Option ((Int × List Int) ⊕ (List Int))
 | (n4, l3) =>
 bif (decide ((n4 : Int) < n)) then
  bif decide ((0 : Int) ≤ n4) && decide ((n4 : Int) < ((l).length : Int)) then
  (kr06_Num N (IntKind.u64.wrap (l.getD (n4).toNat 0))).bind fun l_ =>
  (kr06_Join [(E_L_uint8.mk l3), (E_L_uint8.mk l_)]).bind fun l_2 =>
  some (.inl ((iadd .i64 n4 1), l_2))
  else none
 else
  some (.inr l3)
theorem kr15_Bytes_L1_ok (N : Nat) (l : List Int) (n : Int) (n2 : Int) (n3 : Int) (r : List E_kr15_Gift) (l2 : List Int) (r2 : List E_kr15_Mark) (s_ : Int × List Int) (z_ : (Int × List Int) ⊕ (List Int)) (h : kr15_Bytes_L1_step N l n n2 n3 r l2 r2 s_ = some z_) : RoundOk Tryz.prog cfg 35 1 (loopAt Tryz.prog 35 1) (kr15_Bytes_L1_st l n n2 n3 r l2 r2) (kr15_Bytes_L1_ex l n n2 n3 r l2 r2) s_ z_ := by
 rcases s_ with ⟨n4, l3⟩
 rcases cond_of h with ⟨h1, h⟩ | ⟨h1, h⟩
 ·obtain ⟨h2, h⟩ := need_of h
  obtain ⟨l_, h3, h⟩ := bind_of h
  obtain ⟨l_2, h4, h⟩ := bind_of h
  have h := some_of h
  subst h
  have t_ := tT h1 <| tO h2 <| tR (kr06_Num_runs N (IntKind.u64.wrap (l.getD (n4).toNat 0)) _ h3) <| tR (Runs.coe (as' := [(.one (.pv (.recs 1 [[(.ints .u8 (List.take (l3).length l3) false)], [(.ints .u8 (List.take (l_).length l_) false)]] true)))]) (objs' := []) (rows' := []) (kr06_Join_runs [(E_L_uint8.mk l3), (E_L_uint8.mk l_)] _ h4) ⟨.pv (.recs (.cons (.cons (.ints (by first | rfl | (simp only [List.take_length]; done) | (simp; done) | (simp only [List.map_take, List.map_drop, List.map_append, List.take_length, List.nil_append]; done) | (simp only [List.length_map, List.take_length, List.length_append, List.drop_zero, List.map_append, List.map_take, List.map_drop, List.map_replicate, List.map_cons, List.map_nil, List.append_nil, List.nil_append]; done))) (.nil)) (.cons (.cons (.ints (by first | rfl | (simp only [List.take_length]; done) | (simp; done) | (simp only [List.map_take, List.map_drop, List.map_append, List.take_length, List.nil_append]; done) | (simp only [List.length_map, List.take_length, List.length_append, List.drop_zero, List.map_append, List.map_take, List.map_drop, List.map_replicate, List.map_cons, List.map_nil, List.append_nil, List.nil_append]; done))) (.nil)) (.nil)))), trivial⟩ trivial trivial) <| tN
  exact ⟨t_.ev, kr15_Bytes_L1_st l n n2 n3 r l2 r2 ((iadd .i64 n4 1), l_2), .k0 t_.pf (by kernel_rfl), .same (by kernel_rfl)⟩
 ·have h := some_of h
  subst h
  have t_ := tF h1 <| tN
  exact ⟨t_.ev, ⟨[(61, (.av (.one (.pv (.bool false))))), (0, (.av (.one (.ref 0 0)))), (3, (.av (.one (.own 0 0 (l3).length false)))), (58, (.av (.one (.pv (.ints .i64 l false))))), (59, (.av (.one (.pv (.int .i64 n))))), (60, (.av (.one (.pv (.int .i64 n4))))), (61, (.av (.one (.pv (.bool (decide ((n4 : Int) < n)))))))], [(0, [(.pv (.int .i64 n2)), (.pv (.int .u64 n3)), (.pv (.recs 4 (List.map E_kr15_Gift.pv r) false)), (.pv (.ints .i64 l2 false)), (.pv (.recs 2 (List.map E_kr15_Mark.pv r2) false))])], [(0, (.live (.ints .u8 l3)))]⟩, .k0 t_.pf (by kernel_rfl), ⟨⟨⟨_, rfl, .eq rfl⟩, ⟨_, rfl, .eq rfl⟩, trivial⟩, ⟨⟨rfl, ⟨.eq rfl, .eq rfl, .eq rfl, .eq rfl, .eq rfl, trivial⟩⟩, trivial⟩, ⟨⟨rfl, .eq rfl⟩, trivial⟩⟩⟩
theorem kr15_Bytes_L1_runs (N : Nat) (l : List Int) (n : Int) (n2 : Int) (n3 : Int) (r : List E_kr15_Gift) (l2 : List Int) (r2 : List E_kr15_Mark) (s_ : Int × List Int) (r_ : List Int) (h : runL (kr15_Bytes_L1_step N l n n2 n3 r l2 r2) s_ = some r_) : LRuns Tryz.prog (lEnv Tryz.prog cfg 35 1).nt 1 (.loop (loopAt Tryz.prog 35 1)) (kr15_Bytes_L1_st l n n2 n3 r l2 r2 s_) (kr15_Bytes_L1_ex l n n2 n3 r l2 r2 r_).1 (kr15_Bytes_L1_ex l n n2 n3 r l2 r2 r_).2 :=
 loop_run h (kr15_Bytes_L1_ok N l n n2 n3 r l2 r2) (by intro r_; rcases r_ with r1 <;> simp [kr15_Bytes_L1_ex])
def kr15_Bytes_L2_st (r : List E_kr15_Mark) (n : Int) (n2 : Int) (n3 : Int) (r2 : List E_kr15_Gift) (l : List Int) (r3 : List E_kr15_Mark) : Int × List Int → St
 | (n4, l2) => ⟨[(3, (.av (.one (.own 0 0 (l2).length false)))), (84, (.av (.one (.pv (.recs 2 (List.map E_kr15_Mark.pv r) false))))), (85, (.av (.one (.pv (.int .i64 n))))), (86, (.av (.one (.pv (.int .i64 n4)))))], [(0, [(.pv (.int .i64 n2)), (.pv (.int .u64 n3)), (.pv (.recs 4 (List.map E_kr15_Gift.pv r2) false)), (.pv (.ints .i64 l false)), (.pv (.recs 2 (List.map E_kr15_Mark.pv r3) false))])], [(0, (.live (.ints .u8 l2)))]⟩
def kr15_Bytes_L2_ex (r : List E_kr15_Mark) (n : Int) (n2 : Int) (n3 : Int) (r2 : List E_kr15_Gift) (l : List Int) (r3 : List E_kr15_Mark) : List Int → Ex × St
 | r1 => ((.exit 4), ⟨[(3, (.av (.one (.own 0 0 (r1).length false))))], [(0, [(.pv (.int .i64 n2)), (.pv (.int .u64 n3)), (.pv (.recs 4 (List.map E_kr15_Gift.pv r2) false)), (.pv (.ints .i64 l false)), (.pv (.recs 2 (List.map E_kr15_Mark.pv r3) false))])], [(0, (.live (.ints .u8 r1)))]⟩)
noncomputable def kr15_Bytes_L2_step (N : Nat) (r : List E_kr15_Mark) (n : Int) (n2 : Int) (n3 : Int) (r2 : List E_kr15_Gift) (l : List Int) (r3 : List E_kr15_Mark) : Int × List Int → Option ((Int × List Int) ⊕ (List Int))
 | (n4, l2) =>
 bif (decide ((n4 : Int) < n)) then
  bif decide ((0 : Int) ≤ n4) && decide ((n4 : Int) < (((List.map E_kr15_Mark.pv r)).length : Int)) then
  (r[(n4).toNat]?).bind fun e_ => match e_ with
  | .mk n5 n6 =>
  (kr06_Num N (IntKind.u64.wrap n5)).bind fun l_ =>
  (kr06_Num N n6).bind fun l_2 =>
  (kr06_Join [(E_L_uint8.mk l2), (E_L_uint8.mk l_), (E_L_uint8.mk l_2)]).bind fun l_3 =>
  some (.inl ((iadd .i64 n4 1), l_3))
  else none
 else
  some (.inr l2)
theorem kr15_Bytes_L2_ok (N : Nat) (r : List E_kr15_Mark) (n : Int) (n2 : Int) (n3 : Int) (r2 : List E_kr15_Gift) (l : List Int) (r3 : List E_kr15_Mark) (s_ : Int × List Int) (z_ : (Int × List Int) ⊕ (List Int)) (h : kr15_Bytes_L2_step N r n n2 n3 r2 l r3 s_ = some z_) : RoundOk Tryz.prog cfg 35 1 (loopAt Tryz.prog 35 2) (kr15_Bytes_L2_st r n n2 n3 r2 l r3) (kr15_Bytes_L2_ex r n n2 n3 r2 l r3) s_ z_ := by
 rcases s_ with ⟨n4, l2⟩
 rcases cond_of h with ⟨h1, h⟩ | ⟨h1, h⟩
 ·obtain ⟨h2, h⟩ := need_of h
  obtain ⟨⟨n5, n6⟩, h3, h⟩ := bind_of h
  obtain ⟨l_, h4, h⟩ := bind_of h
  obtain ⟨l_2, h5, h⟩ := bind_of h
  obtain ⟨l_3, h6, h⟩ := bind_of h
  have h := some_of h
  subst h
  have t_ := tT h1 <| tO h2 <| tE (.el [(.int .i64 n5), (.int .u64 n6)]) <| tO (el_of (f := E_kr15_Mark.pv) h3) <| tR (kr06_Num_runs N (IntKind.u64.wrap n5) _ h4) <| tR (kr06_Num_runs N (IntKind.u64.wrap n5) _ h4) <| tR (kr06_Num_runs N n6 _ h5) <| tR (Runs.coe (as' := [(.one (.pv (.recs 1 [[(.ints .u8 (List.take (l2).length l2) false)], [(.ints .u8 (List.take (l_).length l_) false)], [(.ints .u8 (List.take (l_2).length l_2) false)]] true)))]) (objs' := []) (rows' := []) (kr06_Join_runs [(E_L_uint8.mk l2), (E_L_uint8.mk l_), (E_L_uint8.mk l_2)] _ h6) ⟨.pv (.recs (.cons (.cons (.ints (by first | rfl | (simp only [List.take_length]; done) | (simp; done) | (simp only [List.map_take, List.map_drop, List.map_append, List.take_length, List.nil_append]; done) | (simp only [List.length_map, List.take_length, List.length_append, List.drop_zero, List.map_append, List.map_take, List.map_drop, List.map_replicate, List.map_cons, List.map_nil, List.append_nil, List.nil_append]; done))) (.nil)) (.cons (.cons (.ints (by first | rfl | (simp only [List.take_length]; done) | (simp; done) | (simp only [List.map_take, List.map_drop, List.map_append, List.take_length, List.nil_append]; done) | (simp only [List.length_map, List.take_length, List.length_append, List.drop_zero, List.map_append, List.map_take, List.map_drop, List.map_replicate, List.map_cons, List.map_nil, List.append_nil, List.nil_append]; done))) (.nil)) (.cons (.cons (.ints (by first | rfl | (simp only [List.take_length]; done) | (simp; done) | (simp only [List.map_take, List.map_drop, List.map_append, List.take_length, List.nil_append]; done) | (simp only [List.length_map, List.take_length, List.length_append, List.drop_zero, List.map_append, List.map_take, List.map_drop, List.map_replicate, List.map_cons, List.map_nil, List.append_nil, List.nil_append]; done))) (.nil)) (.nil))))), trivial⟩ trivial trivial) <| tN
  exact ⟨t_.ev, kr15_Bytes_L2_st r n n2 n3 r2 l r3 ((iadd .i64 n4 1), l_3), .k1 t_.pf (by kernel_rfl) (by kernel_rfl), .same (by kernel_rfl)⟩
 ·have h := some_of h
  subst h
  have t_ := tF h1 <| tN
  exact ⟨t_.ev, ⟨[(87, (.av (.one (.pv (.bool false))))), (3, (.av (.one (.own 0 0 (l2).length false)))), (84, (.av (.one (.pv (.recs 2 (List.map E_kr15_Mark.pv r) false))))), (85, (.av (.one (.pv (.int .i64 n))))), (86, (.av (.one (.pv (.int .i64 n4))))), (87, (.av (.one (.pv (.bool (decide ((n4 : Int) < n)))))))], [(0, [(.pv (.int .i64 n2)), (.pv (.int .u64 n3)), (.pv (.recs 4 (List.map E_kr15_Gift.pv r2) false)), (.pv (.ints .i64 l false)), (.pv (.recs 2 (List.map E_kr15_Mark.pv r3) false))])], [(0, (.live (.ints .u8 l2)))]⟩, .k0 t_.pf (by kernel_rfl), ⟨⟨⟨_, rfl, .eq rfl⟩, trivial⟩, ⟨⟨rfl, ⟨.eq rfl, .eq rfl, .eq rfl, .eq rfl, .eq rfl, trivial⟩⟩, trivial⟩, ⟨⟨rfl, .eq rfl⟩, trivial⟩⟩⟩
theorem kr15_Bytes_L2_runs (N : Nat) (r : List E_kr15_Mark) (n : Int) (n2 : Int) (n3 : Int) (r2 : List E_kr15_Gift) (l : List Int) (r3 : List E_kr15_Mark) (s_ : Int × List Int) (r_ : List Int) (h : runL (kr15_Bytes_L2_step N r n n2 n3 r2 l r3) s_ = some r_) : LRuns Tryz.prog (lEnv Tryz.prog cfg 35 1).nt 1 (.loop (loopAt Tryz.prog 35 2)) (kr15_Bytes_L2_st r n n2 n3 r2 l r3 s_) (kr15_Bytes_L2_ex r n n2 n3 r2 l r3 r_).1 (kr15_Bytes_L2_ex r n n2 n3 r2 l r3 r_).2 :=
 loop_run h (kr15_Bytes_L2_ok N r n n2 n3 r2 l r3) (by intro r_; rcases r_ with r1 <;> simp [kr15_Bytes_L2_ex])
noncomputable def kr15_Bytes (N : Nat) (n : Int) (n2 : Int) (r : List E_kr15_Gift) (l : List Int) (r2 : List E_kr15_Mark) : Option (List Int) :=
 (kr06_Num N (IntKind.u64.wrap n)).bind fun l_ =>
 (kr06_Num N n2).bind fun l_2 =>
 (kr06_Num N (IntKind.u64.wrap (((List.map E_kr15_Gift.pv r)).length : Int))).bind fun l_3 =>
 (kr06_Join [(E_L_uint8.mk l_), (E_L_uint8.mk l_2), (E_L_uint8.mk l_3)]).bind fun l_4 =>
 (runL (kr15_Bytes_L0_step N r (((List.map E_kr15_Gift.pv r)).length : Int) n n2 r l r2) (0, l_4)).bind fun l_5 =>
 (kr06_Num N (IntKind.u64.wrap ((l).length : Int))).bind fun l_6 =>
 (kr06_Join [(E_L_uint8.mk l_5), (E_L_uint8.mk l_6)]).bind fun l_7 =>
 (runL (kr15_Bytes_L1_step N l ((l).length : Int) n n2 r l r2) (0, l_7)).bind fun l_8 =>
 (kr06_Num N (IntKind.u64.wrap (((List.map E_kr15_Mark.pv r2)).length : Int))).bind fun l_9 =>
 (kr06_Join [(E_L_uint8.mk l_8), (E_L_uint8.mk l_9)]).bind fun l_10 =>
 (runL (kr15_Bytes_L2_step N r2 (((List.map E_kr15_Mark.pv r2)).length : Int) n n2 r l r2) (0, l_10)).bind fun l_11 =>
 some l_11
theorem kr15_Bytes_runs (N : Nat) (n : Int) (n2 : Int) (r : List E_kr15_Gift) (l : List Int) (r2 : List E_kr15_Mark) (r_ : List Int) (h : kr15_Bytes N n n2 r l r2 = some r_) : Runs Tryz.prog 35 [(.one (.ref 0 0))] [[(.pv (.int .i64 n)), (.pv (.int .u64 n2)), (.pv (.recs 4 (List.map E_kr15_Gift.pv r) false)), (.pv (.ints .i64 l false)), (.pv (.recs 2 (List.map E_kr15_Mark.pv r2) false))]] [] (kr15_Bytes_out n n2 r l r2 r_) := by
 unfold kr15_Bytes at h
 obtain ⟨l_, h1, h⟩ := bind_of h
 obtain ⟨l_2, h2, h⟩ := bind_of h
 obtain ⟨l_3, h3, h⟩ := bind_of h
 obtain ⟨l_4, h4, h⟩ := bind_of h
 obtain ⟨l_5, h5, h⟩ := bind_of h
 obtain ⟨l_6, h6, h⟩ := bind_of h
 obtain ⟨l_7, h7, h⟩ := bind_of h
 obtain ⟨l_8, h8, h⟩ := bind_of h
 obtain ⟨l_9, h9, h⟩ := bind_of h
 obtain ⟨l_10, h10, h⟩ := bind_of h
 obtain ⟨l_11, h11, h⟩ := bind_of h
 have h := some_of h
 subst h
 have t_ := tR (kr06_Num_runs N (IntKind.u64.wrap n) _ h1) <| tR (kr06_Num_runs N (IntKind.u64.wrap n) _ h1) <| tR (kr06_Num_runs N n2 _ h2) <| tR (kr06_Num_runs N (IntKind.u64.wrap n) _ h1) <| tR (kr06_Num_runs N (IntKind.u64.wrap n) _ h1) <| tR (kr06_Num_runs N n2 _ h2) <| tR (kr06_Num_runs N (IntKind.u64.wrap (((List.map E_kr15_Gift.pv r)).length : Int)) _ h3) <| tR (Runs.coe (as' := [(.one (.pv (.recs 1 [[(.ints .u8 (List.take (l_).length l_) false)], [(.ints .u8 (List.take (l_2).length l_2) false)], [(.ints .u8 (List.take (l_3).length l_3) false)]] true)))]) (objs' := []) (rows' := []) (kr06_Join_runs [(E_L_uint8.mk l_), (E_L_uint8.mk l_2), (E_L_uint8.mk l_3)] _ h4) ⟨.pv (.recs (.cons (.cons (.ints (by first | rfl | (simp only [List.take_length]; done) | (simp; done) | (simp only [List.map_take, List.map_drop, List.map_append, List.take_length, List.nil_append]; done) | (simp only [List.length_map, List.take_length, List.length_append, List.drop_zero, List.map_append, List.map_take, List.map_drop, List.map_replicate, List.map_cons, List.map_nil, List.append_nil, List.nil_append]; done))) (.nil)) (.cons (.cons (.ints (by first | rfl | (simp only [List.take_length]; done) | (simp; done) | (simp only [List.map_take, List.map_drop, List.map_append, List.take_length, List.nil_append]; done) | (simp only [List.length_map, List.take_length, List.length_append, List.drop_zero, List.map_append, List.map_take, List.map_drop, List.map_replicate, List.map_cons, List.map_nil, List.append_nil, List.nil_append]; done))) (.nil)) (.cons (.cons (.ints (by first | rfl | (simp only [List.take_length]; done) | (simp; done) | (simp only [List.map_take, List.map_drop, List.map_append, List.take_length, List.nil_append]; done) | (simp only [List.length_map, List.take_length, List.length_append, List.drop_zero, List.map_append, List.map_take, List.map_drop, List.map_replicate, List.map_cons, List.map_nil, List.append_nil, List.nil_append]; done))) (.nil)) (.nil))))), trivial⟩ trivial trivial) <| tL (kr15_Bytes_L0_runs N r (((List.map E_kr15_Gift.pv r)).length : Int) n n2 r l r2 _ _ h5) <| tR (kr06_Num_runs N (IntKind.u64.wrap ((l).length : Int)) _ h6) <| tR (Runs.coe (as' := [(.one (.pv (.recs 1 [[(.ints .u8 (List.take (l_5).length l_5) false)], [(.ints .u8 (List.take (l_6).length l_6) false)]] true)))]) (objs' := []) (rows' := []) (kr06_Join_runs [(E_L_uint8.mk l_5), (E_L_uint8.mk l_6)] _ h7) ⟨.pv (.recs (.cons (.cons (.ints (by first | rfl | (simp only [List.take_length]; done) | (simp; done) | (simp only [List.map_take, List.map_drop, List.map_append, List.take_length, List.nil_append]; done) | (simp only [List.length_map, List.take_length, List.length_append, List.drop_zero, List.map_append, List.map_take, List.map_drop, List.map_replicate, List.map_cons, List.map_nil, List.append_nil, List.nil_append]; done))) (.nil)) (.cons (.cons (.ints (by first | rfl | (simp only [List.take_length]; done) | (simp; done) | (simp only [List.map_take, List.map_drop, List.map_append, List.take_length, List.nil_append]; done) | (simp only [List.length_map, List.take_length, List.length_append, List.drop_zero, List.map_append, List.map_take, List.map_drop, List.map_replicate, List.map_cons, List.map_nil, List.append_nil, List.nil_append]; done))) (.nil)) (.nil)))), trivial⟩ trivial trivial) <| tL (kr15_Bytes_L1_runs N l ((l).length : Int) n n2 r l r2 _ _ h8) <| tR (kr06_Num_runs N (IntKind.u64.wrap (((List.map E_kr15_Mark.pv r2)).length : Int)) _ h9) <| tR (Runs.coe (as' := [(.one (.pv (.recs 1 [[(.ints .u8 (List.take (l_8).length l_8) false)], [(.ints .u8 (List.take (l_9).length l_9) false)]] true)))]) (objs' := []) (rows' := []) (kr06_Join_runs [(E_L_uint8.mk l_8), (E_L_uint8.mk l_9)] _ h10) ⟨.pv (.recs (.cons (.cons (.ints (by first | rfl | (simp only [List.take_length]; done) | (simp; done) | (simp only [List.map_take, List.map_drop, List.map_append, List.take_length, List.nil_append]; done) | (simp only [List.length_map, List.take_length, List.length_append, List.drop_zero, List.map_append, List.map_take, List.map_drop, List.map_replicate, List.map_cons, List.map_nil, List.append_nil, List.nil_append]; done))) (.nil)) (.cons (.cons (.ints (by first | rfl | (simp only [List.take_length]; done) | (simp; done) | (simp only [List.map_take, List.map_drop, List.map_append, List.take_length, List.nil_append]; done) | (simp only [List.length_map, List.take_length, List.length_append, List.drop_zero, List.map_append, List.map_take, List.map_drop, List.map_replicate, List.map_cons, List.map_nil, List.append_nil, List.nil_append]; done))) (.nil)) (.nil)))), trivial⟩ trivial trivial) <| tL (kr15_Bytes_L2_runs N r2 (((List.map E_kr15_Mark.pv r2)).length : Int) n n2 r l r2 _ _ h11) <| tN
 exact runs_of (C := cfg) (objs := [[(.pv (.int .i64 n)), (.pv (.int .u64 n2)), (.pv (.recs 4 (List.map E_kr15_Gift.pv r) false)), (.pv (.ints .i64 l false)), (.pv (.recs 2 (List.map E_kr15_Mark.pv r2) false))]]) (sc := t_.ev) (.k1 t_.pf (by kernel_rfl) (by kernel_rfl))
def kr06_Same_out (a : List Int) (b : List Int) : Bool → Res
 | r1 => ([(.one (.pv (.bool r1)))], [], [])
def kr06_Same_L0_st (a : List Int) (b : List Int) (n : Int) : Int → St
 | n2 => ⟨[(0, (.av (.one (.pv (.ints .u8 a false))))), (1, (.av (.one (.pv (.ints .u8 b false))))), (12, (.av (.one (.pv (.int .i64 n))))), (13, (.av (.one (.pv (.int .i64 n2)))))], [], []⟩
def kr06_Same_L0_ex (a : List Int) (b : List Int) (n : Int) : (Unit) ⊕ (Unit) → Ex × St
 | .inl _ => (.ret, ⟨[(4, (.av (.one (.pv (.bool false)))))], [], []⟩)
 | .inr _ => ((.exit 0), ⟨[], [], []⟩)
noncomputable def kr06_Same_L0_step (a : List Int) (b : List Int) (n : Int) : Int → Option ((Int) ⊕ ((Unit) ⊕ (Unit)))
 | n2 =>
 bif (decide ((n2 : Int) < n)) then
  bif decide ((0 : Int) ≤ n2) && decide ((n2 : Int) < ((a).length : Int)) then
  bif decide ((0 : Int) ≤ n2) && decide ((n2 : Int) < ((b).length : Int)) then
  bif (decide (((a.getD (n2).toNat 0) : Int) = (b.getD (n2).toNat 0))) then
   some (.inl (iadd .i64 n2 1))
  else
   some (.inr (.inl ()))
  else none
  else none
 else
  some (.inr (.inr ()))
theorem kr06_Same_L0_ok (a : List Int) (b : List Int) (n : Int) (n2 : Int) (z_ : (Int) ⊕ ((Unit) ⊕ (Unit))) (h : kr06_Same_L0_step a b n n2 = some z_) : RoundOk Tryz.prog cfg 30 0 (loopAt Tryz.prog 30 0) (kr06_Same_L0_st a b n) (kr06_Same_L0_ex a b n) n2 z_ := by
 rcases cond_of h with ⟨h1, h⟩ | ⟨h1, h⟩
 ·obtain ⟨h2, h⟩ := need_of h
  obtain ⟨h3, h⟩ := need_of h
  rcases cond_of h with ⟨h4, h⟩ | ⟨h4, h⟩
  ·have h := some_of h
   subst h
   have t_ := tT h1 <| tO h2 <| tO h3 <| tF (not_of2 h4) <| tN
   exact ⟨t_.ev, kr06_Same_L0_st a b n (iadd .i64 n2 1), .k0 t_.pf (by kernel_rfl), .same (by kernel_rfl)⟩
  ·have h := some_of h
   subst h
   have t_ := tT h1 <| tO h2 <| tO h3 <| tT (not_of h4) <| tN
   exact ⟨t_.ev, (kr06_Same_L0_ex a b n (.inl ())).2, .k0 t_.pf (by kernel_rfl), .same (by kernel_rfl)⟩
 ·have h := some_of h
  subst h
  have t_ := tF h1 <| tN
  exact ⟨t_.ev, ⟨[(14, (.av (.one (.pv (.bool false))))), (0, (.av (.one (.pv (.ints .u8 a false))))), (1, (.av (.one (.pv (.ints .u8 b false))))), (12, (.av (.one (.pv (.int .i64 n))))), (13, (.av (.one (.pv (.int .i64 n2))))), (14, (.av (.one (.pv (.bool (decide ((n2 : Int) < n)))))))], [], []⟩, .k0 t_.pf (by kernel_rfl), ⟨trivial, trivial, trivial⟩⟩
theorem kr06_Same_L0_runs (a : List Int) (b : List Int) (n : Int) (s_ : Int) (r_ : (Unit) ⊕ (Unit)) (h : runL (kr06_Same_L0_step a b n) s_ = some r_) : LRuns Tryz.prog (lEnv Tryz.prog cfg 30 0).nt 0 (.loop (loopAt Tryz.prog 30 0)) (kr06_Same_L0_st a b n s_) (kr06_Same_L0_ex a b n r_).1 (kr06_Same_L0_ex a b n r_).2 :=
 loop_run h (kr06_Same_L0_ok a b n) (by intro r_; rcases r_ with _ | _ <;> simp [kr06_Same_L0_ex])
noncomputable def kr06_Same (a : List Int) (b : List Int) : Option (Bool) :=
 bif (decide ((((a).length : Int) : Int) = ((b).length : Int))) then
  (runL (kr06_Same_L0_step a b ((a).length : Int)) 0).bind fun z_ => match z_ with
  | .inl _ =>
   some false
  | .inr _ =>
   some true
 else
  some false
theorem kr06_Same_runs (a : List Int) (b : List Int) (r_ : Bool) (h : kr06_Same a b = some r_) : Runs Tryz.prog 30 [(.one (.pv (.ints .u8 a false))), (.one (.pv (.ints .u8 b false)))] [] [] (kr06_Same_out a b r_) := by
 unfold kr06_Same at h
 rcases cond_of h with ⟨h1, h⟩ | ⟨h1, h⟩
 ·obtain ⟨z_, h2, h⟩ := bind_of h
  rcases z_ with _ | _
  ·have h := some_of h
   subst h
   have t_ := tF (not_of2 h1) <| tL (kr06_Same_L0_runs a b ((a).length : Int) _ _ h2) <| tN
   exact runs_of (C := cfg) (objs := []) (sc := t_.ev) (.k0 t_.pf (by kernel_rfl))
  ·have h := some_of h
   subst h
   have t_ := tF (not_of2 h1) <| tL (kr06_Same_L0_runs a b ((a).length : Int) _ _ h2) <| tN
   exact runs_of (C := cfg) (objs := []) (sc := t_.ev) (.k0 t_.pf (by kernel_rfl))
 ·have h := some_of h
  subst h
  have t_ := tT (not_of h1) <| tN
  exact runs_of (C := cfg) (objs := []) (sc := t_.ev) (.k0 t_.pf (by kernel_rfl))
def kl15_like_L0_st (n : Int) (n2 : Int) (n3 : Int) (r : List E_deed_Gift) (m : List (Int × Int)) (m2 : List ((Int × Int) × Int)) (n4 : Int) (n5 : Int) (r2 : List E_kr15_Gift) (l : List Int) (r3 : List E_kr15_Mark) (r4 : List E_deed_Gift) (r5 : List E_deed_Mark) : Int → St
 | n6 => ⟨[(0, (.av (.one (.ref 0 0)))), (1, (.av (.one (.ref 3 0)))), (5, (.av (.one (.own 0 0 ((List.map E_deed_Gift.pv r4)).length false)))), (6, (.av (.one (.own 1 0 ((List.map E_deed_Mark.pv r5)).length false)))), (62, (.av (.one (.pv (.int .i64 n))))), (63, (.av (.one (.pv (.int .i64 n6)))))], [(0, [(.pv (.int .i64 n2)), (.pv (.int .u64 n3)), (.pv (.recs 5 (List.map E_deed_Gift.pv r) false)), (.mp 1), (.mp 2)]), (1, [(.maph (.int .i64) false (List.map M_int_int.pv m) [])]), (2, [(.maph (.st [.i64, .u64]) false (List.map M_deed_Mark_int.pv m2) [])]), (3, [(.pv (.int .i64 n4)), (.pv (.int .u64 n5)), (.pv (.recs 4 (List.map E_kr15_Gift.pv r2) false)), (.pv (.ints .i64 l false)), (.pv (.recs 2 (List.map E_kr15_Mark.pv r3) false))])], [(0, (.live (.recs 5 (List.map E_deed_Gift.pv r4)))), (1, (.live (.recs 2 (List.map E_deed_Mark.pv r5))))]⟩
def kl15_like_L0_ex (n : Int) (n2 : Int) (n3 : Int) (r : List E_deed_Gift) (m : List (Int × Int)) (m2 : List ((Int × Int) × Int)) (n4 : Int) (n5 : Int) (r2 : List E_kr15_Gift) (l : List Int) (r3 : List E_kr15_Mark) (r4 : List E_deed_Gift) (r5 : List E_deed_Mark) : (Unit) ⊕ (Unit) → Ex × St
 | .inl _ => (.ret, ⟨[(4, (.av (.one (.pv (.bool false)))))], [(0, [(.pv (.int .i64 n2)), (.pv (.int .u64 n3)), (.pv (.recs 5 (List.map E_deed_Gift.pv r) false)), (.mp 1), (.mp 2)]), (1, [(.maph (.int .i64) false (List.map M_int_int.pv m) [])]), (2, [(.maph (.st [.i64, .u64]) false (List.map M_deed_Mark_int.pv m2) [])]), (3, [(.pv (.int .i64 n4)), (.pv (.int .u64 n5)), (.pv (.recs 4 (List.map E_kr15_Gift.pv r2) false)), (.pv (.ints .i64 l false)), (.pv (.recs 2 (List.map E_kr15_Mark.pv r3) false))])], []⟩)
 | .inr _ => ((.exit 0), ⟨[(0, (.av (.one (.ref 0 0)))), (1, (.av (.one (.ref 3 0)))), (6, (.av (.one (.own 1 0 ((List.map E_deed_Mark.pv r5)).length false))))], [(0, [(.pv (.int .i64 n2)), (.pv (.int .u64 n3)), (.pv (.recs 5 (List.map E_deed_Gift.pv r) false)), (.mp 1), (.mp 2)]), (1, [(.maph (.int .i64) false (List.map M_int_int.pv m) [])]), (2, [(.maph (.st [.i64, .u64]) false (List.map M_deed_Mark_int.pv m2) [])]), (3, [(.pv (.int .i64 n4)), (.pv (.int .u64 n5)), (.pv (.recs 4 (List.map E_kr15_Gift.pv r2) false)), (.pv (.ints .i64 l false)), (.pv (.recs 2 (List.map E_kr15_Mark.pv r3) false))])], [(0, (.live (.recs 5 (List.map E_deed_Gift.pv r4)))), (1, (.live (.recs 2 (List.map E_deed_Mark.pv r5))))]⟩)
noncomputable def kl15_like_L0_step (N : Nat) (n : Int) (n2 : Int) (n3 : Int) (r : List E_deed_Gift) (m : List (Int × Int)) (m2 : List ((Int × Int) × Int)) (n4 : Int) (n5 : Int) (r2 : List E_kr15_Gift) (l : List Int) (r3 : List E_kr15_Mark) (r4 : List E_deed_Gift) (r5 : List E_deed_Mark) : Int → Option ((Int) ⊕ ((Unit) ⊕ (Unit)))
 | n6 =>
 bif (decide ((n6 : Int) < n)) then
  bif decide ((0 : Int) ≤ n6) && decide ((n6 : Int) < (((List.map E_deed_Gift.pv r4)).length : Int)) then
  (r4[(0 + (n6).toNat)]?).bind fun e_ => match e_ with
  | .mk n7 n8 n9 b t =>
  bif decide ((0 : Int) ≤ n6) && decide ((n6 : Int) < (((List.map E_kr15_Gift.pv r2)).length : Int)) then
  (r2[(n6).toNat]?).bind fun e_ => match e_ with
  | .mk n10 n11 n12 t2 =>
  (kl15_same N n7 n8 n9 b t n10 n11 n12 t2).bind fun b2 =>
  bif b2 then
   some (.inl (iadd .i64 n6 1))
  else
   some (.inr (.inl ()))
  else none
  else none
 else
  some (.inr (.inr ()))
theorem kl15_like_L0_ok (N : Nat) (n : Int) (n2 : Int) (n3 : Int) (r : List E_deed_Gift) (m : List (Int × Int)) (m2 : List ((Int × Int) × Int)) (n4 : Int) (n5 : Int) (r2 : List E_kr15_Gift) (l : List Int) (r3 : List E_kr15_Mark) (r4 : List E_deed_Gift) (r5 : List E_deed_Mark) (n6 : Int) (z_ : (Int) ⊕ ((Unit) ⊕ (Unit))) (h : kl15_like_L0_step N n n2 n3 r m m2 n4 n5 r2 l r3 r4 r5 n6 = some z_) : RoundOk Tryz.prog cfg 10 4 (loopAt Tryz.prog 10 0) (kl15_like_L0_st n n2 n3 r m m2 n4 n5 r2 l r3 r4 r5) (kl15_like_L0_ex n n2 n3 r m m2 n4 n5 r2 l r3 r4 r5) n6 z_ := by
 rcases cond_of h with ⟨h1, h⟩ | ⟨h1, h⟩
 ·obtain ⟨h2, h⟩ := need_of h
  obtain ⟨⟨n7, n8, n9, b, t⟩, h3, h⟩ := bind_of h
  obtain ⟨h4, h⟩ := need_of h
  obtain ⟨⟨n10, n11, n12, t2⟩, h5, h⟩ := bind_of h
  obtain ⟨b2, h6, h⟩ := bind_of h
  have q_6 := (kl15_same_runs N n7 n8 n9 b t n10 n11 n12 t2 _ h6)
  have p6_ := fun {sc_ : List Ev} {Q_ : Prop} (t_ : Tell sc_ Q_) => tT h1 <| tO h2 <| tE (.el [(.int .u64 n7), (.int .i64 n8), (.int .i64 n9), (.bool b), (T_id_halves.pv t)]) <| tO (el_of (f := E_deed_Gift.pv) h3) <| tO h4 <| tO h4 <| tE (.el [(.int .u64 n10), (.int .i64 n11), (.int .i64 n12), (T_kr01_ID.pv t2)]) <| tO (el_of (f := E_kr15_Gift.pv) h5) <| tE (.el [(.int .u64 n7), (.int .i64 n8), (.int .i64 n9), (.bool b), (T_id_halves.pv t)]) <| tO (el_of (f := E_deed_Gift.pv) h3) <| tE (.el [(.int .u64 n10), (.int .i64 n11), (.int .i64 n12), (T_kr01_ID.pv t2)]) <| tO (el_of (f := E_kr15_Gift.pv) h5) <| tR q_6 <| t_
  rcases cond_of h with ⟨h7, h⟩ | ⟨h7, h⟩
  ·have h := some_of h
   subst h
   have t_ := p6_ <| tF (not_of2 h7) <| tN
   exact ⟨t_.ev, kl15_like_L0_st n n2 n3 r m m2 n4 n5 r2 l r3 r4 r5 (iadd .i64 n6 1), .k1 t_.pf (by kernel_rfl) (by kernel_rfl), .same (by kernel_rfl)⟩
  ·have h := some_of h
   subst h
   have t_ := p6_ <| tT (not_of h7) <| tN
   exact ⟨t_.ev, (kl15_like_L0_ex n n2 n3 r m m2 n4 n5 r2 l r3 r4 r5 (.inl ())).2, .k1 t_.pf (by kernel_rfl) (by kernel_rfl), .same (by kernel_rfl)⟩
 ·have h := some_of h
  subst h
  have t_ := tF h1 <| tN
  exact ⟨t_.ev, ⟨[(64, (.av (.one (.pv (.bool false))))), (0, (.av (.one (.ref 0 0)))), (1, (.av (.one (.ref 3 0)))), (5, (.av (.one (.own 0 0 ((List.map E_deed_Gift.pv r4)).length false)))), (6, (.av (.one (.own 1 0 ((List.map E_deed_Mark.pv r5)).length false)))), (62, (.av (.one (.pv (.int .i64 n))))), (63, (.av (.one (.pv (.int .i64 n6))))), (64, (.av (.one (.pv (.bool (decide ((n6 : Int) < n)))))))], [(0, [(.pv (.int .i64 n2)), (.pv (.int .u64 n3)), (.pv (.recs 5 (List.map E_deed_Gift.pv r) false)), (.mp 1), (.mp 2)]), (1, [(.maph (.int .i64) false (List.map M_int_int.pv m) [])]), (2, [(.maph (.st [.i64, .u64]) false (List.map M_deed_Mark_int.pv m2) [])]), (3, [(.pv (.int .i64 n4)), (.pv (.int .u64 n5)), (.pv (.recs 4 (List.map E_kr15_Gift.pv r2) false)), (.pv (.ints .i64 l false)), (.pv (.recs 2 (List.map E_kr15_Mark.pv r3) false))])], [(0, (.live (.recs 5 (List.map E_deed_Gift.pv r4)))), (1, (.live (.recs 2 (List.map E_deed_Mark.pv r5))))]⟩, .k0 t_.pf (by kernel_rfl), ⟨⟨⟨_, rfl, .eq rfl⟩, ⟨_, rfl, .eq rfl⟩, ⟨_, rfl, .eq rfl⟩, trivial⟩, ⟨⟨rfl, ⟨.eq rfl, .eq rfl, .eq rfl, .eq rfl, .eq rfl, trivial⟩⟩, ⟨rfl, ⟨.eq rfl, trivial⟩⟩, ⟨rfl, ⟨.eq rfl, trivial⟩⟩, ⟨rfl, ⟨.eq rfl, .eq rfl, .eq rfl, .eq rfl, .eq rfl, trivial⟩⟩, trivial⟩, ⟨⟨rfl, .eq rfl⟩, ⟨rfl, .eq rfl⟩, trivial⟩⟩⟩
theorem kl15_like_L0_runs (N : Nat) (n : Int) (n2 : Int) (n3 : Int) (r : List E_deed_Gift) (m : List (Int × Int)) (m2 : List ((Int × Int) × Int)) (n4 : Int) (n5 : Int) (r2 : List E_kr15_Gift) (l : List Int) (r3 : List E_kr15_Mark) (r4 : List E_deed_Gift) (r5 : List E_deed_Mark) (s_ : Int) (r_ : (Unit) ⊕ (Unit)) (h : runL (kl15_like_L0_step N n n2 n3 r m m2 n4 n5 r2 l r3 r4 r5) s_ = some r_) : LRuns Tryz.prog (lEnv Tryz.prog cfg 10 4).nt 4 (.loop (loopAt Tryz.prog 10 0)) (kl15_like_L0_st n n2 n3 r m m2 n4 n5 r2 l r3 r4 r5 s_) (kl15_like_L0_ex n n2 n3 r m m2 n4 n5 r2 l r3 r4 r5 r_).1 (kl15_like_L0_ex n n2 n3 r m m2 n4 n5 r2 l r3 r4 r5 r_).2 :=
 loop_run h (kl15_like_L0_ok N n n2 n3 r m m2 n4 n5 r2 l r3 r4 r5) (by intro r_; rcases r_ with _ | _ <;> simp [kl15_like_L0_ex])
def kl15_like_L1_st (n : Int) (n2 : Int) (n3 : Int) (r : List E_deed_Gift) (m : List (Int × Int)) (m2 : List ((Int × Int) × Int)) (n4 : Int) (n5 : Int) (r2 : List E_kr15_Gift) (l : List Int) (r3 : List E_kr15_Mark) (r4 : List E_deed_Mark) : Int → St
 | n6 => ⟨[(0, (.av (.one (.ref 0 0)))), (1, (.av (.one (.ref 3 0)))), (6, (.av (.one (.own 0 0 ((List.map E_deed_Mark.pv r4)).length false)))), (81, (.av (.one (.pv (.int .i64 n))))), (82, (.av (.one (.pv (.int .i64 n6)))))], [(0, [(.pv (.int .i64 n2)), (.pv (.int .u64 n3)), (.pv (.recs 5 (List.map E_deed_Gift.pv r) false)), (.mp 1), (.mp 2)]), (1, [(.maph (.int .i64) false (List.map M_int_int.pv m) [])]), (2, [(.maph (.st [.i64, .u64]) false (List.map M_deed_Mark_int.pv m2) [])]), (3, [(.pv (.int .i64 n4)), (.pv (.int .u64 n5)), (.pv (.recs 4 (List.map E_kr15_Gift.pv r2) false)), (.pv (.ints .i64 l false)), (.pv (.recs 2 (List.map E_kr15_Mark.pv r3) false))])], [(0, (.live (.recs 2 (List.map E_deed_Mark.pv r4))))]⟩
def kl15_like_L1_ex (n : Int) (n2 : Int) (n3 : Int) (r : List E_deed_Gift) (m : List (Int × Int)) (m2 : List ((Int × Int) × Int)) (n4 : Int) (n5 : Int) (r2 : List E_kr15_Gift) (l : List Int) (r3 : List E_kr15_Mark) (r4 : List E_deed_Mark) : (Unit) ⊕ (Unit) → Ex × St
 | .inl _ => (.ret, ⟨[(4, (.av (.one (.pv (.bool false)))))], [(0, [(.pv (.int .i64 n2)), (.pv (.int .u64 n3)), (.pv (.recs 5 (List.map E_deed_Gift.pv r) false)), (.mp 1), (.mp 2)]), (1, [(.maph (.int .i64) false (List.map M_int_int.pv m) [])]), (2, [(.maph (.st [.i64, .u64]) false (List.map M_deed_Mark_int.pv m2) [])]), (3, [(.pv (.int .i64 n4)), (.pv (.int .u64 n5)), (.pv (.recs 4 (List.map E_kr15_Gift.pv r2) false)), (.pv (.ints .i64 l false)), (.pv (.recs 2 (List.map E_kr15_Mark.pv r3) false))])], []⟩)
 | .inr _ => ((.exit 2), ⟨[(0, (.av (.one (.ref 0 0)))), (1, (.av (.one (.ref 3 0))))], [(0, [(.pv (.int .i64 n2)), (.pv (.int .u64 n3)), (.pv (.recs 5 (List.map E_deed_Gift.pv r) false)), (.mp 1), (.mp 2)]), (1, [(.maph (.int .i64) false (List.map M_int_int.pv m) [])]), (2, [(.maph (.st [.i64, .u64]) false (List.map M_deed_Mark_int.pv m2) [])]), (3, [(.pv (.int .i64 n4)), (.pv (.int .u64 n5)), (.pv (.recs 4 (List.map E_kr15_Gift.pv r2) false)), (.pv (.ints .i64 l false)), (.pv (.recs 2 (List.map E_kr15_Mark.pv r3) false))])], [(0, (.live (.recs 2 (List.map E_deed_Mark.pv r4))))]⟩)
noncomputable def kl15_like_L1_step (n : Int) (n2 : Int) (n3 : Int) (r : List E_deed_Gift) (m : List (Int × Int)) (m2 : List ((Int × Int) × Int)) (n4 : Int) (n5 : Int) (r2 : List E_kr15_Gift) (l : List Int) (r3 : List E_kr15_Mark) (r4 : List E_deed_Mark) : Int → Option ((Int) ⊕ ((Unit) ⊕ (Unit)))
 | n6 =>
 bif (decide ((n6 : Int) < n)) then
  bif decide ((0 : Int) ≤ n6) && decide ((n6 : Int) < (((List.map E_deed_Mark.pv r4)).length : Int)) then
  (r4[(0 + (n6).toNat)]?).bind fun e_ => match e_ with
  | .mk n7 n8 =>
  bif decide ((0 : Int) ≤ n6) && decide ((n6 : Int) < (((List.map E_kr15_Mark.pv r3)).length : Int)) then
  (r3[(n6).toNat]?).bind fun e_ => match e_ with
  | .mk n9 n10 =>
  bif ((decide ((n7 : Int) = n9)) && ((decide ((n8 : Int) = n10)) && true)) then
   (deed_Deeds_Took_2 n7 n8 n2 n3 r m m2).bind fun b =>
   bif b then
    some (.inl (iadd .i64 n6 1))
   else
    some (.inr (.inl ()))
  else
   some (.inr (.inl ()))
  else none
  else none
 else
  some (.inr (.inr ()))
theorem kl15_like_L1_ok (n : Int) (n2 : Int) (n3 : Int) (r : List E_deed_Gift) (m : List (Int × Int)) (m2 : List ((Int × Int) × Int)) (n4 : Int) (n5 : Int) (r2 : List E_kr15_Gift) (l : List Int) (r3 : List E_kr15_Mark) (r4 : List E_deed_Mark) (n6 : Int) (z_ : (Int) ⊕ ((Unit) ⊕ (Unit))) (h : kl15_like_L1_step n n2 n3 r m m2 n4 n5 r2 l r3 r4 n6 = some z_) : RoundOk Tryz.prog cfg 10 4 (loopAt Tryz.prog 10 1) (kl15_like_L1_st n n2 n3 r m m2 n4 n5 r2 l r3 r4) (kl15_like_L1_ex n n2 n3 r m m2 n4 n5 r2 l r3 r4) n6 z_ := by
 rcases cond_of h with ⟨h1, h⟩ | ⟨h1, h⟩
 ·obtain ⟨h2, h⟩ := need_of h
  obtain ⟨⟨n7, n8⟩, h3, h⟩ := bind_of h
  obtain ⟨h4, h⟩ := need_of h
  obtain ⟨⟨n9, n10⟩, h5, h⟩ := bind_of h
  have p5_ := fun {sc_ : List Ev} {Q_ : Prop} (t_ : Tell sc_ Q_) => tT h1 <| tO h2 <| tE (.el [(.int .i64 n7), (.int .u64 n8)]) <| tO (el_of (f := E_deed_Mark.pv) h3) <| tO h4 <| tO h4 <| tE (.el [(.int .i64 n9), (.int .u64 n10)]) <| tO (el_of (f := E_kr15_Mark.pv) h5) <| tE (.el [(.int .i64 n7), (.int .u64 n8)]) <| tO (el_of (f := E_deed_Mark.pv) h3) <| tE (.el [(.int .i64 n9), (.int .u64 n10)]) <| tO (el_of (f := E_kr15_Mark.pv) h5) <| t_
  rcases cond_of h with ⟨h6, h⟩ | ⟨h6, h⟩
  ·obtain ⟨b, h7, h⟩ := bind_of h
   have q_7 := (deed_Deeds_Took_2_runs n7 n8 n2 n3 r m m2 _ h7)
   rcases cond_of h with ⟨h8, h⟩ | ⟨h8, h⟩
   ·have h := some_of h
    subst h
    have t_ := p5_ <| tF (not_of2 h6) <| tO h2 <| tE (.el [(.int .i64 n7), (.int .u64 n8)]) <| tO (el_of (f := E_deed_Mark.pv) h3) <| tR q_7 <| tF (not_of2 h8) <| tN
    exact ⟨t_.ev, kl15_like_L1_st n n2 n3 r m m2 n4 n5 r2 l r3 r4 (iadd .i64 n6 1), .k1 t_.pf (by kernel_rfl) (by kernel_rfl), .same (by kernel_rfl)⟩
   ·have h := some_of h
    subst h
    have t_ := p5_ <| tF (not_of2 h6) <| tO h2 <| tE (.el [(.int .i64 n7), (.int .u64 n8)]) <| tO (el_of (f := E_deed_Mark.pv) h3) <| tR q_7 <| tT (not_of h8) <| tN
    exact ⟨t_.ev, (kl15_like_L1_ex n n2 n3 r m m2 n4 n5 r2 l r3 r4 (.inl ())).2, .k1 t_.pf (by kernel_rfl) (by kernel_rfl), .same (by kernel_rfl)⟩
  ·have h := some_of h
   subst h
   have t_ := p5_ <| tT (not_of h6) <| tT (rfl : true = true) <| tN
   exact ⟨t_.ev, (kl15_like_L1_ex n n2 n3 r m m2 n4 n5 r2 l r3 r4 (.inl ())).2, .k1 t_.pf (by kernel_rfl) (by kernel_rfl), .same (by kernel_rfl)⟩
 ·have h := some_of h
  subst h
  have t_ := tF h1 <| tN
  exact ⟨t_.ev, ⟨[(83, (.av (.one (.pv (.bool false))))), (0, (.av (.one (.ref 0 0)))), (1, (.av (.one (.ref 3 0)))), (6, (.av (.one (.own 0 0 ((List.map E_deed_Mark.pv r4)).length false)))), (81, (.av (.one (.pv (.int .i64 n))))), (82, (.av (.one (.pv (.int .i64 n6))))), (83, (.av (.one (.pv (.bool (decide ((n6 : Int) < n)))))))], [(0, [(.pv (.int .i64 n2)), (.pv (.int .u64 n3)), (.pv (.recs 5 (List.map E_deed_Gift.pv r) false)), (.mp 1), (.mp 2)]), (1, [(.maph (.int .i64) false (List.map M_int_int.pv m) [])]), (2, [(.maph (.st [.i64, .u64]) false (List.map M_deed_Mark_int.pv m2) [])]), (3, [(.pv (.int .i64 n4)), (.pv (.int .u64 n5)), (.pv (.recs 4 (List.map E_kr15_Gift.pv r2) false)), (.pv (.ints .i64 l false)), (.pv (.recs 2 (List.map E_kr15_Mark.pv r3) false))])], [(0, (.live (.recs 2 (List.map E_deed_Mark.pv r4))))]⟩, .k0 t_.pf (by kernel_rfl), ⟨⟨⟨_, rfl, .eq rfl⟩, ⟨_, rfl, .eq rfl⟩, trivial⟩, ⟨⟨rfl, ⟨.eq rfl, .eq rfl, .eq rfl, .eq rfl, .eq rfl, trivial⟩⟩, ⟨rfl, ⟨.eq rfl, trivial⟩⟩, ⟨rfl, ⟨.eq rfl, trivial⟩⟩, ⟨rfl, ⟨.eq rfl, .eq rfl, .eq rfl, .eq rfl, .eq rfl, trivial⟩⟩, trivial⟩, ⟨⟨rfl, .eq rfl⟩, trivial⟩⟩⟩
theorem kl15_like_L1_runs (n : Int) (n2 : Int) (n3 : Int) (r : List E_deed_Gift) (m : List (Int × Int)) (m2 : List ((Int × Int) × Int)) (n4 : Int) (n5 : Int) (r2 : List E_kr15_Gift) (l : List Int) (r3 : List E_kr15_Mark) (r4 : List E_deed_Mark) (s_ : Int) (r_ : (Unit) ⊕ (Unit)) (h : runL (kl15_like_L1_step n n2 n3 r m m2 n4 n5 r2 l r3 r4) s_ = some r_) : LRuns Tryz.prog (lEnv Tryz.prog cfg 10 4).nt 4 (.loop (loopAt Tryz.prog 10 1)) (kl15_like_L1_st n n2 n3 r m m2 n4 n5 r2 l r3 r4 s_) (kl15_like_L1_ex n n2 n3 r m m2 n4 n5 r2 l r3 r4 r_).1 (kl15_like_L1_ex n n2 n3 r m m2 n4 n5 r2 l r3 r4 r_).2 :=
 loop_run h (kl15_like_L1_ok n n2 n3 r m m2 n4 n5 r2 l r3 r4) (by intro r_; rcases r_ with _ | _ <;> simp [kl15_like_L1_ex])
def kr15_Gave_4_out (to : Int) (n : Int) (n2 : Int) (r : List E_kr15_Gift) (l : List Int) (r2 : List E_kr15_Mark) : Bool → Res
 | r1 => ([(.one (.pv (.bool r1)))], [[(.pv (.int .i64 n)), (.pv (.int .u64 n2)), (.pv (.recs 4 (List.map E_kr15_Gift.pv r) false)), (.pv (.ints .i64 l false)), (.pv (.recs 2 (List.map E_kr15_Mark.pv r2) false))]], [])
def kr15_Gave_L0_4_st (to : Int) (l : List Int) (n : Int) (n2 : Int) (n3 : Int) (r : List E_kr15_Gift) (l2 : List Int) (r2 : List E_kr15_Mark) : Int → St
 | n4 => ⟨[(1, (.av (.one (.pv (.int .i64 to))))), (10, (.av (.one (.pv (.ints .i64 l false))))), (11, (.av (.one (.pv (.int .i64 n))))), (12, (.av (.one (.pv (.int .i64 n4)))))], [(0, [(.pv (.int .i64 n2)), (.pv (.int .u64 n3)), (.pv (.recs 4 (List.map E_kr15_Gift.pv r) false)), (.pv (.ints .i64 l2 false)), (.pv (.recs 2 (List.map E_kr15_Mark.pv r2) false))])], []⟩
def kr15_Gave_L0_4_ex (to : Int) (l : List Int) (n : Int) (n2 : Int) (n3 : Int) (r : List E_kr15_Gift) (l2 : List Int) (r2 : List E_kr15_Mark) : (Unit) ⊕ (Unit) → Ex × St
 | .inl _ => (.ret, ⟨[(4, (.av (.one (.pv (.bool true)))))], [(0, [(.pv (.int .i64 n2)), (.pv (.int .u64 n3)), (.pv (.recs 4 (List.map E_kr15_Gift.pv r) false)), (.pv (.ints .i64 l2 false)), (.pv (.recs 2 (List.map E_kr15_Mark.pv r2) false))])], []⟩)
 | .inr _ => ((.exit 0), ⟨[], [(0, [(.pv (.int .i64 n2)), (.pv (.int .u64 n3)), (.pv (.recs 4 (List.map E_kr15_Gift.pv r) false)), (.pv (.ints .i64 l2 false)), (.pv (.recs 2 (List.map E_kr15_Mark.pv r2) false))])], []⟩)
noncomputable def kr15_Gave_L0_4_step (to : Int) (l : List Int) (n : Int) (n2 : Int) (n3 : Int) (r : List E_kr15_Gift) (l2 : List Int) (r2 : List E_kr15_Mark) : Int → Option ((Int) ⊕ ((Unit) ⊕ (Unit)))
 | n4 =>
 bif (decide ((n4 : Int) < n)) then
  bif decide ((0 : Int) ≤ n4) && decide ((n4 : Int) < ((l).length : Int)) then
  bif (decide (((l.getD (n4).toNat 0) : Int) = to)) then
   some (.inr (.inl ()))
  else
   some (.inl (iadd .i64 n4 1))
  else none
 else
  some (.inr (.inr ()))
theorem kr15_Gave_L0_4_ok (to : Int) (l : List Int) (n : Int) (n2 : Int) (n3 : Int) (r : List E_kr15_Gift) (l2 : List Int) (r2 : List E_kr15_Mark) (n4 : Int) (z_ : (Int) ⊕ ((Unit) ⊕ (Unit))) (h : kr15_Gave_L0_4_step to l n n2 n3 r l2 r2 n4 = some z_) : RoundOk Tryz.prog cfg 37 1 (loopAt Tryz.prog 37 0) (kr15_Gave_L0_4_st to l n n2 n3 r l2 r2) (kr15_Gave_L0_4_ex to l n n2 n3 r l2 r2) n4 z_ := by
 rcases cond_of h with ⟨h1, h⟩ | ⟨h1, h⟩
 ·obtain ⟨h2, h⟩ := need_of h
  rcases cond_of h with ⟨h3, h⟩ | ⟨h3, h⟩
  ·have h := some_of h
   subst h
   have t_ := tT h1 <| tO h2 <| tT h3 <| tN
   exact ⟨t_.ev, (kr15_Gave_L0_4_ex to l n n2 n3 r l2 r2 (.inl ())).2, .k0 t_.pf (by kernel_rfl), .same (by kernel_rfl)⟩
  ·have h := some_of h
   subst h
   have t_ := tT h1 <| tO h2 <| tF h3 <| tN
   exact ⟨t_.ev, kr15_Gave_L0_4_st to l n n2 n3 r l2 r2 (iadd .i64 n4 1), .k0 t_.pf (by kernel_rfl), .same (by kernel_rfl)⟩
 ·have h := some_of h
  subst h
  have t_ := tF h1 <| tN
  exact ⟨t_.ev, ⟨[(13, (.av (.one (.pv (.bool false))))), (1, (.av (.one (.pv (.int .i64 to))))), (10, (.av (.one (.pv (.ints .i64 l false))))), (11, (.av (.one (.pv (.int .i64 n))))), (12, (.av (.one (.pv (.int .i64 n4))))), (13, (.av (.one (.pv (.bool (decide ((n4 : Int) < n)))))))], [(0, [(.pv (.int .i64 n2)), (.pv (.int .u64 n3)), (.pv (.recs 4 (List.map E_kr15_Gift.pv r) false)), (.pv (.ints .i64 l2 false)), (.pv (.recs 2 (List.map E_kr15_Mark.pv r2) false))])], []⟩, .k0 t_.pf (by kernel_rfl), ⟨trivial, ⟨⟨rfl, ⟨.eq rfl, .eq rfl, .eq rfl, .eq rfl, .eq rfl, trivial⟩⟩, trivial⟩, trivial⟩⟩
theorem kr15_Gave_L0_4_runs (to : Int) (l : List Int) (n : Int) (n2 : Int) (n3 : Int) (r : List E_kr15_Gift) (l2 : List Int) (r2 : List E_kr15_Mark) (s_ : Int) (r_ : (Unit) ⊕ (Unit)) (h : runL (kr15_Gave_L0_4_step to l n n2 n3 r l2 r2) s_ = some r_) : LRuns Tryz.prog (lEnv Tryz.prog cfg 37 1).nt 1 (.loop (loopAt Tryz.prog 37 0)) (kr15_Gave_L0_4_st to l n n2 n3 r l2 r2 s_) (kr15_Gave_L0_4_ex to l n n2 n3 r l2 r2 r_).1 (kr15_Gave_L0_4_ex to l n n2 n3 r l2 r2 r_).2 :=
 loop_run h (kr15_Gave_L0_4_ok to l n n2 n3 r l2 r2) (by intro r_; rcases r_ with _ | _ <;> simp [kr15_Gave_L0_4_ex])
noncomputable def kr15_Gave_4 (to : Int) (n : Int) (n2 : Int) (r : List E_kr15_Gift) (l : List Int) (r2 : List E_kr15_Mark) : Option (Bool) :=
 (runL (kr15_Gave_L0_4_step to l ((l).length : Int) n n2 r l r2) 0).bind fun z_ => match z_ with
 | .inl _ =>
  some true
 | .inr _ =>
  some false
theorem kr15_Gave_4_runs (to : Int) (n : Int) (n2 : Int) (r : List E_kr15_Gift) (l : List Int) (r2 : List E_kr15_Mark) (r_ : Bool) (h : kr15_Gave_4 to n n2 r l r2 = some r_) : Runs Tryz.prog 37 [(.one (.ref 0 0)), (.one (.pv (.int .i64 to)))] [[(.pv (.int .i64 n)), (.pv (.int .u64 n2)), (.pv (.recs 4 (List.map E_kr15_Gift.pv r) false)), (.pv (.ints .i64 l false)), (.pv (.recs 2 (List.map E_kr15_Mark.pv r2) false))]] [] (kr15_Gave_4_out to n n2 r l r2 r_) := by
 unfold kr15_Gave_4 at h
 obtain ⟨z_, h1, h⟩ := bind_of h
 rcases z_ with _ | _
 ·have h := some_of h
  subst h
  have t_ := tL (kr15_Gave_L0_4_runs to l ((l).length : Int) n n2 r l r2 _ _ h1) <| tN
  exact runs_of (C := cfg) (objs := [[(.pv (.int .i64 n)), (.pv (.int .u64 n2)), (.pv (.recs 4 (List.map E_kr15_Gift.pv r) false)), (.pv (.ints .i64 l false)), (.pv (.recs 2 (List.map E_kr15_Mark.pv r2) false))]]) (sc := t_.ev) (.k0 t_.pf (by kernel_rfl))
 ·have h := some_of h
  subst h
  have t_ := tL (kr15_Gave_L0_4_runs to l ((l).length : Int) n n2 r l r2 _ _ h1) <| tN
  exact runs_of (C := cfg) (objs := [[(.pv (.int .i64 n)), (.pv (.int .u64 n2)), (.pv (.recs 4 (List.map E_kr15_Gift.pv r) false)), (.pv (.ints .i64 l false)), (.pv (.recs 2 (List.map E_kr15_Mark.pv r2) false))]]) (sc := t_.ev) (.k0 t_.pf (by kernel_rfl))
end Go.Proofs.YtjjcmgdgifcmgaaGreat
