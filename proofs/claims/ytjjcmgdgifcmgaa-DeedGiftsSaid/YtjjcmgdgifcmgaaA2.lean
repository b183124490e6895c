/- What functions compute, and that they do. -/
import Derived.Test.YtjjcmgdgifcmgaaA1
set_option linter.unusedVariables false
set_option linter.unusedSimpArgs false
set_option maxRecDepth 100000
namespace Go.Proofs.Ytjjcmgdgifcmgaa
open Go.Ev

/-! ### bits_Writer_Put_L0_3 -/
def bits_Writer_Put_L0_3_st (n : Int) : Int × Int × List Int → St
  | (i, n2, l) => ⟨[(0, (.av (.one (.ref 0 0)))), (1, (.av (.one (.pv (.int .u64 n))))), (6, (.av (.one (.pv (.int .i64 i)))))], [(0, [(.own 0 0 (l).length false), (.pv (.int .i64 n2))])], [(0, (.live (.ints .u8 l)))]⟩
def bits_Writer_Put_L0_3_ex (n : Int) : Int × List Int → Ex × St
  | (r1, r2) => ((.exit 0), ⟨[], [(0, [(.own 0 0 (r2).length false), (.pv (.int .i64 r1))])], [(0, (.live (.ints .u8 r2)))]⟩)
noncomputable def bits_Writer_Put_L0_3_step (n : Int) : Int × Int × List Int → Option ((Int × Int × List Int) ⊕ (Int × List Int))
  | (i, n2, l) =>
  bif (decide ((0 : Int) ≤ i)) then
    bif (decide (((irem .i64 n2 8) : Int) = 0)) then
      bif fits ((l ++ [0])).length then
      bif decide ((0 : Int) ≤ i) then
      bif (decide (((iand .u64 (ishr .u64 n i) 1) : Int) = 1)) then
        bif decide ((0 : Int) ≤ (irem .i64 n2 8)) then
        bif decide ((0 : Int) ≤ (iquo .i64 n2 8)) && decide (((iquo .i64 n2 8) : Int) < (((l ++ [0])).length : Int)) then
        some (.inl ((isub .i64 i 1), (iadd .i64 n2 1), ((l ++ [0]).set (0 + ((iquo .i64 n2 8)).toNat) (ior .u8 ((l ++ [0]).getD (0 + ((iquo .i64 n2 8)).toNat) 0) (ishr .u8 128 (irem .i64 n2 8))))))
        else none
        else none
      else
        some (.inl ((isub .i64 i 1), (iadd .i64 n2 1), (l ++ [0])))
      else none
      else none
    else
      bif decide ((0 : Int) ≤ i) then
      bif (decide (((iand .u64 (ishr .u64 n i) 1) : Int) = 1)) then
        bif decide ((0 : Int) ≤ (irem .i64 n2 8)) then
        bif decide ((0 : Int) ≤ (iquo .i64 n2 8)) && decide (((iquo .i64 n2 8) : Int) < ((l).length : Int)) then
        some (.inl ((isub .i64 i 1), (iadd .i64 n2 1), (l.set (0 + ((iquo .i64 n2 8)).toNat) (ior .u8 (l.getD (0 + ((iquo .i64 n2 8)).toNat) 0) (ishr .u8 128 (irem .i64 n2 8))))))
        else none
        else none
      else
        some (.inl ((isub .i64 i 1), (iadd .i64 n2 1), l))
      else none
  else
    some (.inr (n2, l))
theorem bits_Writer_Put_L0_3_ok (n : Int) (s_ : Int × Int × List Int) (z_ : (Int × Int × List Int) ⊕ (Int × List Int)) (h : bits_Writer_Put_L0_3_step n s_ = some z_) : RoundOk Try.prog cfg 88 1 (loopAt Try.prog 88 0) (bits_Writer_Put_L0_3_st n) (bits_Writer_Put_L0_3_ex n) s_ z_ := by
  rcases s_ with ⟨i, n2, l⟩
  rcases cond_of h with ⟨h1, h⟩ | ⟨h1, h⟩
  · rcases cond_of h with ⟨h2, h⟩ | ⟨h2, h⟩
    · obtain ⟨h3, h⟩ := need_of h
      obtain ⟨h4, h⟩ := need_of h
      rcases cond_of h with ⟨h5, h⟩ | ⟨h5, h⟩
      · obtain ⟨h6, h⟩ := need_of h
        obtain ⟨h7, h⟩ := need_of h
        have h := some_of h
        subst h
        exact ⟨[.br true, .br true, .br true], ⟨[(0, (.av (.one (.ref 0 0)))), (1, (.av (.one (.pv (.int .u64 n))))), (6, (.av (.one (.pv (.int .i64 (isub .i64 i 1))))))], [(0, [(.own 0 0 ((l ++ [0])).length false), (.pv (.int .i64 (iadd .i64 n2 1)))])], [(0, (.live (.ints .u8 ((l ++ [0]).set (0 + ((iquo .i64 n2 8)).toNat) (ior .u8 ((l ++ [0]).getD (0 + ((iquo .i64 n2 8)).toNat) 0) (ishr .u8 128 (irem .i64 n2 8)))))))]⟩, .k1 (an_ h1 (an_ (rfl : true = true) (an_ h2 (an_ (show (Nat.beq (l).length (l).length) = true from Nat.beq_refl _) (an_ h3 (an_ h4 (an_ h5 (an_ (rfl : true = true) (an_ (rfl : true = true) (an_ (rfl : true = true) (an_ (rfl : true = true) (an_ h6 (an_ (rfl : true = true) (an_ h7 (an_ h6 (an_ h6 (an_ (rfl : true = true) (an_ (rfl : true = true) (an_ (rfl : true = true) (an_ (rfl : true = true) (an_ h6 (an_ h7 (an_ h6 (an_ h7 trivial)))))))))))))))))))))))) (by kernel_rfl) (by kernel_rfl), ⟨⟨⟨_, rfl, .eq rfl⟩, ⟨_, rfl, .eq rfl⟩, ⟨_, rfl, .eq rfl⟩, trivial⟩, ⟨⟨rfl, ⟨.own (by first | rfl | (simp only [List.take_length]; done) | (simp only [List.take_length, List.length_append, List.drop_zero, List.map_append, List.map_take, List.map_drop, List.map_replicate, List.map_cons, List.map_nil, List.append_nil, List.nil_append, E_deed_Gift.pv, E_deed_Gift.upd]; done) | (simp; done) | (simp only [List.length_map, List.take_length, List.length_append, List.drop_zero, List.map_append, List.map_take, List.map_drop, List.map_replicate, List.map_cons, List.map_nil, List.append_nil, List.nil_append, E_deed_Gift.pv, E_deed_Gift.upd]; done)), .eq rfl, trivial⟩⟩, trivial⟩, ⟨⟨rfl, .eq rfl⟩, trivial⟩⟩⟩
      · have h := some_of h
        subst h
        exact ⟨[.br true, .br true, .br false], bits_Writer_Put_L0_3_st n ((isub .i64 i 1), (iadd .i64 n2 1), (l ++ [0])), .k0 (an_ h1 (an_ (rfl : true = true) (an_ h2 (an_ (show (Nat.beq (l).length (l).length) = true from Nat.beq_refl _) (an_ h3 (an_ h4 (an_ h5 trivial))))))) (by kernel_rfl), .same (by kernel_rfl)⟩
    · obtain ⟨h3, h⟩ := need_of h
      rcases cond_of h with ⟨h4, h⟩ | ⟨h4, h⟩
      · obtain ⟨h5, h⟩ := need_of h
        obtain ⟨h6, h⟩ := need_of h
        have h := some_of h
        subst h
        exact ⟨[.br true, .br false, .br true], ⟨[(0, (.av (.one (.ref 0 0)))), (1, (.av (.one (.pv (.int .u64 n))))), (6, (.av (.one (.pv (.int .i64 (isub .i64 i 1))))))], [(0, [(.own 0 0 (l).length false), (.pv (.int .i64 (iadd .i64 n2 1)))])], [(0, (.live (.ints .u8 (l.set (0 + ((iquo .i64 n2 8)).toNat) (ior .u8 (l.getD (0 + ((iquo .i64 n2 8)).toNat) 0) (ishr .u8 128 (irem .i64 n2 8)))))))]⟩, .k1 (an_ h1 (an_ (rfl : true = true) (an_ h2 (an_ h3 (an_ h4 (an_ (rfl : true = true) (an_ (rfl : true = true) (an_ (rfl : true = true) (an_ (rfl : true = true) (an_ h5 (an_ (rfl : true = true) (an_ h6 (an_ h5 (an_ h5 (an_ (rfl : true = true) (an_ (rfl : true = true) (an_ (rfl : true = true) (an_ (rfl : true = true) (an_ h5 (an_ h6 (an_ h5 (an_ h6 trivial)))))))))))))))))))))) (by kernel_rfl) (by kernel_rfl), ⟨⟨⟨_, rfl, .eq rfl⟩, ⟨_, rfl, .eq rfl⟩, ⟨_, rfl, .eq rfl⟩, trivial⟩, ⟨⟨rfl, ⟨.own (by first | rfl | (simp only [List.take_length]; done) | (simp only [List.take_length, List.length_append, List.drop_zero, List.map_append, List.map_take, List.map_drop, List.map_replicate, List.map_cons, List.map_nil, List.append_nil, List.nil_append, E_deed_Gift.pv, E_deed_Gift.upd]; done) | (simp; done) | (simp only [List.length_map, List.take_length, List.length_append, List.drop_zero, List.map_append, List.map_take, List.map_drop, List.map_replicate, List.map_cons, List.map_nil, List.append_nil, List.nil_append, E_deed_Gift.pv, E_deed_Gift.upd]; done)), .eq rfl, trivial⟩⟩, trivial⟩, ⟨⟨rfl, .eq rfl⟩, trivial⟩⟩⟩
      · have h := some_of h
        subst h
        exact ⟨[.br true, .br false, .br false], bits_Writer_Put_L0_3_st n ((isub .i64 i 1), (iadd .i64 n2 1), l), .k0 (an_ h1 (an_ (rfl : true = true) (an_ h2 (an_ h3 (an_ h4 trivial))))) (by kernel_rfl), .same (by kernel_rfl)⟩
  · have h := some_of h
    subst h
    exact ⟨[.br false], ⟨[(13, (.av (.one (.pv (.bool false))))), (0, (.av (.one (.ref 0 0)))), (1, (.av (.one (.pv (.int .u64 n))))), (6, (.av (.one (.pv (.int .i64 i))))), (13, (.av (.one (.pv (.bool (decide ((0 : Int) ≤ i)))))))], [(0, [(.own 0 0 (l).length false), (.pv (.int .i64 n2))])], [(0, (.live (.ints .u8 l)))]⟩, .k0 (an_ h1 trivial) (by kernel_rfl), ⟨trivial, ⟨⟨rfl, ⟨.eq rfl, .eq rfl, trivial⟩⟩, trivial⟩, ⟨⟨rfl, .eq rfl⟩, trivial⟩⟩⟩
theorem bits_Writer_Put_L0_3_runs (n : Int) (s_ : Int × Int × List Int) (r_ : Int × List Int) (h : runL (bits_Writer_Put_L0_3_step n) s_ = some r_) : LRuns Try.prog (lEnv Try.prog cfg 88 1).nt 1 (.loop (loopAt Try.prog 88 0)) (bits_Writer_Put_L0_3_st n s_) (bits_Writer_Put_L0_3_ex n r_).1 (bits_Writer_Put_L0_3_ex n r_).2 :=
  loop_run h (bits_Writer_Put_L0_3_ok n) (by intro r_; rcases r_ with ⟨r1, r2⟩ <;> simp [bits_Writer_Put_L0_3_ex])
/-! ### bits_Writer_Put_2 -/
noncomputable def bits_Writer_Put_2 (n : Int) (k : Int) (n2 : Int) (l : List Int) : Option (Int × List Int) :=
  (bits_within k).bind fun n3 =>
  (runL (bits_Writer_Put_L0_3_step n) ((isub .i64 n3 1), n2, l)).bind fun (n4, l_) =>
  some (n4, l_)
theorem bits_Writer_Put_2_runs (n : Int) (k : Int) (n2 : Int) (l : List Int) (r_ : Int × List Int) (h : bits_Writer_Put_2 n k n2 l = some r_) : Runs Try.prog 88 [(.one (.ref 0 0)), (.one (.pv (.int .u64 n))), (.one (.pv (.int .i64 k)))] [[(.own 0 0 (l).length false), (.pv (.int .i64 n2))]] [(.ints .u8 l)] (bits_Writer_Put_2_out n k n2 l r_) := by
  unfold bits_Writer_Put_2 at h
  obtain ⟨n3, h1, h⟩ := bind_of h
  obtain ⟨⟨n4, l_⟩, h2, h⟩ := bind_of h
  have h := some_of h
  subst h
  exact runs_of (C := cfg) (objs := [[(.own 0 0 (l).length false), (.pv (.int .i64 n2))]]) (sc := [.br false, .res (bits_within_out k n3), .lp (bits_Writer_Put_L0_3_ex n (n4, l_)).1 (bits_Writer_Put_L0_3_ex n (n4, l_)).2]) (.k0 (an_ (rfl : false = false) (an_ (bits_within_runs k _ h1) (an_ (bits_Writer_Put_L0_3_runs n _ _ h2) trivial))) (by kernel_rfl))
/-! ### code_PutID_2_out -/
def code_PutID_2_out (i : Bool) (i2 : T_id_halves) (n : Int) (l : List Int) : Int × List Int → Res
  | (r1, r2) => ([], [[(.own 0 0 (r2).length false), (.pv (.int .i64 r1))]], [(.ints .u8 r2)])
/-! ### code_PutID_2 -/
noncomputable def code_PutID_2_b (rec_code_PutID_2 : Bool → T_id_halves → Int → List Int → Option (Int × List Int)) (i : Bool) (i2 : T_id_halves) (n : Int) (l : List Int) : Option (Int × List Int) :=
  (id_ID_Left i i2).bind fun (b, t) =>
  (id_ID_Right i i2).bind fun (b2, t2) =>
  (id_ID_IsZero i i2).bind fun b3 =>
  bif b3 then
    (bits_Writer_Put_2 0 2 n l).bind fun (n2, l_) =>
    (bits_Writer_Put_2 0 1 n2 l_).bind fun (n3, l_2) =>
    some (n3, l_2)
  else
    (id_ID_IsOne i i2).bind fun _ =>
    bif i then
      (bits_Writer_Put_2 0 2 n l).bind fun (n2, l_) =>
      (bits_Writer_Put_2 1 1 n2 l_).bind fun (n3, l_2) =>
      some (n3, l_2)
    else
      (id_ID_IsZero b t).bind fun b4 =>
      bif b4 then
        (bits_Writer_Put_2 1 2 n l).bind fun (n2, l_) =>
        (rec_code_PutID_2 b2 t2 n2 l_).bind fun (n3, l_2) =>
        some (n3, l_2)
      else
        (id_ID_IsZero b2 t2).bind fun b5 =>
        bif b5 then
          (bits_Writer_Put_2 2 2 n l).bind fun (n2, l_) =>
          (rec_code_PutID_2 b t n2 l_).bind fun (n3, l_2) =>
          some (n3, l_2)
        else
          (bits_Writer_Put_2 3 2 n l).bind fun (n2, l_) =>
          (rec_code_PutID_2 b t n2 l_).bind fun (n3, l_2) =>
          (rec_code_PutID_2 b2 t2 n3 l_2).bind fun (n4, l_3) =>
          some (n4, l_3)
theorem code_PutID_2_b_runs (rec_code_PutID_2 : Bool → T_id_halves → Int → List Int → Option (Int × List Int)) (hrec_code_PutID_2 : ∀ i i2 n l r_, rec_code_PutID_2 i i2 n l = some r_ → Runs Try.prog 66 [(.one (.ref 0 0)), (.agg [(.pv (.bool i)), (.pv (T_id_halves.pv i2))])] [[(.own 0 0 (l).length false), (.pv (.int .i64 n))]] [(.ints .u8 l)] (code_PutID_2_out i i2 n l r_)) (i : Bool) (i2 : T_id_halves) (n : Int) (l : List Int) (r_ : Int × List Int) (h : code_PutID_2_b rec_code_PutID_2 i i2 n l = some r_) : Runs Try.prog 66 [(.one (.ref 0 0)), (.agg [(.pv (.bool i)), (.pv (T_id_halves.pv i2))])] [[(.own 0 0 (l).length false), (.pv (.int .i64 n))]] [(.ints .u8 l)] (code_PutID_2_out i i2 n l r_) := by
  unfold code_PutID_2_b at h
  obtain ⟨⟨b, t⟩, h1, h⟩ := bind_of h
  obtain ⟨⟨b2, t2⟩, h2, h⟩ := bind_of h
  obtain ⟨b3, h3, h⟩ := bind_of h
  rcases cond_of h with ⟨h4, h⟩ | ⟨h4, h⟩
  · obtain ⟨⟨n2, l_⟩, h5, h⟩ := bind_of h
    obtain ⟨⟨n3, l_2⟩, h6, h⟩ := bind_of h
    have h := some_of h
    subst h
    exact runs_of (C := cfg) (objs := [[(.own 0 0 (l).length false), (.pv (.int .i64 n))]]) (sc := [.res (id_ID_Left_out i i2 (b, t)), .res (id_ID_Left_out i i2 (b, t)), .res (id_ID_Left_out i i2 (b, t)), .res (id_ID_Left_out i i2 (b, t)), .res (id_ID_Left_out i i2 (b, t)), .res (id_ID_Left_out i i2 (b, t)), .res (id_ID_Left_out i i2 (b, t)), .res (id_ID_Right_out i i2 (b2, t2)), .res (id_ID_Right_out i i2 (b2, t2)), .res (id_ID_Right_out i i2 (b2, t2)), .res (id_ID_Left_out i i2 (b, t)), .res (id_ID_Right_out i i2 (b2, t2)), .res (id_ID_IsZero_out i i2 b3), .br true, .res (bits_Writer_Put_2_out 0 2 n l (n2, l_)), .res (bits_Writer_Put_2_out 0 1 n2 l_ (n3, l_2))]) (.k1 (an_ (id_ID_Left_runs i i2 _ h1) (an_ (id_ID_Left_runs i i2 _ h1) (an_ (id_ID_Left_runs i i2 _ h1) (an_ (id_ID_Left_runs i i2 _ h1) (an_ (id_ID_Left_runs i i2 _ h1) (an_ (id_ID_Left_runs i i2 _ h1) (an_ (id_ID_Left_runs i i2 _ h1) (an_ (id_ID_Right_runs i i2 _ h2) (an_ (id_ID_Right_runs i i2 _ h2) (an_ (id_ID_Right_runs i i2 _ h2) (an_ (id_ID_Left_runs i i2 _ h1) (an_ (id_ID_Right_runs i i2 _ h2) (an_ (id_ID_IsZero_runs i i2 _ h3) (an_ h4 (an_ (bits_Writer_Put_2_runs 0 2 n l _ h5) (an_ (bits_Writer_Put_2_runs 0 1 n2 l_ _ h6) trivial)))))))))))))))) (by kernel_rfl) (by kernel_rfl))
  · obtain ⟨_, h5, h⟩ := bind_of h
    rcases cond_of h with ⟨h6, h⟩ | ⟨h6, h⟩
    · obtain ⟨⟨n2, l_⟩, h7, h⟩ := bind_of h
      obtain ⟨⟨n3, l_2⟩, h8, h⟩ := bind_of h
      have h := some_of h
      subst h
      exact runs_of (C := cfg) (objs := [[(.own 0 0 (l).length false), (.pv (.int .i64 n))]]) (sc := [.res (id_ID_Left_out i i2 (b, t)), .res (id_ID_Left_out i i2 (b, t)), .res (id_ID_Left_out i i2 (b, t)), .res (id_ID_Left_out i i2 (b, t)), .res (id_ID_Left_out i i2 (b, t)), .res (id_ID_Left_out i i2 (b, t)), .res (id_ID_Left_out i i2 (b, t)), .res (id_ID_Right_out i i2 (b2, t2)), .res (id_ID_Right_out i i2 (b2, t2)), .res (id_ID_Right_out i i2 (b2, t2)), .res (id_ID_Left_out i i2 (b, t)), .res (id_ID_Right_out i i2 (b2, t2)), .res (id_ID_IsZero_out i i2 b3), .br false, .res (id_ID_IsOne_out i i2 ()), .br true, .res (bits_Writer_Put_2_out 0 2 n l (n2, l_)), .res (bits_Writer_Put_2_out 1 1 n2 l_ (n3, l_2))]) (.k1 (an_ (id_ID_Left_runs i i2 _ h1) (an_ (id_ID_Left_runs i i2 _ h1) (an_ (id_ID_Left_runs i i2 _ h1) (an_ (id_ID_Left_runs i i2 _ h1) (an_ (id_ID_Left_runs i i2 _ h1) (an_ (id_ID_Left_runs i i2 _ h1) (an_ (id_ID_Left_runs i i2 _ h1) (an_ (id_ID_Right_runs i i2 _ h2) (an_ (id_ID_Right_runs i i2 _ h2) (an_ (id_ID_Right_runs i i2 _ h2) (an_ (id_ID_Left_runs i i2 _ h1) (an_ (id_ID_Right_runs i i2 _ h2) (an_ (id_ID_IsZero_runs i i2 _ h3) (an_ h4 (an_ (id_ID_IsOne_runs i i2 _ h5) (an_ h6 (an_ (bits_Writer_Put_2_runs 0 2 n l _ h7) (an_ (bits_Writer_Put_2_runs 1 1 n2 l_ _ h8) trivial)))))))))))))))))) (by kernel_rfl) (by kernel_rfl))
    · obtain ⟨b4, h7, h⟩ := bind_of h
      rcases cond_of h with ⟨h8, h⟩ | ⟨h8, h⟩
      · obtain ⟨⟨n2, l_⟩, h9, h⟩ := bind_of h
        obtain ⟨⟨n3, l_2⟩, h10, h⟩ := bind_of h
        have h := some_of h
        subst h
        exact runs_of (C := cfg) (objs := [[(.own 0 0 (l).length false), (.pv (.int .i64 n))]]) (sc := [.res (id_ID_Left_out i i2 (b, t)), .res (id_ID_Left_out i i2 (b, t)), .res (id_ID_Left_out i i2 (b, t)), .res (id_ID_Left_out i i2 (b, t)), .res (id_ID_Left_out i i2 (b, t)), .res (id_ID_Left_out i i2 (b, t)), .res (id_ID_Left_out i i2 (b, t)), .res (id_ID_Right_out i i2 (b2, t2)), .res (id_ID_Right_out i i2 (b2, t2)), .res (id_ID_Right_out i i2 (b2, t2)), .res (id_ID_Left_out i i2 (b, t)), .res (id_ID_Right_out i i2 (b2, t2)), .res (id_ID_IsZero_out i i2 b3), .br false, .res (id_ID_IsOne_out i i2 ()), .br false, .res (id_ID_IsZero_out b t b4), .br true, .res (bits_Writer_Put_2_out 1 2 n l (n2, l_)), .res (code_PutID_2_out b2 t2 n2 l_ (n3, l_2))]) (.k1 (an_ (id_ID_Left_runs i i2 _ h1) (an_ (id_ID_Left_runs i i2 _ h1) (an_ (id_ID_Left_runs i i2 _ h1) (an_ (id_ID_Left_runs i i2 _ h1) (an_ (id_ID_Left_runs i i2 _ h1) (an_ (id_ID_Left_runs i i2 _ h1) (an_ (id_ID_Left_runs i i2 _ h1) (an_ (id_ID_Right_runs i i2 _ h2) (an_ (id_ID_Right_runs i i2 _ h2) (an_ (id_ID_Right_runs i i2 _ h2) (an_ (id_ID_Left_runs i i2 _ h1) (an_ (id_ID_Right_runs i i2 _ h2) (an_ (id_ID_IsZero_runs i i2 _ h3) (an_ h4 (an_ (id_ID_IsOne_runs i i2 _ h5) (an_ h6 (an_ (id_ID_IsZero_runs b t _ h7) (an_ h8 (an_ (bits_Writer_Put_2_runs 1 2 n l _ h9) (an_ (hrec_code_PutID_2 b2 t2 n2 l_ _ h10) trivial)))))))))))))))))))) (by kernel_rfl) (by kernel_rfl))
      · obtain ⟨b5, h9, h⟩ := bind_of h
        rcases cond_of h with ⟨h10, h⟩ | ⟨h10, h⟩
        · obtain ⟨⟨n2, l_⟩, h11, h⟩ := bind_of h
          obtain ⟨⟨n3, l_2⟩, h12, h⟩ := bind_of h
          have h := some_of h
          subst h
          exact runs_of (C := cfg) (objs := [[(.own 0 0 (l).length false), (.pv (.int .i64 n))]]) (sc := [.res (id_ID_Left_out i i2 (b, t)), .res (id_ID_Left_out i i2 (b, t)), .res (id_ID_Left_out i i2 (b, t)), .res (id_ID_Left_out i i2 (b, t)), .res (id_ID_Left_out i i2 (b, t)), .res (id_ID_Left_out i i2 (b, t)), .res (id_ID_Left_out i i2 (b, t)), .res (id_ID_Right_out i i2 (b2, t2)), .res (id_ID_Right_out i i2 (b2, t2)), .res (id_ID_Right_out i i2 (b2, t2)), .res (id_ID_Left_out i i2 (b, t)), .res (id_ID_Right_out i i2 (b2, t2)), .res (id_ID_IsZero_out i i2 b3), .br false, .res (id_ID_IsOne_out i i2 ()), .br false, .res (id_ID_IsZero_out b t b4), .br false, .res (id_ID_IsZero_out b2 t2 b5), .br true, .res (bits_Writer_Put_2_out 2 2 n l (n2, l_)), .res (code_PutID_2_out b t n2 l_ (n3, l_2))]) (.k1 (an_ (id_ID_Left_runs i i2 _ h1) (an_ (id_ID_Left_runs i i2 _ h1) (an_ (id_ID_Left_runs i i2 _ h1) (an_ (id_ID_Left_runs i i2 _ h1) (an_ (id_ID_Left_runs i i2 _ h1) (an_ (id_ID_Left_runs i i2 _ h1) (an_ (id_ID_Left_runs i i2 _ h1) (an_ (id_ID_Right_runs i i2 _ h2) (an_ (id_ID_Right_runs i i2 _ h2) (an_ (id_ID_Right_runs i i2 _ h2) (an_ (id_ID_Left_runs i i2 _ h1) (an_ (id_ID_Right_runs i i2 _ h2) (an_ (id_ID_IsZero_runs i i2 _ h3) (an_ h4 (an_ (id_ID_IsOne_runs i i2 _ h5) (an_ h6 (an_ (id_ID_IsZero_runs b t _ h7) (an_ h8 (an_ (id_ID_IsZero_runs b2 t2 _ h9) (an_ h10 (an_ (bits_Writer_Put_2_runs 2 2 n l _ h11) (an_ (hrec_code_PutID_2 b t n2 l_ _ h12) trivial)))))))))))))))))))))) (by kernel_rfl) (by kernel_rfl))
        · obtain ⟨⟨n2, l_⟩, h11, h⟩ := bind_of h
          obtain ⟨⟨n3, l_2⟩, h12, h⟩ := bind_of h
          obtain ⟨⟨n4, l_3⟩, h13, h⟩ := bind_of h
          have h := some_of h
          subst h
          exact runs_of (C := cfg) (objs := [[(.own 0 0 (l).length false), (.pv (.int .i64 n))]]) (sc := [.res (id_ID_Left_out i i2 (b, t)), .res (id_ID_Left_out i i2 (b, t)), .res (id_ID_Left_out i i2 (b, t)), .res (id_ID_Left_out i i2 (b, t)), .res (id_ID_Left_out i i2 (b, t)), .res (id_ID_Left_out i i2 (b, t)), .res (id_ID_Left_out i i2 (b, t)), .res (id_ID_Right_out i i2 (b2, t2)), .res (id_ID_Right_out i i2 (b2, t2)), .res (id_ID_Right_out i i2 (b2, t2)), .res (id_ID_Left_out i i2 (b, t)), .res (id_ID_Right_out i i2 (b2, t2)), .res (id_ID_IsZero_out i i2 b3), .br false, .res (id_ID_IsOne_out i i2 ()), .br false, .res (id_ID_IsZero_out b t b4), .br false, .res (id_ID_IsZero_out b2 t2 b5), .br false, .res (bits_Writer_Put_2_out 3 2 n l (n2, l_)), .res (code_PutID_2_out b t n2 l_ (n3, l_2)), .res (code_PutID_2_out b2 t2 n3 l_2 (n4, l_3))]) (.k1 (an_ (id_ID_Left_runs i i2 _ h1) (an_ (id_ID_Left_runs i i2 _ h1) (an_ (id_ID_Left_runs i i2 _ h1) (an_ (id_ID_Left_runs i i2 _ h1) (an_ (id_ID_Left_runs i i2 _ h1) (an_ (id_ID_Left_runs i i2 _ h1) (an_ (id_ID_Left_runs i i2 _ h1) (an_ (id_ID_Right_runs i i2 _ h2) (an_ (id_ID_Right_runs i i2 _ h2) (an_ (id_ID_Right_runs i i2 _ h2) (an_ (id_ID_Left_runs i i2 _ h1) (an_ (id_ID_Right_runs i i2 _ h2) (an_ (id_ID_IsZero_runs i i2 _ h3) (an_ h4 (an_ (id_ID_IsOne_runs i i2 _ h5) (an_ h6 (an_ (id_ID_IsZero_runs b t _ h7) (an_ h8 (an_ (id_ID_IsZero_runs b2 t2 _ h9) (an_ h10 (an_ (bits_Writer_Put_2_runs 3 2 n l _ h11) (an_ (hrec_code_PutID_2 b t n2 l_ _ h12) (an_ (hrec_code_PutID_2 b2 t2 n3 l_2 _ h13) trivial))))))))))))))))))))))) (by kernel_rfl) (by kernel_rfl))
noncomputable def code_PutID_2 : Nat → Bool → T_id_halves → Int → List Int → Option (Int × List Int)
  | 0, _, _, _, _ => none
  | N + 1, i, i2, n, l => code_PutID_2_b (code_PutID_2 N) i i2 n l
theorem code_PutID_2_runs : ∀ (N : Nat) (i : Bool) (i2 : T_id_halves) (n : Int) (l : List Int) (r_ : Int × List Int), code_PutID_2 N i i2 n l = some r_ → Runs Try.prog 66 [(.one (.ref 0 0)), (.agg [(.pv (.bool i)), (.pv (T_id_halves.pv i2))])] [[(.own 0 0 (l).length false), (.pv (.int .i64 n))]] [(.ints .u8 l)] (code_PutID_2_out i i2 n l r_)
  | 0, _, _, _, _, _, h => by cases h
  | N + 1, i, i2, n, l, r_, h => code_PutID_2_b_runs (code_PutID_2 N) (code_PutID_2_runs N) i i2 n l r_ h
/-! ### code_PutID -/
noncomputable def code_PutID (N : Nat) (i : Bool) (i2 : T_id_halves) (n : Int) : Option (Int × List Int) :=
  (id_ID_Left i i2).bind fun (b, t) =>
  (id_ID_Right i i2).bind fun (b2, t2) =>
  (id_ID_IsZero i i2).bind fun b3 =>
  bif b3 then
    (bits_Writer_Put 0 2 n).bind fun (n2, l_) =>
    (bits_Writer_Put_2 0 1 n2 l_).bind fun (n3, l_2) =>
    some (n3, l_2)
  else
    (id_ID_IsOne i i2).bind fun _ =>
    bif i then
      (bits_Writer_Put 0 2 n).bind fun (n2, l_) =>
      (bits_Writer_Put_2 1 1 n2 l_).bind fun (n3, l_2) =>
      some (n3, l_2)
    else
      (id_ID_IsZero b t).bind fun b4 =>
      bif b4 then
        (bits_Writer_Put 1 2 n).bind fun (n2, l_) =>
        (code_PutID_2 N b2 t2 n2 l_).bind fun (n3, l_2) =>
        some (n3, l_2)
      else
        (id_ID_IsZero b2 t2).bind fun b5 =>
        bif b5 then
          (bits_Writer_Put 2 2 n).bind fun (n2, l_) =>
          (code_PutID_2 N b t n2 l_).bind fun (n3, l_2) =>
          some (n3, l_2)
        else
          (bits_Writer_Put 3 2 n).bind fun (n2, l_) =>
          (code_PutID_2 N b t n2 l_).bind fun (n3, l_2) =>
          (code_PutID_2 N b2 t2 n3 l_2).bind fun (n4, l_3) =>
          some (n4, l_3)
theorem code_PutID_runs (N : Nat) (i : Bool) (i2 : T_id_halves) (n : Int) (r_ : Int × List Int) (h : code_PutID N i i2 n = some r_) : Runs Try.prog 66 [(.one (.ref 0 0)), (.agg [(.pv (.bool i)), (.pv (T_id_halves.pv i2))])] [[(.pv .nils), (.pv (.int .i64 n))]] [] (code_PutID_out i i2 n r_) := by
  unfold code_PutID at h
  obtain ⟨⟨b, t⟩, h1, h⟩ := bind_of h
  obtain ⟨⟨b2, t2⟩, h2, h⟩ := bind_of h
  obtain ⟨b3, h3, h⟩ := bind_of h
  rcases cond_of h with ⟨h4, h⟩ | ⟨h4, h⟩
  · obtain ⟨⟨n2, l_⟩, h5, h⟩ := bind_of h
    obtain ⟨⟨n3, l_2⟩, h6, h⟩ := bind_of h
    have h := some_of h
    subst h
    exact runs_of (C := cfg) (objs := [[(.pv .nils), (.pv (.int .i64 n))]]) (sc := [.res (id_ID_Left_out i i2 (b, t)), .res (id_ID_Left_out i i2 (b, t)), .res (id_ID_Left_out i i2 (b, t)), .res (id_ID_Left_out i i2 (b, t)), .res (id_ID_Left_out i i2 (b, t)), .res (id_ID_Left_out i i2 (b, t)), .res (id_ID_Left_out i i2 (b, t)), .res (id_ID_Right_out i i2 (b2, t2)), .res (id_ID_Right_out i i2 (b2, t2)), .res (id_ID_Right_out i i2 (b2, t2)), .res (id_ID_Left_out i i2 (b, t)), .res (id_ID_Right_out i i2 (b2, t2)), .res (id_ID_IsZero_out i i2 b3), .br true, .res (bits_Writer_Put_out 0 2 n (n2, l_)), .res (bits_Writer_Put_2_out 0 1 n2 l_ (n3, l_2))]) (.k1 (an_ (id_ID_Left_runs i i2 _ h1) (an_ (id_ID_Left_runs i i2 _ h1) (an_ (id_ID_Left_runs i i2 _ h1) (an_ (id_ID_Left_runs i i2 _ h1) (an_ (id_ID_Left_runs i i2 _ h1) (an_ (id_ID_Left_runs i i2 _ h1) (an_ (id_ID_Left_runs i i2 _ h1) (an_ (id_ID_Right_runs i i2 _ h2) (an_ (id_ID_Right_runs i i2 _ h2) (an_ (id_ID_Right_runs i i2 _ h2) (an_ (id_ID_Left_runs i i2 _ h1) (an_ (id_ID_Right_runs i i2 _ h2) (an_ (id_ID_IsZero_runs i i2 _ h3) (an_ h4 (an_ (bits_Writer_Put_runs 0 2 n _ h5) (an_ (bits_Writer_Put_2_runs 0 1 n2 l_ _ h6) trivial)))))))))))))))) (by kernel_rfl) (by kernel_rfl))
  · obtain ⟨_, h5, h⟩ := bind_of h
    rcases cond_of h with ⟨h6, h⟩ | ⟨h6, h⟩
    · obtain ⟨⟨n2, l_⟩, h7, h⟩ := bind_of h
      obtain ⟨⟨n3, l_2⟩, h8, h⟩ := bind_of h
      have h := some_of h
      subst h
      exact runs_of (C := cfg) (objs := [[(.pv .nils), (.pv (.int .i64 n))]]) (sc := [.res (id_ID_Left_out i i2 (b, t)), .res (id_ID_Left_out i i2 (b, t)), .res (id_ID_Left_out i i2 (b, t)), .res (id_ID_Left_out i i2 (b, t)), .res (id_ID_Left_out i i2 (b, t)), .res (id_ID_Left_out i i2 (b, t)), .res (id_ID_Left_out i i2 (b, t)), .res (id_ID_Right_out i i2 (b2, t2)), .res (id_ID_Right_out i i2 (b2, t2)), .res (id_ID_Right_out i i2 (b2, t2)), .res (id_ID_Left_out i i2 (b, t)), .res (id_ID_Right_out i i2 (b2, t2)), .res (id_ID_IsZero_out i i2 b3), .br false, .res (id_ID_IsOne_out i i2 ()), .br true, .res (bits_Writer_Put_out 0 2 n (n2, l_)), .res (bits_Writer_Put_2_out 1 1 n2 l_ (n3, l_2))]) (.k1 (an_ (id_ID_Left_runs i i2 _ h1) (an_ (id_ID_Left_runs i i2 _ h1) (an_ (id_ID_Left_runs i i2 _ h1) (an_ (id_ID_Left_runs i i2 _ h1) (an_ (id_ID_Left_runs i i2 _ h1) (an_ (id_ID_Left_runs i i2 _ h1) (an_ (id_ID_Left_runs i i2 _ h1) (an_ (id_ID_Right_runs i i2 _ h2) (an_ (id_ID_Right_runs i i2 _ h2) (an_ (id_ID_Right_runs i i2 _ h2) (an_ (id_ID_Left_runs i i2 _ h1) (an_ (id_ID_Right_runs i i2 _ h2) (an_ (id_ID_IsZero_runs i i2 _ h3) (an_ h4 (an_ (id_ID_IsOne_runs i i2 _ h5) (an_ h6 (an_ (bits_Writer_Put_runs 0 2 n _ h7) (an_ (bits_Writer_Put_2_runs 1 1 n2 l_ _ h8) trivial)))))))))))))))))) (by kernel_rfl) (by kernel_rfl))
    · obtain ⟨b4, h7, h⟩ := bind_of h
      rcases cond_of h with ⟨h8, h⟩ | ⟨h8, h⟩
      · obtain ⟨⟨n2, l_⟩, h9, h⟩ := bind_of h
        obtain ⟨⟨n3, l_2⟩, h10, h⟩ := bind_of h
        have h := some_of h
        subst h
        exact runs_of (C := cfg) (objs := [[(.pv .nils), (.pv (.int .i64 n))]]) (sc := [.res (id_ID_Left_out i i2 (b, t)), .res (id_ID_Left_out i i2 (b, t)), .res (id_ID_Left_out i i2 (b, t)), .res (id_ID_Left_out i i2 (b, t)), .res (id_ID_Left_out i i2 (b, t)), .res (id_ID_Left_out i i2 (b, t)), .res (id_ID_Left_out i i2 (b, t)), .res (id_ID_Right_out i i2 (b2, t2)), .res (id_ID_Right_out i i2 (b2, t2)), .res (id_ID_Right_out i i2 (b2, t2)), .res (id_ID_Left_out i i2 (b, t)), .res (id_ID_Right_out i i2 (b2, t2)), .res (id_ID_IsZero_out i i2 b3), .br false, .res (id_ID_IsOne_out i i2 ()), .br false, .res (id_ID_IsZero_out b t b4), .br true, .res (bits_Writer_Put_out 1 2 n (n2, l_)), .res (code_PutID_2_out b2 t2 n2 l_ (n3, l_2))]) (.k1 (an_ (id_ID_Left_runs i i2 _ h1) (an_ (id_ID_Left_runs i i2 _ h1) (an_ (id_ID_Left_runs i i2 _ h1) (an_ (id_ID_Left_runs i i2 _ h1) (an_ (id_ID_Left_runs i i2 _ h1) (an_ (id_ID_Left_runs i i2 _ h1) (an_ (id_ID_Left_runs i i2 _ h1) (an_ (id_ID_Right_runs i i2 _ h2) (an_ (id_ID_Right_runs i i2 _ h2) (an_ (id_ID_Right_runs i i2 _ h2) (an_ (id_ID_Left_runs i i2 _ h1) (an_ (id_ID_Right_runs i i2 _ h2) (an_ (id_ID_IsZero_runs i i2 _ h3) (an_ h4 (an_ (id_ID_IsOne_runs i i2 _ h5) (an_ h6 (an_ (id_ID_IsZero_runs b t _ h7) (an_ h8 (an_ (bits_Writer_Put_runs 1 2 n _ h9) (an_ (code_PutID_2_runs N b2 t2 n2 l_ _ h10) trivial)))))))))))))))))))) (by kernel_rfl) (by kernel_rfl))
      · obtain ⟨b5, h9, h⟩ := bind_of h
        rcases cond_of h with ⟨h10, h⟩ | ⟨h10, h⟩
        · obtain ⟨⟨n2, l_⟩, h11, h⟩ := bind_of h
          obtain ⟨⟨n3, l_2⟩, h12, h⟩ := bind_of h
          have h := some_of h
          subst h
          exact runs_of (C := cfg) (objs := [[(.pv .nils), (.pv (.int .i64 n))]]) (sc := [.res (id_ID_Left_out i i2 (b, t)), .res (id_ID_Left_out i i2 (b, t)), .res (id_ID_Left_out i i2 (b, t)), .res (id_ID_Left_out i i2 (b, t)), .res (id_ID_Left_out i i2 (b, t)), .res (id_ID_Left_out i i2 (b, t)), .res (id_ID_Left_out i i2 (b, t)), .res (id_ID_Right_out i i2 (b2, t2)), .res (id_ID_Right_out i i2 (b2, t2)), .res (id_ID_Right_out i i2 (b2, t2)), .res (id_ID_Left_out i i2 (b, t)), .res (id_ID_Right_out i i2 (b2, t2)), .res (id_ID_IsZero_out i i2 b3), .br false, .res (id_ID_IsOne_out i i2 ()), .br false, .res (id_ID_IsZero_out b t b4), .br false, .res (id_ID_IsZero_out b2 t2 b5), .br true, .res (bits_Writer_Put_out 2 2 n (n2, l_)), .res (code_PutID_2_out b t n2 l_ (n3, l_2))]) (.k1 (an_ (id_ID_Left_runs i i2 _ h1) (an_ (id_ID_Left_runs i i2 _ h1) (an_ (id_ID_Left_runs i i2 _ h1) (an_ (id_ID_Left_runs i i2 _ h1) (an_ (id_ID_Left_runs i i2 _ h1) (an_ (id_ID_Left_runs i i2 _ h1) (an_ (id_ID_Left_runs i i2 _ h1) (an_ (id_ID_Right_runs i i2 _ h2) (an_ (id_ID_Right_runs i i2 _ h2) (an_ (id_ID_Right_runs i i2 _ h2) (an_ (id_ID_Left_runs i i2 _ h1) (an_ (id_ID_Right_runs i i2 _ h2) (an_ (id_ID_IsZero_runs i i2 _ h3) (an_ h4 (an_ (id_ID_IsOne_runs i i2 _ h5) (an_ h6 (an_ (id_ID_IsZero_runs b t _ h7) (an_ h8 (an_ (id_ID_IsZero_runs b2 t2 _ h9) (an_ h10 (an_ (bits_Writer_Put_runs 2 2 n _ h11) (an_ (code_PutID_2_runs N b t n2 l_ _ h12) trivial)))))))))))))))))))))) (by kernel_rfl) (by kernel_rfl))
        · obtain ⟨⟨n2, l_⟩, h11, h⟩ := bind_of h
          obtain ⟨⟨n3, l_2⟩, h12, h⟩ := bind_of h
          obtain ⟨⟨n4, l_3⟩, h13, h⟩ := bind_of h
          have h := some_of h
          subst h
          exact runs_of (C := cfg) (objs := [[(.pv .nils), (.pv (.int .i64 n))]]) (sc := [.res (id_ID_Left_out i i2 (b, t)), .res (id_ID_Left_out i i2 (b, t)), .res (id_ID_Left_out i i2 (b, t)), .res (id_ID_Left_out i i2 (b, t)), .res (id_ID_Left_out i i2 (b, t)), .res (id_ID_Left_out i i2 (b, t)), .res (id_ID_Left_out i i2 (b, t)), .res (id_ID_Right_out i i2 (b2, t2)), .res (id_ID_Right_out i i2 (b2, t2)), .res (id_ID_Right_out i i2 (b2, t2)), .res (id_ID_Left_out i i2 (b, t)), .res (id_ID_Right_out i i2 (b2, t2)), .res (id_ID_IsZero_out i i2 b3), .br false, .res (id_ID_IsOne_out i i2 ()), .br false, .res (id_ID_IsZero_out b t b4), .br false, .res (id_ID_IsZero_out b2 t2 b5), .br false, .res (bits_Writer_Put_out 3 2 n (n2, l_)), .res (code_PutID_2_out b t n2 l_ (n3, l_2)), .res (code_PutID_2_out b2 t2 n3 l_2 (n4, l_3))]) (.k1 (an_ (id_ID_Left_runs i i2 _ h1) (an_ (id_ID_Left_runs i i2 _ h1) (an_ (id_ID_Left_runs i i2 _ h1) (an_ (id_ID_Left_runs i i2 _ h1) (an_ (id_ID_Left_runs i i2 _ h1) (an_ (id_ID_Left_runs i i2 _ h1) (an_ (id_ID_Left_runs i i2 _ h1) (an_ (id_ID_Right_runs i i2 _ h2) (an_ (id_ID_Right_runs i i2 _ h2) (an_ (id_ID_Right_runs i i2 _ h2) (an_ (id_ID_Left_runs i i2 _ h1) (an_ (id_ID_Right_runs i i2 _ h2) (an_ (id_ID_IsZero_runs i i2 _ h3) (an_ h4 (an_ (id_ID_IsOne_runs i i2 _ h5) (an_ h6 (an_ (id_ID_IsZero_runs b t _ h7) (an_ h8 (an_ (id_ID_IsZero_runs b2 t2 _ h9) (an_ h10 (an_ (bits_Writer_Put_runs 3 2 n _ h11) (an_ (code_PutID_2_runs N b t n2 l_ _ h12) (an_ (code_PutID_2_runs N b2 t2 n3 l_2 _ h13) trivial))))))))))))))))))))))) (by kernel_rfl) (by kernel_rfl))
/-! ### bits_Writer_Bytes_out -/
def bits_Writer_Bytes_out (n : Int) (l : List Int) : Unit → Res
  | _ => ([(.one (.pv (.ints .u8 l false)))], [[(.pv (.ints .u8 l false)), (.pv (.int .i64 n))]], [])
/-! ### bits_Writer_Bytes -/
noncomputable def bits_Writer_Bytes (n : Int) (l : List Int) : Option (Unit) :=
  bif fits ((List.take (l).length l)).length then
  some ()
  else none
theorem bits_Writer_Bytes_runs (n : Int) (l : List Int) (r_ : Unit) (h : bits_Writer_Bytes n l = some r_) : Runs Try.prog 67 [(.one (.ref 0 0))] [[(.own 0 0 (l).length false), (.pv (.int .i64 n))]] [(.ints .u8 l)] (bits_Writer_Bytes_out n l r_) := by
  unfold bits_Writer_Bytes at h
  obtain ⟨h1, h⟩ := need_of h
  have h := some_of h
  subst h
  have e_ : Runs Try.prog 67 [(.one (.ref 0 0))] [[(.own 0 0 (l).length false), (.pv (.int .i64 n))]] [(.ints .u8 l)] ([(.one (.pv (.ints .u8 (List.take (l).length l) false)))], [[(.pv (.ints .u8 (List.take (l).length l) false)), (.pv (.int .i64 n))]], []) := runs_of (C := cfg) (objs := [[(.own 0 0 (l).length false), (.pv (.int .i64 n))]]) (sc := [.br false, .res ([(.one (.pv (.ints .u8 (List.take (l).length l) false)))], [], [])]) (.k0 (an_ (rfl : false = false) (an_ (bytes_Clone_runs (l := (List.take (l).length l)) (t := false) h1) trivial)) (by kernel_rfl))
  exact e_.out ⟨.pv (.ints (by first | rfl | (simp only [List.take_length]; done) | (simp only [List.take_length, List.length_append, List.drop_zero, List.map_append, List.map_take, List.map_drop, List.map_replicate, List.map_cons, List.map_nil, List.append_nil, List.nil_append, E_deed_Gift.pv, E_deed_Gift.upd]; done) | (simp; done) | (simp only [List.length_map, List.take_length, List.length_append, List.drop_zero, List.map_append, List.map_take, List.map_drop, List.map_replicate, List.map_cons, List.map_nil, List.append_nil, List.nil_append, E_deed_Gift.pv, E_deed_Gift.upd]; done))), trivial⟩ ⟨⟨.pv (.ints (by first | rfl | (simp only [List.take_length]; done) | (simp only [List.take_length, List.length_append, List.drop_zero, List.map_append, List.map_take, List.map_drop, List.map_replicate, List.map_cons, List.map_nil, List.append_nil, List.nil_append, E_deed_Gift.pv, E_deed_Gift.upd]; done) | (simp; done) | (simp only [List.length_map, List.take_length, List.length_append, List.drop_zero, List.map_append, List.map_take, List.map_drop, List.map_replicate, List.map_cons, List.map_nil, List.append_nil, List.nil_append, E_deed_Gift.pv, E_deed_Gift.upd]; done))), .eq rfl, trivial⟩, trivial⟩ trivial rfl
/-! ### code_ID -/
noncomputable def code_ID (N : Nat) (i : Bool) (i2 : T_id_halves) : Option (List Int) :=
  (bits_NewWriter).bind fun _ =>
  (code_PutID N i i2 0).bind fun (n, l_) =>
  (bits_Writer_Bytes n l_).bind fun _ =>
  some l_
theorem code_ID_runs (N : Nat) (i : Bool) (i2 : T_id_halves) (r_ : List Int) (h : code_ID N i i2 = some r_) : Runs Try.prog 33 [(.agg [(.pv (.bool i)), (.pv (T_id_halves.pv i2))])] [] [] (code_ID_out i i2 r_) := by
  unfold code_ID at h
  obtain ⟨_, h1, h⟩ := bind_of h
  obtain ⟨⟨n, l_⟩, h2, h⟩ := bind_of h
  obtain ⟨_, h3, h⟩ := bind_of h
  have h := some_of h
  subst h
  exact runs_of (C := cfg) (objs := []) (sc := [.res (bits_NewWriter_out ()), .res (code_PutID_out i i2 0 (n, l_)), .res (bits_Writer_Bytes_out n l_ ())]) (.k0 (an_ (bits_NewWriter_runs _ h1) (an_ (code_PutID_runs N i i2 0 _ h2) (an_ (bits_Writer_Bytes_runs n l_ _ h3) trivial))) (by kernel_rfl))
/-! ### wire_Text_out -/
def wire_Text_out (p : List Int) (s : ByteArray) : List Int → Res
  | r1 => ([(.one (.own 0 0 (r1).length false))], [], [(.ints .u8 r1)])
/-! ### wire_Text -/
noncomputable def wire_Text (p : List Int) (s : ByteArray) : Option (List Int) :=
  (wire_Num p (IntKind.u64.wrap (s.size : Int))).bind fun l_ =>
  bif fits ((l_ ++ (bytesL s))).length then
  some (l_ ++ (bytesL s))
  else none
theorem wire_Text_runs (p : List Int) (s : ByteArray) (r_ : List Int) (h : wire_Text p s = some r_) : Runs Try.prog 32 [(.one (.pv (.ints .u8 p false))), (.one (.pv (.str s)))] [] [] (wire_Text_out p s r_) := by
  unfold wire_Text at h
  obtain ⟨l_, h1, h⟩ := bind_of h
  obtain ⟨h2, h⟩ := need_of h
  have h := some_of h
  subst h
  exact runs_of (C := cfg) (objs := []) (sc := [.res (wire_Num_out p (IntKind.u64.wrap (s.size : Int)) l_)]) (.k0 (an_ (wire_Num_runs p (IntKind.u64.wrap (s.size : Int)) _ h1) (an_ (show (Nat.beq (l_).length (l_).length) = true from Nat.beq_refl _) (an_ h2 trivial))) (by kernel_rfl))
/-! ### deed_PutGift -/
noncomputable def deed_PutGift (N : Nat) (p : List Int) (g : Int) (g2 : Int) (g3 : Int) (g4 : Bool) (g5 : T_id_halves) : Option (List Int) :=
  (wire_Num p g).bind fun l_ =>
  (wire_Num l_ (IntKind.u64.wrap g2)).bind fun l_2 =>
  (wire_Num l_2 (IntKind.u64.wrap g3)).bind fun l_3 =>
  (code_ID N g4 g5).bind fun l_4 =>
  (wire_Text l_3 (strOf l_4)).bind fun l_5 =>
  some l_5
theorem deed_PutGift_runs (N : Nat) (p : List Int) (g : Int) (g2 : Int) (g3 : Int) (g4 : Bool) (g5 : T_id_halves) (r_ : List Int) (h : deed_PutGift N p g g2 g3 g4 g5 = some r_) : Runs Try.prog 8 [(.one (.pv (.ints .u8 p false))), (.agg [(.pv (.int .u64 g)), (.pv (.int .i64 g2)), (.pv (.int .i64 g3)), (.pv (.bool g4)), (.pv (T_id_halves.pv g5))])] [] [] (deed_PutGift_out p g g2 g3 g4 g5 r_) := by
  unfold deed_PutGift at h
  obtain ⟨l_, h1, h⟩ := bind_of h
  obtain ⟨l_2, h2, h⟩ := bind_of h
  obtain ⟨l_3, h3, h⟩ := bind_of h
  obtain ⟨l_4, h4, h⟩ := bind_of h
  obtain ⟨l_5, h5, h⟩ := bind_of h
  have h := some_of h
  subst h
  exact runs_of (C := cfg) (objs := []) (sc := [.res (wire_Num_out p g l_), .res (wire_Num_out p g l_), .res (wire_Num_out p g l_), .res (wire_Num_out l_ (IntKind.u64.wrap g2) l_2), .res (wire_Num_out p g l_), .res (wire_Num_out l_ (IntKind.u64.wrap g2) l_2), .res (wire_Num_out l_2 (IntKind.u64.wrap g3) l_3), .res (code_ID_out g4 g5 l_4), .res (wire_Text_out l_3 (strOf l_4) l_5)]) (.k1 (an_ (wire_Num_runs p g _ h1) (an_ (wire_Num_runs p g _ h1) (an_ (wire_Num_runs p g _ h1) (an_ (Runs.coe (as' := [(.one (.pv (.ints .u8 (List.take (l_).length l_) false))), (.one (.pv (.int .u64 (IntKind.u64.wrap g2))))]) (objs' := []) (rows' := []) (wire_Num_runs l_ (IntKind.u64.wrap g2) _ h2) ⟨.pv (.ints (by first | rfl | (simp only [List.take_length]; done) | (simp only [List.take_length, List.length_append, List.drop_zero, List.map_append, List.map_take, List.map_drop, List.map_replicate, List.map_cons, List.map_nil, List.append_nil, List.nil_append, E_deed_Gift.pv, E_deed_Gift.upd]; done) | (simp; done) | (simp only [List.length_map, List.take_length, List.length_append, List.drop_zero, List.map_append, List.map_take, List.map_drop, List.map_replicate, List.map_cons, List.map_nil, List.append_nil, List.nil_append, E_deed_Gift.pv, E_deed_Gift.upd]; done))), .eq rfl, trivial⟩ trivial trivial) (an_ (wire_Num_runs p g _ h1) (an_ (Runs.coe (as' := [(.one (.pv (.ints .u8 (List.take (l_).length l_) false))), (.one (.pv (.int .u64 (IntKind.u64.wrap g2))))]) (objs' := []) (rows' := []) (wire_Num_runs l_ (IntKind.u64.wrap g2) _ h2) ⟨.pv (.ints (by first | rfl | (simp only [List.take_length]; done) | (simp only [List.take_length, List.length_append, List.drop_zero, List.map_append, List.map_take, List.map_drop, List.map_replicate, List.map_cons, List.map_nil, List.append_nil, List.nil_append, E_deed_Gift.pv, E_deed_Gift.upd]; done) | (simp; done) | (simp only [List.length_map, List.take_length, List.length_append, List.drop_zero, List.map_append, List.map_take, List.map_drop, List.map_replicate, List.map_cons, List.map_nil, List.append_nil, List.nil_append, E_deed_Gift.pv, E_deed_Gift.upd]; done))), .eq rfl, trivial⟩ trivial trivial) (an_ (Runs.coe (as' := [(.one (.pv (.ints .u8 (List.take (l_2).length l_2) false))), (.one (.pv (.int .u64 (IntKind.u64.wrap g3))))]) (objs' := []) (rows' := []) (wire_Num_runs l_2 (IntKind.u64.wrap g3) _ h3) ⟨.pv (.ints (by first | rfl | (simp only [List.take_length]; done) | (simp only [List.take_length, List.length_append, List.drop_zero, List.map_append, List.map_take, List.map_drop, List.map_replicate, List.map_cons, List.map_nil, List.append_nil, List.nil_append, E_deed_Gift.pv, E_deed_Gift.upd]; done) | (simp; done) | (simp only [List.length_map, List.take_length, List.length_append, List.drop_zero, List.map_append, List.map_take, List.map_drop, List.map_replicate, List.map_cons, List.map_nil, List.append_nil, List.nil_append, E_deed_Gift.pv, E_deed_Gift.upd]; done))), .eq rfl, trivial⟩ trivial trivial) (an_ (code_ID_runs N g4 g5 _ h4) (an_ (Runs.coe (as' := [(.one (.pv (.ints .u8 (List.take (l_3).length l_3) false))), (.one (.pv (.str (strOf l_4))))]) (objs' := []) (rows' := []) (wire_Text_runs l_3 (strOf l_4) _ h5) ⟨.pv (.ints (by first | rfl | (simp only [List.take_length]; done) | (simp only [List.take_length, List.length_append, List.drop_zero, List.map_append, List.map_take, List.map_drop, List.map_replicate, List.map_cons, List.map_nil, List.append_nil, List.nil_append, E_deed_Gift.pv, E_deed_Gift.upd]; done) | (simp; done) | (simp only [List.length_map, List.take_length, List.length_append, List.drop_zero, List.map_append, List.map_take, List.map_drop, List.map_replicate, List.map_cons, List.map_nil, List.append_nil, List.nil_append, E_deed_Gift.pv, E_deed_Gift.upd]; done))), .eq rfl, trivial⟩ trivial trivial) trivial))))))))) (by kernel_rfl) (by kernel_rfl))
/-! ### wire_Of_out -/
def wire_Of_out (p : List Int) : Unit → Res
  | _ => ([(.one (.ref 0 0))], [[(.pv (.ints .u8 p false)), (.pv (.int .i64 0))]], [])
/-! ### wire_Of -/
noncomputable def wire_Of (p : List Int) : Option (Unit) :=
  bif fits (p).length then
  some ()
  else none
theorem wire_Of_runs (p : List Int) (r_ : Unit) (h : wire_Of p = some r_) : Runs Try.prog 9 [(.one (.pv (.ints .u8 p false)))] [] [] (wire_Of_out p r_) := by
  unfold wire_Of at h
  obtain ⟨h1, h⟩ := need_of h
  have h := some_of h
  subst h
  exact runs_of (C := cfg) (objs := []) (sc := [.res ([(.one (.pv (.ints .u8 p false)))], [], [])]) (.k0 (an_ (bytes_Clone_runs (l := p) (t := false) h1) trivial) (by kernel_rfl))
/-! ### deed_GetGift_out -/
def deed_GetGift_out (l : List Int) (n : Int) : Int × Int × Int × Bool × T_id_halves × List Int × Int → Res
  | (r1, r2, r3, r4, r5, r6, r7) => ([(.agg [(.pv (.int .u64 r1)), (.pv (.int .i64 r2)), (.pv (.int .i64 r3)), (.pv (.bool r4)), (.pv (T_id_halves.pv r5))])], [[(.pv (.ints .u8 r6 false)), (.pv (.int .i64 r7))]], [])
/-! ### wire_In_Num_out -/
def wire_In_Num_out (l : List Int) (n : Int) : Int × List Int × Int → Res
  | (r1, r2, r3) => ([(.one (.pv (.int .u64 r1)))], [[(.pv (.ints .u8 r2 false)), (.pv (.int .i64 r3))]], [])
/-! ### wire_In_Err_out -/
def wire_In_Err_out (l : List Int) (n : Int) : Unit → Res
  | _ => ([(.one (.pv (.int .i64 n)))], [[(.pv (.ints .u8 l false)), (.pv (.int .i64 n))]], [])
/-! ### wire_In_Err -/
noncomputable def wire_In_Err (l : List Int) (n : Int) : Option (Unit) :=
  some ()
theorem wire_In_Err_runs (l : List Int) (n : Int) (r_ : Unit) (h : wire_In_Err l n = some r_) : Runs Try.prog 15 [(.one (.ref 0 0))] [[(.pv (.ints .u8 l false)), (.pv (.int .i64 n))]] [] (wire_In_Err_out l n r_) := by
  unfold wire_In_Err at h
  have h := some_of h
  subst h
  exact runs_of (C := cfg) (objs := [[(.pv (.ints .u8 l false)), (.pv (.int .i64 n))]]) (sc := [.br false]) (.k0 (an_ (rfl : false = false) trivial) (by kernel_rfl))
/-! ### wire_In_Num_L0 -/
def wire_In_Num_L0_st (l : List Int) (n : Int) (l2 : List Int) (n2 : Int) : Int × Int → St
  | (n3, n4) => ⟨[(0, (.av (.one (.ref 0 0)))), (3, (.av (.one (.pv (.int .u64 n3))))), (12, (.av (.one (.pv (.ints .u8 l false))))), (13, (.av (.one (.pv (.int .i64 n))))), (14, (.av (.one (.pv (.int .i64 n4)))))], [(0, [(.pv (.ints .u8 l2 false)), (.pv (.int .i64 n2))])], []⟩
def wire_In_Num_L0_ex (l : List Int) (n : Int) (l2 : List Int) (n2 : Int) : (Unit) ⊕ (Int × List Int) → Ex × St
  | .inl _ => ((.exit 0), ⟨[(0, (.av (.one (.ref 0 0))))], [(0, [(.pv (.ints .u8 l2 false)), (.pv (.int .i64 n2))])], []⟩)
  | .inr (r1, r2) => (.ret, ⟨[(2, (.av (.one (.pv (.int .u64 r1)))))], [(0, [(.pv (.ints .u8 r2 false)), (.pv (.int .i64 n2))])], []⟩)
noncomputable def wire_In_Num_L0_step (l : List Int) (n : Int) (l2 : List Int) (n2 : Int) : Int × Int → Option ((Int × Int) ⊕ ((Unit) ⊕ (Int × List Int)))
  | (n3, n4) =>
  bif (decide ((n4 : Int) < n)) then
    bif decide ((0 : Int) ≤ n4) && decide ((n4 : Int) < ((l).length : Int)) then
    bif (decide ((n4 : Int) = 9)) then
      bif (decide ((1 : Int) < (l.getD (n4).toNat 0))) then
        some (.inr (.inl ()))
      else
        bif (decide (((l.getD (n4).toNat 0) : Int) = 0)) then
          bif (decide ((0 : Int) < n4)) then
            some (.inr (.inl ()))
          else
            bif decide ((0 : Int) ≤ (imul .i64 7 n4)) then
            bif (decide (((l.getD (n4).toNat 0) : Int) < 128)) then
              bif decide ((0 : Int) ≤ (iadd .i64 n4 1)) && decide (((iadd .i64 n4 1) : Int) ≤ ((l2).length : Int)) && decide ((((l2).length : Int) : Int) ≤ ((l2).length : Int)) && decide ((((l2).length : Int) : Int) = ((l2).length : Int)) then
              some (.inr (.inr ((ior .u64 n3 (ishl .u64 (IntKind.u64.wrap (iandnot .u8 (l.getD (n4).toNat 0) 128)) (imul .i64 7 n4))), (List.take (((l2).length : Int) - (iadd .i64 n4 1)).toNat (List.drop ((iadd .i64 n4 1)).toNat l2)))))
              else none
            else
              some (.inl ((ior .u64 n3 (ishl .u64 (IntKind.u64.wrap (iandnot .u8 (l.getD (n4).toNat 0) 128)) (imul .i64 7 n4))), (iadd .i64 n4 1)))
            else none
        else
          bif decide ((0 : Int) ≤ (imul .i64 7 n4)) then
          bif (decide (((l.getD (n4).toNat 0) : Int) < 128)) then
            bif decide ((0 : Int) ≤ (iadd .i64 n4 1)) && decide (((iadd .i64 n4 1) : Int) ≤ ((l2).length : Int)) && decide ((((l2).length : Int) : Int) ≤ ((l2).length : Int)) && decide ((((l2).length : Int) : Int) = ((l2).length : Int)) then
            some (.inr (.inr ((ior .u64 n3 (ishl .u64 (IntKind.u64.wrap (iandnot .u8 (l.getD (n4).toNat 0) 128)) (imul .i64 7 n4))), (List.take (((l2).length : Int) - (iadd .i64 n4 1)).toNat (List.drop ((iadd .i64 n4 1)).toNat l2)))))
            else none
          else
            some (.inl ((ior .u64 n3 (ishl .u64 (IntKind.u64.wrap (iandnot .u8 (l.getD (n4).toNat 0) 128)) (imul .i64 7 n4))), (iadd .i64 n4 1)))
          else none
    else
      bif (decide (((l.getD (n4).toNat 0) : Int) = 0)) then
        bif (decide ((0 : Int) < n4)) then
          some (.inr (.inl ()))
        else
          bif decide ((0 : Int) ≤ (imul .i64 7 n4)) then
          bif (decide (((l.getD (n4).toNat 0) : Int) < 128)) then
            bif decide ((0 : Int) ≤ (iadd .i64 n4 1)) && decide (((iadd .i64 n4 1) : Int) ≤ ((l2).length : Int)) && decide ((((l2).length : Int) : Int) ≤ ((l2).length : Int)) && decide ((((l2).length : Int) : Int) = ((l2).length : Int)) then
            some (.inr (.inr ((ior .u64 n3 (ishl .u64 (IntKind.u64.wrap (iandnot .u8 (l.getD (n4).toNat 0) 128)) (imul .i64 7 n4))), (List.take (((l2).length : Int) - (iadd .i64 n4 1)).toNat (List.drop ((iadd .i64 n4 1)).toNat l2)))))
            else none
          else
            some (.inl ((ior .u64 n3 (ishl .u64 (IntKind.u64.wrap (iandnot .u8 (l.getD (n4).toNat 0) 128)) (imul .i64 7 n4))), (iadd .i64 n4 1)))
          else none
      else
        bif decide ((0 : Int) ≤ (imul .i64 7 n4)) then
        bif (decide (((l.getD (n4).toNat 0) : Int) < 128)) then
          bif decide ((0 : Int) ≤ (iadd .i64 n4 1)) && decide (((iadd .i64 n4 1) : Int) ≤ ((l2).length : Int)) && decide ((((l2).length : Int) : Int) ≤ ((l2).length : Int)) && decide ((((l2).length : Int) : Int) = ((l2).length : Int)) then
          some (.inr (.inr ((ior .u64 n3 (ishl .u64 (IntKind.u64.wrap (iandnot .u8 (l.getD (n4).toNat 0) 128)) (imul .i64 7 n4))), (List.take (((l2).length : Int) - (iadd .i64 n4 1)).toNat (List.drop ((iadd .i64 n4 1)).toNat l2)))))
          else none
        else
          some (.inl ((ior .u64 n3 (ishl .u64 (IntKind.u64.wrap (iandnot .u8 (l.getD (n4).toNat 0) 128)) (imul .i64 7 n4))), (iadd .i64 n4 1)))
        else none
    else none
  else
    some (.inr (.inl ()))
theorem wire_In_Num_L0_ok (l : List Int) (n : Int) (l2 : List Int) (n2 : Int) (s_ : Int × Int) (z_ : (Int × Int) ⊕ ((Unit) ⊕ (Int × List Int))) (h : wire_In_Num_L0_step l n l2 n2 s_ = some z_) : RoundOk Try.prog cfg 35 1 (loopAt Try.prog 35 0) (wire_In_Num_L0_st l n l2 n2) (wire_In_Num_L0_ex l n l2 n2) s_ z_ := by
  rcases s_ with ⟨n3, n4⟩
  rcases cond_of h with ⟨h1, h⟩ | ⟨h1, h⟩
  · obtain ⟨h2, h⟩ := need_of h
    rcases cond_of h with ⟨h3, h⟩ | ⟨h3, h⟩
    · rcases cond_of h with ⟨h4, h⟩ | ⟨h4, h⟩
      · have h := some_of h
        subst h
        exact ⟨[.br true, .br true, .br true, .br true], ⟨[(32, (.av (.one (.pv (.bool true))))), (0, (.av (.one (.ref 0 0)))), (3, (.av (.one (.pv (.int .u64 n3))))), (4, (.av (.one (.pv (.int .i64 n4))))), (5, (.av (.one (.pv (.int .u8 (l.getD (n4).toNat 0)))))), (12, (.av (.one (.pv (.ints .u8 l false))))), (13, (.av (.one (.pv (.int .i64 n))))), (14, (.av (.one (.pv (.int .i64 n4))))), (32, (.av (.one (.pv (.bool true)))))], [(0, [(.pv (.ints .u8 l2 false)), (.pv (.int .i64 n2))])], []⟩, .k0 (an_ h1 (an_ h2 (an_ h3 (an_ h4 (an_ (rfl : true = true) trivial))))) (by kernel_rfl), ⟨⟨⟨_, rfl, .eq rfl⟩, trivial⟩, ⟨⟨rfl, ⟨.eq rfl, .eq rfl, trivial⟩⟩, trivial⟩, trivial⟩⟩
      · rcases cond_of h with ⟨h5, h⟩ | ⟨h5, h⟩
        · rcases cond_of h with ⟨h6, h⟩ | ⟨h6, h⟩
          · have h := some_of h
            subst h
            exact ⟨[.br true, .br true, .br false, .br true, .br true], ⟨[(32, (.av (.one (.pv (.bool true))))), (0, (.av (.one (.ref 0 0)))), (3, (.av (.one (.pv (.int .u64 n3))))), (4, (.av (.one (.pv (.int .i64 n4))))), (5, (.av (.one (.pv (.int .u8 (l.getD (n4).toNat 0)))))), (12, (.av (.one (.pv (.ints .u8 l false))))), (13, (.av (.one (.pv (.int .i64 n))))), (14, (.av (.one (.pv (.int .i64 n4))))), (32, (.av (.one (.pv (.bool (decide ((0 : Int) < n4)))))))], [(0, [(.pv (.ints .u8 l2 false)), (.pv (.int .i64 n2))])], []⟩, .k0 (an_ h1 (an_ h2 (an_ h3 (an_ h4 (an_ h5 (an_ h6 trivial)))))) (by kernel_rfl), ⟨⟨⟨_, rfl, .eq rfl⟩, trivial⟩, ⟨⟨rfl, ⟨.eq rfl, .eq rfl, trivial⟩⟩, trivial⟩, trivial⟩⟩
          · obtain ⟨h7, h⟩ := need_of h
            rcases cond_of h with ⟨h8, h⟩ | ⟨h8, h⟩
            · obtain ⟨h9, h⟩ := need_of h
              have h := some_of h
              subst h
              exact ⟨[.br true, .br true, .br false, .br true, .br false, .br true], (wire_In_Num_L0_ex l n l2 n2 (.inr ((ior .u64 n3 (ishl .u64 (IntKind.u64.wrap (iandnot .u8 (l.getD (n4).toNat 0) 128)) (imul .i64 7 n4))), (List.take (((l2).length : Int) - (iadd .i64 n4 1)).toNat (List.drop ((iadd .i64 n4 1)).toNat l2))))).2, .k0 (an_ h1 (an_ h2 (an_ h3 (an_ h4 (an_ h5 (an_ h6 (an_ h7 (an_ h8 (an_ h9 trivial))))))))) (by kernel_rfl), .same (by kernel_rfl)⟩
            · have h := some_of h
              subst h
              exact ⟨[.br true, .br true, .br false, .br true, .br false, .br false], wire_In_Num_L0_st l n l2 n2 ((ior .u64 n3 (ishl .u64 (IntKind.u64.wrap (iandnot .u8 (l.getD (n4).toNat 0) 128)) (imul .i64 7 n4))), (iadd .i64 n4 1)), .k0 (an_ h1 (an_ h2 (an_ h3 (an_ h4 (an_ h5 (an_ h6 (an_ h7 (an_ h8 trivial)))))))) (by kernel_rfl), .same (by kernel_rfl)⟩
        · obtain ⟨h6, h⟩ := need_of h
          rcases cond_of h with ⟨h7, h⟩ | ⟨h7, h⟩
          · obtain ⟨h8, h⟩ := need_of h
            have h := some_of h
            subst h
            exact ⟨[.br true, .br true, .br false, .br false, .br false, .br true], (wire_In_Num_L0_ex l n l2 n2 (.inr ((ior .u64 n3 (ishl .u64 (IntKind.u64.wrap (iandnot .u8 (l.getD (n4).toNat 0) 128)) (imul .i64 7 n4))), (List.take (((l2).length : Int) - (iadd .i64 n4 1)).toNat (List.drop ((iadd .i64 n4 1)).toNat l2))))).2, .k0 (an_ h1 (an_ h2 (an_ h3 (an_ h4 (an_ h5 (an_ (rfl : false = false) (an_ h6 (an_ h7 (an_ h8 trivial))))))))) (by kernel_rfl), .same (by kernel_rfl)⟩
          · have h := some_of h
            subst h
            exact ⟨[.br true, .br true, .br false, .br false, .br false, .br false], wire_In_Num_L0_st l n l2 n2 ((ior .u64 n3 (ishl .u64 (IntKind.u64.wrap (iandnot .u8 (l.getD (n4).toNat 0) 128)) (imul .i64 7 n4))), (iadd .i64 n4 1)), .k0 (an_ h1 (an_ h2 (an_ h3 (an_ h4 (an_ h5 (an_ (rfl : false = false) (an_ h6 (an_ h7 trivial)))))))) (by kernel_rfl), .same (by kernel_rfl)⟩
    · rcases cond_of h with ⟨h4, h⟩ | ⟨h4, h⟩
      · rcases cond_of h with ⟨h5, h⟩ | ⟨h5, h⟩
        · have h := some_of h
          subst h
          exact ⟨[.br true, .br false, .br false, .br true, .br true], ⟨[(32, (.av (.one (.pv (.bool true))))), (0, (.av (.one (.ref 0 0)))), (3, (.av (.one (.pv (.int .u64 n3))))), (4, (.av (.one (.pv (.int .i64 n4))))), (5, (.av (.one (.pv (.int .u8 (l.getD (n4).toNat 0)))))), (12, (.av (.one (.pv (.ints .u8 l false))))), (13, (.av (.one (.pv (.int .i64 n))))), (14, (.av (.one (.pv (.int .i64 n4))))), (32, (.av (.one (.pv (.bool (decide ((0 : Int) < n4)))))))], [(0, [(.pv (.ints .u8 l2 false)), (.pv (.int .i64 n2))])], []⟩, .k0 (an_ h1 (an_ h2 (an_ h3 (an_ (rfl : false = false) (an_ h4 (an_ h5 trivial)))))) (by kernel_rfl), ⟨⟨⟨_, rfl, .eq rfl⟩, trivial⟩, ⟨⟨rfl, ⟨.eq rfl, .eq rfl, trivial⟩⟩, trivial⟩, trivial⟩⟩
        · obtain ⟨h6, h⟩ := need_of h
          rcases cond_of h with ⟨h7, h⟩ | ⟨h7, h⟩
          · obtain ⟨h8, h⟩ := need_of h
            have h := some_of h
            subst h
            exact ⟨[.br true, .br false, .br false, .br true, .br false, .br true], (wire_In_Num_L0_ex l n l2 n2 (.inr ((ior .u64 n3 (ishl .u64 (IntKind.u64.wrap (iandnot .u8 (l.getD (n4).toNat 0) 128)) (imul .i64 7 n4))), (List.take (((l2).length : Int) - (iadd .i64 n4 1)).toNat (List.drop ((iadd .i64 n4 1)).toNat l2))))).2, .k0 (an_ h1 (an_ h2 (an_ h3 (an_ (rfl : false = false) (an_ h4 (an_ h5 (an_ h6 (an_ h7 (an_ h8 trivial))))))))) (by kernel_rfl), .same (by kernel_rfl)⟩
          · have h := some_of h
            subst h
            exact ⟨[.br true, .br false, .br false, .br true, .br false, .br false], wire_In_Num_L0_st l n l2 n2 ((ior .u64 n3 (ishl .u64 (IntKind.u64.wrap (iandnot .u8 (l.getD (n4).toNat 0) 128)) (imul .i64 7 n4))), (iadd .i64 n4 1)), .k0 (an_ h1 (an_ h2 (an_ h3 (an_ (rfl : false = false) (an_ h4 (an_ h5 (an_ h6 (an_ h7 trivial)))))))) (by kernel_rfl), .same (by kernel_rfl)⟩
      · obtain ⟨h5, h⟩ := need_of h
        rcases cond_of h with ⟨h6, h⟩ | ⟨h6, h⟩
        · obtain ⟨h7, h⟩ := need_of h
          have h := some_of h
          subst h
          exact ⟨[.br true, .br false, .br false, .br false, .br false, .br true], (wire_In_Num_L0_ex l n l2 n2 (.inr ((ior .u64 n3 (ishl .u64 (IntKind.u64.wrap (iandnot .u8 (l.getD (n4).toNat 0) 128)) (imul .i64 7 n4))), (List.take (((l2).length : Int) - (iadd .i64 n4 1)).toNat (List.drop ((iadd .i64 n4 1)).toNat l2))))).2, .k0 (an_ h1 (an_ h2 (an_ h3 (an_ (rfl : false = false) (an_ h4 (an_ (rfl : false = false) (an_ h5 (an_ h6 (an_ h7 trivial))))))))) (by kernel_rfl), .same (by kernel_rfl)⟩
        · have h := some_of h
          subst h
          exact ⟨[.br true, .br false, .br false, .br false, .br false, .br false], wire_In_Num_L0_st l n l2 n2 ((ior .u64 n3 (ishl .u64 (IntKind.u64.wrap (iandnot .u8 (l.getD (n4).toNat 0) 128)) (imul .i64 7 n4))), (iadd .i64 n4 1)), .k0 (an_ h1 (an_ h2 (an_ h3 (an_ (rfl : false = false) (an_ h4 (an_ (rfl : false = false) (an_ h5 (an_ h6 trivial)))))))) (by kernel_rfl), .same (by kernel_rfl)⟩
  · have h := some_of h
    subst h
    exact ⟨[.br false], ⟨[(15, (.av (.one (.pv (.bool false))))), (0, (.av (.one (.ref 0 0)))), (3, (.av (.one (.pv (.int .u64 n3))))), (12, (.av (.one (.pv (.ints .u8 l false))))), (13, (.av (.one (.pv (.int .i64 n))))), (14, (.av (.one (.pv (.int .i64 n4))))), (15, (.av (.one (.pv (.bool (decide ((n4 : Int) < n)))))))], [(0, [(.pv (.ints .u8 l2 false)), (.pv (.int .i64 n2))])], []⟩, .k0 (an_ h1 trivial) (by kernel_rfl), ⟨⟨⟨_, rfl, .eq rfl⟩, trivial⟩, ⟨⟨rfl, ⟨.eq rfl, .eq rfl, trivial⟩⟩, trivial⟩, trivial⟩⟩
theorem wire_In_Num_L0_runs (l : List Int) (n : Int) (l2 : List Int) (n2 : Int) (s_ : Int × Int) (r_ : (Unit) ⊕ (Int × List Int)) (h : runL (wire_In_Num_L0_step l n l2 n2) s_ = some r_) : LRuns Try.prog (lEnv Try.prog cfg 35 1).nt 1 (.loop (loopAt Try.prog 35 0)) (wire_In_Num_L0_st l n l2 n2 s_) (wire_In_Num_L0_ex l n l2 n2 r_).1 (wire_In_Num_L0_ex l n l2 n2 r_).2 :=
  loop_run h (wire_In_Num_L0_ok l n l2 n2) (by intro r_; rcases r_ with _ | ⟨r1, r2⟩ <;> simp [wire_In_Num_L0_ex])
/-! ### wire_In_Fail_out -/
def wire_In_Fail_out (e : Int) (l : List Int) (n : Int) : Int → Res
  | r1 => ([], [[(.pv (.ints .u8 l false)), (.pv (.int .i64 r1))]], [])
/-! ### wire_In_Fail -/
noncomputable def wire_In_Fail (e : Int) (l : List Int) (n : Int) : Option (Int) :=
  bif (decide ((n : Int) = 0)) then
    some e
  else
    some n
theorem wire_In_Fail_runs (e : Int) (l : List Int) (n : Int) (r_ : Int) (h : wire_In_Fail e l n = some r_) : Runs Try.prog 39 [(.one (.ref 0 0)), (.one (.pv (.int .i64 e)))] [[(.pv (.ints .u8 l false)), (.pv (.int .i64 n))]] [] (wire_In_Fail_out e l n r_) := by
  unfold wire_In_Fail at h
  rcases cond_of h with ⟨h1, h⟩ | ⟨h1, h⟩
  · have h := some_of h
    subst h
    exact runs_of (C := cfg) (objs := [[(.pv (.ints .u8 l false)), (.pv (.int .i64 n))]]) (sc := [.br true, .br true]) (.k0 (an_ (rfl : true = true) (an_ h1 trivial)) (by kernel_rfl))
  · have h := some_of h
    subst h
    exact runs_of (C := cfg) (objs := [[(.pv (.ints .u8 l false)), (.pv (.int .i64 n))]]) (sc := [.br true, .br false]) (.k0 (an_ (rfl : true = true) (an_ h1 trivial)) (by kernel_rfl))
/-! ### wire_In_Num -/
noncomputable def wire_In_Num (l : List Int) (n : Int) : Option (Int × List Int × Int) :=
  (wire_In_Err l n).bind fun _ =>
  bif (decide ((n : Int) = 0)) then
    (runL (wire_In_Num_L0_step l ((l).length : Int) l n) (0, 0)).bind fun z_ => match z_ with
    | .inl _ =>
      (wire_In_Fail 6 l n).bind fun n2 =>
      some (0, l, n2)
    | .inr (n2, l_) =>
      some (n2, l_, n)
  else
    some (0, l, n)
theorem wire_In_Num_runs (l : List Int) (n : Int) (r_ : Int × List Int × Int) (h : wire_In_Num l n = some r_) : Runs Try.prog 35 [(.one (.ref 0 0))] [[(.pv (.ints .u8 l false)), (.pv (.int .i64 n))]] [] (wire_In_Num_out l n r_) := by
  unfold wire_In_Num at h
  obtain ⟨_, h1, h⟩ := bind_of h
  rcases cond_of h with ⟨h2, h⟩ | ⟨h2, h⟩
  · obtain ⟨z_, h3, h⟩ := bind_of h
    rcases z_ with _ | ⟨n2, l_⟩
    · obtain ⟨n2, h4, h⟩ := bind_of h
      have h := some_of h
      subst h
      exact runs_of (C := cfg) (objs := [[(.pv (.ints .u8 l false)), (.pv (.int .i64 n))]]) (sc := [.res (wire_In_Err_out l n ()), .br false, .lp (wire_In_Num_L0_ex l ((l).length : Int) l n (.inl ())).1 (wire_In_Num_L0_ex l ((l).length : Int) l n (.inl ())).2, .res (wire_In_Fail_out 6 l n n2)]) (.k0 (an_ (wire_In_Err_runs l n _ h1) (an_ (not_of2 h2) (an_ (wire_In_Num_L0_runs l ((l).length : Int) l n _ _ h3) (an_ (wire_In_Fail_runs 6 l n _ h4) trivial)))) (by kernel_rfl))
    · have h := some_of h
      subst h
      exact runs_of (C := cfg) (objs := [[(.pv (.ints .u8 l false)), (.pv (.int .i64 n))]]) (sc := [.res (wire_In_Err_out l n ()), .br false, .lp (wire_In_Num_L0_ex l ((l).length : Int) l n (.inr (n2, l_))).1 (wire_In_Num_L0_ex l ((l).length : Int) l n (.inr (n2, l_))).2]) (.k0 (an_ (wire_In_Err_runs l n _ h1) (an_ (not_of2 h2) (an_ (wire_In_Num_L0_runs l ((l).length : Int) l n _ _ h3) trivial))) (by kernel_rfl))
  · have h := some_of h
    subst h
    exact runs_of (C := cfg) (objs := [[(.pv (.ints .u8 l false)), (.pv (.int .i64 n))]]) (sc := [.res (wire_In_Err_out l n ()), .br true]) (.k0 (an_ (wire_In_Err_runs l n _ h1) (an_ (not_of h2) trivial)) (by kernel_rfl))
/-! ### deed_number_out -/
def deed_number_out (l : List Int) (n : Int) : Int × List Int × Int → Res
  | (r1, r2, r3) => ([(.one (.pv (.int .i64 r1)))], [[(.pv (.ints .u8 r2 false)), (.pv (.int .i64 r3))]], [])
/-! ### deed_number -/
noncomputable def deed_number (l : List Int) (n : Int) : Option (Int × List Int × Int) :=
  (wire_In_Num l n).bind fun (n2, l_, n3) =>
  bif (decide ((2147483648 : Int) ≤ n2)) then
    (wire_In_Fail 6 l_ n3).bind fun n4 =>
    some (0, l_, n4)
  else
    some ((IntKind.i64.wrap n2), l_, n3)
theorem deed_number_runs (l : List Int) (n : Int) (r_ : Int × List Int × Int) (h : deed_number l n = some r_) : Runs Try.prog 36 [(.one (.ref 0 0))] [[(.pv (.ints .u8 l false)), (.pv (.int .i64 n))]] [] (deed_number_out l n r_) := by
  unfold deed_number at h
  obtain ⟨⟨n2, l_, n3⟩, h1, h⟩ := bind_of h
  rcases cond_of h with ⟨h2, h⟩ | ⟨h2, h⟩
  · obtain ⟨n4, h3, h⟩ := bind_of h
    have h := some_of h
    subst h
    exact runs_of (C := cfg) (objs := [[(.pv (.ints .u8 l false)), (.pv (.int .i64 n))]]) (sc := [.res (wire_In_Num_out l n (n2, l_, n3)), .br true, .res (wire_In_Fail_out 6 l_ n3 n4)]) (.k0 (an_ (wire_In_Num_runs l n _ h1) (an_ h2 (an_ (wire_In_Fail_runs 6 l_ n3 _ h3) trivial))) (by kernel_rfl))
  · have h := some_of h
    subst h
    exact runs_of (C := cfg) (objs := [[(.pv (.ints .u8 l false)), (.pv (.int .i64 n))]]) (sc := [.res (wire_In_Num_out l n (n2, l_, n3)), .br false]) (.k0 (an_ (wire_In_Num_runs l n _ h1) (an_ h2 trivial)) (by kernel_rfl))
/-! ### wire_In_Text_out -/
def wire_In_Text_out (most : Int) (l : List Int) (n : Int) : ByteArray × List Int × Int → Res
  | (r1, r2, r3) => ([(.one (.pv (.str r1)))], [[(.pv (.ints .u8 r2 false)), (.pv (.int .i64 r3))]], [])
/-! ### wire_In_Text -/
noncomputable def wire_In_Text (most : Int) (l : List Int) (n : Int) : Option (ByteArray × List Int × Int) :=
  (wire_In_Err l n).bind fun _ =>
  bif (decide ((n : Int) = 0)) then
    (wire_In_Num l n).bind fun (n2, l_, n3) =>
    bif (decide ((n3 : Int) = 0)) then
      bif (decide ((most : Int) < 0)) then
        (wire_In_Fail 9 l_ n3).bind fun n4 =>
        bif (decide ((n4 : Int) = 0)) then
          bif decide ((0 : Int) ≤ 0) && decide ((0 : Int) ≤ n2) && decide ((n2 : Int) ≤ ((l_).length : Int)) && decide ((n2 : Int) = n2) then
          bif decide ((0 : Int) ≤ n2) && decide ((n2 : Int) ≤ ((l_).length : Int)) && decide ((((l_).length : Int) : Int) ≤ ((l_).length : Int)) && decide ((((l_).length : Int) : Int) = ((l_).length : Int)) then
          some ((strOf (List.take (n2 - 0).toNat l_)), (List.take (((l_).length : Int) - n2).toNat (List.drop (n2).toNat l_)), n4)
          else none
          else none
        else
          some ((⟨#[]⟩ : ByteArray), l, n4)
      else
        bif (decide (((IntKind.u64.wrap most) : Int) < n2)) then
          (wire_In_Fail 9 l_ n3).bind fun n4 =>
          bif (decide ((n4 : Int) = 0)) then
            bif decide ((0 : Int) ≤ 0) && decide ((0 : Int) ≤ n2) && decide ((n2 : Int) ≤ ((l_).length : Int)) && decide ((n2 : Int) = n2) then
            bif decide ((0 : Int) ≤ n2) && decide ((n2 : Int) ≤ ((l_).length : Int)) && decide ((((l_).length : Int) : Int) ≤ ((l_).length : Int)) && decide ((((l_).length : Int) : Int) = ((l_).length : Int)) then
            some ((strOf (List.take (n2 - 0).toNat l_)), (List.take (((l_).length : Int) - n2).toNat (List.drop (n2).toNat l_)), n4)
            else none
            else none
          else
            some ((⟨#[]⟩ : ByteArray), l, n4)
        else
          bif (decide (((IntKind.u64.wrap ((l_).length : Int)) : Int) < n2)) then
            (wire_In_Fail 6 l_ n3).bind fun n4 =>
            bif (decide ((n4 : Int) = 0)) then
              bif decide ((0 : Int) ≤ 0) && decide ((0 : Int) ≤ n2) && decide ((n2 : Int) ≤ ((l_).length : Int)) && decide ((n2 : Int) = n2) then
              bif decide ((0 : Int) ≤ n2) && decide ((n2 : Int) ≤ ((l_).length : Int)) && decide ((((l_).length : Int) : Int) ≤ ((l_).length : Int)) && decide ((((l_).length : Int) : Int) = ((l_).length : Int)) then
              some ((strOf (List.take (n2 - 0).toNat l_)), (List.take (((l_).length : Int) - n2).toNat (List.drop (n2).toNat l_)), n4)
              else none
              else none
            else
              some ((⟨#[]⟩ : ByteArray), l, n4)
          else
            bif decide ((0 : Int) ≤ 0) && decide ((0 : Int) ≤ n2) && decide ((n2 : Int) ≤ ((l_).length : Int)) && decide ((n2 : Int) = n2) then
            bif decide ((0 : Int) ≤ n2) && decide ((n2 : Int) ≤ ((l_).length : Int)) && decide ((((l_).length : Int) : Int) ≤ ((l_).length : Int)) && decide ((((l_).length : Int) : Int) = ((l_).length : Int)) then
            some ((strOf (List.take (n2 - 0).toNat l_)), (List.take (((l_).length : Int) - n2).toNat (List.drop (n2).toNat l_)), n3)
            else none
            else none
    else
      some ((⟨#[]⟩ : ByteArray), l, n3)
  else
    some ((⟨#[]⟩ : ByteArray), l, n)
theorem wire_In_Text_runs (most : Int) (l : List Int) (n : Int) (r_ : ByteArray × List Int × Int) (h : wire_In_Text most l n = some r_) : Runs Try.prog 37 [(.one (.ref 0 0)), (.one (.pv (.int .i64 most)))] [[(.pv (.ints .u8 l false)), (.pv (.int .i64 n))]] [] (wire_In_Text_out most l n r_) := by
  unfold wire_In_Text at h
  obtain ⟨_, h1, h⟩ := bind_of h
  rcases cond_of h with ⟨h2, h⟩ | ⟨h2, h⟩
  · obtain ⟨⟨n2, l_, n3⟩, h3, h⟩ := bind_of h
    rcases cond_of h with ⟨h4, h⟩ | ⟨h4, h⟩
    · rcases cond_of h with ⟨h5, h⟩ | ⟨h5, h⟩
      · obtain ⟨n4, h6, h⟩ := bind_of h
        rcases cond_of h with ⟨h7, h⟩ | ⟨h7, h⟩
        · obtain ⟨h8, h⟩ := need_of h
          obtain ⟨h9, h⟩ := need_of h
          have h := some_of h
          subst h
          exact runs_of (C := cfg) (objs := [[(.pv (.ints .u8 l false)), (.pv (.int .i64 n))]]) (sc := [.res (wire_In_Err_out l n ()), .br false, .res (wire_In_Num_out l n (n2, l_, n3)), .br false, .br true, .br true, .res (wire_In_Fail_out 9 l_ n3 n4), .br false]) (.k0 (an_ (wire_In_Err_runs l n _ h1) (an_ (not_of2 h2) (an_ (wire_In_Num_runs l n _ h3) (an_ (not_of2 h4) (an_ h5 (an_ (rfl : true = true) (an_ (wire_In_Fail_runs 9 l_ n3 _ h6) (an_ (not_of2 h7) (an_ h8 (an_ h9 trivial)))))))))) (by kernel_rfl))
        · have h := some_of h
          subst h
          exact runs_of (C := cfg) (objs := [[(.pv (.ints .u8 l false)), (.pv (.int .i64 n))]]) (sc := [.res (wire_In_Err_out l n ()), .br false, .res (wire_In_Num_out l n (n2, l_, n3)), .br false, .br true, .br true, .res (wire_In_Fail_out 9 l_ n3 n4), .br true]) (.k0 (an_ (wire_In_Err_runs l n _ h1) (an_ (not_of2 h2) (an_ (wire_In_Num_runs l n _ h3) (an_ (not_of2 h4) (an_ h5 (an_ (rfl : true = true) (an_ (wire_In_Fail_runs 9 l_ n3 _ h6) (an_ (not_of h7) trivial)))))))) (by kernel_rfl))
      · rcases cond_of h with ⟨h6, h⟩ | ⟨h6, h⟩
        · obtain ⟨n4, h7, h⟩ := bind_of h
          rcases cond_of h with ⟨h8, h⟩ | ⟨h8, h⟩
          · obtain ⟨h9, h⟩ := need_of h
            obtain ⟨h10, h⟩ := need_of h
            have h := some_of h
            subst h
            exact runs_of (C := cfg) (objs := [[(.pv (.ints .u8 l false)), (.pv (.int .i64 n))]]) (sc := [.res (wire_In_Err_out l n ()), .br false, .res (wire_In_Num_out l n (n2, l_, n3)), .br false, .br false, .br true, .res (wire_In_Fail_out 9 l_ n3 n4), .br false]) (.k0 (an_ (wire_In_Err_runs l n _ h1) (an_ (not_of2 h2) (an_ (wire_In_Num_runs l n _ h3) (an_ (not_of2 h4) (an_ h5 (an_ h6 (an_ (wire_In_Fail_runs 9 l_ n3 _ h7) (an_ (not_of2 h8) (an_ h9 (an_ h10 trivial)))))))))) (by kernel_rfl))
          · have h := some_of h
            subst h
            exact runs_of (C := cfg) (objs := [[(.pv (.ints .u8 l false)), (.pv (.int .i64 n))]]) (sc := [.res (wire_In_Err_out l n ()), .br false, .res (wire_In_Num_out l n (n2, l_, n3)), .br false, .br false, .br true, .res (wire_In_Fail_out 9 l_ n3 n4), .br true]) (.k0 (an_ (wire_In_Err_runs l n _ h1) (an_ (not_of2 h2) (an_ (wire_In_Num_runs l n _ h3) (an_ (not_of2 h4) (an_ h5 (an_ h6 (an_ (wire_In_Fail_runs 9 l_ n3 _ h7) (an_ (not_of h8) trivial)))))))) (by kernel_rfl))
        · rcases cond_of h with ⟨h7, h⟩ | ⟨h7, h⟩
          · obtain ⟨n4, h8, h⟩ := bind_of h
            rcases cond_of h with ⟨h9, h⟩ | ⟨h9, h⟩
            · obtain ⟨h10, h⟩ := need_of h
              obtain ⟨h11, h⟩ := need_of h
              have h := some_of h
              subst h
              exact runs_of (C := cfg) (objs := [[(.pv (.ints .u8 l false)), (.pv (.int .i64 n))]]) (sc := [.res (wire_In_Err_out l n ()), .br false, .res (wire_In_Num_out l n (n2, l_, n3)), .br false, .br false, .br false, .br true, .res (wire_In_Fail_out 6 l_ n3 n4), .br false]) (.k0 (an_ (wire_In_Err_runs l n _ h1) (an_ (not_of2 h2) (an_ (wire_In_Num_runs l n _ h3) (an_ (not_of2 h4) (an_ h5 (an_ h6 (an_ h7 (an_ (wire_In_Fail_runs 6 l_ n3 _ h8) (an_ (not_of2 h9) (an_ h10 (an_ h11 trivial))))))))))) (by kernel_rfl))
            · have h := some_of h
              subst h
              exact runs_of (C := cfg) (objs := [[(.pv (.ints .u8 l false)), (.pv (.int .i64 n))]]) (sc := [.res (wire_In_Err_out l n ()), .br false, .res (wire_In_Num_out l n (n2, l_, n3)), .br false, .br false, .br false, .br true, .res (wire_In_Fail_out 6 l_ n3 n4), .br true]) (.k0 (an_ (wire_In_Err_runs l n _ h1) (an_ (not_of2 h2) (an_ (wire_In_Num_runs l n _ h3) (an_ (not_of2 h4) (an_ h5 (an_ h6 (an_ h7 (an_ (wire_In_Fail_runs 6 l_ n3 _ h8) (an_ (not_of h9) trivial))))))))) (by kernel_rfl))
          · obtain ⟨h8, h⟩ := need_of h
            obtain ⟨h9, h⟩ := need_of h
            have h := some_of h
            subst h
            exact runs_of (C := cfg) (objs := [[(.pv (.ints .u8 l false)), (.pv (.int .i64 n))]]) (sc := [.res (wire_In_Err_out l n ()), .br false, .res (wire_In_Num_out l n (n2, l_, n3)), .br false, .br false, .br false, .br false, .br false]) (.k0 (an_ (wire_In_Err_runs l n _ h1) (an_ (not_of2 h2) (an_ (wire_In_Num_runs l n _ h3) (an_ (not_of2 h4) (an_ h5 (an_ h6 (an_ h7 (an_ (not_of2 h4) (an_ h8 (an_ h9 trivial)))))))))) (by kernel_rfl))
    · have h := some_of h
      subst h
      exact runs_of (C := cfg) (objs := [[(.pv (.ints .u8 l false)), (.pv (.int .i64 n))]]) (sc := [.res (wire_In_Err_out l n ()), .br false, .res (wire_In_Num_out l n (n2, l_, n3)), .br true, .br true]) (.k0 (an_ (wire_In_Err_runs l n _ h1) (an_ (not_of2 h2) (an_ (wire_In_Num_runs l n _ h3) (an_ (not_of h4) (an_ (not_of h4) trivial))))) (by kernel_rfl))
  · have h := some_of h
    subst h
    exact runs_of (C := cfg) (objs := [[(.pv (.ints .u8 l false)), (.pv (.int .i64 n))]]) (sc := [.res (wire_In_Err_out l n ()), .br true]) (.k0 (an_ (wire_In_Err_runs l n _ h1) (an_ (not_of h2) trivial)) (by kernel_rfl))
/-! ### code_ReadID_out -/
def code_ReadID_out (p : List Int) : Bool × T_id_halves × Int → Res
  | (r1, r2, r3) => ([(.agg [(.pv (.bool r1)), (.pv (T_id_halves.pv r2))]), (.one (.pv (.int .i64 r3)))], [], [])
/-! ### bits_NewReader_out -/
def bits_NewReader_out (p : List Int) : Unit → Res
  | _ => ([(.one (.ref 0 0))], [[(.pv (.ints .u8 p false)), (.pv (.int .i64 0)), (.pv (.int .i64 0))]], [])
/-! ### bits_NewReader -/
noncomputable def bits_NewReader (p : List Int) : Option (Unit) :=
  bif fits (p).length then
  some ()
  else none
theorem bits_NewReader_runs (p : List Int) (r_ : Unit) (h : bits_NewReader p = some r_) : Runs Try.prog 68 [(.one (.pv (.ints .u8 p false)))] [] [] (bits_NewReader_out p r_) := by
  unfold bits_NewReader at h
  obtain ⟨h1, h⟩ := need_of h
  have h := some_of h
  subst h
  exact runs_of (C := cfg) (objs := []) (sc := [.res ([(.one (.pv (.ints .u8 p false)))], [], [])]) (.k0 (an_ (bytes_Clone_runs (l := p) (t := false) h1) trivial) (by kernel_rfl))
/-! ### code_GetID_out -/
def code_GetID_out (l : List Int) (n : Int) (n2 : Int) : Bool × T_id_halves × Int × Int × Int → Res
  | (r1, r2, r3, r4, r5) => ([(.agg [(.pv (.bool r1)), (.pv (T_id_halves.pv r2))]), (.one (.pv (.int .i64 r3)))], [[(.pv (.ints .u8 l false)), (.pv (.int .i64 r4)), (.pv (.int .i64 r5))]], [])
/-! ### code_source_id_2_out -/
def code_source_id_2_out (depth : Int) (n : Int) (l : List Int) (n2 : Int) (n3 : Int) : Bool × T_id_halves × Int × Int × Int → Res
  | (r1, r2, r3, r4, r5) => ([(.agg [(.pv (.bool r1)), (.pv (T_id_halves.pv r2))])], [[(.ref 1 0), (.pv (.int .i64 r3))], [(.pv (.ints .u8 l false)), (.pv (.int .i64 r4)), (.pv (.int .i64 r5))]], [])
/-! ### code_source_bit_out -/
def code_source_bit_out (k : Int) (n : Int) (l : List Int) (n2 : Int) (n3 : Int) : Int × Int × Int × Int → Res
  | (r1, r2, r3, r4) => ([(.one (.pv (.int .u64 r1)))], [[(.ref 1 0), (.pv (.int .i64 r2))], [(.pv (.ints .u8 l false)), (.pv (.int .i64 r3)), (.pv (.int .i64 r4))]], [])
/-! ### code_source_ok_out -/
def code_source_ok_out (n : Int) (l : List Int) (n2 : Int) (n3 : Int) : Bool × Int → Res
  | (r1, r2) => ([(.one (.pv (.bool r1)))], [[(.ref 1 0), (.pv (.int .i64 r2))], [(.pv (.ints .u8 l false)), (.pv (.int .i64 n2)), (.pv (.int .i64 n3))]], [])
/-! ### bits_Reader_Err_out -/
def bits_Reader_Err_out (l : List Int) (n : Int) (n2 : Int) : Unit → Res
  | _ => ([(.one (.pv (.int .i64 n2)))], [[(.pv (.ints .u8 l false)), (.pv (.int .i64 n)), (.pv (.int .i64 n2))]], [])
/-! ### bits_Reader_Err -/
noncomputable def bits_Reader_Err (l : List Int) (n : Int) (n2 : Int) : Option (Unit) :=
  some ()
theorem bits_Reader_Err_runs (l : List Int) (n : Int) (n2 : Int) (r_ : Unit) (h : bits_Reader_Err l n n2 = some r_) : Runs Try.prog 103 [(.one (.ref 0 0))] [[(.pv (.ints .u8 l false)), (.pv (.int .i64 n)), (.pv (.int .i64 n2))]] [] (bits_Reader_Err_out l n n2 r_) := by
  unfold bits_Reader_Err at h
  have h := some_of h
  subst h
  exact runs_of (C := cfg) (objs := [[(.pv (.ints .u8 l false)), (.pv (.int .i64 n)), (.pv (.int .i64 n2))]]) (sc := [.br false]) (.k0 (an_ (rfl : false = false) trivial) (by kernel_rfl))
/-! ### code_source_fail_out -/
def code_source_fail_out (e : Int) (n : Int) (l : List Int) (n2 : Int) (n3 : Int) : Int → Res
  | r1 => ([], [[(.ref 1 0), (.pv (.int .i64 r1))], [(.pv (.ints .u8 l false)), (.pv (.int .i64 n2)), (.pv (.int .i64 n3))]], [])
/-! ### code_source_fail -/
noncomputable def code_source_fail (e : Int) (n : Int) (l : List Int) (n2 : Int) (n3 : Int) : Option (Int) :=
  bif (decide ((n : Int) = 0)) then
    some e
  else
    some n
theorem code_source_fail_runs (e : Int) (n : Int) (l : List Int) (n2 : Int) (n3 : Int) (r_ : Int) (h : code_source_fail e n l n2 n3 = some r_) : Runs Try.prog 100 [(.one (.ref 0 0)), (.one (.pv (.int .i64 e)))] [[(.ref 1 0), (.pv (.int .i64 n))], [(.pv (.ints .u8 l false)), (.pv (.int .i64 n2)), (.pv (.int .i64 n3))]] [] (code_source_fail_out e n l n2 n3 r_) := by
  unfold code_source_fail at h
  rcases cond_of h with ⟨h1, h⟩ | ⟨h1, h⟩
  · have h := some_of h
    subst h
    exact runs_of (C := cfg) (objs := [[(.ref 1 0), (.pv (.int .i64 n))], [(.pv (.ints .u8 l false)), (.pv (.int .i64 n2)), (.pv (.int .i64 n3))]]) (sc := [.br true]) (.k0 (an_ h1 trivial) (by kernel_rfl))
  · have h := some_of h
    subst h
    exact runs_of (C := cfg) (objs := [[(.ref 1 0), (.pv (.int .i64 n))], [(.pv (.ints .u8 l false)), (.pv (.int .i64 n2)), (.pv (.int .i64 n3))]]) (sc := [.br false]) (.k0 (an_ h1 trivial) (by kernel_rfl))
/-! ### code_source_ok -/
noncomputable def code_source_ok (n : Int) (l : List Int) (n2 : Int) (n3 : Int) : Option (Bool × Int) :=
  (bits_Reader_Err l n2 n3).bind fun _ =>
  bif (decide ((n3 : Int) = 0)) then
    some ((decide ((n : Int) = 0)), n)
  else
    (code_source_fail 6 n l n2 n3).bind fun n4 =>
    some ((decide ((n4 : Int) = 0)), n4)
theorem code_source_ok_runs (n : Int) (l : List Int) (n2 : Int) (n3 : Int) (r_ : Bool × Int) (h : code_source_ok n l n2 n3 = some r_) : Runs Try.prog 101 [(.one (.ref 0 0))] [[(.ref 1 0), (.pv (.int .i64 n))], [(.pv (.ints .u8 l false)), (.pv (.int .i64 n2)), (.pv (.int .i64 n3))]] [] (code_source_ok_out n l n2 n3 r_) := by
  unfold code_source_ok at h
  obtain ⟨_, h1, h⟩ := bind_of h
  rcases cond_of h with ⟨h2, h⟩ | ⟨h2, h⟩
  · have h := some_of h
    subst h
    exact runs_of (C := cfg) (objs := [[(.ref 1 0), (.pv (.int .i64 n))], [(.pv (.ints .u8 l false)), (.pv (.int .i64 n2)), (.pv (.int .i64 n3))]]) (sc := [.res (bits_Reader_Err_out l n2 n3 ()), .br false]) (.k0 (an_ (bits_Reader_Err_runs l n2 n3 _ h1) (an_ (not_of2 h2) trivial)) (by kernel_rfl))
  · obtain ⟨n4, h3, h⟩ := bind_of h
    have h := some_of h
    subst h
    exact runs_of (C := cfg) (objs := [[(.ref 1 0), (.pv (.int .i64 n))], [(.pv (.ints .u8 l false)), (.pv (.int .i64 n2)), (.pv (.int .i64 n3))]]) (sc := [.res (bits_Reader_Err_out l n2 n3 ()), .br true, .res (code_source_fail_out 6 n l n2 n3 n4)]) (.k0 (an_ (bits_Reader_Err_runs l n2 n3 _ h1) (an_ (not_of h2) (an_ (code_source_fail_runs 6 n l n2 n3 _ h3) trivial))) (by kernel_rfl))
/-! ### bits_Reader_Get_out -/
def bits_Reader_Get_out (k : Int) (l : List Int) (n : Int) (n2 : Int) : Int × Int × Int → Res
  | (r1, r2, r3) => ([(.one (.pv (.int .u64 r1)))], [[(.pv (.ints .u8 l false)), (.pv (.int .i64 r2)), (.pv (.int .i64 r3))]], [])
/-! ### bits_Reader_Left_out -/
def bits_Reader_Left_out (l : List Int) (n : Int) (n2 : Int) : Int → Res
  | r1 => ([(.one (.pv (.int .i64 r1)))], [[(.pv (.ints .u8 l false)), (.pv (.int .i64 n)), (.pv (.int .i64 n2))]], [])
/-! ### bits_Reader_Left -/
noncomputable def bits_Reader_Left (l : List Int) (n : Int) (n2 : Int) : Option (Int) :=
  some (isub .i64 (imul .i64 8 ((l).length : Int)) n)
theorem bits_Reader_Left_runs (l : List Int) (n : Int) (n2 : Int) (r_ : Int) (h : bits_Reader_Left l n n2 = some r_) : Runs Try.prog 104 [(.one (.ref 0 0))] [[(.pv (.ints .u8 l false)), (.pv (.int .i64 n)), (.pv (.int .i64 n2))]] [] (bits_Reader_Left_out l n n2 r_) := by
  unfold bits_Reader_Left at h
  have h := some_of h
  subst h
  exact runs_of (C := cfg) (objs := [[(.pv (.ints .u8 l false)), (.pv (.int .i64 n)), (.pv (.int .i64 n2))]]) (sc := [.br false]) (.k1 (an_ (rfl : false = false) trivial) (by kernel_rfl) (by kernel_rfl))
/-! ### bits_Reader_fail_out -/
def bits_Reader_fail_out (l : List Int) (n : Int) (n2 : Int) : Int → Res
  | r1 => ([(.one (.pv (.int .u64 0)))], [[(.pv (.ints .u8 l false)), (.pv (.int .i64 n)), (.pv (.int .i64 r1))]], [])
/-! ### bits_Reader_fail -/
noncomputable def bits_Reader_fail (l : List Int) (n : Int) (n2 : Int) : Option (Int) :=
  bif (decide ((n2 : Int) = 0)) then
    some 6
  else
    some n2
theorem bits_Reader_fail_runs (l : List Int) (n : Int) (n2 : Int) (r_ : Int) (h : bits_Reader_fail l n n2 = some r_) : Runs Try.prog 106 [(.one (.ref 0 0))] [[(.pv (.ints .u8 l false)), (.pv (.int .i64 n)), (.pv (.int .i64 n2))]] [] (bits_Reader_fail_out l n n2 r_) := by
  unfold bits_Reader_fail at h
  rcases cond_of h with ⟨h1, h⟩ | ⟨h1, h⟩
  · have h := some_of h
    subst h
    exact runs_of (C := cfg) (objs := [[(.pv (.ints .u8 l false)), (.pv (.int .i64 n)), (.pv (.int .i64 n2))]]) (sc := [.br true, .br true]) (.k0 (an_ (rfl : true = true) (an_ h1 trivial)) (by kernel_rfl))
  · have h := some_of h
    subst h
    exact runs_of (C := cfg) (objs := [[(.pv (.ints .u8 l false)), (.pv (.int .i64 n)), (.pv (.int .i64 n2))]]) (sc := [.br true, .br false]) (.k0 (an_ (rfl : true = true) (an_ h1 trivial)) (by kernel_rfl))
/-! ### bits_Reader_Get_L0 -/
def bits_Reader_Get_L0_st (n : Int) (l : List Int) (n3 : Int) : Int × Int × Int → St
  | (n4, n5, n2) => ⟨[(0, (.av (.one (.ref 0 0)))), (5, (.av (.one (.pv (.int .u64 n4))))), (20, (.av (.one (.pv (.int .i64 n))))), (21, (.av (.one (.pv (.int .i64 n5)))))], [(0, [(.pv (.ints .u8 l false)), (.pv (.int .i64 n2)), (.pv (.int .i64 n3))])], []⟩
def bits_Reader_Get_L0_ex (n : Int) (l : List Int) (n3 : Int) : Int × Int → Ex × St
  | (r1, r2) => ((.exit 0), ⟨[(5, (.av (.one (.pv (.int .u64 r1)))))], [(0, [(.pv (.ints .u8 l false)), (.pv (.int .i64 r2)), (.pv (.int .i64 n3))])], []⟩)
noncomputable def bits_Reader_Get_L0_step (n : Int) (l : List Int) (n3 : Int) : Int × Int × Int → Option ((Int × Int × Int) ⊕ (Int × Int))
  | (n4, n5, n2) =>
  bif (decide ((n5 : Int) < n)) then
    bif decide ((0 : Int) ≤ (iquo .i64 n2 8)) && decide (((iquo .i64 n2 8) : Int) < ((l).length : Int)) then
    bif decide ((0 : Int) ≤ (isub .i64 7 (irem .i64 n2 8))) then
    some (.inl ((ior .u64 (ishl .u64 n4 1) (IntKind.u64.wrap (iand .u8 (ishr .u8 (l.getD ((iquo .i64 n2 8)).toNat 0) (isub .i64 7 (irem .i64 n2 8))) 1))), (iadd .i64 n5 1), (iadd .i64 n2 1)))
    else none
    else none
  else
    some (.inr (n4, n2))
theorem bits_Reader_Get_L0_ok (n : Int) (l : List Int) (n3 : Int) (s_ : Int × Int × Int) (z_ : (Int × Int × Int) ⊕ (Int × Int)) (h : bits_Reader_Get_L0_step n l n3 s_ = some z_) : RoundOk Try.prog cfg 105 1 (loopAt Try.prog 105 0) (bits_Reader_Get_L0_st n l n3) (bits_Reader_Get_L0_ex n l n3) s_ z_ := by
  rcases s_ with ⟨n4, n5, n2⟩
  rcases cond_of h with ⟨h1, h⟩ | ⟨h1, h⟩
  · obtain ⟨h2, h⟩ := need_of h
    obtain ⟨h3, h⟩ := need_of h
    have h := some_of h
    subst h
    exact ⟨[.br true], bits_Reader_Get_L0_st n l n3 ((ior .u64 (ishl .u64 n4 1) (IntKind.u64.wrap (iand .u8 (ishr .u8 (l.getD ((iquo .i64 n2 8)).toNat 0) (isub .i64 7 (irem .i64 n2 8))) 1))), (iadd .i64 n5 1), (iadd .i64 n2 1)), .k1 (an_ h1 (an_ (rfl : true = true) (an_ (rfl : true = true) (an_ (rfl : true = true) (an_ (rfl : true = true) (an_ (rfl : true = true) (an_ h2 (an_ (rfl : true = true) (an_ (rfl : true = true) (an_ (rfl : true = true) (an_ h2 (an_ h3 (an_ (rfl : true = true) trivial))))))))))))) (by kernel_rfl) (by kernel_rfl), .same (by kernel_rfl)⟩
  · have h := some_of h
    subst h
    exact ⟨[.br false], ⟨[(22, (.av (.one (.pv (.bool false))))), (0, (.av (.one (.ref 0 0)))), (5, (.av (.one (.pv (.int .u64 n4))))), (20, (.av (.one (.pv (.int .i64 n))))), (21, (.av (.one (.pv (.int .i64 n5))))), (22, (.av (.one (.pv (.bool (decide ((n5 : Int) < n)))))))], [(0, [(.pv (.ints .u8 l false)), (.pv (.int .i64 n2)), (.pv (.int .i64 n3))])], []⟩, .k0 (an_ h1 trivial) (by kernel_rfl), ⟨⟨⟨_, rfl, .eq rfl⟩, trivial⟩, ⟨⟨rfl, ⟨.eq rfl, .eq rfl, .eq rfl, trivial⟩⟩, trivial⟩, trivial⟩⟩
theorem bits_Reader_Get_L0_runs (n : Int) (l : List Int) (n3 : Int) (s_ : Int × Int × Int) (r_ : Int × Int) (h : runL (bits_Reader_Get_L0_step n l n3) s_ = some r_) : LRuns Try.prog (lEnv Try.prog cfg 105 1).nt 1 (.loop (loopAt Try.prog 105 0)) (bits_Reader_Get_L0_st n l n3 s_) (bits_Reader_Get_L0_ex n l n3 r_).1 (bits_Reader_Get_L0_ex n l n3 r_).2 :=
  loop_run h (bits_Reader_Get_L0_ok n l n3) (by intro r_; rcases r_ with ⟨r1, r2⟩ <;> simp [bits_Reader_Get_L0_ex])
/-! ### bits_Reader_Get -/
noncomputable def bits_Reader_Get (k : Int) (l : List Int) (n : Int) (n2 : Int) : Option (Int × Int × Int) :=
  (bits_within k).bind fun n3 =>
  (bits_Reader_Err l n n2).bind fun _ =>
  bif (decide ((n2 : Int) = 0)) then
    (bits_Reader_Left l n n2).bind fun n4 =>
    bif (decide ((n4 : Int) < n3)) then
      (bits_Reader_fail l n n2).bind fun n5 =>
      some (0, n, n5)
    else
      (runL (bits_Reader_Get_L0_step n3 l n2) (0, 0, n)).bind fun (n5, n6) =>
      some (n5, n6, n2)
  else
    (bits_Reader_fail l n n2).bind fun n4 =>
    some (0, n, n4)
theorem bits_Reader_Get_runs (k : Int) (l : List Int) (n : Int) (n2 : Int) (r_ : Int × Int × Int) (h : bits_Reader_Get k l n n2 = some r_) : Runs Try.prog 105 [(.one (.ref 0 0)), (.one (.pv (.int .i64 k)))] [[(.pv (.ints .u8 l false)), (.pv (.int .i64 n)), (.pv (.int .i64 n2))]] [] (bits_Reader_Get_out k l n n2 r_) := by
  unfold bits_Reader_Get at h
  obtain ⟨n3, h1, h⟩ := bind_of h
  obtain ⟨_, h2, h⟩ := bind_of h
  rcases cond_of h with ⟨h3, h⟩ | ⟨h3, h⟩
  · obtain ⟨n4, h4, h⟩ := bind_of h
    rcases cond_of h with ⟨h5, h⟩ | ⟨h5, h⟩
    · obtain ⟨n5, h6, h⟩ := bind_of h
      have h := some_of h
      subst h
      exact runs_of (C := cfg) (objs := [[(.pv (.ints .u8 l false)), (.pv (.int .i64 n)), (.pv (.int .i64 n2))]]) (sc := [.res (bits_within_out k n3), .res (bits_Reader_Err_out l n n2 ()), .br false, .res (bits_Reader_Left_out l n n2 n4), .br true, .res (bits_Reader_fail_out l n n2 n5)]) (.k0 (an_ (bits_within_runs k _ h1) (an_ (bits_Reader_Err_runs l n n2 _ h2) (an_ (not_of2 h3) (an_ (bits_Reader_Left_runs l n n2 _ h4) (an_ h5 (an_ (bits_Reader_fail_runs l n n2 _ h6) trivial)))))) (by kernel_rfl))
    · obtain ⟨⟨n5, n6⟩, h6, h⟩ := bind_of h
      have h := some_of h
      subst h
      exact runs_of (C := cfg) (objs := [[(.pv (.ints .u8 l false)), (.pv (.int .i64 n)), (.pv (.int .i64 n2))]]) (sc := [.res (bits_within_out k n3), .res (bits_Reader_Err_out l n n2 ()), .br false, .res (bits_Reader_Left_out l n n2 n4), .br false, .lp (bits_Reader_Get_L0_ex n3 l n2 (n5, n6)).1 (bits_Reader_Get_L0_ex n3 l n2 (n5, n6)).2]) (.k0 (an_ (bits_within_runs k _ h1) (an_ (bits_Reader_Err_runs l n n2 _ h2) (an_ (not_of2 h3) (an_ (bits_Reader_Left_runs l n n2 _ h4) (an_ h5 (an_ (bits_Reader_Get_L0_runs n3 l n2 _ _ h6) trivial)))))) (by kernel_rfl))
  · obtain ⟨n4, h4, h⟩ := bind_of h
    have h := some_of h
    subst h
    exact runs_of (C := cfg) (objs := [[(.pv (.ints .u8 l false)), (.pv (.int .i64 n)), (.pv (.int .i64 n2))]]) (sc := [.res (bits_within_out k n3), .res (bits_Reader_Err_out l n n2 ()), .br true, .br true, .res (bits_Reader_fail_out l n n2 n4)]) (.k0 (an_ (bits_within_runs k _ h1) (an_ (bits_Reader_Err_runs l n n2 _ h2) (an_ (not_of h3) (an_ (rfl : true = true) (an_ (bits_Reader_fail_runs l n n2 _ h4) trivial))))) (by kernel_rfl))
/-! ### code_source_bit -/
noncomputable def code_source_bit (k : Int) (n : Int) (l : List Int) (n2 : Int) (n3 : Int) : Option (Int × Int × Int × Int) :=
  (code_source_ok n l n2 n3).bind fun (b, n4) =>
  bif b then
    (bits_Reader_Get k l n2 n3).bind fun (n5, n6, n7) =>
    (code_source_ok n4 l n6 n7).bind fun (b2, n8) =>
    some (n5, n8, n6, n7)
  else
    some (0, n4, n2, n3)
theorem code_source_bit_runs (k : Int) (n : Int) (l : List Int) (n2 : Int) (n3 : Int) (r_ : Int × Int × Int × Int) (h : code_source_bit k n l n2 n3 = some r_) : Runs Try.prog 99 [(.one (.ref 0 0)), (.one (.pv (.int .i64 k)))] [[(.ref 1 0), (.pv (.int .i64 n))], [(.pv (.ints .u8 l false)), (.pv (.int .i64 n2)), (.pv (.int .i64 n3))]] [] (code_source_bit_out k n l n2 n3 r_) := by
  unfold code_source_bit at h
  obtain ⟨⟨b, n4⟩, h1, h⟩ := bind_of h
  rcases cond_of h with ⟨h2, h⟩ | ⟨h2, h⟩
  · obtain ⟨⟨n5, n6, n7⟩, h3, h⟩ := bind_of h
    obtain ⟨⟨b2, n8⟩, h4, h⟩ := bind_of h
    have h := some_of h
    subst h
    exact runs_of (C := cfg) (objs := [[(.ref 1 0), (.pv (.int .i64 n))], [(.pv (.ints .u8 l false)), (.pv (.int .i64 n2)), (.pv (.int .i64 n3))]]) (sc := [.res (code_source_ok_out n l n2 n3 (b, n4)), .br false, .res (bits_Reader_Get_out k l n2 n3 (n5, n6, n7)), .res (code_source_ok_out n4 l n6 n7 (b2, n8))]) (.k0 (an_ (code_source_ok_runs n l n2 n3 _ h1) (an_ (not_of2 h2) (an_ (bits_Reader_Get_runs k l n2 n3 _ h3) (an_ (code_source_ok_runs n4 l n6 n7 _ h4) trivial)))) (by kernel_rfl))
  · have h := some_of h
    subst h
    exact runs_of (C := cfg) (objs := [[(.ref 1 0), (.pv (.int .i64 n))], [(.pv (.ints .u8 l false)), (.pv (.int .i64 n2)), (.pv (.int .i64 n3))]]) (sc := [.res (code_source_ok_out n l n2 n3 (b, n4)), .br true]) (.k0 (an_ (code_source_ok_runs n l n2 n3 _ h1) (an_ (not_of h2) trivial)) (by kernel_rfl))
/-! ### code_source_id_C22 -/
def code_source_id_C22_ex (depth : Int) (kind : Int) (b : Bool) (n : Int) (l : List Int) (n2 : Int) (n3 : Int) : Int → Ex × St
  | r1 => (.normal, ⟨[(0, (.av (.one (.ref 0 0)))), (1, (.av (.one (.pv (.int .i64 depth))))), (4, (.av (.one (.ref 2 0)))), (5, (.av (.one (.ref 3 0)))), (6, (.av (.one (.ref 4 0)))), (7, (.av (.one (.pv (.int .u64 kind)))))], [(0, [(.ref 1 0), (.pv (.int .i64 r1))]), (1, [(.pv (.ints .u8 l false)), (.pv (.int .i64 n2)), (.pv (.int .i64 n3))]), (2, [(.pv (.bool false)), (.pv (T_id_halves.pv T_id_halves.nil))]), (3, [(.pv (.bool false)), (.pv (T_id_halves.pv T_id_halves.nil))]), (4, [(.pv (.bool false)), (.pv (T_id_halves.pv T_id_halves.nil))])], []⟩)
noncomputable def code_source_id_C22 (depth : Int) (kind : Int) (b : Bool) (n : Int) (l : List Int) (n2 : Int) (n3 : Int) : Option (Int) :=
  bif b then
    (code_source_fail 3 n l n2 n3).bind fun n4 =>
    some n4
  else
    some n
theorem code_source_id_C22_runs (depth : Int) (kind : Int) (b : Bool) (n : Int) (l : List Int) (n2 : Int) (n3 : Int) (r_ : Int) (h : code_source_id_C22 depth kind b n l n2 n3 = some r_) : LRuns Try.prog (lEnv Try.prog cfg 89 2).nt 2 (.cond (.tmp 22) (condAt Try.prog 89 22).1 (condAt Try.prog 89 22).2) ⟨[(0, (.av (.one (.ref 0 0)))), (1, (.av (.one (.pv (.int .i64 depth))))), (4, (.av (.one (.ref 2 0)))), (5, (.av (.one (.ref 3 0)))), (6, (.av (.one (.ref 4 0)))), (7, (.av (.one (.pv (.int .u64 kind))))), (22, (.av (.one (.pv (.bool b)))))], [(0, [(.ref 1 0), (.pv (.int .i64 n))]), (1, [(.pv (.ints .u8 l false)), (.pv (.int .i64 n2)), (.pv (.int .i64 n3))]), (2, [(.pv (.bool false)), (.pv (T_id_halves.pv T_id_halves.nil))]), (3, [(.pv (.bool false)), (.pv (T_id_halves.pv T_id_halves.nil))]), (4, [(.pv (.bool false)), (.pv (T_id_halves.pv T_id_halves.nil))])], []⟩ (code_source_id_C22_ex depth kind b n l n2 n3 r_).1 (code_source_id_C22_ex depth kind b n l n2 n3 r_).2 := by
  unfold code_source_id_C22 at h
  rcases cond_of h with ⟨h1, h⟩ | ⟨h1, h⟩
  · obtain ⟨n4, h2, h⟩ := bind_of h
    have h := some_of h
    subst h
    exact piece_ok (C := cfg) (sc := [.br true, .res (code_source_fail_out 3 n l n2 n3 n4)]) (.k0 (an_ h1 (an_ (code_source_fail_runs 3 n l n2 n3 _ h2) trivial)) (by kernel_rfl))
  · have h := some_of h
    subst h
    exact piece_ok (C := cfg) (sc := [.br false]) (.k0 (an_ h1 trivial) (by kernel_rfl))
/-! ### code_source_must_out -/
def code_source_must_out (is_ : Bool) (n : Int) (l : List Int) (n2 : Int) (n3 : Int) : Int → Res
  | r1 => ([], [[(.ref 1 0), (.pv (.int .i64 r1))], [(.pv (.ints .u8 l false)), (.pv (.int .i64 n2)), (.pv (.int .i64 n3))]], [])
/-! ### code_source_must -/
noncomputable def code_source_must (is_ : Bool) (n : Int) (l : List Int) (n2 : Int) (n3 : Int) : Option (Int) :=
  bif is_ then
    some n
  else
    (code_source_fail 6 n l n2 n3).bind fun n4 =>
    some n4
theorem code_source_must_runs (is_ : Bool) (n : Int) (l : List Int) (n2 : Int) (n3 : Int) (r_ : Int) (h : code_source_must is_ n l n2 n3 = some r_) : Runs Try.prog 102 [(.one (.ref 0 0)), (.one (.pv (.bool is_)))] [[(.ref 1 0), (.pv (.int .i64 n))], [(.pv (.ints .u8 l false)), (.pv (.int .i64 n2)), (.pv (.int .i64 n3))]] [] (code_source_must_out is_ n l n2 n3 r_) := by
  unfold code_source_must at h
  rcases cond_of h with ⟨h1, h⟩ | ⟨h1, h⟩
  · have h := some_of h
    subst h
    exact runs_of (C := cfg) (objs := [[(.ref 1 0), (.pv (.int .i64 n))], [(.pv (.ints .u8 l false)), (.pv (.int .i64 n2)), (.pv (.int .i64 n3))]]) (sc := [.br false]) (.k0 (an_ (not_of2 h1) trivial) (by kernel_rfl))
  · obtain ⟨n4, h2, h⟩ := bind_of h
    have h := some_of h
    subst h
    exact runs_of (C := cfg) (objs := [[(.ref 1 0), (.pv (.int .i64 n))], [(.pv (.ints .u8 l false)), (.pv (.int .i64 n2)), (.pv (.int .i64 n3))]]) (sc := [.br true, .res (code_source_fail_out 6 n l n2 n3 n4)]) (.k0 (an_ (not_of h1) (an_ (code_source_fail_runs 6 n l n2 n3 _ h2) trivial)) (by kernel_rfl))
/-! ### code_source_id_C30 -/
def code_source_id_C30_ex (depth : Int) (kind : Int) (b : Bool) (n : Int) (l : List Int) (n2 : Int) (n3 : Int) : Int × Int × Int × Bool × T_id_halves → Ex × St
  | (r1, r2, r3, r4, r5) => (.normal, ⟨[(0, (.av (.one (.ref 0 0)))), (1, (.av (.one (.pv (.int .i64 depth))))), (4, (.av (.one (.ref 2 0)))), (5, (.av (.one (.ref 3 0)))), (6, (.av (.one (.ref 4 0)))), (7, (.av (.one (.pv (.int .u64 kind)))))], [(0, [(.ref 1 0), (.pv (.int .i64 r1))]), (1, [(.pv (.ints .u8 l false)), (.pv (.int .i64 r2)), (.pv (.int .i64 r3))]), (2, [(.pv (.bool false)), (.pv (T_id_halves.pv T_id_halves.nil))]), (3, [(.pv (.bool r4)), (.pv (T_id_halves.pv r5))]), (4, [(.pv (.bool false)), (.pv (T_id_halves.pv T_id_halves.nil))])], []⟩)
noncomputable def code_source_id_C30 (rec_code_source_id_2 : Int → Int → List Int → Int → Int → Option (Bool × T_id_halves × Int × Int × Int)) (depth : Int) (kind : Int) (b : Bool) (n : Int) (l : List Int) (n2 : Int) (n3 : Int) : Option (Int × Int × Int × Bool × T_id_halves) :=
  bif b then
    (rec_code_source_id_2 (iadd .i64 depth 1) n l n2 n3).bind fun (b2, t, n4, n5, n6) =>
    some (n4, n5, n6, b2, t)
  else
    some (n, n2, n3, false, T_id_halves.nil)
theorem code_source_id_C30_runs (rec_code_source_id_2 : Int → Int → List Int → Int → Int → Option (Bool × T_id_halves × Int × Int × Int)) (hrec_code_source_id_2 : ∀ depth n l n2 n3 r_, rec_code_source_id_2 depth n l n2 n3 = some r_ → Runs Try.prog 89 [(.one (.ref 0 0)), (.one (.pv (.int .i64 depth)))] [[(.ref 1 0), (.pv (.int .i64 n))], [(.pv (.ints .u8 l false)), (.pv (.int .i64 n2)), (.pv (.int .i64 n3))]] [] (code_source_id_2_out depth n l n2 n3 r_)) (depth : Int) (kind : Int) (b : Bool) (n : Int) (l : List Int) (n2 : Int) (n3 : Int) (r_ : Int × Int × Int × Bool × T_id_halves) (h : code_source_id_C30 rec_code_source_id_2 depth kind b n l n2 n3 = some r_) : LRuns Try.prog (lEnv Try.prog cfg 89 2).nt 2 (.cond (.tmp 30) (condAt Try.prog 89 30).1 (condAt Try.prog 89 30).2) ⟨[(0, (.av (.one (.ref 0 0)))), (1, (.av (.one (.pv (.int .i64 depth))))), (4, (.av (.one (.ref 2 0)))), (5, (.av (.one (.ref 3 0)))), (6, (.av (.one (.ref 4 0)))), (7, (.av (.one (.pv (.int .u64 kind))))), (30, (.av (.one (.pv (.bool b)))))], [(0, [(.ref 1 0), (.pv (.int .i64 n))]), (1, [(.pv (.ints .u8 l false)), (.pv (.int .i64 n2)), (.pv (.int .i64 n3))]), (2, [(.pv (.bool false)), (.pv (T_id_halves.pv T_id_halves.nil))]), (3, [(.pv (.bool false)), (.pv (T_id_halves.pv T_id_halves.nil))]), (4, [(.pv (.bool false)), (.pv (T_id_halves.pv T_id_halves.nil))])], []⟩ (code_source_id_C30_ex depth kind b n l n2 n3 r_).1 (code_source_id_C30_ex depth kind b n l n2 n3 r_).2 := by
  unfold code_source_id_C30 at h
  rcases cond_of h with ⟨h1, h⟩ | ⟨h1, h⟩
  · obtain ⟨⟨b2, t, n4, n5, n6⟩, h2, h⟩ := bind_of h
    have h := some_of h
    subst h
    exact piece_ok (C := cfg) (sc := [.br true, .res (code_source_id_2_out (iadd .i64 depth 1) n l n2 n3 (b2, t, n4, n5, n6))]) (.k0 (an_ h1 (an_ (hrec_code_source_id_2 (iadd .i64 depth 1) n l n2 n3 _ h2) trivial)) (by kernel_rfl))
  · have h := some_of h
    subst h
    exact piece_ok (C := cfg) (sc := [.br false]) (.k0 (an_ h1 trivial) (by kernel_rfl))
/-! ### code_source_id_C40 -/
def code_source_id_C40_ex (depth : Int) (kind : Int) (b : Bool) (n : Int) (l : List Int) (n2 : Int) (n3 : Int) (b2 : Bool) (t : T_id_halves) : Int × Int × Int × Bool × T_id_halves → Ex × St
  | (r1, r2, r3, r4, r5) => (.normal, ⟨[(0, (.av (.one (.ref 0 0)))), (4, (.av (.one (.ref 2 0)))), (5, (.av (.one (.ref 3 0)))), (6, (.av (.one (.ref 4 0)))), (7, (.av (.one (.pv (.int .u64 kind)))))], [(0, [(.ref 1 0), (.pv (.int .i64 r1))]), (1, [(.pv (.ints .u8 l false)), (.pv (.int .i64 r2)), (.pv (.int .i64 r3))]), (2, [(.pv (.bool false)), (.pv (T_id_halves.pv T_id_halves.nil))]), (3, [(.pv (.bool b2)), (.pv (T_id_halves.pv t))]), (4, [(.pv (.bool r4)), (.pv (T_id_halves.pv r5))])], []⟩)
noncomputable def code_source_id_C40 (rec_code_source_id_2 : Int → Int → List Int → Int → Int → Option (Bool × T_id_halves × Int × Int × Int)) (depth : Int) (kind : Int) (b : Bool) (n : Int) (l : List Int) (n2 : Int) (n3 : Int) (b2 : Bool) (t : T_id_halves) : Option (Int × Int × Int × Bool × T_id_halves) :=
  bif b then
    (rec_code_source_id_2 (iadd .i64 depth 1) n l n2 n3).bind fun (b3, t2, n4, n5, n6) =>
    some (n4, n5, n6, b3, t2)
  else
    some (n, n2, n3, false, T_id_halves.nil)
theorem code_source_id_C40_runs (rec_code_source_id_2 : Int → Int → List Int → Int → Int → Option (Bool × T_id_halves × Int × Int × Int)) (hrec_code_source_id_2 : ∀ depth n l n2 n3 r_, rec_code_source_id_2 depth n l n2 n3 = some r_ → Runs Try.prog 89 [(.one (.ref 0 0)), (.one (.pv (.int .i64 depth)))] [[(.ref 1 0), (.pv (.int .i64 n))], [(.pv (.ints .u8 l false)), (.pv (.int .i64 n2)), (.pv (.int .i64 n3))]] [] (code_source_id_2_out depth n l n2 n3 r_)) (depth : Int) (kind : Int) (b : Bool) (n : Int) (l : List Int) (n2 : Int) (n3 : Int) (b2 : Bool) (t : T_id_halves) (r_ : Int × Int × Int × Bool × T_id_halves) (h : code_source_id_C40 rec_code_source_id_2 depth kind b n l n2 n3 b2 t = some r_) : LRuns Try.prog (lEnv Try.prog cfg 89 2).nt 2 (.cond (.tmp 40) (condAt Try.prog 89 40).1 (condAt Try.prog 89 40).2) ⟨[(0, (.av (.one (.ref 0 0)))), (1, (.av (.one (.pv (.int .i64 depth))))), (4, (.av (.one (.ref 2 0)))), (5, (.av (.one (.ref 3 0)))), (6, (.av (.one (.ref 4 0)))), (7, (.av (.one (.pv (.int .u64 kind))))), (40, (.av (.one (.pv (.bool b)))))], [(0, [(.ref 1 0), (.pv (.int .i64 n))]), (1, [(.pv (.ints .u8 l false)), (.pv (.int .i64 n2)), (.pv (.int .i64 n3))]), (2, [(.pv (.bool false)), (.pv (T_id_halves.pv T_id_halves.nil))]), (3, [(.pv (.bool b2)), (.pv (T_id_halves.pv t))]), (4, [(.pv (.bool false)), (.pv (T_id_halves.pv T_id_halves.nil))])], []⟩ (code_source_id_C40_ex depth kind b n l n2 n3 b2 t r_).1 (code_source_id_C40_ex depth kind b n l n2 n3 b2 t r_).2 := by
  unfold code_source_id_C40 at h
  rcases cond_of h with ⟨h1, h⟩ | ⟨h1, h⟩
  · obtain ⟨⟨b3, t2, n4, n5, n6⟩, h2, h⟩ := bind_of h
    have h := some_of h
    subst h
    exact piece_ok (C := cfg) (sc := [.br true, .res (code_source_id_2_out (iadd .i64 depth 1) n l n2 n3 (b3, t2, n4, n5, n6))]) (.k0 (an_ h1 (an_ (hrec_code_source_id_2 (iadd .i64 depth 1) n l n2 n3 _ h2) trivial)) (by kernel_rfl))
  · have h := some_of h
    subst h
    exact piece_ok (C := cfg) (sc := [.br false]) (.k0 (an_ h1 trivial) (by kernel_rfl))
/-! ### code_source_id_C40_2 -/
def code_source_id_C40_2_ex (depth : Int) (kind : Int) (b : Bool) (n : Int) (l : List Int) (n2 : Int) (n3 : Int) : Int × Int × Int × Bool × T_id_halves → Ex × St
  | (r1, r2, r3, r4, r5) => (.normal, ⟨[(0, (.av (.one (.ref 0 0)))), (4, (.av (.one (.ref 2 0)))), (5, (.av (.one (.ref 3 0)))), (6, (.av (.one (.ref 4 0)))), (7, (.av (.one (.pv (.int .u64 kind)))))], [(0, [(.ref 1 0), (.pv (.int .i64 r1))]), (1, [(.pv (.ints .u8 l false)), (.pv (.int .i64 r2)), (.pv (.int .i64 r3))]), (2, [(.pv (.bool false)), (.pv (T_id_halves.pv T_id_halves.nil))]), (3, [(.pv (.bool false)), (.pv (T_id_halves.pv T_id_halves.nil))]), (4, [(.pv (.bool r4)), (.pv (T_id_halves.pv r5))])], []⟩)
noncomputable def code_source_id_C40_2 (rec_code_source_id_2 : Int → Int → List Int → Int → Int → Option (Bool × T_id_halves × Int × Int × Int)) (depth : Int) (kind : Int) (b : Bool) (n : Int) (l : List Int) (n2 : Int) (n3 : Int) : Option (Int × Int × Int × Bool × T_id_halves) :=
  bif b then
    (rec_code_source_id_2 (iadd .i64 depth 1) n l n2 n3).bind fun (b2, t, n4, n5, n6) =>
    some (n4, n5, n6, b2, t)
  else
    some (n, n2, n3, false, T_id_halves.nil)
theorem code_source_id_C40_2_runs (rec_code_source_id_2 : Int → Int → List Int → Int → Int → Option (Bool × T_id_halves × Int × Int × Int)) (hrec_code_source_id_2 : ∀ depth n l n2 n3 r_, rec_code_source_id_2 depth n l n2 n3 = some r_ → Runs Try.prog 89 [(.one (.ref 0 0)), (.one (.pv (.int .i64 depth)))] [[(.ref 1 0), (.pv (.int .i64 n))], [(.pv (.ints .u8 l false)), (.pv (.int .i64 n2)), (.pv (.int .i64 n3))]] [] (code_source_id_2_out depth n l n2 n3 r_)) (depth : Int) (kind : Int) (b : Bool) (n : Int) (l : List Int) (n2 : Int) (n3 : Int) (r_ : Int × Int × Int × Bool × T_id_halves) (h : code_source_id_C40_2 rec_code_source_id_2 depth kind b n l n2 n3 = some r_) : LRuns Try.prog (lEnv Try.prog cfg 89 2).nt 2 (.cond (.tmp 40) (condAt Try.prog 89 40).1 (condAt Try.prog 89 40).2) ⟨[(0, (.av (.one (.ref 0 0)))), (1, (.av (.one (.pv (.int .i64 depth))))), (4, (.av (.one (.ref 2 0)))), (5, (.av (.one (.ref 3 0)))), (6, (.av (.one (.ref 4 0)))), (7, (.av (.one (.pv (.int .u64 kind))))), (40, (.av (.one (.pv (.bool b)))))], [(0, [(.ref 1 0), (.pv (.int .i64 n))]), (1, [(.pv (.ints .u8 l false)), (.pv (.int .i64 n2)), (.pv (.int .i64 n3))]), (2, [(.pv (.bool false)), (.pv (T_id_halves.pv T_id_halves.nil))]), (3, [(.pv (.bool false)), (.pv (T_id_halves.pv T_id_halves.nil))]), (4, [(.pv (.bool false)), (.pv (T_id_halves.pv T_id_halves.nil))])], []⟩ (code_source_id_C40_2_ex depth kind b n l n2 n3 r_).1 (code_source_id_C40_2_ex depth kind b n l n2 n3 r_).2 := by
  unfold code_source_id_C40_2 at h
  rcases cond_of h with ⟨h1, h⟩ | ⟨h1, h⟩
  · obtain ⟨⟨b2, t, n4, n5, n6⟩, h2, h⟩ := bind_of h
    have h := some_of h
    subst h
    exact piece_ok (C := cfg) (sc := [.br true, .res (code_source_id_2_out (iadd .i64 depth 1) n l n2 n3 (b2, t, n4, n5, n6))]) (.k0 (an_ h1 (an_ (hrec_code_source_id_2 (iadd .i64 depth 1) n l n2 n3 _ h2) trivial)) (by kernel_rfl))
  · have h := some_of h
    subst h
    exact piece_ok (C := cfg) (sc := [.br false]) (.k0 (an_ h1 trivial) (by kernel_rfl))

end Go.Proofs.Ytjjcmgdgifcmgaa
