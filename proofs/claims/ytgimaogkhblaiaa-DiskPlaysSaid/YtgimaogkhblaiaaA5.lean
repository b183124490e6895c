/- What functions compute, and that they do. -/
import Derived.Test.YtgimaogkhblaiaaA4
set_option linter.unusedVariables false
set_option linter.unusedSimpArgs false
set_option maxRecDepth 100000
namespace Go.Proofs.Ytgimaogkhblaiaa
open Go.Ev

/-! ### kinfolkref11_Append_C52 -/
def kinfolkref11_Append_C52_ex (n : Int) (p : List Int) (e : Int) (i : Int) (b : Bool) (n2 : Int) (b2 : Bool) (b3 : Bool) (n3 : Int) (n4 : Int) (r : List E_kinfolkref11_Seg) : Int × List E_kinfolkref11_Seg → Ex × St
  | (r1, r2) => (.normal, ⟨[(0, (.av (.one (.ref 0 0)))), (2, (.av (.one (.pv (.ints .u8 p false))))), (7, (.av (.one (.pv (.int .i64 e))))), (9, (.av (.one (.pv (.int .i64 r1)))))], [(0, [(.own 0 0 ((List.map E_kinfolkref11_Seg.pv r2)).length false), (.pv (.int .i64 n2)), (.pv (.bool b2)), (.pv (.bool b3)), (.pv (.int .i64 n3)), (.pv (.int .i64 n4))])], [(0, (.live (.recs 2 (List.map E_kinfolkref11_Seg.pv r2))))]⟩)
noncomputable def kinfolkref11_Append_C52 (n : Int) (p : List Int) (e : Int) (i : Int) (b : Bool) (n2 : Int) (b2 : Bool) (b3 : Bool) (n3 : Int) (n4 : Int) (r : List E_kinfolkref11_Seg) : Option (Int × List E_kinfolkref11_Seg) :=
  bif b then
    (runL (kinfolkref11_Append_L0_3_step n p e n2 b2 b3 n3 n4 r) 0).bind fun n5 =>
    bif decide ((0 : Int) ≤ n5) && decide ((n5 : Int) ≤ (((List.map E_kinfolkref11_Seg.pv r)).length : Int)) && decide (((((List.map E_kinfolkref11_Seg.pv r)).length : Int) : Int) ≤ (((List.map E_kinfolkref11_Seg.pv r)).length : Int)) && decide (((((List.map E_kinfolkref11_Seg.pv r)).length : Int) : Int) = (((List.map E_kinfolkref11_Seg.pv r)).length : Int)) then
    bif Nat.beq ((List.take ((((List.map E_kinfolkref11_Seg.pv r)).length : Int) - n5).toNat (List.drop (0 + (n5).toNat) (List.map E_kinfolkref11_Seg.pv r)))).length 0 then
      bif decide ((0 : Int) ≤ 0) && decide ((0 : Int) ≤ n5) && decide ((n5 : Int) ≤ (((List.map E_kinfolkref11_Seg.pv r)).length : Int)) && decide ((n5 : Int) = n5) then
      bif Nat.beq ((List.take (n5 - 0).toNat (List.map E_kinfolkref11_Seg.pv r))).length 0 then
        some (n5, [(E_kinfolkref11_Seg.mk n [])])
      else
        bif fits ((([] : List (List PV)) ++ (List.take (n5 - 0).toNat (List.map E_kinfolkref11_Seg.pv r)))).length then
        bif fits (((([] : List (List PV)) ++ (List.take (n5 - 0).toNat (List.map E_kinfolkref11_Seg.pv r))) ++ ([[(.int .u64 n), .nils]] : List (List PV)))).length then
        some (n5, (([] ++ (List.take (n5 - 0).toNat r)) ++ [(E_kinfolkref11_Seg.mk n [])]))
        else none
        else none
      else none
    else
      bif fits ((([[(.int .u64 n), .nils]] : List (List PV)) ++ (List.take ((((List.map E_kinfolkref11_Seg.pv r)).length : Int) - n5).toNat (List.drop (0 + (n5).toNat) (List.map E_kinfolkref11_Seg.pv r))))).length then
      bif decide ((0 : Int) ≤ 0) && decide ((0 : Int) ≤ n5) && decide ((n5 : Int) ≤ (((List.map E_kinfolkref11_Seg.pv r)).length : Int)) && decide ((n5 : Int) = n5) then
      bif Nat.beq ((List.take (n5 - 0).toNat (List.map E_kinfolkref11_Seg.pv r))).length 0 then
        bif fits ((([] : List (List PV)) ++ (List.take ((([[(.int .u64 n), .nils]] : List (List PV)) ++ (List.take ((((List.map E_kinfolkref11_Seg.pv r)).length : Int) - n5).toNat (List.drop (0 + (n5).toNat) (List.map E_kinfolkref11_Seg.pv r))))).length (([[(.int .u64 n), .nils]] : List (List PV)) ++ (List.take ((((List.map E_kinfolkref11_Seg.pv r)).length : Int) - n5).toNat (List.drop (0 + (n5).toNat) (List.map E_kinfolkref11_Seg.pv r))))))).length then
        some (n5, ([] ++ (List.take ((([[(.int .u64 n), .nils]] : List (List PV)) ++ (List.take ((((List.map E_kinfolkref11_Seg.pv r)).length : Int) - n5).toNat (List.drop (0 + (n5).toNat) (List.map E_kinfolkref11_Seg.pv r))))).length ([(E_kinfolkref11_Seg.mk n [])] ++ (List.take ((((List.map E_kinfolkref11_Seg.pv r)).length : Int) - n5).toNat (List.drop (0 + (n5).toNat) r))))))
        else none
      else
        bif fits ((([] : List (List PV)) ++ (List.take (n5 - 0).toNat (List.map E_kinfolkref11_Seg.pv r)))).length then
        bif fits (((([] : List (List PV)) ++ (List.take (n5 - 0).toNat (List.map E_kinfolkref11_Seg.pv r))) ++ (List.take ((([[(.int .u64 n), .nils]] : List (List PV)) ++ (List.take ((((List.map E_kinfolkref11_Seg.pv r)).length : Int) - n5).toNat (List.drop (0 + (n5).toNat) (List.map E_kinfolkref11_Seg.pv r))))).length (([[(.int .u64 n), .nils]] : List (List PV)) ++ (List.take ((((List.map E_kinfolkref11_Seg.pv r)).length : Int) - n5).toNat (List.drop (0 + (n5).toNat) (List.map E_kinfolkref11_Seg.pv r))))))).length then
        some (n5, (([] ++ (List.take (n5 - 0).toNat r)) ++ (List.take ((([[(.int .u64 n), .nils]] : List (List PV)) ++ (List.take ((((List.map E_kinfolkref11_Seg.pv r)).length : Int) - n5).toNat (List.drop (0 + (n5).toNat) (List.map E_kinfolkref11_Seg.pv r))))).length ([(E_kinfolkref11_Seg.mk n [])] ++ (List.take ((((List.map E_kinfolkref11_Seg.pv r)).length : Int) - n5).toNat (List.drop (0 + (n5).toNat) r))))))
        else none
        else none
      else none
      else none
    else none
  else
    some (i, r)
theorem kinfolkref11_Append_C52_runs (n : Int) (p : List Int) (e : Int) (i : Int) (b : Bool) (n2 : Int) (b2 : Bool) (b3 : Bool) (n3 : Int) (n4 : Int) (r : List E_kinfolkref11_Seg) (r_ : Int × List E_kinfolkref11_Seg) (h : kinfolkref11_Append_C52 n p e i b n2 b2 b3 n3 n4 r = some r_) : LRuns Try.prog (lEnv Try.prog cfg 33 1).nt 1 (.cond (.tmp 52) (condAt Try.prog 33 52).1 (condAt Try.prog 33 52).2) ⟨[(0, (.av (.one (.ref 0 0)))), (1, (.av (.one (.pv (.int .u64 n))))), (2, (.av (.one (.pv (.ints .u8 p false))))), (7, (.av (.one (.pv (.int .i64 e))))), (9, (.av (.one (.pv (.int .i64 i))))), (52, (.av (.one (.pv (.bool b)))))], [(0, [(.own 0 0 ((List.map E_kinfolkref11_Seg.pv r)).length false), (.pv (.int .i64 n2)), (.pv (.bool b2)), (.pv (.bool b3)), (.pv (.int .i64 n3)), (.pv (.int .i64 n4))])], [(0, (.live (.recs 2 (List.map E_kinfolkref11_Seg.pv r))))]⟩ (kinfolkref11_Append_C52_ex n p e i b n2 b2 b3 n3 n4 r r_).1 (kinfolkref11_Append_C52_ex n p e i b n2 b2 b3 n3 n4 r r_).2 := by
  unfold kinfolkref11_Append_C52 at h
  rcases cond_of h with ⟨h1, h⟩ | ⟨h1, h⟩
  · obtain ⟨n5, h2, h⟩ := bind_of h
    have q_2 := (kinfolkref11_Append_L0_3_runs n p e n2 b2 b3 n3 n4 r _ _ h2)
    obtain ⟨h3, h⟩ := need_of h
    rcases cond_of h with ⟨h4, h⟩ | ⟨h4, h⟩
    · obtain ⟨h5, h⟩ := need_of h
      rcases cond_of h with ⟨h6, h⟩ | ⟨h6, h⟩
      · have h := some_of h
        subst h
        have t_ := tT h1 <| tL q_2 <| tO h3 <| tT h4 <| tO h5 <| tT h6 <| tO (rfl : true = true) <| tO (rfl : true = true) <| tN
        exact piece_run (C := cfg) (s1 := ⟨[(0, (.av (.one (.ref 0 0)))), (2, (.av (.one (.pv (.ints .u8 p false))))), (7, (.av (.one (.pv (.int .i64 e))))), (9, (.av (.one (.pv (.int .i64 n5)))))], [(0, [(.own 0 0 1 false), (.pv (.int .i64 n2)), (.pv (.bool b2)), (.pv (.bool b3)), (.pv (.int .i64 n3)), (.pv (.int .i64 n4))])], [(0, (.live (.recs 2 [[(.int .u64 n), .nils]])))]⟩) (sc := t_.ev) (.k0 t_.pf (by kernel_rfl)) ⟨⟨⟨_, rfl, .eq rfl⟩, ⟨_, rfl, .eq rfl⟩, ⟨_, rfl, .eq rfl⟩, ⟨_, rfl, .eq rfl⟩, trivial⟩, ⟨⟨rfl, ⟨.own (by first | rfl | (simp only [List.take_length]; done) | (simp only [List.take_length, List.length_map, List.length_append, List.drop_zero, List.map_append, List.map_take, List.map_drop, List.map_replicate, List.map_cons, List.map_nil, List.append_nil, List.nil_append, E_L_uint8.pv, E_kinfolklaw11_Act.pv, E_kinfolkref11_Seg.pv, E_L_uint8.upd, E_kinfolklaw11_Act.upd, E_kinfolkref11_Seg.upd]; done) | (simp; done)), .eq rfl, .eq rfl, .eq rfl, .eq rfl, .eq rfl, trivial⟩⟩, trivial⟩, ⟨⟨rfl, .recs (.cons (.cons (.eq rfl) (.cons (.nilsI) (.nil))) (.nil))⟩, trivial⟩⟩
      · obtain ⟨h7, h⟩ := need_of h
        obtain ⟨h8, h⟩ := need_of h
        have h := some_of h
        subst h
        have t_ := tT h1 <| tL q_2 <| tO h3 <| tT h4 <| tO h5 <| tF (not_of h6) <| tO h7 <| tO (show (Nat.beq ((([] : List (List PV)) ++ (List.take (n5 - 0).toNat (List.map E_kinfolkref11_Seg.pv r)))).length ((([] : List (List PV)) ++ (List.take (n5 - 0).toNat (List.map E_kinfolkref11_Seg.pv r)))).length) = true from Nat.beq_refl _) <| tO h8 <| tN
        exact piece_run (C := cfg) (s1 := ⟨[(0, (.av (.one (.ref 0 0)))), (2, (.av (.one (.pv (.ints .u8 p false))))), (7, (.av (.one (.pv (.int .i64 e))))), (9, (.av (.one (.pv (.int .i64 n5)))))], [(0, [(.own 0 0 (((([] : List (List PV)) ++ (List.take (n5 - 0).toNat (List.map E_kinfolkref11_Seg.pv r))) ++ ([[(.int .u64 n), .nils]] : List (List PV)))).length false), (.pv (.int .i64 n2)), (.pv (.bool b2)), (.pv (.bool b3)), (.pv (.int .i64 n3)), (.pv (.int .i64 n4))])], [(0, (.live (.recs 2 ((([] : List (List PV)) ++ (List.take (n5 - 0).toNat (List.map E_kinfolkref11_Seg.pv r))) ++ ([[(.int .u64 n), .nils]] : List (List PV))))))]⟩) (sc := t_.ev) (.k0 t_.pf (by kernel_rfl)) ⟨⟨⟨_, rfl, .eq rfl⟩, ⟨_, rfl, .eq rfl⟩, ⟨_, rfl, .eq rfl⟩, ⟨_, rfl, .eq rfl⟩, trivial⟩, ⟨⟨rfl, ⟨.own (by first | rfl | (simp only [List.take_length]; done) | (simp only [List.take_length, List.length_map, List.length_append, List.drop_zero, List.map_append, List.map_take, List.map_drop, List.map_replicate, List.map_cons, List.map_nil, List.append_nil, List.nil_append, E_L_uint8.pv, E_kinfolklaw11_Act.pv, E_kinfolkref11_Seg.pv, E_L_uint8.upd, E_kinfolklaw11_Act.upd, E_kinfolkref11_Seg.upd]; done) | (simp; done)), .eq rfl, .eq rfl, .eq rfl, .eq rfl, .eq rfl, trivial⟩⟩, trivial⟩, ⟨⟨rfl, .recs (.app (.app (.nil) (.eq (by first | rfl | (simp only [List.take_length]; done) | (simp only [List.take_length, List.length_map, List.length_append, List.drop_zero, List.map_append, List.map_take, List.map_drop, List.map_replicate, List.map_cons, List.map_nil, List.append_nil, List.nil_append, E_L_uint8.pv, E_kinfolklaw11_Act.pv, E_kinfolkref11_Seg.pv, E_L_uint8.upd, E_kinfolklaw11_Act.upd, E_kinfolkref11_Seg.upd]; done) | (simp; done)))) (.cons (.cons (.eq rfl) (.cons (.nilsI) (.nil))) (.nil)))⟩, trivial⟩⟩
    · obtain ⟨h5, h⟩ := need_of h
      obtain ⟨h6, h⟩ := need_of h
      rcases cond_of h with ⟨h7, h⟩ | ⟨h7, h⟩
      · obtain ⟨h8, h⟩ := need_of h
        have h := some_of h
        subst h
        have t_ := tT h1 <| tL q_2 <| tO h3 <| tF (not_of h4) <| tO h5 <| tO h6 <| tT h7 <| tO (rfl : true = true) <| tO h8 <| tN
        exact piece_run (C := cfg) (s1 := ⟨[(0, (.av (.one (.ref 0 0)))), (2, (.av (.one (.pv (.ints .u8 p false))))), (7, (.av (.one (.pv (.int .i64 e))))), (9, (.av (.one (.pv (.int .i64 n5)))))], [(0, [(.own 0 0 ((([] : List (List PV)) ++ (List.take ((([[(.int .u64 n), .nils]] : List (List PV)) ++ (List.take ((((List.map E_kinfolkref11_Seg.pv r)).length : Int) - n5).toNat (List.drop (0 + (n5).toNat) (List.map E_kinfolkref11_Seg.pv r))))).length (([[(.int .u64 n), .nils]] : List (List PV)) ++ (List.take ((((List.map E_kinfolkref11_Seg.pv r)).length : Int) - n5).toNat (List.drop (0 + (n5).toNat) (List.map E_kinfolkref11_Seg.pv r))))))).length false), (.pv (.int .i64 n2)), (.pv (.bool b2)), (.pv (.bool b3)), (.pv (.int .i64 n3)), (.pv (.int .i64 n4))])], [(0, (.live (.recs 2 (([] : List (List PV)) ++ (List.take ((([[(.int .u64 n), .nils]] : List (List PV)) ++ (List.take ((((List.map E_kinfolkref11_Seg.pv r)).length : Int) - n5).toNat (List.drop (0 + (n5).toNat) (List.map E_kinfolkref11_Seg.pv r))))).length (([[(.int .u64 n), .nils]] : List (List PV)) ++ (List.take ((((List.map E_kinfolkref11_Seg.pv r)).length : Int) - n5).toNat (List.drop (0 + (n5).toNat) (List.map E_kinfolkref11_Seg.pv r)))))))))]⟩) (sc := t_.ev) (.k0 t_.pf (by kernel_rfl)) ⟨⟨⟨_, rfl, .eq rfl⟩, ⟨_, rfl, .eq rfl⟩, ⟨_, rfl, .eq rfl⟩, ⟨_, rfl, .eq rfl⟩, trivial⟩, ⟨⟨rfl, ⟨.own (by first | rfl | (simp only [List.take_length]; done) | (simp only [List.take_length, List.length_map, List.length_append, List.drop_zero, List.map_append, List.map_take, List.map_drop, List.map_replicate, List.map_cons, List.map_nil, List.append_nil, List.nil_append, E_L_uint8.pv, E_kinfolklaw11_Act.pv, E_kinfolkref11_Seg.pv, E_L_uint8.upd, E_kinfolklaw11_Act.upd, E_kinfolkref11_Seg.upd]; done) | (simp; done)), .eq rfl, .eq rfl, .eq rfl, .eq rfl, .eq rfl, trivial⟩⟩, trivial⟩, ⟨⟨rfl, .recs (.app (.nil) (.takeM (.app (.cons (.cons (.eq rfl) (.cons (.nilsI) (.nil))) (.nil)) (.eq (by first | rfl | (simp only [List.take_length]; done) | (simp only [List.take_length, List.length_map, List.length_append, List.drop_zero, List.map_append, List.map_take, List.map_drop, List.map_replicate, List.map_cons, List.map_nil, List.append_nil, List.nil_append, E_L_uint8.pv, E_kinfolklaw11_Act.pv, E_kinfolkref11_Seg.pv, E_L_uint8.upd, E_kinfolklaw11_Act.upd, E_kinfolkref11_Seg.upd]; done) | (simp; done))))))⟩, trivial⟩⟩
      · obtain ⟨h8, h⟩ := need_of h
        obtain ⟨h9, h⟩ := need_of h
        have h := some_of h
        subst h
        have t_ := tT h1 <| tL q_2 <| tO h3 <| tF (not_of h4) <| tO h5 <| tO h6 <| tF (not_of h7) <| tO h8 <| tO (show (Nat.beq ((([] : List (List PV)) ++ (List.take (n5 - 0).toNat (List.map E_kinfolkref11_Seg.pv r)))).length ((([] : List (List PV)) ++ (List.take (n5 - 0).toNat (List.map E_kinfolkref11_Seg.pv r)))).length) = true from Nat.beq_refl _) <| tO h9 <| tN
        exact piece_run (C := cfg) (s1 := ⟨[(0, (.av (.one (.ref 0 0)))), (2, (.av (.one (.pv (.ints .u8 p false))))), (7, (.av (.one (.pv (.int .i64 e))))), (9, (.av (.one (.pv (.int .i64 n5)))))], [(0, [(.own 0 0 (((([] : List (List PV)) ++ (List.take (n5 - 0).toNat (List.map E_kinfolkref11_Seg.pv r))) ++ (List.take ((([[(.int .u64 n), .nils]] : List (List PV)) ++ (List.take ((((List.map E_kinfolkref11_Seg.pv r)).length : Int) - n5).toNat (List.drop (0 + (n5).toNat) (List.map E_kinfolkref11_Seg.pv r))))).length (([[(.int .u64 n), .nils]] : List (List PV)) ++ (List.take ((((List.map E_kinfolkref11_Seg.pv r)).length : Int) - n5).toNat (List.drop (0 + (n5).toNat) (List.map E_kinfolkref11_Seg.pv r))))))).length false), (.pv (.int .i64 n2)), (.pv (.bool b2)), (.pv (.bool b3)), (.pv (.int .i64 n3)), (.pv (.int .i64 n4))])], [(0, (.live (.recs 2 ((([] : List (List PV)) ++ (List.take (n5 - 0).toNat (List.map E_kinfolkref11_Seg.pv r))) ++ (List.take ((([[(.int .u64 n), .nils]] : List (List PV)) ++ (List.take ((((List.map E_kinfolkref11_Seg.pv r)).length : Int) - n5).toNat (List.drop (0 + (n5).toNat) (List.map E_kinfolkref11_Seg.pv r))))).length (([[(.int .u64 n), .nils]] : List (List PV)) ++ (List.take ((((List.map E_kinfolkref11_Seg.pv r)).length : Int) - n5).toNat (List.drop (0 + (n5).toNat) (List.map E_kinfolkref11_Seg.pv r)))))))))]⟩) (sc := t_.ev) (.k0 t_.pf (by kernel_rfl)) ⟨⟨⟨_, rfl, .eq rfl⟩, ⟨_, rfl, .eq rfl⟩, ⟨_, rfl, .eq rfl⟩, ⟨_, rfl, .eq rfl⟩, trivial⟩, ⟨⟨rfl, ⟨.own (by first | rfl | (simp only [List.take_length]; done) | (simp only [List.take_length, List.length_map, List.length_append, List.drop_zero, List.map_append, List.map_take, List.map_drop, List.map_replicate, List.map_cons, List.map_nil, List.append_nil, List.nil_append, E_L_uint8.pv, E_kinfolklaw11_Act.pv, E_kinfolkref11_Seg.pv, E_L_uint8.upd, E_kinfolklaw11_Act.upd, E_kinfolkref11_Seg.upd]; done) | (simp; done)), .eq rfl, .eq rfl, .eq rfl, .eq rfl, .eq rfl, trivial⟩⟩, trivial⟩, ⟨⟨rfl, .recs (.app (.app (.nil) (.eq (by first | rfl | (simp only [List.take_length]; done) | (simp only [List.take_length, List.length_map, List.length_append, List.drop_zero, List.map_append, List.map_take, List.map_drop, List.map_replicate, List.map_cons, List.map_nil, List.append_nil, List.nil_append, E_L_uint8.pv, E_kinfolklaw11_Act.pv, E_kinfolkref11_Seg.pv, E_L_uint8.upd, E_kinfolklaw11_Act.upd, E_kinfolkref11_Seg.upd]; done) | (simp; done)))) (.takeM (.app (.cons (.cons (.eq rfl) (.cons (.nilsI) (.nil))) (.nil)) (.eq (by first | rfl | (simp only [List.take_length]; done) | (simp only [List.take_length, List.length_map, List.length_append, List.drop_zero, List.map_append, List.map_take, List.map_drop, List.map_replicate, List.map_cons, List.map_nil, List.append_nil, List.nil_append, E_L_uint8.pv, E_kinfolklaw11_Act.pv, E_kinfolkref11_Seg.pv, E_L_uint8.upd, E_kinfolklaw11_Act.upd, E_kinfolkref11_Seg.upd]; done) | (simp; done))))))⟩, trivial⟩⟩
  · have h := some_of h
    subst h
    have t_ := tF h1 <| tN
    exact piece_ok (C := cfg) (sc := t_.ev) (.k0 t_.pf (by kernel_rfl))
/-! ### kinfolkref11_Append_3 -/
noncomputable def kinfolkref11_Append_3 (n : Int) (p : List Int) (n2 : Int) (b : Bool) (b2 : Bool) (n3 : Int) (n4 : Int) (r : List E_kinfolkref11_Seg) : Option (Int × Bool × Int × List E_kinfolkref11_Seg) :=
  bif b2 then
    some (10, b2, n3, r)
  else
    bif b then
      some (8, b2, n3, r)
    else
      (kinfolkref11_Used_2 n2 b b2 n3 n4 r).bind fun n5 =>
      bif (decide ((n2 : Int) < (iadd .i64 n5 ((p).length : Int)))) then
        some (8, b2, n3, r)
      else
        (kinfolkref11_goes_2 n2 b b2 n3 n4 r).bind fun (b3, b4, n6) =>
        (kinfolkref11_Append_C32 n p b3 n2 b b4 n6 n4 r).bind fun (l_, n7) =>
        (kinfolkref11_Find_2 n n2 b b4 n6 n4 r).bind fun n8 =>
        (kinfolkref11_Append_C52 n l_ n7 n8 (decide ((n8 : Int) < 0)) n2 b b4 n6 n4 r).bind fun (n9, r2) =>
        bif decide ((0 : Int) ≤ n9) && decide ((n9 : Int) < (((List.map E_kinfolkref11_Seg.pv r2)).length : Int)) then
        (r2[(0 + (n9).toNat)]?).bind fun e_ => match e_ with
        | .mk n10 l_2 =>
        bif Nat.beq (l_2).length 0 then
          bif fits (([] ++ l_)).length then
          some (n7, b4, n6, (r2.set (0 + (n9).toNat) (E_kinfolkref11_Seg.mk n10 ([] ++ l_))))
          else none
        else
          bif fits (([] ++ l_2)).length then
          bif fits ((([] ++ l_2) ++ l_)).length then
          some (n7, b4, n6, (r2.set (0 + (n9).toNat) (E_kinfolkref11_Seg.mk n10 (([] ++ l_2) ++ l_))))
          else none
          else none
        else none
theorem kinfolkref11_Append_3_runs (n : Int) (p : List Int) (n2 : Int) (b : Bool) (b2 : Bool) (n3 : Int) (n4 : Int) (r : List E_kinfolkref11_Seg) (r_ : Int × Bool × Int × List E_kinfolkref11_Seg) (h : kinfolkref11_Append_3 n p n2 b b2 n3 n4 r = some r_) : Runs Try.prog 33 [(.one (.ref 0 0)), (.one (.pv (.int .u64 n))), (.one (.pv (.ints .u8 p false)))] [[(.own 0 0 ((List.map E_kinfolkref11_Seg.pv r)).length false), (.pv (.int .i64 n2)), (.pv (.bool b)), (.pv (.bool b2)), (.pv (.int .i64 n3)), (.pv (.int .i64 n4))]] [(.recs 2 (List.map E_kinfolkref11_Seg.pv r))] (kinfolkref11_Append_3_out n p n2 b b2 n3 n4 r r_) := by
  unfold kinfolkref11_Append_3 at h
  rcases cond_of h with ⟨h1, h⟩ | ⟨h1, h⟩
  · have h := some_of h
    subst h
    have t_ := tT h1 <| tN
    exact runs_of (C := cfg) (objs := [[(.own 0 0 ((List.map E_kinfolkref11_Seg.pv r)).length false), (.pv (.int .i64 n2)), (.pv (.bool b)), (.pv (.bool b2)), (.pv (.int .i64 n3)), (.pv (.int .i64 n4))]]) (sc := t_.ev) (.k0 t_.pf (by kernel_rfl))
  · rcases cond_of h with ⟨h2, h⟩ | ⟨h2, h⟩
    · have h := some_of h
      subst h
      have t_ := tF h1 <| tT h2 <| tT (rfl : true = true) <| tN
      exact runs_of (C := cfg) (objs := [[(.own 0 0 ((List.map E_kinfolkref11_Seg.pv r)).length false), (.pv (.int .i64 n2)), (.pv (.bool b)), (.pv (.bool b2)), (.pv (.int .i64 n3)), (.pv (.int .i64 n4))]]) (sc := t_.ev) (.k1 t_.pf (by kernel_rfl) (by kernel_rfl))
    · obtain ⟨n5, h3, h⟩ := bind_of h
      rcases cond_of h with ⟨h4, h⟩ | ⟨h4, h⟩
      · have h := some_of h
        subst h
        have t_ := tF h1 <| tF h2 <| tR (kinfolkref11_Used_2_runs n2 b b2 n3 n4 r _ h3) <| tR (kinfolkref11_Used_2_runs n2 b b2 n3 n4 r _ h3) <| tT h4 <| tN
        exact runs_of (C := cfg) (objs := [[(.own 0 0 ((List.map E_kinfolkref11_Seg.pv r)).length false), (.pv (.int .i64 n2)), (.pv (.bool b)), (.pv (.bool b2)), (.pv (.int .i64 n3)), (.pv (.int .i64 n4))]]) (sc := t_.ev) (.k1 t_.pf (by kernel_rfl) (by kernel_rfl))
      · obtain ⟨⟨b3, b4, n6⟩, h5, h⟩ := bind_of h
        obtain ⟨⟨l_, n7⟩, h6, h⟩ := bind_of h
        have q_6 := (kinfolkref11_Append_C32_runs n p b3 n2 b b4 n6 n4 r _ h6)
        obtain ⟨n8, h7, h⟩ := bind_of h
        have q_7 := (kinfolkref11_Find_2_runs n n2 b b4 n6 n4 r _ h7)
        obtain ⟨⟨n9, r2⟩, h8, h⟩ := bind_of h
        have q_8 := (kinfolkref11_Append_C52_runs n l_ n7 n8 (decide ((n8 : Int) < 0)) n2 b b4 n6 n4 r _ h8)
        obtain ⟨h9, h⟩ := need_of h
        obtain ⟨⟨n10, l_2⟩, h10, h⟩ := bind_of h
        have p10_ := fun {sc_ : List Ev} {Q_ : Prop} (t_ : Tell sc_ Q_) => tF h1 <| tF h2 <| tR (kinfolkref11_Used_2_runs n2 b b2 n3 n4 r _ h3) <| tR (kinfolkref11_Used_2_runs n2 b b2 n3 n4 r _ h3) <| tF h4 <| tR (kinfolkref11_goes_2_runs n2 b b2 n3 n4 r _ h5) <| tL q_6 <| tR q_7 <| tL q_8 <| tO h9 <| tO h9 <| tO h9 <| tE (.el [(.int .u64 n10), (.ints .u8 l_2 false)]) <| tO (el_of (f := E_kinfolkref11_Seg.pv) h10) <| tO h9 <| tE (.el [(.int .u64 n10), (.ints .u8 l_2 false)]) <| tO (el_of (f := E_kinfolkref11_Seg.pv) h10) <| tE (.el [(.int .u64 n10), (.ints .u8 l_2 false)]) <| tO (el_of (f := E_kinfolkref11_Seg.pv) h10) <| t_
        rcases cond_of h with ⟨h11, h⟩ | ⟨h11, h⟩
        · obtain ⟨h12, h⟩ := need_of h
          have h := some_of h
          subst h
          have t_ := p10_ <| tT h11 <| tE (.el [(.int .u64 n10), (.ints .u8 l_2 false)]) <| tO (el_of (f := E_kinfolkref11_Seg.pv) h10) <| tO (rfl : true = true) <| tO h12 <| tT h11 <| tO (rfl : true = true) <| tO h12 <| tO h9 <| tN
          have e_ : Runs Try.prog 33 [(.one (.ref 0 0)), (.one (.pv (.int .u64 n))), (.one (.pv (.ints .u8 p false)))] [[(.own 0 0 ((List.map E_kinfolkref11_Seg.pv r)).length false), (.pv (.int .i64 n2)), (.pv (.bool b)), (.pv (.bool b2)), (.pv (.int .i64 n3)), (.pv (.int .i64 n4))]] [(.recs 2 (List.map E_kinfolkref11_Seg.pv r))] ([(.one (.pv (.int .i64 n7)))], [[(.own 0 0 ((List.map E_kinfolkref11_Seg.pv r2)).length false), (.pv (.int .i64 n2)), (.pv (.bool b)), (.pv (.bool b4)), (.pv (.int .i64 n6)), (.pv (.int .i64 n4))]], [(.recs 2 ((List.map E_kinfolkref11_Seg.pv r2).set (0 + (n9).toNat) (setL ((List.map E_kinfolkref11_Seg.pv r2).getD (0 + (n9).toNat) []) 1 [(.ints .u8 (List.take (([] ++ l_)).length ([] ++ l_)) false)])))]) := runs_of (C := cfg) (objs := [[(.own 0 0 ((List.map E_kinfolkref11_Seg.pv r)).length false), (.pv (.int .i64 n2)), (.pv (.bool b)), (.pv (.bool b2)), (.pv (.int .i64 n3)), (.pv (.int .i64 n4))]]) (sc := t_.ev) (.k1 t_.pf (by kernel_rfl) (by kernel_rfl))
          exact e_.out ⟨.eq rfl, trivial⟩ ⟨⟨.own (by first | rfl | (simp only [List.take_length]; done) | (simp only [List.take_length, List.length_map, List.length_append, List.drop_zero, List.map_append, List.map_take, List.map_drop, List.map_replicate, List.map_cons, List.map_nil, List.append_nil, List.nil_append, E_L_uint8.pv, E_kinfolklaw11_Act.pv, E_kinfolkref11_Seg.pv, E_L_uint8.upd, E_kinfolklaw11_Act.upd, E_kinfolkref11_Seg.upd]; done) | (simp; done)), .eq rfl, .eq rfl, .eq rfl, .eq rfl, .eq rfl, trivial⟩, trivial⟩ ⟨.recs (.eq (el_part (f := E_kinfolkref11_Seg.pv) h10 (by first | rfl | (simp only [List.take_length]; rfl)))), trivial⟩ rfl
        · obtain ⟨h12, h⟩ := need_of h
          obtain ⟨h13, h⟩ := need_of h
          have h := some_of h
          subst h
          have t_ := p10_ <| tF (not_of h11) <| tO h12 <| tE (.el [(.int .u64 n10), (.ints .u8 l_2 false)]) <| tO (el_of (f := E_kinfolkref11_Seg.pv) h10) <| tO (show (Nat.beq (([] ++ l_2)).length (([] ++ l_2)).length) = true from Nat.beq_refl _) <| tO h13 <| tF (not_of h11) <| tO h12 <| tO (show (Nat.beq (([] ++ l_2)).length (([] ++ l_2)).length) = true from Nat.beq_refl _) <| tO h13 <| tO h9 <| tN
          have e_ : Runs Try.prog 33 [(.one (.ref 0 0)), (.one (.pv (.int .u64 n))), (.one (.pv (.ints .u8 p false)))] [[(.own 0 0 ((List.map E_kinfolkref11_Seg.pv r)).length false), (.pv (.int .i64 n2)), (.pv (.bool b)), (.pv (.bool b2)), (.pv (.int .i64 n3)), (.pv (.int .i64 n4))]] [(.recs 2 (List.map E_kinfolkref11_Seg.pv r))] ([(.one (.pv (.int .i64 n7)))], [[(.own 0 0 ((List.map E_kinfolkref11_Seg.pv r2)).length false), (.pv (.int .i64 n2)), (.pv (.bool b)), (.pv (.bool b4)), (.pv (.int .i64 n6)), (.pv (.int .i64 n4))]], [(.recs 2 ((List.map E_kinfolkref11_Seg.pv r2).set (0 + (n9).toNat) (setL ((List.map E_kinfolkref11_Seg.pv r2).getD (0 + (n9).toNat) []) 1 [(.ints .u8 (List.take ((([] ++ l_2) ++ l_)).length (([] ++ l_2) ++ l_)) false)])))]) := runs_of (C := cfg) (objs := [[(.own 0 0 ((List.map E_kinfolkref11_Seg.pv r)).length false), (.pv (.int .i64 n2)), (.pv (.bool b)), (.pv (.bool b2)), (.pv (.int .i64 n3)), (.pv (.int .i64 n4))]]) (sc := t_.ev) (.k1 t_.pf (by kernel_rfl) (by kernel_rfl))
          exact e_.out ⟨.eq rfl, trivial⟩ ⟨⟨.own (by first | rfl | (simp only [List.take_length]; done) | (simp only [List.take_length, List.length_map, List.length_append, List.drop_zero, List.map_append, List.map_take, List.map_drop, List.map_replicate, List.map_cons, List.map_nil, List.append_nil, List.nil_append, E_L_uint8.pv, E_kinfolklaw11_Act.pv, E_kinfolkref11_Seg.pv, E_L_uint8.upd, E_kinfolklaw11_Act.upd, E_kinfolkref11_Seg.upd]; done) | (simp; done)), .eq rfl, .eq rfl, .eq rfl, .eq rfl, .eq rfl, trivial⟩, trivial⟩ ⟨.recs (.eq (el_part (f := E_kinfolkref11_Seg.pv) h10 (by first | rfl | (simp only [List.take_length]; rfl)))), trivial⟩ rfl
/-! ### kinfolklaw11_do_2 -/
noncomputable def kinfolklaw11_do_2 (a : Int) (a2 : Int) (a3 : List Int) (a4 : Int) (a5 : Int) (a6 : Bool) (n : Int) (b : Bool) (b2 : Bool) (n2 : Int) (n3 : Int) (m : List (Int × (List Int))) (n4 : Int) (b3 : Bool) (b4 : Bool) (n5 : Int) (n6 : Int) (r : List E_kinfolkref11_Seg) : Option (Bool × Bool × Bool × Int × Int × List (Int × (List Int)) × Bool × Bool × Int × Int × List E_kinfolkref11_Seg) :=
  bif (decide (((irem .u8 a 9) : Int) = 4)) then
    (disk_Disk_Drop_2 a2 n b b2 n2 n3 m).bind fun (n7, b5, n8, m_) =>
    (kinfolkref11_Drop_2 a2 n4 b3 b4 n5 n6 r).bind fun (n9, b6, n10, r2) =>
    some ((decide ((n7 : Int) = n9)), b, b5, n8, n3, m_, b3, b6, n10, n6, r2)
  else
    bif (decide (((irem .u8 a 9) : Int) = 5)) then
      (disk_Disk_Arm a4 a5 n b b2 n2 n3 m).bind fun n7 =>
      some (true, b, b2, n7, a5, m, b3, b4, (if (a4 : Int) < 0 then 0 else a4), a5, r)
    else
      bif (decide (((irem .u8 a 9) : Int) = 6)) then
        (disk_Disk_Off_2 n b b2 n2 n3 m).bind fun _ =>
        some (true, b, true, n2, n3, m, b3, true, n5, n6, r)
      else
        bif (decide (((irem .u8 a 9) : Int) = 7)) then
          (disk_Disk_On_2 n b b2 n2 n3 m).bind fun _ =>
          (kinfolkref11_On_2 n4 b3 b4 n5 n6 r).bind fun _ =>
          some (true, b, false, 0, n3, m, b3, false, 0, n6, r)
        else
          bif (decide (((irem .u8 a 9) : Int) = 8)) then
            (disk_Disk_Full_2 a6 n b b2 n2 n3 m).bind fun _ =>
            some (true, a6, b2, n2, n3, m, a6, b4, n5, n6, r)
          else
            (kinfolklaw11_cut a3).bind fun l_ =>
            (disk_Disk_Append a2 l_ n b b2 n2 n3 m).bind fun (n7, b5, n8, m_) =>
            (kinfolkref11_Append_3 a2 l_ n4 b3 b4 n5 n6 r).bind fun (n9, b6, n10, r2) =>
            some ((decide ((n7 : Int) = n9)), b, b5, n8, n3, m_, b3, b6, n10, n6, r2)
theorem kinfolklaw11_do_2_runs (a : Int) (a2 : Int) (a3 : List Int) (a4 : Int) (a5 : Int) (a6 : Bool) (n : Int) (b : Bool) (b2 : Bool) (n2 : Int) (n3 : Int) (m : List (Int × (List Int))) (n4 : Int) (b3 : Bool) (b4 : Bool) (n5 : Int) (n6 : Int) (r : List E_kinfolkref11_Seg) (r_ : Bool × Bool × Bool × Int × Int × List (Int × (List Int)) × Bool × Bool × Int × Int × List E_kinfolkref11_Seg) (h : kinfolklaw11_do_2 a a2 a3 a4 a5 a6 n b b2 n2 n3 m n4 b3 b4 n5 n6 r = some r_) : Runs Try.prog 27 [(.one (.ref 0 0)), (.one (.ref 2 0)), (.agg [(.pv (.int .u8 a)), (.pv (.int .u64 a2)), (.pv (.ints .u8 a3 false)), (.pv (.int .i64 a4)), (.pv (.int .i64 a5)), (.pv (.bool a6))])] [[(.mp 1), (.pv (.int .i64 n)), (.pv (.bool b)), (.pv (.bool b2)), (.pv (.int .i64 n2)), (.pv (.int .i64 n3))], [(.maph (.int .u64) false (List.map M_uint64_uint8.pv m) [])], [(.own 0 0 ((List.map E_kinfolkref11_Seg.pv r)).length false), (.pv (.int .i64 n4)), (.pv (.bool b3)), (.pv (.bool b4)), (.pv (.int .i64 n5)), (.pv (.int .i64 n6))]] [(.recs 2 (List.map E_kinfolkref11_Seg.pv r))] (kinfolklaw11_do_2_out a a2 a3 a4 a5 a6 n b b2 n2 n3 m n4 b3 b4 n5 n6 r r_) := by
  unfold kinfolklaw11_do_2 at h
  rcases cond_of h with ⟨h1, h⟩ | ⟨h1, h⟩
  · obtain ⟨⟨n7, b5, n8, m_⟩, h2, h⟩ := bind_of h
    obtain ⟨⟨n9, b6, n10, r2⟩, h3, h⟩ := bind_of h
    have h := some_of h
    subst h
    have t_ := tO (rfl : true = true) <| tT h1 <| tR (disk_Disk_Drop_2_runs a2 n b b2 n2 n3 m _ h2) <| tR (disk_Disk_Drop_2_runs a2 n b b2 n2 n3 m _ h2) <| tR (kinfolkref11_Drop_2_runs a2 n4 b3 b4 n5 n6 r _ h3) <| tN
    exact runs_of (C := cfg) (objs := [[(.mp 1), (.pv (.int .i64 n)), (.pv (.bool b)), (.pv (.bool b2)), (.pv (.int .i64 n2)), (.pv (.int .i64 n3))], [(.maph (.int .u64) false (List.map M_uint64_uint8.pv m) [])], [(.own 0 0 ((List.map E_kinfolkref11_Seg.pv r)).length false), (.pv (.int .i64 n4)), (.pv (.bool b3)), (.pv (.bool b4)), (.pv (.int .i64 n5)), (.pv (.int .i64 n6))]]) (sc := t_.ev) (.k1 t_.pf (by kernel_rfl) (by kernel_rfl))
  · rcases cond_of h with ⟨h2, h⟩ | ⟨h2, h⟩
    · obtain ⟨n7, h3, h⟩ := bind_of h
      have h := some_of h
      subst h
      have t_ := tO (rfl : true = true) <| tF h1 <| tT h2 <| tR (disk_Disk_Arm_runs a4 a5 n b b2 n2 n3 m _ h3) <| tN
      exact runs_of (C := cfg) (objs := [[(.mp 1), (.pv (.int .i64 n)), (.pv (.bool b)), (.pv (.bool b2)), (.pv (.int .i64 n2)), (.pv (.int .i64 n3))], [(.maph (.int .u64) false (List.map M_uint64_uint8.pv m) [])], [(.own 0 0 ((List.map E_kinfolkref11_Seg.pv r)).length false), (.pv (.int .i64 n4)), (.pv (.bool b3)), (.pv (.bool b4)), (.pv (.int .i64 n5)), (.pv (.int .i64 n6))]]) (sc := t_.ev) (.k1 t_.pf (by kernel_rfl) (by kernel_rfl))
    · rcases cond_of h with ⟨h3, h⟩ | ⟨h3, h⟩
      · obtain ⟨_, h4, h⟩ := bind_of h
        have h := some_of h
        subst h
        have t_ := tO (rfl : true = true) <| tF h1 <| tF h2 <| tT h3 <| tR (disk_Disk_Off_2_runs n b b2 n2 n3 m _ h4) <| tN
        exact runs_of (C := cfg) (objs := [[(.mp 1), (.pv (.int .i64 n)), (.pv (.bool b)), (.pv (.bool b2)), (.pv (.int .i64 n2)), (.pv (.int .i64 n3))], [(.maph (.int .u64) false (List.map M_uint64_uint8.pv m) [])], [(.own 0 0 ((List.map E_kinfolkref11_Seg.pv r)).length false), (.pv (.int .i64 n4)), (.pv (.bool b3)), (.pv (.bool b4)), (.pv (.int .i64 n5)), (.pv (.int .i64 n6))]]) (sc := t_.ev) (.k0 t_.pf (by kernel_rfl))
      · rcases cond_of h with ⟨h4, h⟩ | ⟨h4, h⟩
        · obtain ⟨_, h5, h⟩ := bind_of h
          obtain ⟨_, h6, h⟩ := bind_of h
          have h := some_of h
          subst h
          have t_ := tO (rfl : true = true) <| tF h1 <| tF h2 <| tF h3 <| tT h4 <| tR (disk_Disk_On_2_runs n b b2 n2 n3 m _ h5) <| tR (kinfolkref11_On_2_runs n4 b3 b4 n5 n6 r _ h6) <| tN
          exact runs_of (C := cfg) (objs := [[(.mp 1), (.pv (.int .i64 n)), (.pv (.bool b)), (.pv (.bool b2)), (.pv (.int .i64 n2)), (.pv (.int .i64 n3))], [(.maph (.int .u64) false (List.map M_uint64_uint8.pv m) [])], [(.own 0 0 ((List.map E_kinfolkref11_Seg.pv r)).length false), (.pv (.int .i64 n4)), (.pv (.bool b3)), (.pv (.bool b4)), (.pv (.int .i64 n5)), (.pv (.int .i64 n6))]]) (sc := t_.ev) (.k0 t_.pf (by kernel_rfl))
        · rcases cond_of h with ⟨h5, h⟩ | ⟨h5, h⟩
          · obtain ⟨_, h6, h⟩ := bind_of h
            have h := some_of h
            subst h
            have t_ := tO (rfl : true = true) <| tF h1 <| tF h2 <| tF h3 <| tF h4 <| tT h5 <| tR (disk_Disk_Full_2_runs a6 n b b2 n2 n3 m _ h6) <| tN
            exact runs_of (C := cfg) (objs := [[(.mp 1), (.pv (.int .i64 n)), (.pv (.bool b)), (.pv (.bool b2)), (.pv (.int .i64 n2)), (.pv (.int .i64 n3))], [(.maph (.int .u64) false (List.map M_uint64_uint8.pv m) [])], [(.own 0 0 ((List.map E_kinfolkref11_Seg.pv r)).length false), (.pv (.int .i64 n4)), (.pv (.bool b3)), (.pv (.bool b4)), (.pv (.int .i64 n5)), (.pv (.int .i64 n6))]]) (sc := t_.ev) (.k0 t_.pf (by kernel_rfl))
          · obtain ⟨l_, h6, h⟩ := bind_of h
            obtain ⟨⟨n7, b5, n8, m_⟩, h7, h⟩ := bind_of h
            obtain ⟨⟨n9, b6, n10, r2⟩, h8, h⟩ := bind_of h
            have h := some_of h
            subst h
            have t_ := tO (rfl : true = true) <| tF h1 <| tF h2 <| tF h3 <| tF h4 <| tF h5 <| tR (kinfolklaw11_cut_runs a3 _ h6) <| tR (kinfolklaw11_cut_runs a3 _ h6) <| tR (kinfolklaw11_cut_runs a3 _ h6) <| tR (kinfolklaw11_cut_runs a3 _ h6) <| tR (kinfolklaw11_cut_runs a3 _ h6) <| tR (kinfolklaw11_cut_runs a3 _ h6) <| tR (kinfolklaw11_cut_runs a3 _ h6) <| tR (disk_Disk_Append_runs a2 l_ n b b2 n2 n3 m _ h7) <| tR (disk_Disk_Append_runs a2 l_ n b b2 n2 n3 m _ h7) <| tR (disk_Disk_Append_runs a2 l_ n b b2 n2 n3 m _ h7) <| tR (kinfolklaw11_cut_runs a3 _ h6) <| tR (disk_Disk_Append_runs a2 l_ n b b2 n2 n3 m _ h7) <| tR (kinfolklaw11_cut_runs a3 _ h6) <| tR (kinfolklaw11_cut_runs a3 _ h6) <| tR (kinfolkref11_Append_3_runs a2 l_ n4 b3 b4 n5 n6 r _ h8) <| tN
            exact runs_of (C := cfg) (objs := [[(.mp 1), (.pv (.int .i64 n)), (.pv (.bool b)), (.pv (.bool b2)), (.pv (.int .i64 n2)), (.pv (.int .i64 n3))], [(.maph (.int .u64) false (List.map M_uint64_uint8.pv m) [])], [(.own 0 0 ((List.map E_kinfolkref11_Seg.pv r)).length false), (.pv (.int .i64 n4)), (.pv (.bool b3)), (.pv (.bool b4)), (.pv (.int .i64 n5)), (.pv (.int .i64 n6))]]) (sc := t_.ev) (.k1 t_.pf (by kernel_rfl) (by kernel_rfl))
/-! ### kinfolklaw11_DiskPlays_L0_2 -/
def kinfolklaw11_DiskPlays_L0_2_st (r : List E_kinfolklaw11_Act) (n : Int) (n2 : Int) (n3 : Int) : Int × Bool × Bool × Int × Int × List (Int × (List Int)) × Bool × Bool × Int × Int × List E_kinfolkref11_Seg → St
  | (n4, b, b2, n5, n6, m, b3, b4, n7, n8, r2) => ⟨[(5, (.av (.one (.ref 0 0)))), (6, (.av (.one (.ref 2 0)))), (17, (.av (.one (.pv (.recs 6 (List.map E_kinfolklaw11_Act.pv r) false))))), (18, (.av (.one (.pv (.int .i64 n))))), (19, (.av (.one (.pv (.int .i64 n4)))))], [(0, [(.mp 1), (.pv (.int .i64 n2)), (.pv (.bool b)), (.pv (.bool b2)), (.pv (.int .i64 n5)), (.pv (.int .i64 n6))]), (1, [(.maph (.int .u64) false (List.map M_uint64_uint8.pv m) [])]), (2, [(.own 0 0 ((List.map E_kinfolkref11_Seg.pv r2)).length false), (.pv (.int .i64 n3)), (.pv (.bool b3)), (.pv (.bool b4)), (.pv (.int .i64 n7)), (.pv (.int .i64 n8))])], [(0, (.live (.recs 2 (List.map E_kinfolkref11_Seg.pv r2))))]⟩
def kinfolklaw11_DiskPlays_L0_2_ex (r : List E_kinfolklaw11_Act) (n : Int) (n2 : Int) (n3 : Int) : (Bool × Bool × Int × Int × List (Int × (List Int)) × Bool × Bool × Int × Int × Int × Int × List Int × Int × Int × Bool × List E_kinfolkref11_Seg) ⊕ ((Unit) ⊕ (Bool × Bool × Int × Int × List (Int × (List Int)) × Bool × Bool × Int × Int × List E_kinfolkref11_Seg)) → Ex × St
  | .inl (r1, r2, r3, r4, r5, r6, r7, r8, r9, r10, r11, r12, r13, r14, r15, r16) => ((.exit 0), ⟨[(5, (.av (.one (.ref 0 0)))), (6, (.av (.one (.ref 2 0))))], [(0, [(.mp 1), (.pv (.int .i64 n2)), (.pv (.bool r1)), (.pv (.bool r2)), (.pv (.int .i64 r3)), (.pv (.int .i64 r4))]), (1, [(.maph (.int .u64) false (List.map M_uint64_uint8.pv r5) [])]), (2, [(.own 0 0 ((List.map E_kinfolkref11_Seg.pv r16)).length false), (.pv (.int .i64 n3)), (.pv (.bool r6)), (.pv (.bool r7)), (.pv (.int .i64 r8)), (.pv (.int .i64 r9))]), (3, [(.pv (.int .u8 r10)), (.pv (.int .u64 r11)), (.pv (.ints .u8 r12 false)), (.pv (.int .i64 r13)), (.pv (.int .i64 r14)), (.pv (.bool r15))])], [(0, (.live (.recs 2 (List.map E_kinfolkref11_Seg.pv r16))))]⟩)
  | .inr (.inl _) => (.ret, ⟨[(4, (.av (.one (.pv (.bool false)))))], [], []⟩)
  | .inr (.inr (r1, r2, r3, r4, r5, r6, r7, r8, r9, r10)) => ((.exit 0), ⟨[(5, (.av (.one (.ref 0 0)))), (6, (.av (.one (.ref 2 0))))], [(0, [(.mp 1), (.pv (.int .i64 n2)), (.pv (.bool r1)), (.pv (.bool r2)), (.pv (.int .i64 r3)), (.pv (.int .i64 r4))]), (1, [(.maph (.int .u64) false (List.map M_uint64_uint8.pv r5) [])]), (2, [(.own 0 0 ((List.map E_kinfolkref11_Seg.pv r10)).length false), (.pv (.int .i64 n3)), (.pv (.bool r6)), (.pv (.bool r7)), (.pv (.int .i64 r8)), (.pv (.int .i64 r9))])], [(0, (.live (.recs 2 (List.map E_kinfolkref11_Seg.pv r10))))]⟩)
noncomputable def kinfolklaw11_DiskPlays_L0_2_step (r : List E_kinfolklaw11_Act) (n : Int) (n2 : Int) (n3 : Int) : Int × Bool × Bool × Int × Int × List (Int × (List Int)) × Bool × Bool × Int × Int × List E_kinfolkref11_Seg → Option ((Int × Bool × Bool × Int × Int × List (Int × (List Int)) × Bool × Bool × Int × Int × List E_kinfolkref11_Seg) ⊕ ((Bool × Bool × Int × Int × List (Int × (List Int)) × Bool × Bool × Int × Int × Int × Int × List Int × Int × Int × Bool × List E_kinfolkref11_Seg) ⊕ ((Unit) ⊕ (Bool × Bool × Int × Int × List (Int × (List Int)) × Bool × Bool × Int × Int × List E_kinfolkref11_Seg))))
  | (n4, b, b2, n5, n6, m, b3, b4, n7, n8, r2) =>
  bif (decide ((n4 : Int) < n)) then
    bif decide ((0 : Int) ≤ n4) && decide ((n4 : Int) < (((List.map E_kinfolklaw11_Act.pv r)).length : Int)) then
    (r[(n4).toNat]?).bind fun e_ => match e_ with
    | .mk n9 n10 l_ n11 n12 b5 =>
    bif (decide ((50 : Int) ≤ n4)) then
      some (.inr (.inl (b, b2, n5, n6, m, b3, b4, n7, n8, n9, n10, l_, n11, n12, b5, r2)))
    else
      (kinfolklaw11_do_2 n9 n10 l_ n11 n12 b5 n2 b b2 n5 n6 m n3 b3 b4 n7 n8 r2).bind fun (b6, b7, b8, n13, n14, m_, b9, b10, n15, n16, r3) =>
      bif b6 then
        (kinfolklaw11_like_2 n2 b7 b8 n13 n14 m_ n3 b9 b10 n15 n16 r3).bind fun b11 =>
        bif b11 then
          some (.inl ((iadd .i64 n4 1), b7, b8, n13, n14, m_, b9, b10, n15, n16, r3))
        else
          some (.inr (.inr (.inl ())))
      else
        some (.inr (.inr (.inl ())))
    else none
  else
    some (.inr (.inr (.inr (b, b2, n5, n6, m, b3, b4, n7, n8, r2))))
theorem kinfolklaw11_DiskPlays_L0_2_ok (r : List E_kinfolklaw11_Act) (n : Int) (n2 : Int) (n3 : Int) (s_ : Int × Bool × Bool × Int × Int × List (Int × (List Int)) × Bool × Bool × Int × Int × List E_kinfolkref11_Seg) (z_ : (Int × Bool × Bool × Int × Int × List (Int × (List Int)) × Bool × Bool × Int × Int × List E_kinfolkref11_Seg) ⊕ ((Bool × Bool × Int × Int × List (Int × (List Int)) × Bool × Bool × Int × Int × Int × Int × List Int × Int × Int × Bool × List E_kinfolkref11_Seg) ⊕ ((Unit) ⊕ (Bool × Bool × Int × Int × List (Int × (List Int)) × Bool × Bool × Int × Int × List E_kinfolkref11_Seg)))) (h : kinfolklaw11_DiskPlays_L0_2_step r n n2 n3 s_ = some z_) : RoundOk Try.prog cfg 5 0 (loopAt Try.prog 5 0) (kinfolklaw11_DiskPlays_L0_2_st r n n2 n3) (kinfolklaw11_DiskPlays_L0_2_ex r n n2 n3) s_ z_ := by
  rcases s_ with ⟨n4, b, b2, n5, n6, m, b3, b4, n7, n8, r2⟩
  rcases cond_of h with ⟨h1, h⟩ | ⟨h1, h⟩
  · obtain ⟨h2, h⟩ := need_of h
    obtain ⟨⟨n9, n10, l_, n11, n12, b5⟩, h3, h⟩ := bind_of h
    rcases cond_of h with ⟨h4, h⟩ | ⟨h4, h⟩
    · have h := some_of h
      subst h
      have t_ := tT h1 <| tO h2 <| tE (.el [(.int .u8 n9), (.int .u64 n10), (.ints .u8 l_ false), (.int .i64 n11), (.int .i64 n12), (.bool b5)]) <| tO (el_of (f := E_kinfolklaw11_Act.pv) h3) <| tT h4 <| tN
      exact ⟨t_.ev, ⟨[(25, (.av (.one (.pv (.bool true))))), (5, (.av (.one (.ref 0 0)))), (6, (.av (.one (.ref 2 0)))), (8, (.av (.one (.ref 3 0)))), (17, (.av (.one (.pv (.recs 6 (List.map E_kinfolklaw11_Act.pv r) false))))), (18, (.av (.one (.pv (.int .i64 n))))), (19, (.av (.one (.pv (.int .i64 n4))))), (25, (.av (.one (.pv (.bool (decide ((50 : Int) ≤ n4)))))))], [(0, [(.mp 1), (.pv (.int .i64 n2)), (.pv (.bool b)), (.pv (.bool b2)), (.pv (.int .i64 n5)), (.pv (.int .i64 n6))]), (1, [(.maph (.int .u64) false (List.map M_uint64_uint8.pv m) [])]), (2, [(.own 0 0 ((List.map E_kinfolkref11_Seg.pv r2)).length false), (.pv (.int .i64 n3)), (.pv (.bool b3)), (.pv (.bool b4)), (.pv (.int .i64 n7)), (.pv (.int .i64 n8))]), (3, [(.pv (.int .u8 n9)), (.pv (.int .u64 n10)), (.pv (.ints .u8 l_ false)), (.pv (.int .i64 n11)), (.pv (.int .i64 n12)), (.pv (.bool b5))])], [(0, (.live (.recs 2 (List.map E_kinfolkref11_Seg.pv r2))))]⟩, .k0 t_.pf (by kernel_rfl), ⟨⟨⟨_, rfl, .eq rfl⟩, ⟨_, rfl, .eq rfl⟩, trivial⟩, ⟨⟨rfl, ⟨.eq rfl, .eq rfl, .eq rfl, .eq rfl, .eq rfl, .eq rfl, trivial⟩⟩, ⟨rfl, ⟨.eq rfl, trivial⟩⟩, ⟨rfl, ⟨.eq rfl, .eq rfl, .eq rfl, .eq rfl, .eq rfl, .eq rfl, trivial⟩⟩, ⟨rfl, ⟨.eq rfl, .eq rfl, .eq rfl, .eq rfl, .eq rfl, .eq rfl, trivial⟩⟩, trivial⟩, ⟨⟨rfl, .eq rfl⟩, trivial⟩⟩⟩
    · obtain ⟨⟨b6, b7, b8, n13, n14, m_, b9, b10, n15, n16, r3⟩, h5, h⟩ := bind_of h
      have q_5 := (kinfolklaw11_do_2_runs n9 n10 l_ n11 n12 b5 n2 b b2 n5 n6 m n3 b3 b4 n7 n8 r2 _ h5)
      rcases cond_of h with ⟨h6, h⟩ | ⟨h6, h⟩
      · obtain ⟨b11, h7, h⟩ := bind_of h
        have q_7 := (kinfolklaw11_like_2_runs n2 b7 b8 n13 n14 m_ n3 b9 b10 n15 n16 r3 _ h7)
        rcases cond_of h with ⟨h8, h⟩ | ⟨h8, h⟩
        · have h := some_of h
          subst h
          have t_ := tT h1 <| tO h2 <| tE (.el [(.int .u8 n9), (.int .u64 n10), (.ints .u8 l_ false), (.int .i64 n11), (.int .i64 n12), (.bool b5)]) <| tO (el_of (f := E_kinfolklaw11_Act.pv) h3) <| tF h4 <| tR q_5 <| tF (not_of2 h6) <| tR q_7 <| tF (not_of2 h8) <| tN
          exact ⟨t_.ev, kinfolklaw11_DiskPlays_L0_2_st r n n2 n3 ((iadd .i64 n4 1), b7, b8, n13, n14, m_, b9, b10, n15, n16, r3), .k0 t_.pf (by kernel_rfl), .same (by kernel_rfl)⟩
        · have h := some_of h
          subst h
          have t_ := tT h1 <| tO h2 <| tE (.el [(.int .u8 n9), (.int .u64 n10), (.ints .u8 l_ false), (.int .i64 n11), (.int .i64 n12), (.bool b5)]) <| tO (el_of (f := E_kinfolklaw11_Act.pv) h3) <| tF h4 <| tR q_5 <| tF (not_of2 h6) <| tR q_7 <| tT (not_of h8) <| tN
          exact ⟨t_.ev, (kinfolklaw11_DiskPlays_L0_2_ex r n n2 n3 (.inr (.inl ()))).2, .k0 t_.pf (by kernel_rfl), .same (by kernel_rfl)⟩
      · have h := some_of h
        subst h
        have t_ := tT h1 <| tO h2 <| tE (.el [(.int .u8 n9), (.int .u64 n10), (.ints .u8 l_ false), (.int .i64 n11), (.int .i64 n12), (.bool b5)]) <| tO (el_of (f := E_kinfolklaw11_Act.pv) h3) <| tF h4 <| tR q_5 <| tT (not_of h6) <| tT (rfl : true = true) <| tN
        exact ⟨t_.ev, (kinfolklaw11_DiskPlays_L0_2_ex r n n2 n3 (.inr (.inl ()))).2, .k0 t_.pf (by kernel_rfl), .same (by kernel_rfl)⟩
  · have h := some_of h
    subst h
    have t_ := tF h1 <| tN
    exact ⟨t_.ev, ⟨[(20, (.av (.one (.pv (.bool false))))), (5, (.av (.one (.ref 0 0)))), (6, (.av (.one (.ref 2 0)))), (17, (.av (.one (.pv (.recs 6 (List.map E_kinfolklaw11_Act.pv r) false))))), (18, (.av (.one (.pv (.int .i64 n))))), (19, (.av (.one (.pv (.int .i64 n4))))), (20, (.av (.one (.pv (.bool (decide ((n4 : Int) < n)))))))], [(0, [(.mp 1), (.pv (.int .i64 n2)), (.pv (.bool b)), (.pv (.bool b2)), (.pv (.int .i64 n5)), (.pv (.int .i64 n6))]), (1, [(.maph (.int .u64) false (List.map M_uint64_uint8.pv m) [])]), (2, [(.own 0 0 ((List.map E_kinfolkref11_Seg.pv r2)).length false), (.pv (.int .i64 n3)), (.pv (.bool b3)), (.pv (.bool b4)), (.pv (.int .i64 n7)), (.pv (.int .i64 n8))])], [(0, (.live (.recs 2 (List.map E_kinfolkref11_Seg.pv r2))))]⟩, .k0 t_.pf (by kernel_rfl), ⟨⟨⟨_, rfl, .eq rfl⟩, ⟨_, rfl, .eq rfl⟩, trivial⟩, ⟨⟨rfl, ⟨.eq rfl, .eq rfl, .eq rfl, .eq rfl, .eq rfl, .eq rfl, trivial⟩⟩, ⟨rfl, ⟨.eq rfl, trivial⟩⟩, ⟨rfl, ⟨.eq rfl, .eq rfl, .eq rfl, .eq rfl, .eq rfl, .eq rfl, trivial⟩⟩, trivial⟩, ⟨⟨rfl, .eq rfl⟩, trivial⟩⟩⟩
theorem kinfolklaw11_DiskPlays_L0_2_runs (r : List E_kinfolklaw11_Act) (n : Int) (n2 : Int) (n3 : Int) (s_ : Int × Bool × Bool × Int × Int × List (Int × (List Int)) × Bool × Bool × Int × Int × List E_kinfolkref11_Seg) (r_ : (Bool × Bool × Int × Int × List (Int × (List Int)) × Bool × Bool × Int × Int × Int × Int × List Int × Int × Int × Bool × List E_kinfolkref11_Seg) ⊕ ((Unit) ⊕ (Bool × Bool × Int × Int × List (Int × (List Int)) × Bool × Bool × Int × Int × List E_kinfolkref11_Seg))) (h : runL (kinfolklaw11_DiskPlays_L0_2_step r n n2 n3) s_ = some r_) : LRuns Try.prog (lEnv Try.prog cfg 5 0).nt 0 (.loop (loopAt Try.prog 5 0)) (kinfolklaw11_DiskPlays_L0_2_st r n n2 n3 s_) (kinfolklaw11_DiskPlays_L0_2_ex r n n2 n3 r_).1 (kinfolklaw11_DiskPlays_L0_2_ex r n n2 n3 r_).2 :=
  loop_run h (kinfolklaw11_DiskPlays_L0_2_ok r n n2 n3) (by intro r_; rcases r_ with ⟨r1, r2, r3, r4, r5, r6, r7, r8, r9, r10, r11, r12, r13, r14, r15, r16⟩ | (_ | ⟨r1, r2, r3, r4, r5, r6, r7, r8, r9, r10⟩) <;> simp [kinfolklaw11_DiskPlays_L0_2_ex])
/-! ### kinfolklaw11_DiskPlays -/
noncomputable def kinfolklaw11_DiskPlays (room : Int) (acts : List E_kinfolklaw11_Act) : Option (Bool) :=
  (kinfolklaw11_awake).bind fun b =>
  bif b then
    (disk_New room).bind fun n =>
    (kinfolkref11_New room).bind fun n2 =>
    (runL (kinfolklaw11_DiskPlays_L0_2_step acts (((List.map E_kinfolklaw11_Act.pv acts)).length : Int) n n2) (0, false, false, 0, 0, [], false, false, 0, 0, [])).bind fun z_ => match z_ with
    | .inl (b2, b3, n3, n4, m_, b4, b5, n5, n6, n7, n8, l_, n9, n10, b6, r) =>
      (disk_Disk_Read 9223372036854775808 n b2 b3 n3 n4 m_).bind fun (l_2, b7) =>
      (kinfolkref11_Find_2 9223372036854775808 n2 b4 b5 n5 n6 r).bind fun n11 =>
      some (b7 == (decide ((0 : Int) ≤ n11)))
    | .inr (.inl _) =>
      some false
    | .inr (.inr (b2, b3, n3, n4, m_, b4, b5, n5, n6, r)) =>
      (disk_Disk_Read 9223372036854775808 n b2 b3 n3 n4 m_).bind fun (l_, b6) =>
      (kinfolkref11_Find_2 9223372036854775808 n2 b4 b5 n5 n6 r).bind fun n7 =>
      some (b6 == (decide ((0 : Int) ≤ n7)))
  else
    some false
theorem kinfolklaw11_DiskPlays_runs (room : Int) (acts : List E_kinfolklaw11_Act) (r_ : Bool) (h : kinfolklaw11_DiskPlays room acts = some r_) : Runs Try.prog 5 [(.one (.pv (.int .i64 room))), (.one (.pv (.recs 6 (List.map E_kinfolklaw11_Act.pv acts) false)))] [] [] (kinfolklaw11_DiskPlays_out room acts r_) := by
  unfold kinfolklaw11_DiskPlays at h
  obtain ⟨b, h1, h⟩ := bind_of h
  rcases cond_of h with ⟨h2, h⟩ | ⟨h2, h⟩
  · obtain ⟨n, h3, h⟩ := bind_of h
    obtain ⟨n2, h4, h⟩ := bind_of h
    obtain ⟨z_, h5, h⟩ := bind_of h
    rcases z_ with ⟨b2, b3, n3, n4, m_, b4, b5, n5, n6, n7, n8, l_, n9, n10, b6, r⟩ | (_ | ⟨b2, b3, n3, n4, m_, b4, b5, n5, n6, r⟩)
    · obtain ⟨⟨l_2, b7⟩, h6, h⟩ := bind_of h
      obtain ⟨n11, h7, h⟩ := bind_of h
      have h := some_of h
      subst h
      have t_ := tR (kinfolklaw11_awake_runs _ h1) <| tF (not_of2 h2) <| tR (disk_New_runs room _ h3) <| tR (kinfolkref11_New_runs room _ h4) <| tL (LRuns.coe (s0 := ⟨[(5, (.av (.one (.ref 0 0)))), (6, (.av (.one (.ref 2 0)))), (17, (.av (.one (.pv (.recs 6 (List.map E_kinfolklaw11_Act.pv acts) false))))), (18, (.av (.one (.pv (.int .i64 (((List.map E_kinfolklaw11_Act.pv acts)).length : Int)))))), (19, (.av (.one (.pv (.int .i64 0)))))], [(0, [(.mp 1), (.pv (.int .i64 n)), (.pv (.bool false)), (.pv (.bool false)), (.pv (.int .i64 0)), (.pv (.int .i64 0))]), (1, [(.maph (.int .u64) false (List.map M_uint64_uint8.pv []) [])]), (2, [(.own 0 0 0 false), (.pv (.int .i64 n2)), (.pv (.bool false)), (.pv (.bool false)), (.pv (.int .i64 0)), (.pv (.int .i64 0))])], [(0, (.live (.recs 2 [])))]⟩) (kinfolklaw11_DiskPlays_L0_2_runs acts (((List.map E_kinfolklaw11_Act.pv acts)).length : Int) n n2 _ _ h5) ⟨⟨⟨_, rfl, .eq rfl⟩, ⟨_, rfl, .eq rfl⟩, ⟨_, rfl, .eq rfl⟩, ⟨_, rfl, .eq rfl⟩, ⟨_, rfl, .eq rfl⟩, trivial⟩, ⟨⟨rfl, ⟨.eq rfl, .eq rfl, .eq rfl, .eq rfl, .eq rfl, .eq rfl, trivial⟩⟩, ⟨rfl, ⟨.eq rfl, trivial⟩⟩, ⟨rfl, ⟨.own (by first | rfl | (simp only [List.take_length]; done) | (simp only [List.take_length, List.length_map, List.length_append, List.drop_zero, List.map_append, List.map_take, List.map_drop, List.map_replicate, List.map_cons, List.map_nil, List.append_nil, List.nil_append, E_L_uint8.pv, E_kinfolklaw11_Act.pv, E_kinfolkref11_Seg.pv, E_L_uint8.upd, E_kinfolklaw11_Act.upd, E_kinfolkref11_Seg.upd]; done) | (simp; done)), .eq rfl, .eq rfl, .eq rfl, .eq rfl, .eq rfl, trivial⟩⟩, trivial⟩, ⟨⟨rfl, .recs (.nil)⟩, trivial⟩⟩) <| tR (disk_Disk_Read_runs 9223372036854775808 n b2 b3 n3 n4 m_ _ h6) <| tR (kinfolkref11_Find_2_runs 9223372036854775808 n2 b4 b5 n5 n6 r _ h7) <| tN
      exact runs_of (C := cfg) (objs := []) (sc := t_.ev) (.k0 t_.pf (by kernel_rfl))
    · have h := some_of h
      subst h
      have t_ := tR (kinfolklaw11_awake_runs _ h1) <| tF (not_of2 h2) <| tR (disk_New_runs room _ h3) <| tR (kinfolkref11_New_runs room _ h4) <| tL (LRuns.coe (s0 := ⟨[(5, (.av (.one (.ref 0 0)))), (6, (.av (.one (.ref 2 0)))), (17, (.av (.one (.pv (.recs 6 (List.map E_kinfolklaw11_Act.pv acts) false))))), (18, (.av (.one (.pv (.int .i64 (((List.map E_kinfolklaw11_Act.pv acts)).length : Int)))))), (19, (.av (.one (.pv (.int .i64 0)))))], [(0, [(.mp 1), (.pv (.int .i64 n)), (.pv (.bool false)), (.pv (.bool false)), (.pv (.int .i64 0)), (.pv (.int .i64 0))]), (1, [(.maph (.int .u64) false (List.map M_uint64_uint8.pv []) [])]), (2, [(.own 0 0 0 false), (.pv (.int .i64 n2)), (.pv (.bool false)), (.pv (.bool false)), (.pv (.int .i64 0)), (.pv (.int .i64 0))])], [(0, (.live (.recs 2 [])))]⟩) (kinfolklaw11_DiskPlays_L0_2_runs acts (((List.map E_kinfolklaw11_Act.pv acts)).length : Int) n n2 _ _ h5) ⟨⟨⟨_, rfl, .eq rfl⟩, ⟨_, rfl, .eq rfl⟩, ⟨_, rfl, .eq rfl⟩, ⟨_, rfl, .eq rfl⟩, ⟨_, rfl, .eq rfl⟩, trivial⟩, ⟨⟨rfl, ⟨.eq rfl, .eq rfl, .eq rfl, .eq rfl, .eq rfl, .eq rfl, trivial⟩⟩, ⟨rfl, ⟨.eq rfl, trivial⟩⟩, ⟨rfl, ⟨.own (by first | rfl | (simp only [List.take_length]; done) | (simp only [List.take_length, List.length_map, List.length_append, List.drop_zero, List.map_append, List.map_take, List.map_drop, List.map_replicate, List.map_cons, List.map_nil, List.append_nil, List.nil_append, E_L_uint8.pv, E_kinfolklaw11_Act.pv, E_kinfolkref11_Seg.pv, E_L_uint8.upd, E_kinfolklaw11_Act.upd, E_kinfolkref11_Seg.upd]; done) | (simp; done)), .eq rfl, .eq rfl, .eq rfl, .eq rfl, .eq rfl, trivial⟩⟩, trivial⟩, ⟨⟨rfl, .recs (.nil)⟩, trivial⟩⟩) <| tN
      exact runs_of (C := cfg) (objs := []) (sc := t_.ev) (.k0 t_.pf (by kernel_rfl))
    · obtain ⟨⟨l_, b6⟩, h6, h⟩ := bind_of h
      obtain ⟨n7, h7, h⟩ := bind_of h
      have h := some_of h
      subst h
      have t_ := tR (kinfolklaw11_awake_runs _ h1) <| tF (not_of2 h2) <| tR (disk_New_runs room _ h3) <| tR (kinfolkref11_New_runs room _ h4) <| tL (LRuns.coe (s0 := ⟨[(5, (.av (.one (.ref 0 0)))), (6, (.av (.one (.ref 2 0)))), (17, (.av (.one (.pv (.recs 6 (List.map E_kinfolklaw11_Act.pv acts) false))))), (18, (.av (.one (.pv (.int .i64 (((List.map E_kinfolklaw11_Act.pv acts)).length : Int)))))), (19, (.av (.one (.pv (.int .i64 0)))))], [(0, [(.mp 1), (.pv (.int .i64 n)), (.pv (.bool false)), (.pv (.bool false)), (.pv (.int .i64 0)), (.pv (.int .i64 0))]), (1, [(.maph (.int .u64) false (List.map M_uint64_uint8.pv []) [])]), (2, [(.own 0 0 0 false), (.pv (.int .i64 n2)), (.pv (.bool false)), (.pv (.bool false)), (.pv (.int .i64 0)), (.pv (.int .i64 0))])], [(0, (.live (.recs 2 [])))]⟩) (kinfolklaw11_DiskPlays_L0_2_runs acts (((List.map E_kinfolklaw11_Act.pv acts)).length : Int) n n2 _ _ h5) ⟨⟨⟨_, rfl, .eq rfl⟩, ⟨_, rfl, .eq rfl⟩, ⟨_, rfl, .eq rfl⟩, ⟨_, rfl, .eq rfl⟩, ⟨_, rfl, .eq rfl⟩, trivial⟩, ⟨⟨rfl, ⟨.eq rfl, .eq rfl, .eq rfl, .eq rfl, .eq rfl, .eq rfl, trivial⟩⟩, ⟨rfl, ⟨.eq rfl, trivial⟩⟩, ⟨rfl, ⟨.own (by first | rfl | (simp only [List.take_length]; done) | (simp only [List.take_length, List.length_map, List.length_append, List.drop_zero, List.map_append, List.map_take, List.map_drop, List.map_replicate, List.map_cons, List.map_nil, List.append_nil, List.nil_append, E_L_uint8.pv, E_kinfolklaw11_Act.pv, E_kinfolkref11_Seg.pv, E_L_uint8.upd, E_kinfolklaw11_Act.upd, E_kinfolkref11_Seg.upd]; done) | (simp; done)), .eq rfl, .eq rfl, .eq rfl, .eq rfl, .eq rfl, trivial⟩⟩, trivial⟩, ⟨⟨rfl, .recs (.nil)⟩, trivial⟩⟩) <| tR (disk_Disk_Read_runs 9223372036854775808 n b2 b3 n3 n4 m_ _ h6) <| tR (kinfolkref11_Find_2_runs 9223372036854775808 n2 b4 b5 n5 n6 r _ h7) <| tN
      exact runs_of (C := cfg) (objs := []) (sc := t_.ev) (.k0 t_.pf (by kernel_rfl))
  · have h := some_of h
    subst h
    have t_ := tR (kinfolklaw11_awake_runs _ h1) <| tT (not_of h2) <| tN
    exact runs_of (C := cfg) (objs := []) (sc := t_.ev) (.k0 t_.pf (by kernel_rfl))

end Go.Proofs.Ytgimaogkhblaiaa
