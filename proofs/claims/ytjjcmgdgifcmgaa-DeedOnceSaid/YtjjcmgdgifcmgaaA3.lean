/- What functions compute, and that they do. -/
import Derived.Test.YtjjcmgdgifcmgaaA2
set_option linter.unusedVariables false
set_option linter.unusedSimpArgs false
set_option maxRecDepth 100000
namespace Go.Proofs.Ytjjcmgdgifcmgaa
open Go.Ev

/-! ### deed_Deeds_Take -/
noncomputable def deed_Deeds_Take (g : Int) (g2 : Int) (g3 : Int) (g4 : Bool) (g5 : T_id_halves) (n : Int) (n2 : Int) (m : List (Int × Int)) (m2 : List ((Int × Int) × Int)) : Option (Int × List ((Int × Int) × Int)) :=
  (deed_Gift_Right g g2 g3 g4 g5).bind fun b =>
  bif b then
    bif (decide ((g3 : Int) = n)) then
      (deed_Deeds_Took g2 g n n2 m m2).bind fun b2 =>
      bif b2 then
        some (14, m2)
      else
        match (mget (g2, g) m2) with
        | .some n3 =>
          some (0, (mset (g2, g) (iadd .i64 n3 1) (mset (g2, g) n3 m2)))
        | .none =>
          some (0, (mset (g2, g) 1 (mset (g2, g) 0 m2)))
    else
      some (1, m2)
  else
    some (1, m2)
theorem deed_Deeds_Take_runs (g : Int) (g2 : Int) (g3 : Int) (g4 : Bool) (g5 : T_id_halves) (n : Int) (n2 : Int) (m : List (Int × Int)) (m2 : List ((Int × Int) × Int)) (r_ : Int × List ((Int × Int) × Int)) (h : deed_Deeds_Take g g2 g3 g4 g5 n n2 m m2 = some r_) : Runs Try.prog 23 [(.one (.ref 0 0)), (.agg [(.pv (.int .u64 g)), (.pv (.int .i64 g2)), (.pv (.int .i64 g3)), (.pv (.bool g4)), (.pv (T_id_halves.pv g5))])] [[(.pv (.int .i64 n)), (.pv (.int .u64 n2)), (.pv .nils), (.mp 1), (.mp 2)], [(.maph (.int .i64) false (List.map M_int_int.pv m) [])], [(.maph (.st [.i64, .u64]) false (List.map M_deed_Mark_int.pv m2) [])]] [] (deed_Deeds_Take_out g g2 g3 g4 g5 n n2 m m2 r_) := by
  unfold deed_Deeds_Take at h
  obtain ⟨b, h1, h⟩ := bind_of h
  rcases cond_of h with ⟨h2, h⟩ | ⟨h2, h⟩
  · rcases cond_of h with ⟨h3, h⟩ | ⟨h3, h⟩
    · obtain ⟨b2, h4, h⟩ := bind_of h
      rcases cond_of h with ⟨h5, h⟩ | ⟨h5, h⟩
      · have h := some_of h
        subst h
        have t_ := tF (rfl : false = false) <| tR (deed_Gift_Right_runs g g2 g3 g4 g5 _ h1) <| tF (not_of2 h2) <| tF (not_of2 h3) <| tR (deed_Deeds_Took_runs g2 g n n2 m m2 _ h4) <| tT h5 <| tN
        exact runs_of (C := cfg) (objs := [[(.pv (.int .i64 n)), (.pv (.int .u64 n2)), (.pv .nils), (.mp 1), (.mp 2)], [(.maph (.int .i64) false (List.map M_int_int.pv m) [])], [(.maph (.st [.i64, .u64]) false (List.map M_deed_Mark_int.pv m2) [])]]) (sc := t_.ev) (.k1 t_.pf (by kernel_rfl) (by kernel_rfl))
      · cases h6 : (mget (g2, g) m2) with
        | some n3 =>
          simp only [h6] at h
          have h := some_of h
          subst h
          have t_ := tF (rfl : false = false) <| tR (deed_Gift_Right_runs g g2 g3 g4 g5 _ h1) <| tF (not_of2 h2) <| tF (not_of2 h3) <| tR (deed_Deeds_Took_runs g2 g n n2 m m2 _ h4) <| tF h5 <| tT (show kget [(.int .i64 g2), (.int .u64 g)] (List.map M_deed_Mark_int.pv m2) = some [(.int .i64 n3)] from by first | (simp only [M_deed_Mark_int.set, M_deed_Mark_int.del, M_int_int.set, M_int_int.del, M_deed_Mark_int.get, M_int_int.get, h6, Option.map_some, Option.map_none]; done) | (simp only [M_deed_Mark_int.set, M_deed_Mark_int.del, M_int_int.set, M_int_int.del, M_deed_Mark_int.get, M_int_int.get, h6, Option.map_some, Option.map_none]; rfl) | (rw [← List.map_nil]; simp only [M_deed_Mark_int.set, M_deed_Mark_int.del, M_int_int.set, M_int_int.del, M_deed_Mark_int.get, M_int_int.get, h6, Option.map_some, Option.map_none]; rfl)) <| tE (.el [(.int .i64 n3)]) <| tT (show kget [(.int .i64 g2), (.int .u64 g)] (List.map M_deed_Mark_int.pv m2) = some [(.int .i64 n3)] from by first | (simp only [M_deed_Mark_int.set, M_deed_Mark_int.del, M_int_int.set, M_int_int.del, M_deed_Mark_int.get, M_int_int.get, h6, Option.map_some, Option.map_none]; done) | (simp only [M_deed_Mark_int.set, M_deed_Mark_int.del, M_int_int.set, M_int_int.del, M_deed_Mark_int.get, M_int_int.get, h6, Option.map_some, Option.map_none]; rfl) | (rw [← List.map_nil]; simp only [M_deed_Mark_int.set, M_deed_Mark_int.del, M_int_int.set, M_int_int.del, M_deed_Mark_int.get, M_int_int.get, h6, Option.map_some, Option.map_none]; rfl)) <| tE (.el [(.int .i64 n3)]) <| tT (show kget [(.int .i64 g2), (.int .u64 g)] (List.map M_deed_Mark_int.pv m2) = some [(.int .i64 n3)] from by first | (simp only [M_deed_Mark_int.set, M_deed_Mark_int.del, M_int_int.set, M_int_int.del, M_deed_Mark_int.get, M_int_int.get, h6, Option.map_some, Option.map_none]; done) | (simp only [M_deed_Mark_int.set, M_deed_Mark_int.del, M_int_int.set, M_int_int.del, M_deed_Mark_int.get, M_int_int.get, h6, Option.map_some, Option.map_none]; rfl) | (rw [← List.map_nil]; simp only [M_deed_Mark_int.set, M_deed_Mark_int.del, M_int_int.set, M_int_int.del, M_deed_Mark_int.get, M_int_int.get, h6, Option.map_some, Option.map_none]; rfl)) <| tE (.el [(.int .i64 n3)]) <| tT (show kget [(.int .i64 g2), (.int .u64 g)] (kset [(.int .i64 g2), (.int .u64 g)] [(.int .i64 n3)] (List.map M_deed_Mark_int.pv m2)) = some [(.int .i64 n3)] from by exact kget_kset (by simp [keq]) _ _) <| tE (.el [(.int .i64 n3)]) <| tN
          have e_ : Runs Try.prog 23 [(.one (.ref 0 0)), (.agg [(.pv (.int .u64 g)), (.pv (.int .i64 g2)), (.pv (.int .i64 g3)), (.pv (.bool g4)), (.pv (T_id_halves.pv g5))])] [[(.pv (.int .i64 n)), (.pv (.int .u64 n2)), (.pv .nils), (.mp 1), (.mp 2)], [(.maph (.int .i64) false (List.map M_int_int.pv m) [])], [(.maph (.st [.i64, .u64]) false (List.map M_deed_Mark_int.pv m2) [])]] [] ([(.one (.pv (.int .i64 0)))], [[(.pv (.int .i64 n)), (.pv (.int .u64 n2)), (.pv .nils), (.mp 1), (.mp 2)], [(.maph (.int .i64) false (List.map M_int_int.pv m) [])], [(.maph (.st [.i64, .u64]) false (kset [(.int .i64 g2), (.int .u64 g)] [(.int .i64 (iadd .i64 n3 1))] (kset [(.int .i64 g2), (.int .u64 g)] [(.int .i64 n3)] (List.map M_deed_Mark_int.pv m2))) [])]], []) := runs_of (C := cfg) (objs := [[(.pv (.int .i64 n)), (.pv (.int .u64 n2)), (.pv .nils), (.mp 1), (.mp 2)], [(.maph (.int .i64) false (List.map M_int_int.pv m) [])], [(.maph (.st [.i64, .u64]) false (List.map M_deed_Mark_int.pv m2) [])]]) (sc := t_.ev) (.k1 t_.pf (by kernel_rfl) (by kernel_rfl))
          exact e_.out ⟨.eq rfl, trivial⟩ ⟨⟨.eq rfl, .eq rfl, .eq rfl, .eq rfl, .eq rfl, trivial⟩, ⟨.eq rfl, trivial⟩, ⟨.maph (WkEs.to (WkEs.set (.cons (.eq rfl) (.nil)) (WkEs.set (.cons (.eq rfl) (.nil)) (WkEs.refl _))) (by first | rfl | (simp only [M_deed_Mark_int.set, M_deed_Mark_int.del, M_int_int.set, M_int_int.del]; done) | (simp only [M_deed_Mark_int.set, M_deed_Mark_int.del, M_int_int.set, M_int_int.del, kset, kdel]; rfl) | rfl | (simp only [M_deed_Mark_int.set, M_deed_Mark_int.del, M_int_int.set, M_int_int.del, List.take_length]; done))), trivial⟩, trivial⟩ trivial rfl
        | none =>
          simp only [h6] at h
          have h := some_of h
          subst h
          have t_ := tF (rfl : false = false) <| tR (deed_Gift_Right_runs g g2 g3 g4 g5 _ h1) <| tF (not_of2 h2) <| tF (not_of2 h3) <| tR (deed_Deeds_Took_runs g2 g n n2 m m2 _ h4) <| tF h5 <| tF (show kget [(.int .i64 g2), (.int .u64 g)] (List.map M_deed_Mark_int.pv m2) = none from by first | (simp only [M_deed_Mark_int.set, M_deed_Mark_int.del, M_int_int.set, M_int_int.del, M_deed_Mark_int.get, M_int_int.get, h6, Option.map_some, Option.map_none]; done) | (simp only [M_deed_Mark_int.set, M_deed_Mark_int.del, M_int_int.set, M_int_int.del, M_deed_Mark_int.get, M_int_int.get, h6, Option.map_some, Option.map_none]; rfl) | (rw [← List.map_nil]; simp only [M_deed_Mark_int.set, M_deed_Mark_int.del, M_int_int.set, M_int_int.del, M_deed_Mark_int.get, M_int_int.get, h6, Option.map_some, Option.map_none]; rfl)) <| tF (show kget [(.int .i64 g2), (.int .u64 g)] (List.map M_deed_Mark_int.pv m2) = none from by first | (simp only [M_deed_Mark_int.set, M_deed_Mark_int.del, M_int_int.set, M_int_int.del, M_deed_Mark_int.get, M_int_int.get, h6, Option.map_some, Option.map_none]; done) | (simp only [M_deed_Mark_int.set, M_deed_Mark_int.del, M_int_int.set, M_int_int.del, M_deed_Mark_int.get, M_int_int.get, h6, Option.map_some, Option.map_none]; rfl) | (rw [← List.map_nil]; simp only [M_deed_Mark_int.set, M_deed_Mark_int.del, M_int_int.set, M_int_int.del, M_deed_Mark_int.get, M_int_int.get, h6, Option.map_some, Option.map_none]; rfl)) <| tF (show kget [(.int .i64 g2), (.int .u64 g)] (List.map M_deed_Mark_int.pv m2) = none from by first | (simp only [M_deed_Mark_int.set, M_deed_Mark_int.del, M_int_int.set, M_int_int.del, M_deed_Mark_int.get, M_int_int.get, h6, Option.map_some, Option.map_none]; done) | (simp only [M_deed_Mark_int.set, M_deed_Mark_int.del, M_int_int.set, M_int_int.del, M_deed_Mark_int.get, M_int_int.get, h6, Option.map_some, Option.map_none]; rfl) | (rw [← List.map_nil]; simp only [M_deed_Mark_int.set, M_deed_Mark_int.del, M_int_int.set, M_int_int.del, M_deed_Mark_int.get, M_int_int.get, h6, Option.map_some, Option.map_none]; rfl)) <| tT (show kget [(.int .i64 g2), (.int .u64 g)] (kset [(.int .i64 g2), (.int .u64 g)] [(.int .i64 0)] (List.map M_deed_Mark_int.pv m2)) = some [(.int .i64 0)] from by exact kget_kset (by simp [keq]) _ _) <| tE (.el [(.int .i64 0)]) <| tN
          have e_ : Runs Try.prog 23 [(.one (.ref 0 0)), (.agg [(.pv (.int .u64 g)), (.pv (.int .i64 g2)), (.pv (.int .i64 g3)), (.pv (.bool g4)), (.pv (T_id_halves.pv g5))])] [[(.pv (.int .i64 n)), (.pv (.int .u64 n2)), (.pv .nils), (.mp 1), (.mp 2)], [(.maph (.int .i64) false (List.map M_int_int.pv m) [])], [(.maph (.st [.i64, .u64]) false (List.map M_deed_Mark_int.pv m2) [])]] [] ([(.one (.pv (.int .i64 0)))], [[(.pv (.int .i64 n)), (.pv (.int .u64 n2)), (.pv .nils), (.mp 1), (.mp 2)], [(.maph (.int .i64) false (List.map M_int_int.pv m) [])], [(.maph (.st [.i64, .u64]) false (kset [(.int .i64 g2), (.int .u64 g)] [(.int .i64 1)] (kset [(.int .i64 g2), (.int .u64 g)] [(.int .i64 0)] (List.map M_deed_Mark_int.pv m2))) [])]], []) := runs_of (C := cfg) (objs := [[(.pv (.int .i64 n)), (.pv (.int .u64 n2)), (.pv .nils), (.mp 1), (.mp 2)], [(.maph (.int .i64) false (List.map M_int_int.pv m) [])], [(.maph (.st [.i64, .u64]) false (List.map M_deed_Mark_int.pv m2) [])]]) (sc := t_.ev) (.k1 t_.pf (by kernel_rfl) (by kernel_rfl))
          exact e_.out ⟨.eq rfl, trivial⟩ ⟨⟨.eq rfl, .eq rfl, .eq rfl, .eq rfl, .eq rfl, trivial⟩, ⟨.eq rfl, trivial⟩, ⟨.maph (WkEs.to (WkEs.set (.cons (.eq rfl) (.nil)) (WkEs.set (.cons (.eq rfl) (.nil)) (WkEs.refl _))) (by first | rfl | (simp only [M_deed_Mark_int.set, M_deed_Mark_int.del, M_int_int.set, M_int_int.del]; done) | (simp only [M_deed_Mark_int.set, M_deed_Mark_int.del, M_int_int.set, M_int_int.del, kset, kdel]; rfl) | rfl | (simp only [M_deed_Mark_int.set, M_deed_Mark_int.del, M_int_int.set, M_int_int.del, List.take_length]; done))), trivial⟩, trivial⟩ trivial rfl
    · have h := some_of h
      subst h
      have t_ := tF (rfl : false = false) <| tR (deed_Gift_Right_runs g g2 g3 g4 g5 _ h1) <| tF (not_of2 h2) <| tT (not_of h3) <| tN
      exact runs_of (C := cfg) (objs := [[(.pv (.int .i64 n)), (.pv (.int .u64 n2)), (.pv .nils), (.mp 1), (.mp 2)], [(.maph (.int .i64) false (List.map M_int_int.pv m) [])], [(.maph (.st [.i64, .u64]) false (List.map M_deed_Mark_int.pv m2) [])]]) (sc := t_.ev) (.k1 t_.pf (by kernel_rfl) (by kernel_rfl))
  · have h := some_of h
    subst h
    have t_ := tF (rfl : false = false) <| tR (deed_Gift_Right_runs g g2 g3 g4 g5 _ h1) <| tT (not_of h2) <| tT (rfl : true = true) <| tN
    exact runs_of (C := cfg) (objs := [[(.pv (.int .i64 n)), (.pv (.int .u64 n2)), (.pv .nils), (.mp 1), (.mp 2)], [(.maph (.int .i64) false (List.map M_int_int.pv m) [])], [(.maph (.st [.i64, .u64]) false (List.map M_deed_Mark_int.pv m2) [])]]) (sc := t_.ev) (.k1 t_.pf (by kernel_rfl) (by kernel_rfl))
/-! ### kinfolklaw15_DeedOnce_L1 -/
def kinfolklaw15_DeedOnce_L1_st (from_ : Int) (to : Int) (l : List Int) (n : Int) (n2 : Int) (b : Bool) (t : T_id_halves) (n3 : Int) (n4 : Int) (r : List E_deed_Gift) (m : List (Int × Int)) (n5 : Int) (n6 : Int) (n7 : Int) (n8 : Int) (b2 : Bool) (t2 : T_id_halves) : Int × List ((Int × Int) × Int) → St
  | (n9, m2) => ⟨[(9, (.av (.one (.pv (.int .i64 from_))))), (10, (.av (.one (.pv (.int .i64 to))))), (11, (.av (.one (.ref 0 0)))), (13, (.av (.one (.ref 1 0)))), (14, (.av (.one (.ref 4 0)))), (15, (.av (.one (.pv (.int .i64 0))))), (17, (.av (.one (.ref 7 0)))), (47, (.av (.one (.pv (.ints .u8 l false))))), (48, (.av (.one (.pv (.int .i64 n))))), (49, (.av (.one (.pv (.int .i64 0))))), (91, (.av (.one (.pv (.int .i64 n2))))), (92, (.av (.one (.pv (.int .i64 n9)))))], [(0, [(.pv (.bool b)), (.pv (T_id_halves.pv t))]), (1, [(.pv (.int .i64 n3)), (.pv (.int .u64 n4)), (.pv (.recs 5 (List.map E_deed_Gift.pv r) false)), (.mp 2), (.mp 3)]), (2, [(.maph (.int .i64) false (List.map M_int_int.pv m) [])]), (3, [(.maph (.st [.i64, .u64]) false (List.map M_deed_Mark_int.pv []) [])]), (4, [(.pv (.int .i64 n5)), (.pv (.int .u64 0)), (.pv .nils), (.mp 5), (.mp 6)]), (5, [(.maph (.int .i64) false (List.map M_int_int.pv []) [])]), (6, [(.maph (.st [.i64, .u64]) false (List.map M_deed_Mark_int.pv m2) [])]), (7, [(.pv (.int .u64 n6)), (.pv (.int .i64 n7)), (.pv (.int .i64 n8)), (.pv (.bool b2)), (.pv (T_id_halves.pv t2))])], []⟩
def kinfolklaw15_DeedOnce_L1_ex (from_ : Int) (to : Int) (l : List Int) (n : Int) (n2 : Int) (b : Bool) (t : T_id_halves) (n3 : Int) (n4 : Int) (r : List E_deed_Gift) (m : List (Int × Int)) (n5 : Int) (n6 : Int) (n7 : Int) (n8 : Int) (b2 : Bool) (t2 : T_id_halves) : (Unit) ⊕ (List ((Int × Int) × Int)) → Ex × St
  | .inl _ => (.ret, ⟨[(8, (.av (.one (.pv (.bool false)))))], [], []⟩)
  | .inr r1 => ((.exit 2), ⟨[(9, (.av (.one (.pv (.int .i64 from_))))), (10, (.av (.one (.pv (.int .i64 to))))), (11, (.av (.one (.ref 0 0)))), (13, (.av (.one (.ref 1 0)))), (14, (.av (.one (.ref 4 0)))), (15, (.av (.one (.pv (.int .i64 0))))), (17, (.av (.one (.ref 7 0)))), (47, (.av (.one (.pv (.ints .u8 l false))))), (48, (.av (.one (.pv (.int .i64 n))))), (49, (.av (.one (.pv (.int .i64 0)))))], [(0, [(.pv (.bool b)), (.pv (T_id_halves.pv t))]), (1, [(.pv (.int .i64 n3)), (.pv (.int .u64 n4)), (.pv (.recs 5 (List.map E_deed_Gift.pv r) false)), (.mp 2), (.mp 3)]), (2, [(.maph (.int .i64) false (List.map M_int_int.pv m) [])]), (3, [(.maph (.st [.i64, .u64]) false (List.map M_deed_Mark_int.pv []) [])]), (4, [(.pv (.int .i64 n5)), (.pv (.int .u64 0)), (.pv .nils), (.mp 5), (.mp 6)]), (5, [(.maph (.int .i64) false (List.map M_int_int.pv []) [])]), (6, [(.maph (.st [.i64, .u64]) false (List.map M_deed_Mark_int.pv r1) [])]), (7, [(.pv (.int .u64 n6)), (.pv (.int .i64 n7)), (.pv (.int .i64 n8)), (.pv (.bool b2)), (.pv (T_id_halves.pv t2))])], []⟩)
noncomputable def kinfolklaw15_DeedOnce_L1_step (from_ : Int) (to : Int) (l : List Int) (n : Int) (n2 : Int) (b : Bool) (t : T_id_halves) (n3 : Int) (n4 : Int) (r : List E_deed_Gift) (m : List (Int × Int)) (n5 : Int) (n6 : Int) (n7 : Int) (n8 : Int) (b2 : Bool) (t2 : T_id_halves) : Int × List ((Int × Int) × Int) → Option ((Int × List ((Int × Int) × Int)) ⊕ ((Unit) ⊕ (List ((Int × Int) × Int))))
  | (n9, m2) =>
  bif (decide ((n9 : Int) < n2)) then
    bif (decide ((0 : Int) < n9)) then
      (deed_Deeds_Take n6 n7 n8 b2 t2 n5 0 [] m2).bind fun (n10, m_) =>
      bif (decide ((n10 : Int) = 14)) then
        (deed_Deeds_Took from_ n6 n5 0 [] m_).bind fun b3 =>
        bif b3 then
          some (.inl ((iadd .i64 n9 1), m_))
        else
          some (.inr (.inl ()))
      else
        some (.inr (.inl ()))
    else
      (deed_Deeds_Take n6 n7 n8 b2 t2 n5 0 [] m2).bind fun (n10, m_) =>
      bif (decide ((n10 : Int) = 0)) then
        (deed_Deeds_Took from_ n6 n5 0 [] m_).bind fun b3 =>
        bif b3 then
          some (.inl ((iadd .i64 n9 1), m_))
        else
          some (.inr (.inl ()))
      else
        some (.inr (.inl ()))
  else
    some (.inr (.inr m2))
theorem kinfolklaw15_DeedOnce_L1_ok (from_ : Int) (to : Int) (l : List Int) (n : Int) (n2 : Int) (b : Bool) (t : T_id_halves) (n3 : Int) (n4 : Int) (r : List E_deed_Gift) (m : List (Int × Int)) (n5 : Int) (n6 : Int) (n7 : Int) (n8 : Int) (b2 : Bool) (t2 : T_id_halves) (s_ : Int × List ((Int × Int) × Int)) (z_ : (Int × List ((Int × Int) × Int)) ⊕ ((Unit) ⊕ (List ((Int × Int) × Int)))) (h : kinfolklaw15_DeedOnce_L1_step from_ to l n n2 b t n3 n4 r m n5 n6 n7 n8 b2 t2 s_ = some z_) : RoundOk Try.prog cfg 4 0 (loopAt Try.prog 4 1) (kinfolklaw15_DeedOnce_L1_st from_ to l n n2 b t n3 n4 r m n5 n6 n7 n8 b2 t2) (kinfolklaw15_DeedOnce_L1_ex from_ to l n n2 b t n3 n4 r m n5 n6 n7 n8 b2 t2) s_ z_ := by
  rcases s_ with ⟨n9, m2⟩
  rcases cond_of h with ⟨h1, h⟩ | ⟨h1, h⟩
  · rcases cond_of h with ⟨h2, h⟩ | ⟨h2, h⟩
    · obtain ⟨⟨n10, m_⟩, h3, h⟩ := bind_of h
      have q_3 := (deed_Deeds_Take_runs n6 n7 n8 b2 t2 n5 0 [] m2 _ h3)
      rcases cond_of h with ⟨h4, h⟩ | ⟨h4, h⟩
      · obtain ⟨b3, h5, h⟩ := bind_of h
        rcases cond_of h with ⟨h6, h⟩ | ⟨h6, h⟩
        · have h := some_of h
          subst h
          have t_ := tT h1 <| tT h2 <| tR q_3 <| tF (not_of2 h4) <| tR (deed_Deeds_Took_runs from_ n6 n5 0 [] m_ _ h5) <| tF (not_of2 h6) <| tN
          exact ⟨t_.ev, kinfolklaw15_DeedOnce_L1_st from_ to l n n2 b t n3 n4 r m n5 n6 n7 n8 b2 t2 ((iadd .i64 n9 1), m_), .k0 t_.pf (by kernel_rfl), .same (by kernel_rfl)⟩
        · have h := some_of h
          subst h
          have t_ := tT h1 <| tT h2 <| tR q_3 <| tF (not_of2 h4) <| tR (deed_Deeds_Took_runs from_ n6 n5 0 [] m_ _ h5) <| tT (not_of h6) <| tN
          exact ⟨t_.ev, (kinfolklaw15_DeedOnce_L1_ex from_ to l n n2 b t n3 n4 r m n5 n6 n7 n8 b2 t2 (.inl ())).2, .k0 t_.pf (by kernel_rfl), .same (by kernel_rfl)⟩
      · have h := some_of h
        subst h
        have t_ := tT h1 <| tT h2 <| tR q_3 <| tT (not_of h4) <| tT (rfl : true = true) <| tN
        exact ⟨t_.ev, (kinfolklaw15_DeedOnce_L1_ex from_ to l n n2 b t n3 n4 r m n5 n6 n7 n8 b2 t2 (.inl ())).2, .k0 t_.pf (by kernel_rfl), .same (by kernel_rfl)⟩
    · obtain ⟨⟨n10, m_⟩, h3, h⟩ := bind_of h
      have q_3 := (deed_Deeds_Take_runs n6 n7 n8 b2 t2 n5 0 [] m2 _ h3)
      rcases cond_of h with ⟨h4, h⟩ | ⟨h4, h⟩
      · obtain ⟨b3, h5, h⟩ := bind_of h
        rcases cond_of h with ⟨h6, h⟩ | ⟨h6, h⟩
        · have h := some_of h
          subst h
          have t_ := tT h1 <| tF h2 <| tR q_3 <| tF (not_of2 h4) <| tR (deed_Deeds_Took_runs from_ n6 n5 0 [] m_ _ h5) <| tF (not_of2 h6) <| tN
          exact ⟨t_.ev, kinfolklaw15_DeedOnce_L1_st from_ to l n n2 b t n3 n4 r m n5 n6 n7 n8 b2 t2 ((iadd .i64 n9 1), m_), .k0 t_.pf (by kernel_rfl), .same (by kernel_rfl)⟩
        · have h := some_of h
          subst h
          have t_ := tT h1 <| tF h2 <| tR q_3 <| tF (not_of2 h4) <| tR (deed_Deeds_Took_runs from_ n6 n5 0 [] m_ _ h5) <| tT (not_of h6) <| tN
          exact ⟨t_.ev, (kinfolklaw15_DeedOnce_L1_ex from_ to l n n2 b t n3 n4 r m n5 n6 n7 n8 b2 t2 (.inl ())).2, .k0 t_.pf (by kernel_rfl), .same (by kernel_rfl)⟩
      · have h := some_of h
        subst h
        have t_ := tT h1 <| tF h2 <| tR q_3 <| tT (not_of h4) <| tT (rfl : true = true) <| tN
        exact ⟨t_.ev, (kinfolklaw15_DeedOnce_L1_ex from_ to l n n2 b t n3 n4 r m n5 n6 n7 n8 b2 t2 (.inl ())).2, .k0 t_.pf (by kernel_rfl), .same (by kernel_rfl)⟩
  · have h := some_of h
    subst h
    have t_ := tF h1 <| tN
    exact ⟨t_.ev, ⟨[(93, (.av (.one (.pv (.bool false))))), (9, (.av (.one (.pv (.int .i64 from_))))), (10, (.av (.one (.pv (.int .i64 to))))), (11, (.av (.one (.ref 0 0)))), (13, (.av (.one (.ref 1 0)))), (14, (.av (.one (.ref 4 0)))), (15, (.av (.one (.pv (.int .i64 0))))), (17, (.av (.one (.ref 7 0)))), (47, (.av (.one (.pv (.ints .u8 l false))))), (48, (.av (.one (.pv (.int .i64 n))))), (49, (.av (.one (.pv (.int .i64 0))))), (91, (.av (.one (.pv (.int .i64 n2))))), (92, (.av (.one (.pv (.int .i64 n9))))), (93, (.av (.one (.pv (.bool (decide ((n9 : Int) < n2)))))))], [(0, [(.pv (.bool b)), (.pv (T_id_halves.pv t))]), (1, [(.pv (.int .i64 n3)), (.pv (.int .u64 n4)), (.pv (.recs 5 (List.map E_deed_Gift.pv r) false)), (.mp 2), (.mp 3)]), (2, [(.maph (.int .i64) false (List.map M_int_int.pv m) [])]), (3, [(.maph (.st [.i64, .u64]) false (List.map M_deed_Mark_int.pv []) [])]), (4, [(.pv (.int .i64 n5)), (.pv (.int .u64 0)), (.pv .nils), (.mp 5), (.mp 6)]), (5, [(.maph (.int .i64) false (List.map M_int_int.pv []) [])]), (6, [(.maph (.st [.i64, .u64]) false (List.map M_deed_Mark_int.pv m2) [])]), (7, [(.pv (.int .u64 n6)), (.pv (.int .i64 n7)), (.pv (.int .i64 n8)), (.pv (.bool b2)), (.pv (T_id_halves.pv t2))])], []⟩, .k0 t_.pf (by kernel_rfl), ⟨⟨⟨_, rfl, .eq rfl⟩, ⟨_, rfl, .eq rfl⟩, ⟨_, rfl, .eq rfl⟩, ⟨_, rfl, .eq rfl⟩, ⟨_, rfl, .eq rfl⟩, ⟨_, rfl, .eq rfl⟩, ⟨_, rfl, .eq rfl⟩, ⟨_, rfl, .eq rfl⟩, ⟨_, rfl, .eq rfl⟩, ⟨_, rfl, .eq rfl⟩, trivial⟩, ⟨⟨rfl, ⟨.eq rfl, .eq rfl, trivial⟩⟩, ⟨rfl, ⟨.eq rfl, .eq rfl, .eq rfl, .eq rfl, .eq rfl, trivial⟩⟩, ⟨rfl, ⟨.eq rfl, trivial⟩⟩, ⟨rfl, ⟨.eq rfl, trivial⟩⟩, ⟨rfl, ⟨.eq rfl, .eq rfl, .eq rfl, .eq rfl, .eq rfl, trivial⟩⟩, ⟨rfl, ⟨.eq rfl, trivial⟩⟩, ⟨rfl, ⟨.eq rfl, trivial⟩⟩, ⟨rfl, ⟨.eq rfl, .eq rfl, .eq rfl, .eq rfl, .eq rfl, trivial⟩⟩, trivial⟩, trivial⟩⟩
theorem kinfolklaw15_DeedOnce_L1_runs (from_ : Int) (to : Int) (l : List Int) (n : Int) (n2 : Int) (b : Bool) (t : T_id_halves) (n3 : Int) (n4 : Int) (r : List E_deed_Gift) (m : List (Int × Int)) (n5 : Int) (n6 : Int) (n7 : Int) (n8 : Int) (b2 : Bool) (t2 : T_id_halves) (s_ : Int × List ((Int × Int) × Int)) (r_ : (Unit) ⊕ (List ((Int × Int) × Int))) (h : runL (kinfolklaw15_DeedOnce_L1_step from_ to l n n2 b t n3 n4 r m n5 n6 n7 n8 b2 t2) s_ = some r_) : LRuns Try.prog (lEnv Try.prog cfg 4 0).nt 0 (.loop (loopAt Try.prog 4 1)) (kinfolklaw15_DeedOnce_L1_st from_ to l n n2 b t n3 n4 r m n5 n6 n7 n8 b2 t2 s_) (kinfolklaw15_DeedOnce_L1_ex from_ to l n n2 b t n3 n4 r m n5 n6 n7 n8 b2 t2 r_).1 (kinfolklaw15_DeedOnce_L1_ex from_ to l n n2 b t n3 n4 r m n5 n6 n7 n8 b2 t2 r_).2 :=
  loop_run h (kinfolklaw15_DeedOnce_L1_ok from_ to l n n2 b t n3 n4 r m n5 n6 n7 n8 b2 t2) (by intro r_; rcases r_ with _ | r1 <;> simp [kinfolklaw15_DeedOnce_L1_ex])
/-! ### deed_Deeds_Marks_out -/
def deed_Deeds_Marks_out (n : Int) (n2 : Int) (m : List (Int × Int)) (m2 : List ((Int × Int) × Int)) : List E_deed_Mark → Res
  | r1 => ([(.one (.own 0 0 ((List.map E_deed_Mark.pv r1)).length false))], [[(.pv (.int .i64 n)), (.pv (.int .u64 n2)), (.pv .nils), (.mp 1), (.mp 2)], [(.maph (.int .i64) false (List.map M_int_int.pv m) [])], [(.maph (.st [.i64, .u64]) false (List.map M_deed_Mark_int.pv m2) [])]], [(.recs 2 (List.map E_deed_Mark.pv r1))])
/-! ### maps_Keys_int_out -/
def maps_Keys_int_out (m : List ((Int × Int) × Int)) : Unit → Res
  | _ => ([(.one (.fn 80 [(.ref 1 0)]))], [[(.maph (.st [.i64, .u64]) false (List.map M_deed_Mark_int.pv m) [])], [(.mp 0)]], [])
/-! ### maps_Keys_int -/
noncomputable def maps_Keys_int (m : List ((Int × Int) × Int)) : Option (Unit) :=
  some ()
theorem maps_Keys_int_runs (m : List ((Int × Int) × Int)) (r_ : Unit) (h : maps_Keys_int m = some r_) : Runs Try.prog 60 [(.one (.mp 0))] [[(.maph (.st [.i64, .u64]) false (List.map M_deed_Mark_int.pv m) [])]] [] (maps_Keys_int_out m r_) := by
  unfold maps_Keys_int at h
  have h := some_of h
  subst h
  have t_ := tN
  exact runs_of (C := cfg) (objs := [[(.maph (.st [.i64, .u64]) false (List.map M_deed_Mark_int.pv m) [])]]) (sc := t_.ev) (.k0 t_.pf (by kernel_rfl))
/-! ### deed_Deeds_Marks -/
noncomputable def deed_Deeds_Marks (n : Int) (n2 : Int) (m : List (Int × Int)) (m2 : List ((Int × Int) × Int)) : Option (List E_deed_Mark) :=
  (maps_Keys_int m2).bind fun _ =>
  (slices_SortedFunc_marks m2).bind fun r =>
  some r
theorem deed_Deeds_Marks_runs (n : Int) (n2 : Int) (m : List (Int × Int)) (m2 : List ((Int × Int) × Int)) (r_ : List E_deed_Mark) (h : deed_Deeds_Marks n n2 m m2 = some r_) : Runs Try.prog 27 [(.one (.ref 0 0))] [[(.pv (.int .i64 n)), (.pv (.int .u64 n2)), (.pv .nils), (.mp 1), (.mp 2)], [(.maph (.int .i64) false (List.map M_int_int.pv m) [])], [(.maph (.st [.i64, .u64]) false (List.map M_deed_Mark_int.pv m2) [])]] [] (deed_Deeds_Marks_out n n2 m m2 r_) := by
  unfold deed_Deeds_Marks at h
  obtain ⟨_, h1, h⟩ := bind_of h
  obtain ⟨r, h2, h⟩ := bind_of h
  have h := some_of h
  subst h
  have t_ := tF (rfl : false = false) <| tR (maps_Keys_int_runs m2 _ h1) <| tR (slices_SortedFunc_marks_runs m2 _ h2) <| tN
  exact runs_of (C := cfg) (objs := [[(.pv (.int .i64 n)), (.pv (.int .u64 n2)), (.pv .nils), (.mp 1), (.mp 2)], [(.maph (.int .i64) false (List.map M_int_int.pv m) [])], [(.maph (.st [.i64, .u64]) false (List.map M_deed_Mark_int.pv m2) [])]]) (sc := t_.ev) (.k0 t_.pf (by kernel_rfl))
/-! ### kinfolklaw15_DeedOnce_L1_3 -/
def kinfolklaw15_DeedOnce_L1_3_st (from_ : Int) (to : Int) (n : Int) (l : List Int) (n2 : Int) (n3 : Int) (n4 : Int) (b : Bool) (t : T_id_halves) (n5 : Int) (n6 : Int) (r : List E_deed_Gift) (m : List (Int × Int)) (n7 : Int) (n8 : Int) (n9 : Int) (n10 : Int) (b2 : Bool) (t2 : T_id_halves) : Int × List ((Int × Int) × Int) → St
  | (n11, m2) => ⟨[(9, (.av (.one (.pv (.int .i64 from_))))), (10, (.av (.one (.pv (.int .i64 to))))), (11, (.av (.one (.ref 0 0)))), (13, (.av (.one (.ref 1 0)))), (14, (.av (.one (.ref 4 0)))), (15, (.av (.one (.pv (.int .i64 n))))), (17, (.av (.one (.ref 7 0)))), (47, (.av (.one (.pv (.ints .u8 l false))))), (48, (.av (.one (.pv (.int .i64 n2))))), (49, (.av (.one (.pv (.int .i64 n3))))), (91, (.av (.one (.pv (.int .i64 n4))))), (92, (.av (.one (.pv (.int .i64 n11)))))], [(0, [(.pv (.bool b)), (.pv (T_id_halves.pv t))]), (1, [(.pv (.int .i64 n5)), (.pv (.int .u64 n6)), (.pv (.recs 5 (List.map E_deed_Gift.pv r) false)), (.mp 2), (.mp 3)]), (2, [(.maph (.int .i64) false (List.map M_int_int.pv m) [])]), (3, [(.maph (.st [.i64, .u64]) false (List.map M_deed_Mark_int.pv []) [])]), (4, [(.pv (.int .i64 n7)), (.pv (.int .u64 0)), (.pv .nils), (.mp 5), (.mp 6)]), (5, [(.maph (.int .i64) false (List.map M_int_int.pv []) [])]), (6, [(.maph (.st [.i64, .u64]) false (List.map M_deed_Mark_int.pv m2) [])]), (7, [(.pv (.int .u64 n8)), (.pv (.int .i64 n9)), (.pv (.int .i64 n10)), (.pv (.bool b2)), (.pv (T_id_halves.pv t2))])], []⟩
def kinfolklaw15_DeedOnce_L1_3_ex (from_ : Int) (to : Int) (n : Int) (l : List Int) (n2 : Int) (n3 : Int) (n4 : Int) (b : Bool) (t : T_id_halves) (n5 : Int) (n6 : Int) (r : List E_deed_Gift) (m : List (Int × Int)) (n7 : Int) (n8 : Int) (n9 : Int) (n10 : Int) (b2 : Bool) (t2 : T_id_halves) : (Unit) ⊕ (List ((Int × Int) × Int)) → Ex × St
  | .inl _ => (.ret, ⟨[(8, (.av (.one (.pv (.bool false)))))], [], []⟩)
  | .inr r1 => ((.exit 2), ⟨[(9, (.av (.one (.pv (.int .i64 from_))))), (10, (.av (.one (.pv (.int .i64 to))))), (11, (.av (.one (.ref 0 0)))), (13, (.av (.one (.ref 1 0)))), (14, (.av (.one (.ref 4 0)))), (15, (.av (.one (.pv (.int .i64 n))))), (17, (.av (.one (.ref 7 0)))), (47, (.av (.one (.pv (.ints .u8 l false))))), (48, (.av (.one (.pv (.int .i64 n2))))), (49, (.av (.one (.pv (.int .i64 n3)))))], [(0, [(.pv (.bool b)), (.pv (T_id_halves.pv t))]), (1, [(.pv (.int .i64 n5)), (.pv (.int .u64 n6)), (.pv (.recs 5 (List.map E_deed_Gift.pv r) false)), (.mp 2), (.mp 3)]), (2, [(.maph (.int .i64) false (List.map M_int_int.pv m) [])]), (3, [(.maph (.st [.i64, .u64]) false (List.map M_deed_Mark_int.pv []) [])]), (4, [(.pv (.int .i64 n7)), (.pv (.int .u64 0)), (.pv .nils), (.mp 5), (.mp 6)]), (5, [(.maph (.int .i64) false (List.map M_int_int.pv []) [])]), (6, [(.maph (.st [.i64, .u64]) false (List.map M_deed_Mark_int.pv r1) [])]), (7, [(.pv (.int .u64 n8)), (.pv (.int .i64 n9)), (.pv (.int .i64 n10)), (.pv (.bool b2)), (.pv (T_id_halves.pv t2))])], []⟩)
noncomputable def kinfolklaw15_DeedOnce_L1_3_step (from_ : Int) (to : Int) (n : Int) (l : List Int) (n2 : Int) (n3 : Int) (n4 : Int) (b : Bool) (t : T_id_halves) (n5 : Int) (n6 : Int) (r : List E_deed_Gift) (m : List (Int × Int)) (n7 : Int) (n8 : Int) (n9 : Int) (n10 : Int) (b2 : Bool) (t2 : T_id_halves) : Int × List ((Int × Int) × Int) → Option ((Int × List ((Int × Int) × Int)) ⊕ ((Unit) ⊕ (List ((Int × Int) × Int))))
  | (n11, m2) =>
  bif (decide ((n11 : Int) < n4)) then
    bif (decide ((0 : Int) < n11)) then
      (deed_Deeds_Take n8 n9 n10 b2 t2 n7 0 [] m2).bind fun (n12, m_) =>
      bif (decide ((n12 : Int) = 14)) then
        (deed_Deeds_Took from_ n8 n7 0 [] m_).bind fun b3 =>
        bif b3 then
          some (.inl ((iadd .i64 n11 1), m_))
        else
          some (.inr (.inl ()))
      else
        some (.inr (.inl ()))
    else
      (deed_Deeds_Take n8 n9 n10 b2 t2 n7 0 [] m2).bind fun (n12, m_) =>
      bif (decide ((n12 : Int) = 0)) then
        (deed_Deeds_Took from_ n8 n7 0 [] m_).bind fun b3 =>
        bif b3 then
          some (.inl ((iadd .i64 n11 1), m_))
        else
          some (.inr (.inl ()))
      else
        some (.inr (.inl ()))
  else
    some (.inr (.inr m2))
theorem kinfolklaw15_DeedOnce_L1_3_ok (from_ : Int) (to : Int) (n : Int) (l : List Int) (n2 : Int) (n3 : Int) (n4 : Int) (b : Bool) (t : T_id_halves) (n5 : Int) (n6 : Int) (r : List E_deed_Gift) (m : List (Int × Int)) (n7 : Int) (n8 : Int) (n9 : Int) (n10 : Int) (b2 : Bool) (t2 : T_id_halves) (s_ : Int × List ((Int × Int) × Int)) (z_ : (Int × List ((Int × Int) × Int)) ⊕ ((Unit) ⊕ (List ((Int × Int) × Int)))) (h : kinfolklaw15_DeedOnce_L1_3_step from_ to n l n2 n3 n4 b t n5 n6 r m n7 n8 n9 n10 b2 t2 s_ = some z_) : RoundOk Try.prog cfg 4 0 (loopAt Try.prog 4 1) (kinfolklaw15_DeedOnce_L1_3_st from_ to n l n2 n3 n4 b t n5 n6 r m n7 n8 n9 n10 b2 t2) (kinfolklaw15_DeedOnce_L1_3_ex from_ to n l n2 n3 n4 b t n5 n6 r m n7 n8 n9 n10 b2 t2) s_ z_ := by
  rcases s_ with ⟨n11, m2⟩
  rcases cond_of h with ⟨h1, h⟩ | ⟨h1, h⟩
  · rcases cond_of h with ⟨h2, h⟩ | ⟨h2, h⟩
    · obtain ⟨⟨n12, m_⟩, h3, h⟩ := bind_of h
      have q_3 := (deed_Deeds_Take_runs n8 n9 n10 b2 t2 n7 0 [] m2 _ h3)
      rcases cond_of h with ⟨h4, h⟩ | ⟨h4, h⟩
      · obtain ⟨b3, h5, h⟩ := bind_of h
        rcases cond_of h with ⟨h6, h⟩ | ⟨h6, h⟩
        · have h := some_of h
          subst h
          have t_ := tT h1 <| tT h2 <| tR q_3 <| tF (not_of2 h4) <| tR (deed_Deeds_Took_runs from_ n8 n7 0 [] m_ _ h5) <| tF (not_of2 h6) <| tN
          exact ⟨t_.ev, kinfolklaw15_DeedOnce_L1_3_st from_ to n l n2 n3 n4 b t n5 n6 r m n7 n8 n9 n10 b2 t2 ((iadd .i64 n11 1), m_), .k0 t_.pf (by kernel_rfl), .same (by kernel_rfl)⟩
        · have h := some_of h
          subst h
          have t_ := tT h1 <| tT h2 <| tR q_3 <| tF (not_of2 h4) <| tR (deed_Deeds_Took_runs from_ n8 n7 0 [] m_ _ h5) <| tT (not_of h6) <| tN
          exact ⟨t_.ev, (kinfolklaw15_DeedOnce_L1_3_ex from_ to n l n2 n3 n4 b t n5 n6 r m n7 n8 n9 n10 b2 t2 (.inl ())).2, .k0 t_.pf (by kernel_rfl), .same (by kernel_rfl)⟩
      · have h := some_of h
        subst h
        have t_ := tT h1 <| tT h2 <| tR q_3 <| tT (not_of h4) <| tT (rfl : true = true) <| tN
        exact ⟨t_.ev, (kinfolklaw15_DeedOnce_L1_3_ex from_ to n l n2 n3 n4 b t n5 n6 r m n7 n8 n9 n10 b2 t2 (.inl ())).2, .k0 t_.pf (by kernel_rfl), .same (by kernel_rfl)⟩
    · obtain ⟨⟨n12, m_⟩, h3, h⟩ := bind_of h
      have q_3 := (deed_Deeds_Take_runs n8 n9 n10 b2 t2 n7 0 [] m2 _ h3)
      rcases cond_of h with ⟨h4, h⟩ | ⟨h4, h⟩
      · obtain ⟨b3, h5, h⟩ := bind_of h
        rcases cond_of h with ⟨h6, h⟩ | ⟨h6, h⟩
        · have h := some_of h
          subst h
          have t_ := tT h1 <| tF h2 <| tR q_3 <| tF (not_of2 h4) <| tR (deed_Deeds_Took_runs from_ n8 n7 0 [] m_ _ h5) <| tF (not_of2 h6) <| tN
          exact ⟨t_.ev, kinfolklaw15_DeedOnce_L1_3_st from_ to n l n2 n3 n4 b t n5 n6 r m n7 n8 n9 n10 b2 t2 ((iadd .i64 n11 1), m_), .k0 t_.pf (by kernel_rfl), .same (by kernel_rfl)⟩
        · have h := some_of h
          subst h
          have t_ := tT h1 <| tF h2 <| tR q_3 <| tF (not_of2 h4) <| tR (deed_Deeds_Took_runs from_ n8 n7 0 [] m_ _ h5) <| tT (not_of h6) <| tN
          exact ⟨t_.ev, (kinfolklaw15_DeedOnce_L1_3_ex from_ to n l n2 n3 n4 b t n5 n6 r m n7 n8 n9 n10 b2 t2 (.inl ())).2, .k0 t_.pf (by kernel_rfl), .same (by kernel_rfl)⟩
      · have h := some_of h
        subst h
        have t_ := tT h1 <| tF h2 <| tR q_3 <| tT (not_of h4) <| tT (rfl : true = true) <| tN
        exact ⟨t_.ev, (kinfolklaw15_DeedOnce_L1_3_ex from_ to n l n2 n3 n4 b t n5 n6 r m n7 n8 n9 n10 b2 t2 (.inl ())).2, .k0 t_.pf (by kernel_rfl), .same (by kernel_rfl)⟩
  · have h := some_of h
    subst h
    have t_ := tF h1 <| tN
    exact ⟨t_.ev, ⟨[(93, (.av (.one (.pv (.bool false))))), (9, (.av (.one (.pv (.int .i64 from_))))), (10, (.av (.one (.pv (.int .i64 to))))), (11, (.av (.one (.ref 0 0)))), (13, (.av (.one (.ref 1 0)))), (14, (.av (.one (.ref 4 0)))), (15, (.av (.one (.pv (.int .i64 n))))), (17, (.av (.one (.ref 7 0)))), (47, (.av (.one (.pv (.ints .u8 l false))))), (48, (.av (.one (.pv (.int .i64 n2))))), (49, (.av (.one (.pv (.int .i64 n3))))), (91, (.av (.one (.pv (.int .i64 n4))))), (92, (.av (.one (.pv (.int .i64 n11))))), (93, (.av (.one (.pv (.bool (decide ((n11 : Int) < n4)))))))], [(0, [(.pv (.bool b)), (.pv (T_id_halves.pv t))]), (1, [(.pv (.int .i64 n5)), (.pv (.int .u64 n6)), (.pv (.recs 5 (List.map E_deed_Gift.pv r) false)), (.mp 2), (.mp 3)]), (2, [(.maph (.int .i64) false (List.map M_int_int.pv m) [])]), (3, [(.maph (.st [.i64, .u64]) false (List.map M_deed_Mark_int.pv []) [])]), (4, [(.pv (.int .i64 n7)), (.pv (.int .u64 0)), (.pv .nils), (.mp 5), (.mp 6)]), (5, [(.maph (.int .i64) false (List.map M_int_int.pv []) [])]), (6, [(.maph (.st [.i64, .u64]) false (List.map M_deed_Mark_int.pv m2) [])]), (7, [(.pv (.int .u64 n8)), (.pv (.int .i64 n9)), (.pv (.int .i64 n10)), (.pv (.bool b2)), (.pv (T_id_halves.pv t2))])], []⟩, .k0 t_.pf (by kernel_rfl), ⟨⟨⟨_, rfl, .eq rfl⟩, ⟨_, rfl, .eq rfl⟩, ⟨_, rfl, .eq rfl⟩, ⟨_, rfl, .eq rfl⟩, ⟨_, rfl, .eq rfl⟩, ⟨_, rfl, .eq rfl⟩, ⟨_, rfl, .eq rfl⟩, ⟨_, rfl, .eq rfl⟩, ⟨_, rfl, .eq rfl⟩, ⟨_, rfl, .eq rfl⟩, trivial⟩, ⟨⟨rfl, ⟨.eq rfl, .eq rfl, trivial⟩⟩, ⟨rfl, ⟨.eq rfl, .eq rfl, .eq rfl, .eq rfl, .eq rfl, trivial⟩⟩, ⟨rfl, ⟨.eq rfl, trivial⟩⟩, ⟨rfl, ⟨.eq rfl, trivial⟩⟩, ⟨rfl, ⟨.eq rfl, .eq rfl, .eq rfl, .eq rfl, .eq rfl, trivial⟩⟩, ⟨rfl, ⟨.eq rfl, trivial⟩⟩, ⟨rfl, ⟨.eq rfl, trivial⟩⟩, ⟨rfl, ⟨.eq rfl, .eq rfl, .eq rfl, .eq rfl, .eq rfl, trivial⟩⟩, trivial⟩, trivial⟩⟩
theorem kinfolklaw15_DeedOnce_L1_3_runs (from_ : Int) (to : Int) (n : Int) (l : List Int) (n2 : Int) (n3 : Int) (n4 : Int) (b : Bool) (t : T_id_halves) (n5 : Int) (n6 : Int) (r : List E_deed_Gift) (m : List (Int × Int)) (n7 : Int) (n8 : Int) (n9 : Int) (n10 : Int) (b2 : Bool) (t2 : T_id_halves) (s_ : Int × List ((Int × Int) × Int)) (r_ : (Unit) ⊕ (List ((Int × Int) × Int))) (h : runL (kinfolklaw15_DeedOnce_L1_3_step from_ to n l n2 n3 n4 b t n5 n6 r m n7 n8 n9 n10 b2 t2) s_ = some r_) : LRuns Try.prog (lEnv Try.prog cfg 4 0).nt 0 (.loop (loopAt Try.prog 4 1)) (kinfolklaw15_DeedOnce_L1_3_st from_ to n l n2 n3 n4 b t n5 n6 r m n7 n8 n9 n10 b2 t2 s_) (kinfolklaw15_DeedOnce_L1_3_ex from_ to n l n2 n3 n4 b t n5 n6 r m n7 n8 n9 n10 b2 t2 r_).1 (kinfolklaw15_DeedOnce_L1_3_ex from_ to n l n2 n3 n4 b t n5 n6 r m n7 n8 n9 n10 b2 t2 r_).2 :=
  loop_run h (kinfolklaw15_DeedOnce_L1_3_ok from_ to n l n2 n3 n4 b t n5 n6 r m n7 n8 n9 n10 b2 t2) (by intro r_; rcases r_ with _ | r1 <;> simp [kinfolklaw15_DeedOnce_L1_3_ex])
/-! ### kinfolklaw15_DeedOnce_L0 -/
def kinfolklaw15_DeedOnce_L0_st (from_ : Int) (to : Int) (l : List Int) (n : Int) (b : Bool) (t : T_id_halves) (n2 : Int) (n3 : Int) : (Unit) ⊕ (Int × Int × List E_deed_Gift × List (Int × Int) × List ((Int × Int) × Int)) → St
  | .inl _ => ⟨[(9, (.av (.one (.pv (.int .i64 from_))))), (10, (.av (.one (.pv (.int .i64 to))))), (11, (.av (.one (.ref 0 0)))), (13, (.av (.one (.ref 1 0)))), (14, (.av (.one (.ref 4 0)))), (47, (.av (.one (.pv (.ints .u8 l false))))), (48, (.av (.one (.pv (.int .i64 n))))), (49, (.av (.one (.pv (.int .i64 0)))))], [(0, [(.pv (.bool b)), (.pv (T_id_halves.pv t))]), (1, [(.pv (.int .i64 n2)), (.pv (.int .u64 0)), (.pv .nils), (.mp 2), (.mp 3)]), (2, [(.maph (.int .i64) false (List.map M_int_int.pv []) [])]), (3, [(.maph (.st [.i64, .u64]) false (List.map M_deed_Mark_int.pv []) [])]), (4, [(.pv (.int .i64 n3)), (.pv (.int .u64 0)), (.pv .nils), (.mp 5), (.mp 6)]), (5, [(.maph (.int .i64) false (List.map M_int_int.pv []) [])]), (6, [(.maph (.st [.i64, .u64]) false (List.map M_deed_Mark_int.pv []) [])])], []⟩
  | .inr (n5, n4, r, m, m2) => ⟨[(9, (.av (.one (.pv (.int .i64 from_))))), (10, (.av (.one (.pv (.int .i64 to))))), (11, (.av (.one (.ref 0 0)))), (13, (.av (.one (.ref 1 0)))), (14, (.av (.one (.ref 4 0)))), (47, (.av (.one (.pv (.ints .u8 l false))))), (48, (.av (.one (.pv (.int .i64 n))))), (49, (.av (.one (.pv (.int .i64 n5)))))], [(0, [(.pv (.bool b)), (.pv (T_id_halves.pv t))]), (1, [(.pv (.int .i64 n2)), (.pv (.int .u64 n4)), (.pv (.recs 5 (List.map E_deed_Gift.pv r) false)), (.mp 2), (.mp 3)]), (2, [(.maph (.int .i64) false (List.map M_int_int.pv m) [])]), (3, [(.maph (.st [.i64, .u64]) false (List.map M_deed_Mark_int.pv []) [])]), (4, [(.pv (.int .i64 n3)), (.pv (.int .u64 0)), (.pv .nils), (.mp 5), (.mp 6)]), (5, [(.maph (.int .i64) false (List.map M_int_int.pv []) [])]), (6, [(.maph (.st [.i64, .u64]) false (List.map M_deed_Mark_int.pv m2) [])])], []⟩
def kinfolklaw15_DeedOnce_L0_ex (from_ : Int) (to : Int) (l : List Int) (n : Int) (b : Bool) (t : T_id_halves) (n2 : Int) (n3 : Int) : (Unit) ⊕ ((Unit) ⊕ (Int × List E_deed_Gift × List (Int × Int) × List ((Int × Int) × Int))) → Ex × St
  | .inl _ => (.ret, ⟨[(8, (.av (.one (.pv (.bool false)))))], [], []⟩)
  | .inr (.inl _) => ((.exit 0), ⟨[(13, (.av (.one (.ref 1 0))))], [(0, [(.pv (.bool b)), (.pv (T_id_halves.pv t))]), (1, [(.pv (.int .i64 n2)), (.pv (.int .u64 0)), (.pv .nils), (.mp 2), (.mp 3)]), (2, [(.maph (.int .i64) false (List.map M_int_int.pv []) [])]), (3, [(.maph (.st [.i64, .u64]) false (List.map M_deed_Mark_int.pv []) [])]), (4, [(.pv (.int .i64 n3)), (.pv (.int .u64 0)), (.pv .nils), (.mp 5), (.mp 6)]), (5, [(.maph (.int .i64) false (List.map M_int_int.pv []) [])]), (6, [(.maph (.st [.i64, .u64]) false (List.map M_deed_Mark_int.pv []) [])])], []⟩)
  | .inr (.inr (r1, r2, r3, r4)) => ((.exit 0), ⟨[(13, (.av (.one (.ref 1 0))))], [(0, [(.pv (.bool b)), (.pv (T_id_halves.pv t))]), (1, [(.pv (.int .i64 n2)), (.pv (.int .u64 r1)), (.pv (.recs 5 (List.map E_deed_Gift.pv r2) false)), (.mp 2), (.mp 3)]), (2, [(.maph (.int .i64) false (List.map M_int_int.pv r3) [])]), (3, [(.maph (.st [.i64, .u64]) false (List.map M_deed_Mark_int.pv []) [])]), (4, [(.pv (.int .i64 n3)), (.pv (.int .u64 0)), (.pv .nils), (.mp 5), (.mp 6)]), (5, [(.maph (.int .i64) false (List.map M_int_int.pv []) [])]), (6, [(.maph (.st [.i64, .u64]) false (List.map M_deed_Mark_int.pv r4) [])])], []⟩)
noncomputable def kinfolklaw15_DeedOnce_L0_step (from_ : Int) (to : Int) (l : List Int) (n : Int) (b : Bool) (t : T_id_halves) (n2 : Int) (n3 : Int) : (Unit) ⊕ (Int × Int × List E_deed_Gift × List (Int × Int) × List ((Int × Int) × Int)) → Option (((Unit) ⊕ (Int × Int × List E_deed_Gift × List (Int × Int) × List ((Int × Int) × Int))) ⊕ ((Unit) ⊕ ((Unit) ⊕ (Int × List E_deed_Gift × List (Int × Int) × List ((Int × Int) × Int)))))
  | .inl _ =>
    bif (decide ((0 : Int) < n)) then
      bif decide ((0 : Int) ≤ 0) && decide ((0 : Int) < ((l).length : Int)) then
      (deed_Deeds_Give to b t n2 0 [] []).bind fun z_ => match z_ with
      | .inl n4 =>
        bif (decide ((n4 : Int) = 0)) then
          some (.inr (.inl ()))
        else
          some (.inr (.inl ()))
      | .inr (n4, n5, r, m_) =>
        bif (decide ((n4 : Int) = 1)) then
          (deed_Deeds_Pending_2 n2 n5 r m_ []).bind fun _ =>
          bif (decide (((((List.map E_deed_Gift.pv r)).length : Int) : Int) = 1)) then
            (deed_Deeds_Give_2 to b t n2 n5 r m_ []).bind fun (n6, n7, n8, b2, t2, n9, n10, r2, m_2) =>
            bif (decide ((n9 : Int) = 14)) then
              (runL (kinfolklaw15_DeedOnce_L1_step from_ to l n (iadd .i64 1 (IntKind.i64.wrap (irem .u8 (l.getD 0 0) 4))) b t n2 n10 r2 m_2 n3 n4 n2 to b t) (0, [])).bind fun z_ => match z_ with
              | .inl _ =>
                some (.inr (.inl ()))
              | .inr m_3 =>
                (deed_Deeds_Done n4 n2 n10 r2 m_2 []).bind fun (n11, r3) =>
                bif (decide ((n11 : Int) = 0)) then
                  (deed_Deeds_Done n4 n2 n10 r3 m_2 []).bind fun (n12, r4) =>
                  bif (decide ((n12 : Int) = 2)) then
                    (deed_Deeds_Gave to n2 n10 r4 m_2 []).bind fun b3 =>
                    bif b3 then
                      (deed_Deeds_Marks n3 0 [] m_3).bind fun r5 =>
                      bif (decide (((((List.map E_deed_Mark.pv r5)).length : Int) : Int) = 1)) then
                        some (.inl (.inr (1, n10, r4, m_2, m_3)))
                      else
                        some (.inr (.inl ()))
                    else
                      some (.inr (.inl ()))
                  else
                    some (.inr (.inl ()))
                else
                  some (.inr (.inl ()))
            else
              some (.inr (.inl ()))
          else
            some (.inr (.inl ()))
        else
          some (.inr (.inl ()))
      else none
    else
      some (.inr (.inr (.inl ())))
  | .inr (n5, n4, r, m, m2) =>
    bif (decide ((n5 : Int) < n)) then
      bif decide ((0 : Int) ≤ n5) && decide ((n5 : Int) < ((l).length : Int)) then
      bif (decide ((8 : Int) ≤ n5)) then
        some (.inr (.inr (.inr (n4, r, m, m2))))
      else
        (deed_Deeds_Give_2 to b t n2 n4 r m []).bind fun (n6, n7, n8, b2, t2, n9, n10, r2, m_) =>
        bif (decide ((n9 : Int) = 0)) then
          bif (decide ((n6 : Int) = (IntKind.u64.wrap (iadd .i64 n5 1)))) then
            (deed_Deeds_Pending_2 n2 n10 r2 m_ []).bind fun _ =>
            bif (decide (((((List.map E_deed_Gift.pv r2)).length : Int) : Int) = 1)) then
              (deed_Deeds_Give_2 to b t n2 n10 r2 m_ []).bind fun (n11, n12, n13, b3, t3, n14, n15, r3, m_2) =>
              bif (decide ((n14 : Int) = 14)) then
                (runL (kinfolklaw15_DeedOnce_L1_3_step from_ to n5 l n n5 (iadd .i64 1 (IntKind.i64.wrap (irem .u8 (l.getD (n5).toNat 0) 4))) b t n2 n15 r3 m_2 n3 n6 n7 n8 b2 t2) (0, m2)).bind fun z_ => match z_ with
                | .inl _ =>
                  some (.inr (.inl ()))
                | .inr m_3 =>
                  (deed_Deeds_Done n6 n2 n15 r3 m_2 []).bind fun (n16, r4) =>
                  bif (decide ((n16 : Int) = 0)) then
                    (deed_Deeds_Done n6 n2 n15 r4 m_2 []).bind fun (n17, r5) =>
                    bif (decide ((n17 : Int) = 2)) then
                      (deed_Deeds_Gave to n2 n15 r5 m_2 []).bind fun b4 =>
                      bif b4 then
                        (deed_Deeds_Marks n3 0 [] m_3).bind fun r6 =>
                        bif (decide (((((List.map E_deed_Mark.pv r6)).length : Int) : Int) = (iadd .i64 n5 1))) then
                          some (.inl (.inr ((iadd .i64 n5 1), n15, r5, m_2, m_3)))
                        else
                          some (.inr (.inl ()))
                      else
                        some (.inr (.inl ()))
                    else
                      some (.inr (.inl ()))
                  else
                    some (.inr (.inl ()))
              else
                some (.inr (.inl ()))
            else
              some (.inr (.inl ()))
          else
            some (.inr (.inl ()))
        else
          some (.inr (.inl ()))
      else none
    else
      some (.inr (.inr (.inr (n4, r, m, m2))))
theorem kinfolklaw15_DeedOnce_L0_ok (from_ : Int) (to : Int) (l : List Int) (n : Int) (b : Bool) (t : T_id_halves) (n2 : Int) (n3 : Int) (s_ : (Unit) ⊕ (Int × Int × List E_deed_Gift × List (Int × Int) × List ((Int × Int) × Int))) (z_ : ((Unit) ⊕ (Int × Int × List E_deed_Gift × List (Int × Int) × List ((Int × Int) × Int))) ⊕ ((Unit) ⊕ ((Unit) ⊕ (Int × List E_deed_Gift × List (Int × Int) × List ((Int × Int) × Int))))) (h : kinfolklaw15_DeedOnce_L0_step from_ to l n b t n2 n3 s_ = some z_) : RoundOk Try.prog cfg 4 0 (loopAt Try.prog 4 0) (kinfolklaw15_DeedOnce_L0_st from_ to l n b t n2 n3) (kinfolklaw15_DeedOnce_L0_ex from_ to l n b t n2 n3) s_ z_ := by
  rcases s_ with _ | ⟨n5, n4, r, m, m2⟩
  · rcases cond_of h with ⟨h1, h⟩ | ⟨h1, h⟩
    · obtain ⟨h2, h⟩ := need_of h
      obtain ⟨z_, h3, h⟩ := bind_of h
      rcases z_ with n4 | ⟨n4, n5, r, m_⟩
      · rcases cond_of h with ⟨h4, h⟩ | ⟨h4, h⟩
        · have h := some_of h
          subst h
          have t_ := tT h1 <| tO h2 <| tF (rfl : false = false) <| tR (deed_Deeds_Give_runs to b t n2 0 [] [] _ h3) <| tF (not_of2 h4) <| tT (rfl : true = true) <| tT (rfl : true = true) <| tN
          exact ⟨t_.ev, (kinfolklaw15_DeedOnce_L0_ex from_ to l n b t n2 n3 (.inl ())).2, .k0 t_.pf (by kernel_rfl), .same (by kernel_rfl)⟩
        · have h := some_of h
          subst h
          have t_ := tT h1 <| tO h2 <| tF (rfl : false = false) <| tR (deed_Deeds_Give_runs to b t n2 0 [] [] _ h3) <| tT (not_of h4) <| tT (rfl : true = true) <| tT (rfl : true = true) <| tN
          exact ⟨t_.ev, (kinfolklaw15_DeedOnce_L0_ex from_ to l n b t n2 n3 (.inl ())).2, .k0 t_.pf (by kernel_rfl), .same (by kernel_rfl)⟩
      · rcases cond_of h with ⟨h4, h⟩ | ⟨h4, h⟩
        · obtain ⟨_, h5, h⟩ := bind_of h
          rcases cond_of h with ⟨h6, h⟩ | ⟨h6, h⟩
          · obtain ⟨⟨n6, n7, n8, b2, t2, n9, n10, r2, m_2⟩, h7, h⟩ := bind_of h
            have q_7 := (deed_Deeds_Give_2_runs to b t n2 n5 r m_ [] _ h7)
            rcases cond_of h with ⟨h8, h⟩ | ⟨h8, h⟩
            · obtain ⟨z_, h9, h⟩ := bind_of h
              rcases z_ with _ | m_3
              · have h := some_of h
                subst h
                have t_ := tT h1 <| tO h2 <| tF (rfl : false = false) <| tR (deed_Deeds_Give_runs to b t n2 0 [] [] _ h3) <| tF (rfl : false = false) <| tF (not_of2 h4) <| tR (deed_Deeds_Pending_2_runs n2 n5 r m_ [] _ h5) <| tF (not_of2 h6) <| tR q_7 <| tF (not_of2 h8) <| tO (rfl : true = true) <| tL (kinfolklaw15_DeedOnce_L1_runs from_ to l n (iadd .i64 1 (IntKind.i64.wrap (irem .u8 (l.getD 0 0) 4))) b t n2 n10 r2 m_2 n3 n4 n2 to b t _ _ h9) <| tN
                exact ⟨t_.ev, (kinfolklaw15_DeedOnce_L0_ex from_ to l n b t n2 n3 (.inl ())).2, .k0 t_.pf (by kernel_rfl), .same (by kernel_rfl)⟩
              · have q_9 := (kinfolklaw15_DeedOnce_L1_runs from_ to l n (iadd .i64 1 (IntKind.i64.wrap (irem .u8 (l.getD 0 0) 4))) b t n2 n10 r2 m_2 n3 n4 n2 to b t _ _ h9)
                obtain ⟨⟨n11, r3⟩, h10, h⟩ := bind_of h
                have q_10 := (deed_Deeds_Done_runs n4 n2 n10 r2 m_2 [] _ h10)
                rcases cond_of h with ⟨h11, h⟩ | ⟨h11, h⟩
                · obtain ⟨⟨n12, r4⟩, h12, h⟩ := bind_of h
                  have q_12 := (deed_Deeds_Done_runs n4 n2 n10 r3 m_2 [] _ h12)
                  have p12_ := fun {sc_ : List Ev} {Q_ : Prop} (t_ : Tell sc_ Q_) => tT h1 <| tO h2 <| tF (rfl : false = false) <| tR (deed_Deeds_Give_runs to b t n2 0 [] [] _ h3) <| tF (rfl : false = false) <| tF (not_of2 h4) <| tR (deed_Deeds_Pending_2_runs n2 n5 r m_ [] _ h5) <| tF (not_of2 h6) <| tR q_7 <| tF (not_of2 h8) <| tO (rfl : true = true) <| tL q_9 <| tR q_10 <| tF (not_of2 h11) <| tR q_12 <| t_
                  rcases cond_of h with ⟨h13, h⟩ | ⟨h13, h⟩
                  · obtain ⟨b3, h14, h⟩ := bind_of h
                    have q_14 := (deed_Deeds_Gave_runs to n2 n10 r4 m_2 [] _ h14)
                    rcases cond_of h with ⟨h15, h⟩ | ⟨h15, h⟩
                    · obtain ⟨r5, h16, h⟩ := bind_of h
                      rcases cond_of h with ⟨h17, h⟩ | ⟨h17, h⟩
                      · have h := some_of h
                        subst h
                        have t_ := p12_ <| tF (not_of2 h13) <| tR q_14 <| tF (not_of2 h15) <| tR (deed_Deeds_Marks_runs n3 0 [] m_3 _ h16) <| tF (not_of2 h17) <| tN
                        exact ⟨t_.ev, kinfolklaw15_DeedOnce_L0_st from_ to l n b t n2 n3 (.inr (1, n10, r4, m_2, m_3)), .k0 t_.pf (by kernel_rfl), .same (by kernel_rfl)⟩
                      · have h := some_of h
                        subst h
                        have t_ := p12_ <| tF (not_of2 h13) <| tR q_14 <| tF (not_of2 h15) <| tR (deed_Deeds_Marks_runs n3 0 [] m_3 _ h16) <| tT (not_of h17) <| tN
                        exact ⟨t_.ev, (kinfolklaw15_DeedOnce_L0_ex from_ to l n b t n2 n3 (.inl ())).2, .k0 t_.pf (by kernel_rfl), .same (by kernel_rfl)⟩
                    · have h := some_of h
                      subst h
                      have t_ := p12_ <| tF (not_of2 h13) <| tR q_14 <| tT (not_of h15) <| tT (rfl : true = true) <| tN
                      exact ⟨t_.ev, (kinfolklaw15_DeedOnce_L0_ex from_ to l n b t n2 n3 (.inl ())).2, .k0 t_.pf (by kernel_rfl), .same (by kernel_rfl)⟩
                  · have h := some_of h
                    subst h
                    have t_ := p12_ <| tT (not_of h13) <| tT (rfl : true = true) <| tT (rfl : true = true) <| tN
                    exact ⟨t_.ev, (kinfolklaw15_DeedOnce_L0_ex from_ to l n b t n2 n3 (.inl ())).2, .k0 t_.pf (by kernel_rfl), .same (by kernel_rfl)⟩
                · have h := some_of h
                  subst h
                  have t_ := tT h1 <| tO h2 <| tF (rfl : false = false) <| tR (deed_Deeds_Give_runs to b t n2 0 [] [] _ h3) <| tF (rfl : false = false) <| tF (not_of2 h4) <| tR (deed_Deeds_Pending_2_runs n2 n5 r m_ [] _ h5) <| tF (not_of2 h6) <| tR q_7 <| tF (not_of2 h8) <| tO (rfl : true = true) <| tL q_9 <| tR q_10 <| tT (not_of h11) <| tT (rfl : true = true) <| tT (rfl : true = true) <| tT (rfl : true = true) <| tN
                  exact ⟨t_.ev, (kinfolklaw15_DeedOnce_L0_ex from_ to l n b t n2 n3 (.inl ())).2, .k0 t_.pf (by kernel_rfl), .same (by kernel_rfl)⟩
            · have h := some_of h
              subst h
              have t_ := tT h1 <| tO h2 <| tF (rfl : false = false) <| tR (deed_Deeds_Give_runs to b t n2 0 [] [] _ h3) <| tF (rfl : false = false) <| tF (not_of2 h4) <| tR (deed_Deeds_Pending_2_runs n2 n5 r m_ [] _ h5) <| tF (not_of2 h6) <| tR q_7 <| tT (not_of h8) <| tN
              exact ⟨t_.ev, (kinfolklaw15_DeedOnce_L0_ex from_ to l n b t n2 n3 (.inl ())).2, .k0 t_.pf (by kernel_rfl), .same (by kernel_rfl)⟩
          · have h := some_of h
            subst h
            have t_ := tT h1 <| tO h2 <| tF (rfl : false = false) <| tR (deed_Deeds_Give_runs to b t n2 0 [] [] _ h3) <| tF (rfl : false = false) <| tF (not_of2 h4) <| tR (deed_Deeds_Pending_2_runs n2 n5 r m_ [] _ h5) <| tT (not_of h6) <| tN
            exact ⟨t_.ev, (kinfolklaw15_DeedOnce_L0_ex from_ to l n b t n2 n3 (.inl ())).2, .k0 t_.pf (by kernel_rfl), .same (by kernel_rfl)⟩
        · have h := some_of h
          subst h
          have t_ := tT h1 <| tO h2 <| tF (rfl : false = false) <| tR (deed_Deeds_Give_runs to b t n2 0 [] [] _ h3) <| tF (rfl : false = false) <| tT (not_of h4) <| tT (rfl : true = true) <| tN
          exact ⟨t_.ev, (kinfolklaw15_DeedOnce_L0_ex from_ to l n b t n2 n3 (.inl ())).2, .k0 t_.pf (by kernel_rfl), .same (by kernel_rfl)⟩
    · have h := some_of h
      subst h
      have t_ := tF h1 <| tN
      exact ⟨t_.ev, ⟨[(50, (.av (.one (.pv (.bool false))))), (9, (.av (.one (.pv (.int .i64 from_))))), (10, (.av (.one (.pv (.int .i64 to))))), (11, (.av (.one (.ref 0 0)))), (13, (.av (.one (.ref 1 0)))), (14, (.av (.one (.ref 4 0)))), (47, (.av (.one (.pv (.ints .u8 l false))))), (48, (.av (.one (.pv (.int .i64 n))))), (49, (.av (.one (.pv (.int .i64 0))))), (50, (.av (.one (.pv (.bool (decide ((0 : Int) < n)))))))], [(0, [(.pv (.bool b)), (.pv (T_id_halves.pv t))]), (1, [(.pv (.int .i64 n2)), (.pv (.int .u64 0)), (.pv .nils), (.mp 2), (.mp 3)]), (2, [(.maph (.int .i64) false (List.map M_int_int.pv []) [])]), (3, [(.maph (.st [.i64, .u64]) false (List.map M_deed_Mark_int.pv []) [])]), (4, [(.pv (.int .i64 n3)), (.pv (.int .u64 0)), (.pv .nils), (.mp 5), (.mp 6)]), (5, [(.maph (.int .i64) false (List.map M_int_int.pv []) [])]), (6, [(.maph (.st [.i64, .u64]) false (List.map M_deed_Mark_int.pv []) [])])], []⟩, .k0 t_.pf (by kernel_rfl), ⟨⟨⟨_, rfl, .eq rfl⟩, trivial⟩, ⟨⟨rfl, ⟨.eq rfl, .eq rfl, trivial⟩⟩, ⟨rfl, ⟨.eq rfl, .eq rfl, .eq rfl, .eq rfl, .eq rfl, trivial⟩⟩, ⟨rfl, ⟨.eq rfl, trivial⟩⟩, ⟨rfl, ⟨.eq rfl, trivial⟩⟩, ⟨rfl, ⟨.eq rfl, .eq rfl, .eq rfl, .eq rfl, .eq rfl, trivial⟩⟩, ⟨rfl, ⟨.eq rfl, trivial⟩⟩, ⟨rfl, ⟨.eq rfl, trivial⟩⟩, trivial⟩, trivial⟩⟩
  · rcases cond_of h with ⟨h1, h⟩ | ⟨h1, h⟩
    · obtain ⟨h2, h⟩ := need_of h
      rcases cond_of h with ⟨h3, h⟩ | ⟨h3, h⟩
      · have h := some_of h
        subst h
        have t_ := tT h1 <| tO h2 <| tT h3 <| tN
        exact ⟨t_.ev, ⟨[(55, (.av (.one (.pv (.bool true))))), (9, (.av (.one (.pv (.int .i64 from_))))), (10, (.av (.one (.pv (.int .i64 to))))), (11, (.av (.one (.ref 0 0)))), (13, (.av (.one (.ref 1 0)))), (14, (.av (.one (.ref 4 0)))), (15, (.av (.one (.pv (.int .i64 n5))))), (16, (.av (.one (.pv (.int .u8 (l.getD (n5).toNat 0)))))), (47, (.av (.one (.pv (.ints .u8 l false))))), (48, (.av (.one (.pv (.int .i64 n))))), (49, (.av (.one (.pv (.int .i64 n5))))), (55, (.av (.one (.pv (.bool (decide ((8 : Int) ≤ n5)))))))], [(0, [(.pv (.bool b)), (.pv (T_id_halves.pv t))]), (1, [(.pv (.int .i64 n2)), (.pv (.int .u64 n4)), (.pv (.recs 5 (List.map E_deed_Gift.pv r) false)), (.mp 2), (.mp 3)]), (2, [(.maph (.int .i64) false (List.map M_int_int.pv m) [])]), (3, [(.maph (.st [.i64, .u64]) false (List.map M_deed_Mark_int.pv []) [])]), (4, [(.pv (.int .i64 n3)), (.pv (.int .u64 0)), (.pv .nils), (.mp 5), (.mp 6)]), (5, [(.maph (.int .i64) false (List.map M_int_int.pv []) [])]), (6, [(.maph (.st [.i64, .u64]) false (List.map M_deed_Mark_int.pv m2) [])])], []⟩, .k0 t_.pf (by kernel_rfl), ⟨⟨⟨_, rfl, .eq rfl⟩, trivial⟩, ⟨⟨rfl, ⟨.eq rfl, .eq rfl, trivial⟩⟩, ⟨rfl, ⟨.eq rfl, .eq rfl, .eq rfl, .eq rfl, .eq rfl, trivial⟩⟩, ⟨rfl, ⟨.eq rfl, trivial⟩⟩, ⟨rfl, ⟨.eq rfl, trivial⟩⟩, ⟨rfl, ⟨.eq rfl, .eq rfl, .eq rfl, .eq rfl, .eq rfl, trivial⟩⟩, ⟨rfl, ⟨.eq rfl, trivial⟩⟩, ⟨rfl, ⟨.eq rfl, trivial⟩⟩, trivial⟩, trivial⟩⟩
      · obtain ⟨⟨n6, n7, n8, b2, t2, n9, n10, r2, m_⟩, h4, h⟩ := bind_of h
        have q_4 := (deed_Deeds_Give_2_runs to b t n2 n4 r m [] _ h4)
        rcases cond_of h with ⟨h5, h⟩ | ⟨h5, h⟩
        · rcases cond_of h with ⟨h6, h⟩ | ⟨h6, h⟩
          · obtain ⟨_, h7, h⟩ := bind_of h
            have q_7 := (deed_Deeds_Pending_2_runs n2 n10 r2 m_ [] _ h7)
            rcases cond_of h with ⟨h8, h⟩ | ⟨h8, h⟩
            · obtain ⟨⟨n11, n12, n13, b3, t3, n14, n15, r3, m_2⟩, h9, h⟩ := bind_of h
              have q_9 := (deed_Deeds_Give_2_runs to b t n2 n10 r2 m_ [] _ h9)
              rcases cond_of h with ⟨h10, h⟩ | ⟨h10, h⟩
              · obtain ⟨z_, h11, h⟩ := bind_of h
                rcases z_ with _ | m_3
                · have h := some_of h
                  subst h
                  have t_ := tT h1 <| tO h2 <| tF h3 <| tR q_4 <| tF (not_of2 h5) <| tF (not_of2 h6) <| tR q_7 <| tF (not_of2 h8) <| tR q_9 <| tF (not_of2 h10) <| tO (rfl : true = true) <| tL (kinfolklaw15_DeedOnce_L1_3_runs from_ to n5 l n n5 (iadd .i64 1 (IntKind.i64.wrap (irem .u8 (l.getD (n5).toNat 0) 4))) b t n2 n15 r3 m_2 n3 n6 n7 n8 b2 t2 _ _ h11) <| tN
                  exact ⟨t_.ev, (kinfolklaw15_DeedOnce_L0_ex from_ to l n b t n2 n3 (.inl ())).2, .k0 t_.pf (by kernel_rfl), .same (by kernel_rfl)⟩
                · have q_11 := (kinfolklaw15_DeedOnce_L1_3_runs from_ to n5 l n n5 (iadd .i64 1 (IntKind.i64.wrap (irem .u8 (l.getD (n5).toNat 0) 4))) b t n2 n15 r3 m_2 n3 n6 n7 n8 b2 t2 _ _ h11)
                  obtain ⟨⟨n16, r4⟩, h12, h⟩ := bind_of h
                  have q_12 := (deed_Deeds_Done_runs n6 n2 n15 r3 m_2 [] _ h12)
                  rcases cond_of h with ⟨h13, h⟩ | ⟨h13, h⟩
                  · obtain ⟨⟨n17, r5⟩, h14, h⟩ := bind_of h
                    have q_14 := (deed_Deeds_Done_runs n6 n2 n15 r4 m_2 [] _ h14)
                    rcases cond_of h with ⟨h15, h⟩ | ⟨h15, h⟩
                    · obtain ⟨b4, h16, h⟩ := bind_of h
                      have q_16 := (deed_Deeds_Gave_runs to n2 n15 r5 m_2 [] _ h16)
                      rcases cond_of h with ⟨h17, h⟩ | ⟨h17, h⟩
                      · obtain ⟨r6, h18, h⟩ := bind_of h
                        have p18_ := fun {sc_ : List Ev} {Q_ : Prop} (t_ : Tell sc_ Q_) => tT h1 <| tO h2 <| tF h3 <| tR q_4 <| tF (not_of2 h5) <| tF (not_of2 h6) <| tR q_7 <| tF (not_of2 h8) <| tR q_9 <| tF (not_of2 h10) <| tO (rfl : true = true) <| tL q_11 <| tR q_12 <| tF (not_of2 h13) <| tR q_14 <| tF (not_of2 h15) <| tR q_16 <| tF (not_of2 h17) <| tR (deed_Deeds_Marks_runs n3 0 [] m_3 _ h18) <| t_
                        rcases cond_of h with ⟨h19, h⟩ | ⟨h19, h⟩
                        · have h := some_of h
                          subst h
                          have t_ := p18_ <| tF (not_of2 h19) <| tN
                          exact ⟨t_.ev, kinfolklaw15_DeedOnce_L0_st from_ to l n b t n2 n3 (.inr ((iadd .i64 n5 1), n15, r5, m_2, m_3)), .k0 t_.pf (by kernel_rfl), .same (by kernel_rfl)⟩
                        · have h := some_of h
                          subst h
                          have t_ := p18_ <| tT (not_of h19) <| tN
                          exact ⟨t_.ev, (kinfolklaw15_DeedOnce_L0_ex from_ to l n b t n2 n3 (.inl ())).2, .k0 t_.pf (by kernel_rfl), .same (by kernel_rfl)⟩
                      · have h := some_of h
                        subst h
                        have t_ := tT h1 <| tO h2 <| tF h3 <| tR q_4 <| tF (not_of2 h5) <| tF (not_of2 h6) <| tR q_7 <| tF (not_of2 h8) <| tR q_9 <| tF (not_of2 h10) <| tO (rfl : true = true) <| tL q_11 <| tR q_12 <| tF (not_of2 h13) <| tR q_14 <| tF (not_of2 h15) <| tR q_16 <| tT (not_of h17) <| tT (rfl : true = true) <| tN
                        exact ⟨t_.ev, (kinfolklaw15_DeedOnce_L0_ex from_ to l n b t n2 n3 (.inl ())).2, .k0 t_.pf (by kernel_rfl), .same (by kernel_rfl)⟩
                    · have h := some_of h
                      subst h
                      have t_ := tT h1 <| tO h2 <| tF h3 <| tR q_4 <| tF (not_of2 h5) <| tF (not_of2 h6) <| tR q_7 <| tF (not_of2 h8) <| tR q_9 <| tF (not_of2 h10) <| tO (rfl : true = true) <| tL q_11 <| tR q_12 <| tF (not_of2 h13) <| tR q_14 <| tT (not_of h15) <| tT (rfl : true = true) <| tT (rfl : true = true) <| tN
                      exact ⟨t_.ev, (kinfolklaw15_DeedOnce_L0_ex from_ to l n b t n2 n3 (.inl ())).2, .k0 t_.pf (by kernel_rfl), .same (by kernel_rfl)⟩
                  · have h := some_of h
                    subst h
                    have t_ := tT h1 <| tO h2 <| tF h3 <| tR q_4 <| tF (not_of2 h5) <| tF (not_of2 h6) <| tR q_7 <| tF (not_of2 h8) <| tR q_9 <| tF (not_of2 h10) <| tO (rfl : true = true) <| tL q_11 <| tR q_12 <| tT (not_of h13) <| tT (rfl : true = true) <| tT (rfl : true = true) <| tT (rfl : true = true) <| tN
                    exact ⟨t_.ev, (kinfolklaw15_DeedOnce_L0_ex from_ to l n b t n2 n3 (.inl ())).2, .k0 t_.pf (by kernel_rfl), .same (by kernel_rfl)⟩
              · have h := some_of h
                subst h
                have t_ := tT h1 <| tO h2 <| tF h3 <| tR q_4 <| tF (not_of2 h5) <| tF (not_of2 h6) <| tR q_7 <| tF (not_of2 h8) <| tR q_9 <| tT (not_of h10) <| tN
                exact ⟨t_.ev, (kinfolklaw15_DeedOnce_L0_ex from_ to l n b t n2 n3 (.inl ())).2, .k0 t_.pf (by kernel_rfl), .same (by kernel_rfl)⟩
            · have h := some_of h
              subst h
              have t_ := tT h1 <| tO h2 <| tF h3 <| tR q_4 <| tF (not_of2 h5) <| tF (not_of2 h6) <| tR q_7 <| tT (not_of h8) <| tN
              exact ⟨t_.ev, (kinfolklaw15_DeedOnce_L0_ex from_ to l n b t n2 n3 (.inl ())).2, .k0 t_.pf (by kernel_rfl), .same (by kernel_rfl)⟩
          · have h := some_of h
            subst h
            have t_ := tT h1 <| tO h2 <| tF h3 <| tR q_4 <| tF (not_of2 h5) <| tT (not_of h6) <| tT (rfl : true = true) <| tN
            exact ⟨t_.ev, (kinfolklaw15_DeedOnce_L0_ex from_ to l n b t n2 n3 (.inl ())).2, .k0 t_.pf (by kernel_rfl), .same (by kernel_rfl)⟩
        · have h := some_of h
          subst h
          have t_ := tT h1 <| tO h2 <| tF h3 <| tR q_4 <| tT (not_of h5) <| tT (rfl : true = true) <| tT (rfl : true = true) <| tN
          exact ⟨t_.ev, (kinfolklaw15_DeedOnce_L0_ex from_ to l n b t n2 n3 (.inl ())).2, .k0 t_.pf (by kernel_rfl), .same (by kernel_rfl)⟩
    · have h := some_of h
      subst h
      have t_ := tF h1 <| tN
      exact ⟨t_.ev, ⟨[(50, (.av (.one (.pv (.bool false))))), (9, (.av (.one (.pv (.int .i64 from_))))), (10, (.av (.one (.pv (.int .i64 to))))), (11, (.av (.one (.ref 0 0)))), (13, (.av (.one (.ref 1 0)))), (14, (.av (.one (.ref 4 0)))), (47, (.av (.one (.pv (.ints .u8 l false))))), (48, (.av (.one (.pv (.int .i64 n))))), (49, (.av (.one (.pv (.int .i64 n5))))), (50, (.av (.one (.pv (.bool (decide ((n5 : Int) < n)))))))], [(0, [(.pv (.bool b)), (.pv (T_id_halves.pv t))]), (1, [(.pv (.int .i64 n2)), (.pv (.int .u64 n4)), (.pv (.recs 5 (List.map E_deed_Gift.pv r) false)), (.mp 2), (.mp 3)]), (2, [(.maph (.int .i64) false (List.map M_int_int.pv m) [])]), (3, [(.maph (.st [.i64, .u64]) false (List.map M_deed_Mark_int.pv []) [])]), (4, [(.pv (.int .i64 n3)), (.pv (.int .u64 0)), (.pv .nils), (.mp 5), (.mp 6)]), (5, [(.maph (.int .i64) false (List.map M_int_int.pv []) [])]), (6, [(.maph (.st [.i64, .u64]) false (List.map M_deed_Mark_int.pv m2) [])])], []⟩, .k0 t_.pf (by kernel_rfl), ⟨⟨⟨_, rfl, .eq rfl⟩, trivial⟩, ⟨⟨rfl, ⟨.eq rfl, .eq rfl, trivial⟩⟩, ⟨rfl, ⟨.eq rfl, .eq rfl, .eq rfl, .eq rfl, .eq rfl, trivial⟩⟩, ⟨rfl, ⟨.eq rfl, trivial⟩⟩, ⟨rfl, ⟨.eq rfl, trivial⟩⟩, ⟨rfl, ⟨.eq rfl, .eq rfl, .eq rfl, .eq rfl, .eq rfl, trivial⟩⟩, ⟨rfl, ⟨.eq rfl, trivial⟩⟩, ⟨rfl, ⟨.eq rfl, trivial⟩⟩, trivial⟩, trivial⟩⟩
theorem kinfolklaw15_DeedOnce_L0_runs (from_ : Int) (to : Int) (l : List Int) (n : Int) (b : Bool) (t : T_id_halves) (n2 : Int) (n3 : Int) (s_ : (Unit) ⊕ (Int × Int × List E_deed_Gift × List (Int × Int) × List ((Int × Int) × Int))) (r_ : (Unit) ⊕ ((Unit) ⊕ (Int × List E_deed_Gift × List (Int × Int) × List ((Int × Int) × Int)))) (h : runL (kinfolklaw15_DeedOnce_L0_step from_ to l n b t n2 n3) s_ = some r_) : LRuns Try.prog (lEnv Try.prog cfg 4 0).nt 0 (.loop (loopAt Try.prog 4 0)) (kinfolklaw15_DeedOnce_L0_st from_ to l n b t n2 n3 s_) (kinfolklaw15_DeedOnce_L0_ex from_ to l n b t n2 n3 r_).1 (kinfolklaw15_DeedOnce_L0_ex from_ to l n b t n2 n3 r_).2 :=
  loop_run h (kinfolklaw15_DeedOnce_L0_ok from_ to l n b t n2 n3) (by intro r_; rcases r_ with _ | (_ | ⟨r1, r2, r3, r4⟩) <;> simp [kinfolklaw15_DeedOnce_L0_ex])
/-! ### kinfolklaw15_DeedOnce -/
noncomputable def kinfolklaw15_DeedOnce (N : Nat) (a : Int) (b : Int) (times : List Int) (share : List Int) : Option (Bool) :=
  (kinfolklaw15_awake).bind fun b2 =>
  bif b2 then
    (kinfolklaw15_made N share).bind fun (b3, t, t2) =>
    bif (decide (((IntKind.i64.wrap (irem .u8 a 12)) : Int) = (IntKind.i64.wrap (irem .u8 b 12)))) then
      some true
    else
      (id_ID_IsZero b3 t).bind fun b4 =>
      bif b4 then
        some true
      else
        (deed_New (IntKind.i64.wrap (irem .u8 a 12))).bind fun _ =>
        (deed_New (IntKind.i64.wrap (irem .u8 b 12))).bind fun _ =>
        (runL (kinfolklaw15_DeedOnce_L0_step (IntKind.i64.wrap (irem .u8 a 12)) (IntKind.i64.wrap (irem .u8 b 12)) times ((times).length : Int) b3 t (IntKind.i64.wrap (irem .u8 a 12)) (IntKind.i64.wrap (irem .u8 b 12))) (.inl ())).bind fun z_ => match z_ with
        | .inl _ =>
          some false
        | .inr (.inl _) =>
          (deed_Deeds_Pending (IntKind.i64.wrap (irem .u8 a 12)) 0 [] []).bind fun _ =>
          some (decide (((((List.map E_deed_Gift.pv [])).length : Int) : Int) = 0))
        | .inr (.inr (n, r, m_, m_2)) =>
          (deed_Deeds_Pending_2 (IntKind.i64.wrap (irem .u8 a 12)) n r m_ []).bind fun _ =>
          some (decide (((((List.map E_deed_Gift.pv r)).length : Int) : Int) = 0))
  else
    some false
theorem kinfolklaw15_DeedOnce_runs (N : Nat) (a : Int) (b : Int) (times : List Int) (share : List Int) (r_ : Bool) (h : kinfolklaw15_DeedOnce N a b times share = some r_) : Runs Try.prog 4 [(.one (.pv (.int .u8 a))), (.one (.pv (.int .u8 b))), (.one (.pv (.ints .u8 times false))), (.one (.pv (.ints .u8 share false)))] [] [] (kinfolklaw15_DeedOnce_out a b times share r_) := by
  unfold kinfolklaw15_DeedOnce at h
  obtain ⟨b2, h1, h⟩ := bind_of h
  rcases cond_of h with ⟨h2, h⟩ | ⟨h2, h⟩
  · obtain ⟨⟨b3, t, t2⟩, h3, h⟩ := bind_of h
    rcases cond_of h with ⟨h4, h⟩ | ⟨h4, h⟩
    · have h := some_of h
      subst h
      have t_ := tR (kinfolklaw15_awake_runs _ h1) <| tF (not_of2 h2) <| tO (rfl : true = true) <| tO (rfl : true = true) <| tR (kinfolklaw15_made_runs N share _ h3) <| tT h4 <| tT (rfl : true = true) <| tN
      exact runs_of (C := cfg) (objs := []) (sc := t_.ev) (.k0 t_.pf (by kernel_rfl))
    · obtain ⟨b4, h5, h⟩ := bind_of h
      rcases cond_of h with ⟨h6, h⟩ | ⟨h6, h⟩
      · have h := some_of h
        subst h
        have t_ := tR (kinfolklaw15_awake_runs _ h1) <| tF (not_of2 h2) <| tO (rfl : true = true) <| tO (rfl : true = true) <| tR (kinfolklaw15_made_runs N share _ h3) <| tF h4 <| tR (id_ID_IsZero_runs b3 t _ h5) <| tT h6 <| tN
        exact runs_of (C := cfg) (objs := []) (sc := t_.ev) (.k0 t_.pf (by kernel_rfl))
      · obtain ⟨_, h7, h⟩ := bind_of h
        have q_7 := (deed_New_runs (IntKind.i64.wrap (irem .u8 a 12)) _ h7)
        obtain ⟨_, h8, h⟩ := bind_of h
        have q_8 := (deed_New_runs (IntKind.i64.wrap (irem .u8 b 12)) _ h8)
        obtain ⟨z_, h9, h⟩ := bind_of h
        rcases z_ with _ | (_ | ⟨n, r, m_, m_2⟩)
        · have h := some_of h
          subst h
          have t_ := tR (kinfolklaw15_awake_runs _ h1) <| tF (not_of2 h2) <| tO (rfl : true = true) <| tO (rfl : true = true) <| tR (kinfolklaw15_made_runs N share _ h3) <| tF h4 <| tR (id_ID_IsZero_runs b3 t _ h5) <| tF h6 <| tR q_7 <| tR q_8 <| tL (kinfolklaw15_DeedOnce_L0_runs (IntKind.i64.wrap (irem .u8 a 12)) (IntKind.i64.wrap (irem .u8 b 12)) times ((times).length : Int) b3 t (IntKind.i64.wrap (irem .u8 a 12)) (IntKind.i64.wrap (irem .u8 b 12)) _ _ h9) <| tN
          exact runs_of (C := cfg) (objs := []) (sc := t_.ev) (.k0 t_.pf (by kernel_rfl))
        · obtain ⟨_, h10, h⟩ := bind_of h
          have h := some_of h
          subst h
          have t_ := tR (kinfolklaw15_awake_runs _ h1) <| tF (not_of2 h2) <| tO (rfl : true = true) <| tO (rfl : true = true) <| tR (kinfolklaw15_made_runs N share _ h3) <| tF h4 <| tR (id_ID_IsZero_runs b3 t _ h5) <| tF h6 <| tR q_7 <| tR q_8 <| tL (kinfolklaw15_DeedOnce_L0_runs (IntKind.i64.wrap (irem .u8 a 12)) (IntKind.i64.wrap (irem .u8 b 12)) times ((times).length : Int) b3 t (IntKind.i64.wrap (irem .u8 a 12)) (IntKind.i64.wrap (irem .u8 b 12)) _ _ h9) <| tR (deed_Deeds_Pending_runs (IntKind.i64.wrap (irem .u8 a 12)) 0 [] [] _ h10) <| tN
          exact runs_of (C := cfg) (objs := []) (sc := t_.ev) (.k0 t_.pf (by kernel_rfl))
        · obtain ⟨_, h10, h⟩ := bind_of h
          have h := some_of h
          subst h
          have t_ := tR (kinfolklaw15_awake_runs _ h1) <| tF (not_of2 h2) <| tO (rfl : true = true) <| tO (rfl : true = true) <| tR (kinfolklaw15_made_runs N share _ h3) <| tF h4 <| tR (id_ID_IsZero_runs b3 t _ h5) <| tF h6 <| tR q_7 <| tR q_8 <| tL (kinfolklaw15_DeedOnce_L0_runs (IntKind.i64.wrap (irem .u8 a 12)) (IntKind.i64.wrap (irem .u8 b 12)) times ((times).length : Int) b3 t (IntKind.i64.wrap (irem .u8 a 12)) (IntKind.i64.wrap (irem .u8 b 12)) _ _ h9) <| tR (deed_Deeds_Pending_2_runs (IntKind.i64.wrap (irem .u8 a 12)) n r m_ [] _ h10) <| tN
          exact runs_of (C := cfg) (objs := []) (sc := t_.ev) (.k0 t_.pf (by kernel_rfl))
  · have h := some_of h
    subst h
    have t_ := tR (kinfolklaw15_awake_runs _ h1) <| tT (not_of h2) <| tN
    exact runs_of (C := cfg) (objs := []) (sc := t_.ev) (.k0 t_.pf (by kernel_rfl))

end Go.Proofs.Ytjjcmgdgifcmgaa
