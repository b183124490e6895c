/- What functions compute, and that they do. -/
import Derived.Test.YtjjakdmcnkldoaaDoorA1
set_option linter.unusedVariables false
set_option linter.unusedSimpArgs false
set_option maxRecDepth 100000
namespace Go.Proofs.YtjjakdmcnkldoaaDoor
open Go.Ev

/-! ### kinfolkref02_Min -/
noncomputable def kinfolkref02_Min_b (rec_kinfolkref02_Min : T_kinfolkref02_Event → Option (Int)) (e : T_kinfolkref02_Event) : Option (Int) :=
  match e with
  | .nil =>
    none
  | .mk n t t2 =>
    match t with
    | .nil =>
      some n
    | .mk n2 t3 t4 =>
      (rec_kinfolkref02_Min t).bind fun n3 =>
      (rec_kinfolkref02_Min t2).bind fun n4 =>
      bif (decide ((n3 : Int) < n4)) then
        some (iadd .u64 n n3)
      else
        some (iadd .u64 n n4)
theorem kinfolkref02_Min_b_runs (rec_kinfolkref02_Min : T_kinfolkref02_Event → Option (Int)) (hrec_kinfolkref02_Min : ∀ e r_, rec_kinfolkref02_Min e = some r_ → Runs Tryd.prog 100 [(.one (.pv (T_kinfolkref02_Event.pv e)))] [] [] (kinfolkref02_Min_out e r_)) (e : T_kinfolkref02_Event) (r_ : Int) (h : kinfolkref02_Min_b rec_kinfolkref02_Min e = some r_) : Runs Tryd.prog 100 [(.one (.pv (T_kinfolkref02_Event.pv e)))] [] [] (kinfolkref02_Min_out e r_) := by
  unfold kinfolkref02_Min_b at h
  cases e with
  | nil =>
    cases h
  | mk n t t2 =>
    cases t with
    | nil =>
      have h := some_of h
      subst h
      exact runs_of (C := cfg) (objs := []) (sc := [.br true]) (.k0 (an_ (rfl : true = true) trivial) (by kernel_rfl))
    | mk n2 t3 t4 =>
      obtain ⟨n3, h1, h⟩ := bind_of h
      obtain ⟨n4, h2, h⟩ := bind_of h
      rcases cond_of h with ⟨h3, h⟩ | ⟨h3, h⟩
      · have h := some_of h
        subst h
        exact runs_of (C := cfg) (objs := []) (sc := [.br false, .res (kinfolkref02_Min_out (T_kinfolkref02_Event.mk n2 t3 t4) n3), .res (kinfolkref02_Min_out t2 n4), .br true]) (.k0 (an_ (rfl : false = false) (an_ (hrec_kinfolkref02_Min (T_kinfolkref02_Event.mk n2 t3 t4) _ h1) (an_ (hrec_kinfolkref02_Min t2 _ h2) (an_ h3 trivial)))) (by kernel_rfl))
      · have h := some_of h
        subst h
        exact runs_of (C := cfg) (objs := []) (sc := [.br false, .res (kinfolkref02_Min_out (T_kinfolkref02_Event.mk n2 t3 t4) n3), .res (kinfolkref02_Min_out t2 n4), .br false]) (.k0 (an_ (rfl : false = false) (an_ (hrec_kinfolkref02_Min (T_kinfolkref02_Event.mk n2 t3 t4) _ h1) (an_ (hrec_kinfolkref02_Min t2 _ h2) (an_ h3 trivial)))) (by kernel_rfl))
noncomputable def kinfolkref02_Min : Nat → T_kinfolkref02_Event → Option (Int)
  | 0, _ => none
  | N + 1, e => kinfolkref02_Min_b (kinfolkref02_Min N) e
theorem kinfolkref02_Min_runs : ∀ (N : Nat) (e : T_kinfolkref02_Event) (r_ : Int), kinfolkref02_Min N e = some r_ → Runs Tryd.prog 100 [(.one (.pv (T_kinfolkref02_Event.pv e)))] [] [] (kinfolkref02_Min_out e r_)
  | 0, _, _, h => by cases h
  | N + 1, e, r_, h => kinfolkref02_Min_b_runs (kinfolkref02_Min N) (kinfolkref02_Min_runs N) e r_ h
/-! ### kinfolkref02_Node -/
noncomputable def kinfolkref02_Node (N : Nat) (n : Int) (l : T_kinfolkref02_Event) (r : T_kinfolkref02_Event) : Option (T_kinfolkref02_Event) :=
  match l with
  | .nil =>
    none
  | .mk n2 t t2 =>
    match t with
    | .nil =>
      match r with
      | .nil =>
        none
      | .mk n3 t3 t4 =>
        match t3 with
        | .nil =>
          bif (decide ((n2 : Int) = n3)) then
            (kinfolkref02_Leaf (iadd .u64 n n2)).bind fun t5 =>
            some t5
          else
            (kinfolkref02_Min N l).bind fun n4 =>
            (kinfolkref02_Min N r).bind fun n5 =>
            bif (decide ((n5 : Int) < n4)) then
              some (T_kinfolkref02_Event.mk (iadd .u64 n n5) (T_kinfolkref02_Event.mk (isub .u64 n2 n5) t t2) (T_kinfolkref02_Event.mk (isub .u64 n3 n5) t3 t4))
            else
              some (T_kinfolkref02_Event.mk (iadd .u64 n n4) (T_kinfolkref02_Event.mk (isub .u64 n2 n4) t t2) (T_kinfolkref02_Event.mk (isub .u64 n3 n4) t3 t4))
        | .mk n4 t5 t6 =>
          (kinfolkref02_Min N l).bind fun n5 =>
          (kinfolkref02_Min N r).bind fun n6 =>
          bif (decide ((n6 : Int) < n5)) then
            some (T_kinfolkref02_Event.mk (iadd .u64 n n6) (T_kinfolkref02_Event.mk (isub .u64 n2 n6) t t2) (T_kinfolkref02_Event.mk (isub .u64 n3 n6) t3 t4))
          else
            some (T_kinfolkref02_Event.mk (iadd .u64 n n5) (T_kinfolkref02_Event.mk (isub .u64 n2 n5) t t2) (T_kinfolkref02_Event.mk (isub .u64 n3 n5) t3 t4))
    | .mk n3 t3 t4 =>
      (kinfolkref02_Min N l).bind fun n4 =>
      (kinfolkref02_Min N r).bind fun n5 =>
      bif (decide ((n5 : Int) < n4)) then
        match r with
        | .nil =>
          none
        | .mk n6 t5 t6 =>
          some (T_kinfolkref02_Event.mk (iadd .u64 n n5) (T_kinfolkref02_Event.mk (isub .u64 n2 n5) t t2) (T_kinfolkref02_Event.mk (isub .u64 n6 n5) t5 t6))
      else
        match r with
        | .nil =>
          none
        | .mk n6 t5 t6 =>
          some (T_kinfolkref02_Event.mk (iadd .u64 n n4) (T_kinfolkref02_Event.mk (isub .u64 n2 n4) t t2) (T_kinfolkref02_Event.mk (isub .u64 n6 n4) t5 t6))
theorem kinfolkref02_Node_runs (N : Nat) (n : Int) (l : T_kinfolkref02_Event) (r : T_kinfolkref02_Event) (r_ : T_kinfolkref02_Event) (h : kinfolkref02_Node N n l r = some r_) : Runs Tryd.prog 56 [(.one (.pv (.int .u64 n))), (.one (.pv (T_kinfolkref02_Event.pv l))), (.one (.pv (T_kinfolkref02_Event.pv r)))] [] [] (kinfolkref02_Node_out n l r r_) := by
  unfold kinfolkref02_Node at h
  cases l with
  | nil =>
    cases h
  | mk n2 t t2 =>
    cases t with
    | nil =>
      cases r with
      | nil =>
        cases h
      | mk n3 t3 t4 =>
        cases t3 with
        | nil =>
          rcases cond_of h with ⟨h1, h⟩ | ⟨h1, h⟩
          · obtain ⟨t5, h2, h⟩ := bind_of h
            have h := some_of h
            subst h
            exact runs_of (C := cfg) (objs := []) (sc := [.br true, .br true, .br true, .res (kinfolkref02_Leaf_out (iadd .u64 n n2) t5)]) (.k0 (an_ (rfl : true = true) (an_ (rfl : true = true) (an_ h1 (an_ (kinfolkref02_Leaf_runs (iadd .u64 n n2) _ h2) trivial)))) (by kernel_rfl))
          · obtain ⟨n4, h2, h⟩ := bind_of h
            obtain ⟨n5, h3, h⟩ := bind_of h
            rcases cond_of h with ⟨h4, h⟩ | ⟨h4, h⟩
            · have h := some_of h
              subst h
              have e_ : Runs Tryd.prog 56 [(.one (.pv (.int .u64 n))), (.one (.pv (T_kinfolkref02_Event.pv (T_kinfolkref02_Event.mk n2 T_kinfolkref02_Event.nil t2)))), (.one (.pv (T_kinfolkref02_Event.pv (T_kinfolkref02_Event.mk n3 T_kinfolkref02_Event.nil t4))))] [] [] ([(.one (.pv (.imm [(.int .u64 (iadd .u64 n n5)), (.imm [(.int .u64 (isub .u64 n2 n5)), (T_kinfolkref02_Event.pv T_kinfolkref02_Event.nil), (T_kinfolkref02_Event.pv t2)] 0), (.imm [(.int .u64 (isub .u64 n3 n5)), (T_kinfolkref02_Event.pv T_kinfolkref02_Event.nil), (T_kinfolkref02_Event.pv t4)] 0)] 0)))], [], []) := runs_of (C := cfg) (objs := []) (sc := [.br true, .br true, .br false, .res (kinfolkref02_Min_out (T_kinfolkref02_Event.mk n2 T_kinfolkref02_Event.nil t2) n4), .res (kinfolkref02_Min_out (T_kinfolkref02_Event.mk n3 T_kinfolkref02_Event.nil t4) n5), .br true, .res (kinfolkref02_Min_out (T_kinfolkref02_Event.mk n3 T_kinfolkref02_Event.nil t4) n5)]) (.k1 (an_ (rfl : true = true) (an_ (rfl : true = true) (an_ h1 (an_ (kinfolkref02_Min_runs N (T_kinfolkref02_Event.mk n2 T_kinfolkref02_Event.nil t2) _ h2) (an_ (kinfolkref02_Min_runs N (T_kinfolkref02_Event.mk n3 T_kinfolkref02_Event.nil t4) _ h3) (an_ h4 (an_ (kinfolkref02_Min_runs N (T_kinfolkref02_Event.mk n3 T_kinfolkref02_Event.nil t4) _ h3) trivial))))))) (by kernel_rfl) (by kernel_rfl))
              exact e_.out ⟨.eq rfl, trivial⟩ trivial trivial rfl
            · have h := some_of h
              subst h
              have e_ : Runs Tryd.prog 56 [(.one (.pv (.int .u64 n))), (.one (.pv (T_kinfolkref02_Event.pv (T_kinfolkref02_Event.mk n2 T_kinfolkref02_Event.nil t2)))), (.one (.pv (T_kinfolkref02_Event.pv (T_kinfolkref02_Event.mk n3 T_kinfolkref02_Event.nil t4))))] [] [] ([(.one (.pv (.imm [(.int .u64 (iadd .u64 n n4)), (.imm [(.int .u64 (isub .u64 n2 n4)), (T_kinfolkref02_Event.pv T_kinfolkref02_Event.nil), (T_kinfolkref02_Event.pv t2)] 0), (.imm [(.int .u64 (isub .u64 n3 n4)), (T_kinfolkref02_Event.pv T_kinfolkref02_Event.nil), (T_kinfolkref02_Event.pv t4)] 0)] 0)))], [], []) := runs_of (C := cfg) (objs := []) (sc := [.br true, .br true, .br false, .res (kinfolkref02_Min_out (T_kinfolkref02_Event.mk n2 T_kinfolkref02_Event.nil t2) n4), .res (kinfolkref02_Min_out (T_kinfolkref02_Event.mk n3 T_kinfolkref02_Event.nil t4) n5), .br false]) (.k1 (an_ (rfl : true = true) (an_ (rfl : true = true) (an_ h1 (an_ (kinfolkref02_Min_runs N (T_kinfolkref02_Event.mk n2 T_kinfolkref02_Event.nil t2) _ h2) (an_ (kinfolkref02_Min_runs N (T_kinfolkref02_Event.mk n3 T_kinfolkref02_Event.nil t4) _ h3) (an_ h4 trivial)))))) (by kernel_rfl) (by kernel_rfl))
              exact e_.out ⟨.eq rfl, trivial⟩ trivial trivial rfl
        | mk n4 t5 t6 =>
          obtain ⟨n5, h1, h⟩ := bind_of h
          obtain ⟨n6, h2, h⟩ := bind_of h
          rcases cond_of h with ⟨h3, h⟩ | ⟨h3, h⟩
          · have h := some_of h
            subst h
            have e_ : Runs Tryd.prog 56 [(.one (.pv (.int .u64 n))), (.one (.pv (T_kinfolkref02_Event.pv (T_kinfolkref02_Event.mk n2 T_kinfolkref02_Event.nil t2)))), (.one (.pv (T_kinfolkref02_Event.pv (T_kinfolkref02_Event.mk n3 (T_kinfolkref02_Event.mk n4 t5 t6) t4))))] [] [] ([(.one (.pv (.imm [(.int .u64 (iadd .u64 n n6)), (.imm [(.int .u64 (isub .u64 n2 n6)), (T_kinfolkref02_Event.pv T_kinfolkref02_Event.nil), (T_kinfolkref02_Event.pv t2)] 0), (.imm [(.int .u64 (isub .u64 n3 n6)), (T_kinfolkref02_Event.pv (T_kinfolkref02_Event.mk n4 t5 t6)), (T_kinfolkref02_Event.pv t4)] 0)] 0)))], [], []) := runs_of (C := cfg) (objs := []) (sc := [.br true, .br false, .br false, .res (kinfolkref02_Min_out (T_kinfolkref02_Event.mk n2 T_kinfolkref02_Event.nil t2) n5), .res (kinfolkref02_Min_out (T_kinfolkref02_Event.mk n3 (T_kinfolkref02_Event.mk n4 t5 t6) t4) n6), .br true, .res (kinfolkref02_Min_out (T_kinfolkref02_Event.mk n3 (T_kinfolkref02_Event.mk n4 t5 t6) t4) n6)]) (.k1 (an_ (rfl : true = true) (an_ (rfl : false = false) (an_ (rfl : false = false) (an_ (kinfolkref02_Min_runs N (T_kinfolkref02_Event.mk n2 T_kinfolkref02_Event.nil t2) _ h1) (an_ (kinfolkref02_Min_runs N (T_kinfolkref02_Event.mk n3 (T_kinfolkref02_Event.mk n4 t5 t6) t4) _ h2) (an_ h3 (an_ (kinfolkref02_Min_runs N (T_kinfolkref02_Event.mk n3 (T_kinfolkref02_Event.mk n4 t5 t6) t4) _ h2) trivial))))))) (by kernel_rfl) (by kernel_rfl))
            exact e_.out ⟨.eq rfl, trivial⟩ trivial trivial rfl
          · have h := some_of h
            subst h
            have e_ : Runs Tryd.prog 56 [(.one (.pv (.int .u64 n))), (.one (.pv (T_kinfolkref02_Event.pv (T_kinfolkref02_Event.mk n2 T_kinfolkref02_Event.nil t2)))), (.one (.pv (T_kinfolkref02_Event.pv (T_kinfolkref02_Event.mk n3 (T_kinfolkref02_Event.mk n4 t5 t6) t4))))] [] [] ([(.one (.pv (.imm [(.int .u64 (iadd .u64 n n5)), (.imm [(.int .u64 (isub .u64 n2 n5)), (T_kinfolkref02_Event.pv T_kinfolkref02_Event.nil), (T_kinfolkref02_Event.pv t2)] 0), (.imm [(.int .u64 (isub .u64 n3 n5)), (T_kinfolkref02_Event.pv (T_kinfolkref02_Event.mk n4 t5 t6)), (T_kinfolkref02_Event.pv t4)] 0)] 0)))], [], []) := runs_of (C := cfg) (objs := []) (sc := [.br true, .br false, .br false, .res (kinfolkref02_Min_out (T_kinfolkref02_Event.mk n2 T_kinfolkref02_Event.nil t2) n5), .res (kinfolkref02_Min_out (T_kinfolkref02_Event.mk n3 (T_kinfolkref02_Event.mk n4 t5 t6) t4) n6), .br false]) (.k1 (an_ (rfl : true = true) (an_ (rfl : false = false) (an_ (rfl : false = false) (an_ (kinfolkref02_Min_runs N (T_kinfolkref02_Event.mk n2 T_kinfolkref02_Event.nil t2) _ h1) (an_ (kinfolkref02_Min_runs N (T_kinfolkref02_Event.mk n3 (T_kinfolkref02_Event.mk n4 t5 t6) t4) _ h2) (an_ h3 trivial)))))) (by kernel_rfl) (by kernel_rfl))
            exact e_.out ⟨.eq rfl, trivial⟩ trivial trivial rfl
    | mk n3 t3 t4 =>
      obtain ⟨n4, h1, h⟩ := bind_of h
      obtain ⟨n5, h2, h⟩ := bind_of h
      rcases cond_of h with ⟨h3, h⟩ | ⟨h3, h⟩
      · cases r with
        | nil =>
          cases h
        | mk n6 t5 t6 =>
          have h := some_of h
          subst h
          have e_ : Runs Tryd.prog 56 [(.one (.pv (.int .u64 n))), (.one (.pv (T_kinfolkref02_Event.pv (T_kinfolkref02_Event.mk n2 (T_kinfolkref02_Event.mk n3 t3 t4) t2)))), (.one (.pv (T_kinfolkref02_Event.pv (T_kinfolkref02_Event.mk n6 t5 t6))))] [] [] ([(.one (.pv (.imm [(.int .u64 (iadd .u64 n n5)), (.imm [(.int .u64 (isub .u64 n2 n5)), (T_kinfolkref02_Event.pv (T_kinfolkref02_Event.mk n3 t3 t4)), (T_kinfolkref02_Event.pv t2)] 0), (.imm [(.int .u64 (isub .u64 n6 n5)), (T_kinfolkref02_Event.pv t5), (T_kinfolkref02_Event.pv t6)] 0)] 0)))], [], []) := runs_of (C := cfg) (objs := []) (sc := [.br false, .br false, .br false, .res (kinfolkref02_Min_out (T_kinfolkref02_Event.mk n2 (T_kinfolkref02_Event.mk n3 t3 t4) t2) n4), .res (kinfolkref02_Min_out (T_kinfolkref02_Event.mk n6 t5 t6) n5), .br true, .res (kinfolkref02_Min_out (T_kinfolkref02_Event.mk n6 t5 t6) n5)]) (.k1 (an_ (rfl : false = false) (an_ (rfl : false = false) (an_ (rfl : false = false) (an_ (kinfolkref02_Min_runs N (T_kinfolkref02_Event.mk n2 (T_kinfolkref02_Event.mk n3 t3 t4) t2) _ h1) (an_ (kinfolkref02_Min_runs N (T_kinfolkref02_Event.mk n6 t5 t6) _ h2) (an_ h3 (an_ (kinfolkref02_Min_runs N (T_kinfolkref02_Event.mk n6 t5 t6) _ h2) trivial))))))) (by kernel_rfl) (by kernel_rfl))
          exact e_.out ⟨.eq rfl, trivial⟩ trivial trivial rfl
      · cases r with
        | nil =>
          cases h
        | mk n6 t5 t6 =>
          have h := some_of h
          subst h
          have e_ : Runs Tryd.prog 56 [(.one (.pv (.int .u64 n))), (.one (.pv (T_kinfolkref02_Event.pv (T_kinfolkref02_Event.mk n2 (T_kinfolkref02_Event.mk n3 t3 t4) t2)))), (.one (.pv (T_kinfolkref02_Event.pv (T_kinfolkref02_Event.mk n6 t5 t6))))] [] [] ([(.one (.pv (.imm [(.int .u64 (iadd .u64 n n4)), (.imm [(.int .u64 (isub .u64 n2 n4)), (T_kinfolkref02_Event.pv (T_kinfolkref02_Event.mk n3 t3 t4)), (T_kinfolkref02_Event.pv t2)] 0), (.imm [(.int .u64 (isub .u64 n6 n4)), (T_kinfolkref02_Event.pv t5), (T_kinfolkref02_Event.pv t6)] 0)] 0)))], [], []) := runs_of (C := cfg) (objs := []) (sc := [.br false, .br false, .br false, .res (kinfolkref02_Min_out (T_kinfolkref02_Event.mk n2 (T_kinfolkref02_Event.mk n3 t3 t4) t2) n4), .res (kinfolkref02_Min_out (T_kinfolkref02_Event.mk n6 t5 t6) n5), .br false]) (.k1 (an_ (rfl : false = false) (an_ (rfl : false = false) (an_ (rfl : false = false) (an_ (kinfolkref02_Min_runs N (T_kinfolkref02_Event.mk n2 (T_kinfolkref02_Event.mk n3 t3 t4) t2) _ h1) (an_ (kinfolkref02_Min_runs N (T_kinfolkref02_Event.mk n6 t5 t6) _ h2) (an_ h3 trivial)))))) (by kernel_rfl) (by kernel_rfl))
          exact e_.out ⟨.eq rfl, trivial⟩ trivial trivial rfl
/-! ### kinfolkref02_Make -/
noncomputable def kinfolkref02_Make_b (N : Nat) (rec_kinfolkref02_Make : List Int → Int → Option (T_kinfolkref02_Event × List Int)) (p : List Int) (most : Int) : Option (T_kinfolkref02_Event × List Int) :=
  bif (decide ((((p).length : Int) : Int) = 0)) then
    (kinfolkref02_Leaf 0).bind fun t =>
    some (t, [])
  else
    bif decide ((0 : Int) ≤ 0) && decide ((0 : Int) < ((p).length : Int)) then
    bif decide ((0 : Int) ≤ 1) && decide ((1 : Int) ≤ ((p).length : Int)) && decide ((((p).length : Int) : Int) ≤ ((p).length : Int)) && decide ((((p).length : Int) : Int) = ((p).length : Int)) then
    bif (decide ((most : Int) = 0)) then
      (kinfolkref02_Leaf (IntKind.u64.wrap (irem .u8 (iquo .u8 (p.getD 0 0) 4) 8))).bind fun t =>
      some (t, (List.take (((p).length : Int) - 1).toNat (List.drop 1 p)))
    else
      bif (decide (((irem .u8 (p.getD 0 0) 4) : Int) < 2)) then
        (kinfolkref02_Leaf (IntKind.u64.wrap (irem .u8 (iquo .u8 (p.getD 0 0) 4) 8))).bind fun t =>
        some (t, (List.take (((p).length : Int) - 1).toNat (List.drop 1 p)))
      else
        (rec_kinfolkref02_Make (List.take (((p).length : Int) - 1).toNat (List.drop 1 p)) (isub .i64 most 1)).bind fun (t, l_) =>
        (rec_kinfolkref02_Make l_ (isub .i64 most 1)).bind fun (t2, l_2) =>
        (kinfolkref02_Node N (IntKind.u64.wrap (irem .u8 (iquo .u8 (p.getD 0 0) 4) 4)) t t2).bind fun t3 =>
        some (t3, l_2)
    else none
    else none
theorem kinfolkref02_Make_b_runs (N : Nat) (rec_kinfolkref02_Make : List Int → Int → Option (T_kinfolkref02_Event × List Int)) (hrec_kinfolkref02_Make : ∀ p most r_, rec_kinfolkref02_Make p most = some r_ → Runs Tryd.prog 88 [(.one (.pv (.ints .u8 p false))), (.one (.pv (.int .i64 most)))] [] [] (kinfolkref02_Make_out p most r_)) (p : List Int) (most : Int) (r_ : T_kinfolkref02_Event × List Int) (h : kinfolkref02_Make_b N rec_kinfolkref02_Make p most = some r_) : Runs Tryd.prog 88 [(.one (.pv (.ints .u8 p false))), (.one (.pv (.int .i64 most)))] [] [] (kinfolkref02_Make_out p most r_) := by
  unfold kinfolkref02_Make_b at h
  rcases cond_of h with ⟨h1, h⟩ | ⟨h1, h⟩
  · obtain ⟨t, h2, h⟩ := bind_of h
    have h := some_of h
    subst h
    have e_ : Runs Tryd.prog 88 [(.one (.pv (.ints .u8 p false))), (.one (.pv (.int .i64 most)))] [] [] ([(.one (.pv (T_kinfolkref02_Event.pv t))), (.one (.pv .nils))], [], []) := runs_of (C := cfg) (objs := []) (sc := [.br true, .res (kinfolkref02_Leaf_out 0 t)]) (.k0 (an_ h1 (an_ (kinfolkref02_Leaf_runs 0 _ h2) trivial)) (by kernel_rfl))
    exact e_.out ⟨.eq rfl, .pv (.nilsI), trivial⟩ trivial trivial rfl
  · obtain ⟨h2, h⟩ := need_of h
    obtain ⟨h3, h⟩ := need_of h
    rcases cond_of h with ⟨h4, h⟩ | ⟨h4, h⟩
    · obtain ⟨t, h5, h⟩ := bind_of h
      have h := some_of h
      subst h
      exact runs_of (C := cfg) (objs := []) (sc := [.br false, .br true, .br true, .res (kinfolkref02_Leaf_out (IntKind.u64.wrap (irem .u8 (iquo .u8 (p.getD 0 0) 4) 8)) t)]) (.k0 (an_ h1 (an_ h2 (an_ h3 (an_ h4 (an_ (rfl : true = true) (an_ (rfl : true = true) (an_ (rfl : true = true) (an_ (kinfolkref02_Leaf_runs (IntKind.u64.wrap (irem .u8 (iquo .u8 (p.getD 0 0) 4) 8)) _ h5) trivial)))))))) (by kernel_rfl))
    · rcases cond_of h with ⟨h5, h⟩ | ⟨h5, h⟩
      · obtain ⟨t, h6, h⟩ := bind_of h
        have h := some_of h
        subst h
        exact runs_of (C := cfg) (objs := []) (sc := [.br false, .br false, .br true, .res (kinfolkref02_Leaf_out (IntKind.u64.wrap (irem .u8 (iquo .u8 (p.getD 0 0) 4) 8)) t)]) (.k0 (an_ h1 (an_ h2 (an_ h3 (an_ h4 (an_ (rfl : true = true) (an_ h5 (an_ (rfl : true = true) (an_ (rfl : true = true) (an_ (kinfolkref02_Leaf_runs (IntKind.u64.wrap (irem .u8 (iquo .u8 (p.getD 0 0) 4) 8)) _ h6) trivial))))))))) (by kernel_rfl))
      · obtain ⟨⟨t, l_⟩, h6, h⟩ := bind_of h
        obtain ⟨⟨t2, l_2⟩, h7, h⟩ := bind_of h
        obtain ⟨t3, h8, h⟩ := bind_of h
        have h := some_of h
        subst h
        exact runs_of (C := cfg) (objs := []) (sc := [.br false, .br false, .br false, .res (kinfolkref02_Make_out (List.take (((p).length : Int) - 1).toNat (List.drop 1 p)) (isub .i64 most 1) (t, l_)), .res (kinfolkref02_Make_out l_ (isub .i64 most 1) (t2, l_2)), .res (kinfolkref02_Node_out (IntKind.u64.wrap (irem .u8 (iquo .u8 (p.getD 0 0) 4) 4)) t t2 t3)]) (.k0 (an_ h1 (an_ h2 (an_ h3 (an_ h4 (an_ (rfl : true = true) (an_ h5 (an_ (hrec_kinfolkref02_Make (List.take (((p).length : Int) - 1).toNat (List.drop 1 p)) (isub .i64 most 1) _ h6) (an_ (hrec_kinfolkref02_Make l_ (isub .i64 most 1) _ h7) (an_ (rfl : true = true) (an_ (rfl : true = true) (an_ (kinfolkref02_Node_runs N (IntKind.u64.wrap (irem .u8 (iquo .u8 (p.getD 0 0) 4) 4)) t t2 _ h8) trivial))))))))))) (by kernel_rfl))
noncomputable def kinfolkref02_Make : Nat → List Int → Int → Option (T_kinfolkref02_Event × List Int)
  | 0, _, _ => none
  | N + 1, p, most => kinfolkref02_Make_b N (kinfolkref02_Make N) p most
theorem kinfolkref02_Make_runs : ∀ (N : Nat) (p : List Int) (most : Int) (r_ : T_kinfolkref02_Event × List Int), kinfolkref02_Make N p most = some r_ → Runs Tryd.prog 88 [(.one (.pv (.ints .u8 p false))), (.one (.pv (.int .i64 most)))] [] [] (kinfolkref02_Make_out p most r_)
  | 0, _, _, _, h => by cases h
  | N + 1, p, most, r_, h => kinfolkref02_Make_b_runs N (kinfolkref02_Make N) (kinfolkref02_Make_runs N) p most r_ h
/-! ### kinfolklaw02_own_out -/
def kinfolklaw02_own_out (x : T_kinfolkref02_Event) : Int × T_event_halves → Res
  | (r1, r2) => ([(.agg [(.pv (.int .u64 r1)), (.pv (T_event_halves.pv r2))])], [], [])
/-! ### event_Leaf_out -/
def event_Leaf_out (n : Int) : Int × Int → Res
  | (r1, r2) => ([(.agg [(.pv (.int .u64 r1)), (.pv (T_event_halves.pv T_event_halves.nil))]), (.one (.pv (.int .i64 r2)))], [], [])
/-! ### event_Leaf -/
noncomputable def event_Leaf (n : Int) : Option (Int × Int) :=
  bif (decide ((1048576 : Int) < n)) then
    some (0, 4)
  else
    some (n, 0)
theorem event_Leaf_runs (n : Int) (r_ : Int × Int) (h : event_Leaf n = some r_) : Runs Tryd.prog 31 [(.one (.pv (.int .u64 n)))] [] [] (event_Leaf_out n r_) := by
  unfold event_Leaf at h
  rcases cond_of h with ⟨h1, h⟩ | ⟨h1, h⟩
  · have h := some_of h
    subst h
    have e_ : Runs Tryd.prog 31 [(.one (.pv (.int .u64 n)))] [] [] ([(.agg [(.pv (.int .u64 0)), (.pv .nilp)]), (.one (.pv (.int .i64 4)))], [], []) := runs_of (C := cfg) (objs := []) (sc := [.br true]) (.k0 (an_ h1 trivial) (by kernel_rfl))
    exact e_.out ⟨⟨.eq rfl, .eq rfl, trivial⟩, .eq rfl, trivial⟩ trivial trivial rfl
  · have h := some_of h
    subst h
    have e_ : Runs Tryd.prog 31 [(.one (.pv (.int .u64 n)))] [] [] ([(.agg [(.pv (.int .u64 n)), (.pv .nilp)]), (.one (.pv (.int .i64 0)))], [], []) := runs_of (C := cfg) (objs := []) (sc := [.br false]) (.k0 (an_ h1 trivial) (by kernel_rfl))
    exact e_.out ⟨⟨.eq rfl, .eq rfl, trivial⟩, .eq rfl, trivial⟩ trivial trivial rfl
/-! ### event_Node_out -/
def event_Node_out (n : Int) (l : Int) (l2 : T_event_halves) (r : Int) (r2 : T_event_halves) : Int × T_event_halves × Int → Res
  | (r1, r2, r3) => ([(.agg [(.pv (.int .u64 r1)), (.pv (T_event_halves.pv r2))]), (.one (.pv (.int .i64 r3)))], [], [])
/-! ### event_Node -/
noncomputable def event_Node (N : Nat) (n : Int) (l : Int) (l2 : T_event_halves) (r : Int) (r2 : T_event_halves) : Option (Int × T_event_halves × Int) :=
  (event_node (if (2097152 : Int) < n then 2097152 else n) l l2 r r2).bind fun (n2, t) =>
  (event_Event_right N n2 t).bind fun n3 =>
  bif (decide ((n3 : Int) = 0)) then
    some (n2, t, 0)
  else
    some (0, T_event_halves.nil, n3)
theorem event_Node_runs (N : Nat) (n : Int) (l : Int) (l2 : T_event_halves) (r : Int) (r2 : T_event_halves) (r_ : Int × T_event_halves × Int) (h : event_Node N n l l2 r r2 = some r_) : Runs Tryd.prog 54 [(.one (.pv (.int .u64 n))), (.agg [(.pv (.int .u64 l)), (.pv (T_event_halves.pv l2))]), (.agg [(.pv (.int .u64 r)), (.pv (T_event_halves.pv r2))])] [] [] (event_Node_out n l l2 r r2 r_) := by
  unfold event_Node at h
  obtain ⟨⟨n2, t⟩, h1, h⟩ := bind_of h
  obtain ⟨n3, h2, h⟩ := bind_of h
  rcases cond_of h with ⟨h3, h⟩ | ⟨h3, h⟩
  · have h := some_of h
    subst h
    exact runs_of (C := cfg) (objs := []) (sc := [.res (event_node_out (if (2097152 : Int) < n then 2097152 else n) l l2 r r2 (n2, t)), .res (event_Event_right_out n2 t n3), .br false]) (.k0 (an_ (event_node_runs (if (2097152 : Int) < n then 2097152 else n) l l2 r r2 _ h1) (an_ (event_Event_right_runs N n2 t _ h2) (an_ (not_of2 h3) trivial))) (by kernel_rfl))
  · have h := some_of h
    subst h
    have e_ : Runs Tryd.prog 54 [(.one (.pv (.int .u64 n))), (.agg [(.pv (.int .u64 l)), (.pv (T_event_halves.pv l2))]), (.agg [(.pv (.int .u64 r)), (.pv (T_event_halves.pv r2))])] [] [] ([(.agg [(.pv (.int .u64 0)), (.pv .nilp)]), (.one (.pv (.int .i64 n3)))], [], []) := runs_of (C := cfg) (objs := []) (sc := [.res (event_node_out (if (2097152 : Int) < n then 2097152 else n) l l2 r r2 (n2, t)), .res (event_Event_right_out n2 t n3), .br true]) (.k0 (an_ (event_node_runs (if (2097152 : Int) < n then 2097152 else n) l l2 r r2 _ h1) (an_ (event_Event_right_runs N n2 t _ h2) (an_ (not_of h3) trivial))) (by kernel_rfl))
    exact e_.out ⟨⟨.eq rfl, .eq rfl, trivial⟩, .eq rfl, trivial⟩ trivial trivial rfl
/-! ### kinfolklaw02_own -/
noncomputable def kinfolklaw02_own_b (N : Nat) (rec_kinfolklaw02_own : T_kinfolkref02_Event → Option (Int × T_event_halves)) (x : T_kinfolkref02_Event) : Option (Int × T_event_halves) :=
  match x with
  | .nil =>
    none
  | .mk n t t2 =>
    match t with
    | .nil =>
      (event_Leaf n).bind fun (n2, n3) =>
      some (n2, T_event_halves.nil)
    | .mk n2 t3 t4 =>
      (rec_kinfolklaw02_own t).bind fun (n3, t5) =>
      (rec_kinfolklaw02_own t2).bind fun (n4, t6) =>
      (event_Node N n n3 t5 n4 t6).bind fun (n5, t7, n6) =>
      some (n5, t7)
theorem kinfolklaw02_own_b_runs (N : Nat) (rec_kinfolklaw02_own : T_kinfolkref02_Event → Option (Int × T_event_halves)) (hrec_kinfolklaw02_own : ∀ x r_, rec_kinfolklaw02_own x = some r_ → Runs Tryd.prog 117 [(.one (.pv (T_kinfolkref02_Event.pv x)))] [] [] (kinfolklaw02_own_out x r_)) (x : T_kinfolkref02_Event) (r_ : Int × T_event_halves) (h : kinfolklaw02_own_b N rec_kinfolklaw02_own x = some r_) : Runs Tryd.prog 117 [(.one (.pv (T_kinfolkref02_Event.pv x)))] [] [] (kinfolklaw02_own_out x r_) := by
  unfold kinfolklaw02_own_b at h
  cases x with
  | nil =>
    cases h
  | mk n t t2 =>
    cases t with
    | nil =>
      obtain ⟨⟨n2, n3⟩, h1, h⟩ := bind_of h
      have h := some_of h
      subst h
      exact runs_of (C := cfg) (objs := []) (sc := [.br true, .res (event_Leaf_out n (n2, n3))]) (.k0 (an_ (rfl : true = true) (an_ (event_Leaf_runs n _ h1) trivial)) (by kernel_rfl))
    | mk n2 t3 t4 =>
      obtain ⟨⟨n3, t5⟩, h1, h⟩ := bind_of h
      obtain ⟨⟨n4, t6⟩, h2, h⟩ := bind_of h
      obtain ⟨⟨n5, t7, n6⟩, h3, h⟩ := bind_of h
      have h := some_of h
      subst h
      exact runs_of (C := cfg) (objs := []) (sc := [.br false, .res (kinfolklaw02_own_out (T_kinfolkref02_Event.mk n2 t3 t4) (n3, t5)), .res (kinfolklaw02_own_out (T_kinfolkref02_Event.mk n2 t3 t4) (n3, t5)), .res (kinfolklaw02_own_out t2 (n4, t6)), .res (event_Node_out n n3 t5 n4 t6 (n5, t7, n6)), .res (kinfolklaw02_own_out t2 (n4, t6)), .res (event_Node_out n n3 t5 n4 t6 (n5, t7, n6))]) (.k1 (an_ (rfl : false = false) (an_ (hrec_kinfolklaw02_own (T_kinfolkref02_Event.mk n2 t3 t4) _ h1) (an_ (hrec_kinfolklaw02_own (T_kinfolkref02_Event.mk n2 t3 t4) _ h1) (an_ (hrec_kinfolklaw02_own t2 _ h2) (an_ (event_Node_runs N n n3 t5 n4 t6 _ h3) (an_ (hrec_kinfolklaw02_own t2 _ h2) (an_ (event_Node_runs N n n3 t5 n4 t6 _ h3) trivial))))))) (by kernel_rfl) (by kernel_rfl))
noncomputable def kinfolklaw02_own : Nat → T_kinfolkref02_Event → Option (Int × T_event_halves)
  | 0, _ => none
  | N + 1, x => kinfolklaw02_own_b N (kinfolklaw02_own N) x
theorem kinfolklaw02_own_runs : ∀ (N : Nat) (x : T_kinfolkref02_Event) (r_ : Int × T_event_halves), kinfolklaw02_own N x = some r_ → Runs Tryd.prog 117 [(.one (.pv (T_kinfolkref02_Event.pv x)))] [] [] (kinfolklaw02_own_out x r_)
  | 0, _, _, h => by cases h
  | N + 1, x, r_, h => kinfolklaw02_own_b_runs N (kinfolklaw02_own N) (kinfolklaw02_own_runs N) x r_ h
/-! ### kinfolklaw02_made -/
noncomputable def kinfolklaw02_made (N : Nat) (p : List Int) : Option (Int × T_event_halves × T_kinfolkref02_Event) :=
  bif decide ((0 : Int) ≤ 0) && decide ((0 : Int) ≤ (if (60 : Int) < ((p).length : Int) then 60 else ((p).length : Int))) && decide (((if (60 : Int) < ((p).length : Int) then 60 else ((p).length : Int)) : Int) ≤ ((p).length : Int)) && decide (((if (60 : Int) < ((p).length : Int) then 60 else ((p).length : Int)) : Int) = (if (60 : Int) < ((p).length : Int) then 60 else ((p).length : Int))) then
  (kinfolkref02_Make N (List.take ((if (60 : Int) < ((p).length : Int) then 60 else ((p).length : Int)) - 0).toNat p) 6).bind fun (t, l_) =>
  (kinfolklaw02_own N t).bind fun (n, t2) =>
  some (n, t2, t)
  else none
theorem kinfolklaw02_made_runs (N : Nat) (p : List Int) (r_ : Int × T_event_halves × T_kinfolkref02_Event) (h : kinfolklaw02_made N p = some r_) : Runs Tryd.prog 55 [(.one (.pv (.ints .u8 p false)))] [] [] (kinfolklaw02_made_out p r_) := by
  unfold kinfolklaw02_made at h
  obtain ⟨h1, h⟩ := need_of h
  obtain ⟨⟨t, l_⟩, h2, h⟩ := bind_of h
  obtain ⟨⟨n, t2⟩, h3, h⟩ := bind_of h
  have h := some_of h
  subst h
  exact runs_of (C := cfg) (objs := []) (sc := [.res (kinfolkref02_Make_out (List.take ((if (60 : Int) < ((p).length : Int) then 60 else ((p).length : Int)) - 0).toNat p) 6 (t, l_)), .res (kinfolklaw02_own_out t (n, t2))]) (.k0 (an_ h1 (an_ (kinfolkref02_Make_runs N (List.take ((if (60 : Int) < ((p).length : Int) then 60 else ((p).length : Int)) - 0).toNat p) 6 _ h2) (an_ (kinfolklaw02_own_runs N t _ h3) trivial))) (by kernel_rfl))
/-! ### event_Same_out -/
def event_Same_out (a : Int) (a2 : T_event_halves) (b : Int) (b2 : T_event_halves) : Bool → Res
  | r1 => ([(.one (.pv (.bool r1)))], [], [])
/-! ### event_Leq_out -/
def event_Leq_out (a : Int) (a2 : T_event_halves) (b : Int) (b2 : T_event_halves) : Bool → Res
  | r1 => ([(.one (.pv (.bool r1)))], [], [])
/-! ### event_Leq -/
noncomputable def event_Leq_b (rec_event_Leq : Int → T_event_halves → Int → T_event_halves → Option (Bool)) (a : Int) (a2 : T_event_halves) (b : Int) (b2 : T_event_halves) : Option (Bool) :=
  match a2 with
  | .nil =>
    some (decide ((a : Int) ≤ b))
  | .mk n t n2 t2 =>
    bif (decide ((b : Int) < a)) then
      match b2 with
      | .nil =>
        some false
      | .mk n3 t3 n4 t4 =>
        (event_Event_up n t a).bind fun n5 =>
        (event_Event_Left b b2).bind fun (n6, t5) =>
        (event_Event_up n6 t5 b).bind fun n7 =>
        (rec_event_Leq n5 t n7 t5).bind fun b3 =>
        bif b3 then
          (event_Event_up n2 t2 a).bind fun n8 =>
          (event_Event_Right b b2).bind fun (n9, t6) =>
          (event_Event_up n9 t6 b).bind fun n10 =>
          (rec_event_Leq n8 t2 n10 t6).bind fun b4 =>
          some b4
        else
          some false
    else
      (event_Event_up n t a).bind fun n3 =>
      (event_Event_Left b b2).bind fun (n4, t3) =>
      (event_Event_up n4 t3 b).bind fun n5 =>
      (rec_event_Leq n3 t n5 t3).bind fun b3 =>
      bif b3 then
        (event_Event_up n2 t2 a).bind fun n6 =>
        (event_Event_Right b b2).bind fun (n7, t4) =>
        (event_Event_up n7 t4 b).bind fun n8 =>
        (rec_event_Leq n6 t2 n8 t4).bind fun b4 =>
        some b4
      else
        some false
theorem event_Leq_b_runs (rec_event_Leq : Int → T_event_halves → Int → T_event_halves → Option (Bool)) (hrec_event_Leq : ∀ a a2 b b2 r_, rec_event_Leq a a2 b b2 = some r_ → Runs Tryd.prog 61 [(.agg [(.pv (.int .u64 a)), (.pv (T_event_halves.pv a2))]), (.agg [(.pv (.int .u64 b)), (.pv (T_event_halves.pv b2))])] [] [] (event_Leq_out a a2 b b2 r_)) (a : Int) (a2 : T_event_halves) (b : Int) (b2 : T_event_halves) (r_ : Bool) (h : event_Leq_b rec_event_Leq a a2 b b2 = some r_) : Runs Tryd.prog 61 [(.agg [(.pv (.int .u64 a)), (.pv (T_event_halves.pv a2))]), (.agg [(.pv (.int .u64 b)), (.pv (T_event_halves.pv b2))])] [] [] (event_Leq_out a a2 b b2 r_) := by
  unfold event_Leq_b at h
  cases a2 with
  | nil =>
    have h := some_of h
    subst h
    exact runs_of (C := cfg) (objs := []) (sc := [.br true]) (.k0 (an_ (rfl : true = true) trivial) (by kernel_rfl))
  | mk n t n2 t2 =>
    rcases cond_of h with ⟨h1, h⟩ | ⟨h1, h⟩
    · cases b2 with
      | nil =>
        have h := some_of h
        subst h
        exact runs_of (C := cfg) (objs := []) (sc := [.br false, .br true, .br true]) (.k0 (an_ (rfl : false = false) (an_ h1 (an_ (rfl : true = true) trivial))) (by kernel_rfl))
      | mk n3 t3 n4 t4 =>
        obtain ⟨n5, h2, h⟩ := bind_of h
        obtain ⟨⟨n6, t5⟩, h3, h⟩ := bind_of h
        obtain ⟨n7, h4, h⟩ := bind_of h
        obtain ⟨b3, h5, h⟩ := bind_of h
        rcases cond_of h with ⟨h6, h⟩ | ⟨h6, h⟩
        · obtain ⟨n8, h7, h⟩ := bind_of h
          obtain ⟨⟨n9, t6⟩, h8, h⟩ := bind_of h
          obtain ⟨n10, h9, h⟩ := bind_of h
          obtain ⟨b4, h10, h⟩ := bind_of h
          have h := some_of h
          subst h
          exact runs_of (C := cfg) (objs := []) (sc := [.br false, .br true, .br false, .res (event_Event_up_out n t a n5), .res (event_Event_up_out n t a n5), .res (event_Event_up_out n t a n5), .res (event_Event_up_out n t a n5), .res (event_Event_Left_out b (T_event_halves.mk n3 t3 n4 t4) (n6, t5)), .res (event_Event_Left_out b (T_event_halves.mk n3 t3 n4 t4) (n6, t5)), .res (event_Event_up_out n6 t5 b n7), .res (event_Leq_out n5 t n7 t5 b3), .br true, .res (event_Event_up_out n2 t2 a n8), .res (event_Event_up_out n2 t2 a n8), .res (event_Event_up_out n2 t2 a n8), .res (event_Event_up_out n2 t2 a n8), .res (event_Event_Right_out b (T_event_halves.mk n3 t3 n4 t4) (n9, t6)), .res (event_Event_Right_out b (T_event_halves.mk n3 t3 n4 t4) (n9, t6)), .res (event_Event_up_out n9 t6 b n10), .res (event_Leq_out n8 t2 n10 t6 b4)]) (.k1 (an_ (rfl : false = false) (an_ h1 (an_ (rfl : false = false) (an_ (event_Event_up_runs n t a _ h2) (an_ (event_Event_up_runs n t a _ h2) (an_ (event_Event_up_runs n t a _ h2) (an_ (event_Event_up_runs n t a _ h2) (an_ (event_Event_Left_runs b (T_event_halves.mk n3 t3 n4 t4) _ h3) (an_ (event_Event_Left_runs b (T_event_halves.mk n3 t3 n4 t4) _ h3) (an_ (event_Event_up_runs n6 t5 b _ h4) (an_ (hrec_event_Leq n5 t n7 t5 _ h5) (an_ h6 (an_ (event_Event_up_runs n2 t2 a _ h7) (an_ (event_Event_up_runs n2 t2 a _ h7) (an_ (event_Event_up_runs n2 t2 a _ h7) (an_ (event_Event_up_runs n2 t2 a _ h7) (an_ (event_Event_Right_runs b (T_event_halves.mk n3 t3 n4 t4) _ h8) (an_ (event_Event_Right_runs b (T_event_halves.mk n3 t3 n4 t4) _ h8) (an_ (event_Event_up_runs n9 t6 b _ h9) (an_ (hrec_event_Leq n8 t2 n10 t6 _ h10) trivial)))))))))))))))))))) (by kernel_rfl) (by kernel_rfl))
        · have h := some_of h
          subst h
          exact runs_of (C := cfg) (objs := []) (sc := [.br false, .br true, .br false, .res (event_Event_up_out n t a n5), .res (event_Event_up_out n t a n5), .res (event_Event_up_out n t a n5), .res (event_Event_up_out n t a n5), .res (event_Event_Left_out b (T_event_halves.mk n3 t3 n4 t4) (n6, t5)), .res (event_Event_Left_out b (T_event_halves.mk n3 t3 n4 t4) (n6, t5)), .res (event_Event_up_out n6 t5 b n7), .res (event_Leq_out n5 t n7 t5 b3), .br false]) (.k1 (an_ (rfl : false = false) (an_ h1 (an_ (rfl : false = false) (an_ (event_Event_up_runs n t a _ h2) (an_ (event_Event_up_runs n t a _ h2) (an_ (event_Event_up_runs n t a _ h2) (an_ (event_Event_up_runs n t a _ h2) (an_ (event_Event_Left_runs b (T_event_halves.mk n3 t3 n4 t4) _ h3) (an_ (event_Event_Left_runs b (T_event_halves.mk n3 t3 n4 t4) _ h3) (an_ (event_Event_up_runs n6 t5 b _ h4) (an_ (hrec_event_Leq n5 t n7 t5 _ h5) (an_ h6 trivial)))))))))))) (by kernel_rfl) (by kernel_rfl))
    · obtain ⟨n3, h2, h⟩ := bind_of h
      obtain ⟨⟨n4, t3⟩, h3, h⟩ := bind_of h
      obtain ⟨n5, h4, h⟩ := bind_of h
      obtain ⟨b3, h5, h⟩ := bind_of h
      rcases cond_of h with ⟨h6, h⟩ | ⟨h6, h⟩
      · obtain ⟨n6, h7, h⟩ := bind_of h
        obtain ⟨⟨n7, t4⟩, h8, h⟩ := bind_of h
        obtain ⟨n8, h9, h⟩ := bind_of h
        obtain ⟨b4, h10, h⟩ := bind_of h
        have h := some_of h
        subst h
        exact runs_of (C := cfg) (objs := []) (sc := [.br false, .br false, .br false, .res (event_Event_up_out n t a n3), .res (event_Event_up_out n t a n3), .res (event_Event_up_out n t a n3), .res (event_Event_up_out n t a n3), .res (event_Event_Left_out b b2 (n4, t3)), .res (event_Event_Left_out b b2 (n4, t3)), .res (event_Event_up_out n4 t3 b n5), .res (event_Leq_out n3 t n5 t3 b3), .br true, .res (event_Event_up_out n2 t2 a n6), .res (event_Event_up_out n2 t2 a n6), .res (event_Event_up_out n2 t2 a n6), .res (event_Event_up_out n2 t2 a n6), .res (event_Event_Right_out b b2 (n7, t4)), .res (event_Event_Right_out b b2 (n7, t4)), .res (event_Event_up_out n7 t4 b n8), .res (event_Leq_out n6 t2 n8 t4 b4)]) (.k1 (an_ (rfl : false = false) (an_ h1 (an_ (rfl : false = false) (an_ (event_Event_up_runs n t a _ h2) (an_ (event_Event_up_runs n t a _ h2) (an_ (event_Event_up_runs n t a _ h2) (an_ (event_Event_up_runs n t a _ h2) (an_ (event_Event_Left_runs b b2 _ h3) (an_ (event_Event_Left_runs b b2 _ h3) (an_ (event_Event_up_runs n4 t3 b _ h4) (an_ (hrec_event_Leq n3 t n5 t3 _ h5) (an_ h6 (an_ (event_Event_up_runs n2 t2 a _ h7) (an_ (event_Event_up_runs n2 t2 a _ h7) (an_ (event_Event_up_runs n2 t2 a _ h7) (an_ (event_Event_up_runs n2 t2 a _ h7) (an_ (event_Event_Right_runs b b2 _ h8) (an_ (event_Event_Right_runs b b2 _ h8) (an_ (event_Event_up_runs n7 t4 b _ h9) (an_ (hrec_event_Leq n6 t2 n8 t4 _ h10) trivial)))))))))))))))))))) (by kernel_rfl) (by kernel_rfl))
      · have h := some_of h
        subst h
        exact runs_of (C := cfg) (objs := []) (sc := [.br false, .br false, .br false, .res (event_Event_up_out n t a n3), .res (event_Event_up_out n t a n3), .res (event_Event_up_out n t a n3), .res (event_Event_up_out n t a n3), .res (event_Event_Left_out b b2 (n4, t3)), .res (event_Event_Left_out b b2 (n4, t3)), .res (event_Event_up_out n4 t3 b n5), .res (event_Leq_out n3 t n5 t3 b3), .br false]) (.k1 (an_ (rfl : false = false) (an_ h1 (an_ (rfl : false = false) (an_ (event_Event_up_runs n t a _ h2) (an_ (event_Event_up_runs n t a _ h2) (an_ (event_Event_up_runs n t a _ h2) (an_ (event_Event_up_runs n t a _ h2) (an_ (event_Event_Left_runs b b2 _ h3) (an_ (event_Event_Left_runs b b2 _ h3) (an_ (event_Event_up_runs n4 t3 b _ h4) (an_ (hrec_event_Leq n3 t n5 t3 _ h5) (an_ h6 trivial)))))))))))) (by kernel_rfl) (by kernel_rfl))
noncomputable def event_Leq : Nat → Int → T_event_halves → Int → T_event_halves → Option (Bool)
  | 0, _, _, _, _ => none
  | N + 1, a, a2, b, b2 => event_Leq_b (event_Leq N) a a2 b b2
theorem event_Leq_runs : ∀ (N : Nat) (a : Int) (a2 : T_event_halves) (b : Int) (b2 : T_event_halves) (r_ : Bool), event_Leq N a a2 b b2 = some r_ → Runs Tryd.prog 61 [(.agg [(.pv (.int .u64 a)), (.pv (T_event_halves.pv a2))]), (.agg [(.pv (.int .u64 b)), (.pv (T_event_halves.pv b2))])] [] [] (event_Leq_out a a2 b b2 r_)
  | 0, _, _, _, _, _, h => by cases h
  | N + 1, a, a2, b, b2, r_, h => event_Leq_b_runs (event_Leq N) (event_Leq_runs N) a a2 b b2 r_ h
/-! ### event_Same -/
noncomputable def event_Same (N : Nat) (a : Int) (a2 : T_event_halves) (b : Int) (b2 : T_event_halves) : Option (Bool) :=
  (event_Leq N a a2 b b2).bind fun b3 =>
  bif b3 then
    (event_Leq N b b2 a a2).bind fun b4 =>
    some b4
  else
    some false
theorem event_Same_runs (N : Nat) (a : Int) (a2 : T_event_halves) (b : Int) (b2 : T_event_halves) (r_ : Bool) (h : event_Same N a a2 b b2 = some r_) : Runs Tryd.prog 25 [(.agg [(.pv (.int .u64 a)), (.pv (T_event_halves.pv a2))]), (.agg [(.pv (.int .u64 b)), (.pv (T_event_halves.pv b2))])] [] [] (event_Same_out a a2 b b2 r_) := by
  unfold event_Same at h
  obtain ⟨b3, h1, h⟩ := bind_of h
  rcases cond_of h with ⟨h2, h⟩ | ⟨h2, h⟩
  · obtain ⟨b4, h3, h⟩ := bind_of h
    have h := some_of h
    subst h
    exact runs_of (C := cfg) (objs := []) (sc := [.res (event_Leq_out a a2 b b2 b3), .br true, .res (event_Leq_out b b2 a a2 b4)]) (.k0 (an_ (event_Leq_runs N a a2 b b2 _ h1) (an_ h2 (an_ (event_Leq_runs N b b2 a a2 _ h3) trivial))) (by kernel_rfl))
  · have h := some_of h
    subst h
    exact runs_of (C := cfg) (objs := []) (sc := [.res (event_Leq_out a a2 b b2 b3), .br false]) (.k0 (an_ (event_Leq_runs N a a2 b b2 _ h1) (an_ h2 trivial)) (by kernel_rfl))
/-! ### kinfolklaw02_EventJoins -/
noncomputable def kinfolklaw02_EventJoins (N : Nat) (p : List Int) (q : List Int) (r : List Int) : Option (Bool) :=
  (kinfolklaw02_awake N).bind fun b =>
  bif b then
    (kinfolklaw02_made N p).bind fun (n, t, t2) =>
    (kinfolklaw02_made N q).bind fun (n2, t3, t4) =>
    (kinfolklaw02_made N r).bind fun (n3, t5, t6) =>
    (event_Join N n t n2 t3).bind fun (n4, t7) =>
    (event_Join N n4 t7 n3 t5).bind fun (n5, t8) =>
    (event_Join N n2 t3 n t).bind fun (n6, t9) =>
    (event_Same N n4 t7 n6 t9).bind fun b2 =>
    bif b2 then
      (event_Join N n2 t3 n3 t5).bind fun (n7, t10) =>
      (event_Join N n t n7 t10).bind fun (n8, t11) =>
      (event_Same N n5 t8 n8 t11).bind fun b3 =>
      bif b3 then
        (event_Join N n t n t).bind fun (n9, t12) =>
        (event_Same N n9 t12 n t).bind fun b4 =>
        bif b4 then
          (event_Leq N n t n3 t5).bind fun b5 =>
          bif b5 then
            (event_Leq N n2 t3 n3 t5).bind fun b6 =>
            bif b6 then
              (event_Leq N n4 t7 n3 t5).bind fun b7 =>
              bif b7 then
                (event_Leq N n t n2 t3).bind fun b8 =>
                bif b8 then
                  some b5
                else
                  some true
              else
                some false
            else
              (event_Leq N n t n2 t3).bind fun b7 =>
              bif b7 then
                some true
              else
                some true
          else
            (event_Leq N n t n2 t3).bind fun b6 =>
            bif b6 then
              (event_Leq N n2 t3 n3 t5).bind fun b7 =>
              bif b7 then
                some b5
              else
                some true
            else
              some true
        else
          some false
      else
        some false
    else
      some false
  else
    some false
theorem kinfolklaw02_EventJoins_runs (N : Nat) (p : List Int) (q : List Int) (r : List Int) (r_ : Bool) (h : kinfolklaw02_EventJoins N p q r = some r_) : Runs Tryd.prog 13 [(.one (.pv (.ints .u8 p false))), (.one (.pv (.ints .u8 q false))), (.one (.pv (.ints .u8 r false)))] [] [] (kinfolklaw02_EventJoins_out p q r r_) := by
  unfold kinfolklaw02_EventJoins at h
  obtain ⟨b, h1, h⟩ := bind_of h
  rcases cond_of h with ⟨h2, h⟩ | ⟨h2, h⟩
  · obtain ⟨⟨n, t, t2⟩, h3, h⟩ := bind_of h
    obtain ⟨⟨n2, t3, t4⟩, h4, h⟩ := bind_of h
    obtain ⟨⟨n3, t5, t6⟩, h5, h⟩ := bind_of h
    obtain ⟨⟨n4, t7⟩, h6, h⟩ := bind_of h
    obtain ⟨⟨n5, t8⟩, h7, h⟩ := bind_of h
    obtain ⟨⟨n6, t9⟩, h8, h⟩ := bind_of h
    obtain ⟨b2, h9, h⟩ := bind_of h
    rcases cond_of h with ⟨h10, h⟩ | ⟨h10, h⟩
    · obtain ⟨⟨n7, t10⟩, h11, h⟩ := bind_of h
      obtain ⟨⟨n8, t11⟩, h12, h⟩ := bind_of h
      obtain ⟨b3, h13, h⟩ := bind_of h
      rcases cond_of h with ⟨h14, h⟩ | ⟨h14, h⟩
      · obtain ⟨⟨n9, t12⟩, h15, h⟩ := bind_of h
        obtain ⟨b4, h16, h⟩ := bind_of h
        rcases cond_of h with ⟨h17, h⟩ | ⟨h17, h⟩
        · obtain ⟨b5, h18, h⟩ := bind_of h
          rcases cond_of h with ⟨h19, h⟩ | ⟨h19, h⟩
          · obtain ⟨b6, h20, h⟩ := bind_of h
            rcases cond_of h with ⟨h21, h⟩ | ⟨h21, h⟩
            · obtain ⟨b7, h22, h⟩ := bind_of h
              rcases cond_of h with ⟨h23, h⟩ | ⟨h23, h⟩
              · obtain ⟨b8, h24, h⟩ := bind_of h
                rcases cond_of h with ⟨h25, h⟩ | ⟨h25, h⟩
                · have h := some_of h
                  subst h
                  exact runs_of (C := cfg) (objs := []) (sc := [.res (kinfolklaw02_awake_out b), .br false, .res (kinfolklaw02_made_out p (n, t, t2)), .res (kinfolklaw02_made_out q (n2, t3, t4)), .res (kinfolklaw02_made_out r (n3, t5, t6)), .res (event_Join_out n t n2 t3 (n4, t7)), .res (event_Join_out n4 t7 n3 t5 (n5, t8)), .res (event_Join_out n2 t3 n t (n6, t9)), .res (event_Join_out n2 t3 n t (n6, t9)), .res (event_Same_out n4 t7 n6 t9 b2), .br true, .res (event_Join_out n2 t3 n3 t5 (n7, t10)), .res (event_Join_out n2 t3 n3 t5 (n7, t10)), .res (event_Join_out n2 t3 n3 t5 (n7, t10)), .res (event_Join_out n2 t3 n3 t5 (n7, t10)), .res (event_Join_out n t n7 t10 (n8, t11)), .res (event_Join_out n t n7 t10 (n8, t11)), .res (event_Same_out n5 t8 n8 t11 b3), .br true, .res (event_Join_out n t n t (n9, t12)), .res (event_Join_out n t n t (n9, t12)), .res (event_Same_out n9 t12 n t b4), .br true, .res (event_Leq_out n t n3 t5 b5), .br false, .res (event_Leq_out n2 t3 n3 t5 b6), .br false, .res (event_Leq_out n4 t7 n3 t5 b7), .br true, .res (event_Leq_out n t n2 t3 b8), .br false, .res (event_Leq_out n2 t3 n3 t5 b6), .br false, .res (event_Leq_out n t n3 t5 b5)]) (.k1 (an_ (kinfolklaw02_awake_runs N _ h1) (an_ (not_of2 h2) (an_ (kinfolklaw02_made_runs N p _ h3) (an_ (kinfolklaw02_made_runs N q _ h4) (an_ (kinfolklaw02_made_runs N r _ h5) (an_ (event_Join_runs N n t n2 t3 _ h6) (an_ (event_Join_runs N n4 t7 n3 t5 _ h7) (an_ (event_Join_runs N n2 t3 n t _ h8) (an_ (event_Join_runs N n2 t3 n t _ h8) (an_ (event_Same_runs N n4 t7 n6 t9 _ h9) (an_ h10 (an_ (event_Join_runs N n2 t3 n3 t5 _ h11) (an_ (event_Join_runs N n2 t3 n3 t5 _ h11) (an_ (event_Join_runs N n2 t3 n3 t5 _ h11) (an_ (event_Join_runs N n2 t3 n3 t5 _ h11) (an_ (event_Join_runs N n t n7 t10 _ h12) (an_ (event_Join_runs N n t n7 t10 _ h12) (an_ (event_Same_runs N n5 t8 n8 t11 _ h13) (an_ h14 (an_ (event_Join_runs N n t n t _ h15) (an_ (event_Join_runs N n t n t _ h15) (an_ (event_Same_runs N n9 t12 n t _ h16) (an_ h17 (an_ (event_Leq_runs N n t n3 t5 _ h18) (an_ (not_of2 h19) (an_ (event_Leq_runs N n2 t3 n3 t5 _ h20) (an_ (not_of2 h21) (an_ (event_Leq_runs N n4 t7 n3 t5 _ h22) (an_ h23 (an_ (event_Leq_runs N n t n2 t3 _ h24) (an_ (not_of2 h25) (an_ (event_Leq_runs N n2 t3 n3 t5 _ h20) (an_ (not_of2 h21) (an_ (event_Leq_runs N n t n3 t5 _ h18) trivial)))))))))))))))))))))))))))))))))) (by kernel_rfl) (by kernel_rfl))
                · have h := some_of h
                  subst h
                  exact runs_of (C := cfg) (objs := []) (sc := [.res (kinfolklaw02_awake_out b), .br false, .res (kinfolklaw02_made_out p (n, t, t2)), .res (kinfolklaw02_made_out q (n2, t3, t4)), .res (kinfolklaw02_made_out r (n3, t5, t6)), .res (event_Join_out n t n2 t3 (n4, t7)), .res (event_Join_out n4 t7 n3 t5 (n5, t8)), .res (event_Join_out n2 t3 n t (n6, t9)), .res (event_Join_out n2 t3 n t (n6, t9)), .res (event_Same_out n4 t7 n6 t9 b2), .br true, .res (event_Join_out n2 t3 n3 t5 (n7, t10)), .res (event_Join_out n2 t3 n3 t5 (n7, t10)), .res (event_Join_out n2 t3 n3 t5 (n7, t10)), .res (event_Join_out n2 t3 n3 t5 (n7, t10)), .res (event_Join_out n t n7 t10 (n8, t11)), .res (event_Join_out n t n7 t10 (n8, t11)), .res (event_Same_out n5 t8 n8 t11 b3), .br true, .res (event_Join_out n t n t (n9, t12)), .res (event_Join_out n t n t (n9, t12)), .res (event_Same_out n9 t12 n t b4), .br true, .res (event_Leq_out n t n3 t5 b5), .br false, .res (event_Leq_out n2 t3 n3 t5 b6), .br false, .res (event_Leq_out n4 t7 n3 t5 b7), .br true, .res (event_Leq_out n t n2 t3 b8), .br true, .br true]) (.k1 (an_ (kinfolklaw02_awake_runs N _ h1) (an_ (not_of2 h2) (an_ (kinfolklaw02_made_runs N p _ h3) (an_ (kinfolklaw02_made_runs N q _ h4) (an_ (kinfolklaw02_made_runs N r _ h5) (an_ (event_Join_runs N n t n2 t3 _ h6) (an_ (event_Join_runs N n4 t7 n3 t5 _ h7) (an_ (event_Join_runs N n2 t3 n t _ h8) (an_ (event_Join_runs N n2 t3 n t _ h8) (an_ (event_Same_runs N n4 t7 n6 t9 _ h9) (an_ h10 (an_ (event_Join_runs N n2 t3 n3 t5 _ h11) (an_ (event_Join_runs N n2 t3 n3 t5 _ h11) (an_ (event_Join_runs N n2 t3 n3 t5 _ h11) (an_ (event_Join_runs N n2 t3 n3 t5 _ h11) (an_ (event_Join_runs N n t n7 t10 _ h12) (an_ (event_Join_runs N n t n7 t10 _ h12) (an_ (event_Same_runs N n5 t8 n8 t11 _ h13) (an_ h14 (an_ (event_Join_runs N n t n t _ h15) (an_ (event_Join_runs N n t n t _ h15) (an_ (event_Same_runs N n9 t12 n t _ h16) (an_ h17 (an_ (event_Leq_runs N n t n3 t5 _ h18) (an_ (not_of2 h19) (an_ (event_Leq_runs N n2 t3 n3 t5 _ h20) (an_ (not_of2 h21) (an_ (event_Leq_runs N n4 t7 n3 t5 _ h22) (an_ h23 (an_ (event_Leq_runs N n t n2 t3 _ h24) (an_ (not_of h25) (an_ (rfl : true = true) trivial)))))))))))))))))))))))))))))))) (by kernel_rfl) (by kernel_rfl))
              · have h := some_of h
                subst h
                exact runs_of (C := cfg) (objs := []) (sc := [.res (kinfolklaw02_awake_out b), .br false, .res (kinfolklaw02_made_out p (n, t, t2)), .res (kinfolklaw02_made_out q (n2, t3, t4)), .res (kinfolklaw02_made_out r (n3, t5, t6)), .res (event_Join_out n t n2 t3 (n4, t7)), .res (event_Join_out n4 t7 n3 t5 (n5, t8)), .res (event_Join_out n2 t3 n t (n6, t9)), .res (event_Join_out n2 t3 n t (n6, t9)), .res (event_Same_out n4 t7 n6 t9 b2), .br true, .res (event_Join_out n2 t3 n3 t5 (n7, t10)), .res (event_Join_out n2 t3 n3 t5 (n7, t10)), .res (event_Join_out n2 t3 n3 t5 (n7, t10)), .res (event_Join_out n2 t3 n3 t5 (n7, t10)), .res (event_Join_out n t n7 t10 (n8, t11)), .res (event_Join_out n t n7 t10 (n8, t11)), .res (event_Same_out n5 t8 n8 t11 b3), .br true, .res (event_Join_out n t n t (n9, t12)), .res (event_Join_out n t n t (n9, t12)), .res (event_Same_out n9 t12 n t b4), .br true, .res (event_Leq_out n t n3 t5 b5), .br false, .res (event_Leq_out n2 t3 n3 t5 b6), .br false, .res (event_Leq_out n4 t7 n3 t5 b7), .br false]) (.k1 (an_ (kinfolklaw02_awake_runs N _ h1) (an_ (not_of2 h2) (an_ (kinfolklaw02_made_runs N p _ h3) (an_ (kinfolklaw02_made_runs N q _ h4) (an_ (kinfolklaw02_made_runs N r _ h5) (an_ (event_Join_runs N n t n2 t3 _ h6) (an_ (event_Join_runs N n4 t7 n3 t5 _ h7) (an_ (event_Join_runs N n2 t3 n t _ h8) (an_ (event_Join_runs N n2 t3 n t _ h8) (an_ (event_Same_runs N n4 t7 n6 t9 _ h9) (an_ h10 (an_ (event_Join_runs N n2 t3 n3 t5 _ h11) (an_ (event_Join_runs N n2 t3 n3 t5 _ h11) (an_ (event_Join_runs N n2 t3 n3 t5 _ h11) (an_ (event_Join_runs N n2 t3 n3 t5 _ h11) (an_ (event_Join_runs N n t n7 t10 _ h12) (an_ (event_Join_runs N n t n7 t10 _ h12) (an_ (event_Same_runs N n5 t8 n8 t11 _ h13) (an_ h14 (an_ (event_Join_runs N n t n t _ h15) (an_ (event_Join_runs N n t n t _ h15) (an_ (event_Same_runs N n9 t12 n t _ h16) (an_ h17 (an_ (event_Leq_runs N n t n3 t5 _ h18) (an_ (not_of2 h19) (an_ (event_Leq_runs N n2 t3 n3 t5 _ h20) (an_ (not_of2 h21) (an_ (event_Leq_runs N n4 t7 n3 t5 _ h22) (an_ h23 trivial))))))))))))))))))))))))))))) (by kernel_rfl) (by kernel_rfl))
            · obtain ⟨b7, h22, h⟩ := bind_of h
              rcases cond_of h with ⟨h23, h⟩ | ⟨h23, h⟩
              · have h := some_of h
                subst h
                exact runs_of (C := cfg) (objs := []) (sc := [.res (kinfolklaw02_awake_out b), .br false, .res (kinfolklaw02_made_out p (n, t, t2)), .res (kinfolklaw02_made_out q (n2, t3, t4)), .res (kinfolklaw02_made_out r (n3, t5, t6)), .res (event_Join_out n t n2 t3 (n4, t7)), .res (event_Join_out n4 t7 n3 t5 (n5, t8)), .res (event_Join_out n2 t3 n t (n6, t9)), .res (event_Join_out n2 t3 n t (n6, t9)), .res (event_Same_out n4 t7 n6 t9 b2), .br true, .res (event_Join_out n2 t3 n3 t5 (n7, t10)), .res (event_Join_out n2 t3 n3 t5 (n7, t10)), .res (event_Join_out n2 t3 n3 t5 (n7, t10)), .res (event_Join_out n2 t3 n3 t5 (n7, t10)), .res (event_Join_out n t n7 t10 (n8, t11)), .res (event_Join_out n t n7 t10 (n8, t11)), .res (event_Same_out n5 t8 n8 t11 b3), .br true, .res (event_Join_out n t n t (n9, t12)), .res (event_Join_out n t n t (n9, t12)), .res (event_Same_out n9 t12 n t b4), .br true, .res (event_Leq_out n t n3 t5 b5), .br false, .res (event_Leq_out n2 t3 n3 t5 b6), .br true, .br true, .res (event_Leq_out n t n2 t3 b7), .br false, .res (event_Leq_out n2 t3 n3 t5 b6), .br true]) (.k1 (an_ (kinfolklaw02_awake_runs N _ h1) (an_ (not_of2 h2) (an_ (kinfolklaw02_made_runs N p _ h3) (an_ (kinfolklaw02_made_runs N q _ h4) (an_ (kinfolklaw02_made_runs N r _ h5) (an_ (event_Join_runs N n t n2 t3 _ h6) (an_ (event_Join_runs N n4 t7 n3 t5 _ h7) (an_ (event_Join_runs N n2 t3 n t _ h8) (an_ (event_Join_runs N n2 t3 n t _ h8) (an_ (event_Same_runs N n4 t7 n6 t9 _ h9) (an_ h10 (an_ (event_Join_runs N n2 t3 n3 t5 _ h11) (an_ (event_Join_runs N n2 t3 n3 t5 _ h11) (an_ (event_Join_runs N n2 t3 n3 t5 _ h11) (an_ (event_Join_runs N n2 t3 n3 t5 _ h11) (an_ (event_Join_runs N n t n7 t10 _ h12) (an_ (event_Join_runs N n t n7 t10 _ h12) (an_ (event_Same_runs N n5 t8 n8 t11 _ h13) (an_ h14 (an_ (event_Join_runs N n t n t _ h15) (an_ (event_Join_runs N n t n t _ h15) (an_ (event_Same_runs N n9 t12 n t _ h16) (an_ h17 (an_ (event_Leq_runs N n t n3 t5 _ h18) (an_ (not_of2 h19) (an_ (event_Leq_runs N n2 t3 n3 t5 _ h20) (an_ (not_of h21) (an_ (rfl : true = true) (an_ (event_Leq_runs N n t n2 t3 _ h22) (an_ (not_of2 h23) (an_ (event_Leq_runs N n2 t3 n3 t5 _ h20) (an_ (not_of h21) trivial)))))))))))))))))))))))))))))))) (by kernel_rfl) (by kernel_rfl))
              · have h := some_of h
                subst h
                exact runs_of (C := cfg) (objs := []) (sc := [.res (kinfolklaw02_awake_out b), .br false, .res (kinfolklaw02_made_out p (n, t, t2)), .res (kinfolklaw02_made_out q (n2, t3, t4)), .res (kinfolklaw02_made_out r (n3, t5, t6)), .res (event_Join_out n t n2 t3 (n4, t7)), .res (event_Join_out n4 t7 n3 t5 (n5, t8)), .res (event_Join_out n2 t3 n t (n6, t9)), .res (event_Join_out n2 t3 n t (n6, t9)), .res (event_Same_out n4 t7 n6 t9 b2), .br true, .res (event_Join_out n2 t3 n3 t5 (n7, t10)), .res (event_Join_out n2 t3 n3 t5 (n7, t10)), .res (event_Join_out n2 t3 n3 t5 (n7, t10)), .res (event_Join_out n2 t3 n3 t5 (n7, t10)), .res (event_Join_out n t n7 t10 (n8, t11)), .res (event_Join_out n t n7 t10 (n8, t11)), .res (event_Same_out n5 t8 n8 t11 b3), .br true, .res (event_Join_out n t n t (n9, t12)), .res (event_Join_out n t n t (n9, t12)), .res (event_Same_out n9 t12 n t b4), .br true, .res (event_Leq_out n t n3 t5 b5), .br false, .res (event_Leq_out n2 t3 n3 t5 b6), .br true, .br true, .res (event_Leq_out n t n2 t3 b7), .br true, .br true]) (.k1 (an_ (kinfolklaw02_awake_runs N _ h1) (an_ (not_of2 h2) (an_ (kinfolklaw02_made_runs N p _ h3) (an_ (kinfolklaw02_made_runs N q _ h4) (an_ (kinfolklaw02_made_runs N r _ h5) (an_ (event_Join_runs N n t n2 t3 _ h6) (an_ (event_Join_runs N n4 t7 n3 t5 _ h7) (an_ (event_Join_runs N n2 t3 n t _ h8) (an_ (event_Join_runs N n2 t3 n t _ h8) (an_ (event_Same_runs N n4 t7 n6 t9 _ h9) (an_ h10 (an_ (event_Join_runs N n2 t3 n3 t5 _ h11) (an_ (event_Join_runs N n2 t3 n3 t5 _ h11) (an_ (event_Join_runs N n2 t3 n3 t5 _ h11) (an_ (event_Join_runs N n2 t3 n3 t5 _ h11) (an_ (event_Join_runs N n t n7 t10 _ h12) (an_ (event_Join_runs N n t n7 t10 _ h12) (an_ (event_Same_runs N n5 t8 n8 t11 _ h13) (an_ h14 (an_ (event_Join_runs N n t n t _ h15) (an_ (event_Join_runs N n t n t _ h15) (an_ (event_Same_runs N n9 t12 n t _ h16) (an_ h17 (an_ (event_Leq_runs N n t n3 t5 _ h18) (an_ (not_of2 h19) (an_ (event_Leq_runs N n2 t3 n3 t5 _ h20) (an_ (not_of h21) (an_ (rfl : true = true) (an_ (event_Leq_runs N n t n2 t3 _ h22) (an_ (not_of h23) (an_ (rfl : true = true) trivial))))))))))))))))))))))))))))))) (by kernel_rfl) (by kernel_rfl))
          · obtain ⟨b6, h20, h⟩ := bind_of h
            rcases cond_of h with ⟨h21, h⟩ | ⟨h21, h⟩
            · obtain ⟨b7, h22, h⟩ := bind_of h
              rcases cond_of h with ⟨h23, h⟩ | ⟨h23, h⟩
              · have h := some_of h
                subst h
                exact runs_of (C := cfg) (objs := []) (sc := [.res (kinfolklaw02_awake_out b), .br false, .res (kinfolklaw02_made_out p (n, t, t2)), .res (kinfolklaw02_made_out q (n2, t3, t4)), .res (kinfolklaw02_made_out r (n3, t5, t6)), .res (event_Join_out n t n2 t3 (n4, t7)), .res (event_Join_out n4 t7 n3 t5 (n5, t8)), .res (event_Join_out n2 t3 n t (n6, t9)), .res (event_Join_out n2 t3 n t (n6, t9)), .res (event_Same_out n4 t7 n6 t9 b2), .br true, .res (event_Join_out n2 t3 n3 t5 (n7, t10)), .res (event_Join_out n2 t3 n3 t5 (n7, t10)), .res (event_Join_out n2 t3 n3 t5 (n7, t10)), .res (event_Join_out n2 t3 n3 t5 (n7, t10)), .res (event_Join_out n t n7 t10 (n8, t11)), .res (event_Join_out n t n7 t10 (n8, t11)), .res (event_Same_out n5 t8 n8 t11 b3), .br true, .res (event_Join_out n t n t (n9, t12)), .res (event_Join_out n t n t (n9, t12)), .res (event_Same_out n9 t12 n t b4), .br true, .res (event_Leq_out n t n3 t5 b5), .br true, .br true, .br true, .res (event_Leq_out n t n2 t3 b6), .br false, .res (event_Leq_out n2 t3 n3 t5 b7), .br false, .res (event_Leq_out n t n3 t5 b5)]) (.k1 (an_ (kinfolklaw02_awake_runs N _ h1) (an_ (not_of2 h2) (an_ (kinfolklaw02_made_runs N p _ h3) (an_ (kinfolklaw02_made_runs N q _ h4) (an_ (kinfolklaw02_made_runs N r _ h5) (an_ (event_Join_runs N n t n2 t3 _ h6) (an_ (event_Join_runs N n4 t7 n3 t5 _ h7) (an_ (event_Join_runs N n2 t3 n t _ h8) (an_ (event_Join_runs N n2 t3 n t _ h8) (an_ (event_Same_runs N n4 t7 n6 t9 _ h9) (an_ h10 (an_ (event_Join_runs N n2 t3 n3 t5 _ h11) (an_ (event_Join_runs N n2 t3 n3 t5 _ h11) (an_ (event_Join_runs N n2 t3 n3 t5 _ h11) (an_ (event_Join_runs N n2 t3 n3 t5 _ h11) (an_ (event_Join_runs N n t n7 t10 _ h12) (an_ (event_Join_runs N n t n7 t10 _ h12) (an_ (event_Same_runs N n5 t8 n8 t11 _ h13) (an_ h14 (an_ (event_Join_runs N n t n t _ h15) (an_ (event_Join_runs N n t n t _ h15) (an_ (event_Same_runs N n9 t12 n t _ h16) (an_ h17 (an_ (event_Leq_runs N n t n3 t5 _ h18) (an_ (not_of h19) (an_ (rfl : true = true) (an_ (rfl : true = true) (an_ (event_Leq_runs N n t n2 t3 _ h20) (an_ (not_of2 h21) (an_ (event_Leq_runs N n2 t3 n3 t5 _ h22) (an_ (not_of2 h23) (an_ (event_Leq_runs N n t n3 t5 _ h18) trivial)))))))))))))))))))))))))))))))) (by kernel_rfl) (by kernel_rfl))
              · have h := some_of h
                subst h
                exact runs_of (C := cfg) (objs := []) (sc := [.res (kinfolklaw02_awake_out b), .br false, .res (kinfolklaw02_made_out p (n, t, t2)), .res (kinfolklaw02_made_out q (n2, t3, t4)), .res (kinfolklaw02_made_out r (n3, t5, t6)), .res (event_Join_out n t n2 t3 (n4, t7)), .res (event_Join_out n4 t7 n3 t5 (n5, t8)), .res (event_Join_out n2 t3 n t (n6, t9)), .res (event_Join_out n2 t3 n t (n6, t9)), .res (event_Same_out n4 t7 n6 t9 b2), .br true, .res (event_Join_out n2 t3 n3 t5 (n7, t10)), .res (event_Join_out n2 t3 n3 t5 (n7, t10)), .res (event_Join_out n2 t3 n3 t5 (n7, t10)), .res (event_Join_out n2 t3 n3 t5 (n7, t10)), .res (event_Join_out n t n7 t10 (n8, t11)), .res (event_Join_out n t n7 t10 (n8, t11)), .res (event_Same_out n5 t8 n8 t11 b3), .br true, .res (event_Join_out n t n t (n9, t12)), .res (event_Join_out n t n t (n9, t12)), .res (event_Same_out n9 t12 n t b4), .br true, .res (event_Leq_out n t n3 t5 b5), .br true, .br true, .br true, .res (event_Leq_out n t n2 t3 b6), .br false, .res (event_Leq_out n2 t3 n3 t5 b7), .br true]) (.k1 (an_ (kinfolklaw02_awake_runs N _ h1) (an_ (not_of2 h2) (an_ (kinfolklaw02_made_runs N p _ h3) (an_ (kinfolklaw02_made_runs N q _ h4) (an_ (kinfolklaw02_made_runs N r _ h5) (an_ (event_Join_runs N n t n2 t3 _ h6) (an_ (event_Join_runs N n4 t7 n3 t5 _ h7) (an_ (event_Join_runs N n2 t3 n t _ h8) (an_ (event_Join_runs N n2 t3 n t _ h8) (an_ (event_Same_runs N n4 t7 n6 t9 _ h9) (an_ h10 (an_ (event_Join_runs N n2 t3 n3 t5 _ h11) (an_ (event_Join_runs N n2 t3 n3 t5 _ h11) (an_ (event_Join_runs N n2 t3 n3 t5 _ h11) (an_ (event_Join_runs N n2 t3 n3 t5 _ h11) (an_ (event_Join_runs N n t n7 t10 _ h12) (an_ (event_Join_runs N n t n7 t10 _ h12) (an_ (event_Same_runs N n5 t8 n8 t11 _ h13) (an_ h14 (an_ (event_Join_runs N n t n t _ h15) (an_ (event_Join_runs N n t n t _ h15) (an_ (event_Same_runs N n9 t12 n t _ h16) (an_ h17 (an_ (event_Leq_runs N n t n3 t5 _ h18) (an_ (not_of h19) (an_ (rfl : true = true) (an_ (rfl : true = true) (an_ (event_Leq_runs N n t n2 t3 _ h20) (an_ (not_of2 h21) (an_ (event_Leq_runs N n2 t3 n3 t5 _ h22) (an_ (not_of h23) trivial))))))))))))))))))))))))))))))) (by kernel_rfl) (by kernel_rfl))
            · have h := some_of h
              subst h
              exact runs_of (C := cfg) (objs := []) (sc := [.res (kinfolklaw02_awake_out b), .br false, .res (kinfolklaw02_made_out p (n, t, t2)), .res (kinfolklaw02_made_out q (n2, t3, t4)), .res (kinfolklaw02_made_out r (n3, t5, t6)), .res (event_Join_out n t n2 t3 (n4, t7)), .res (event_Join_out n4 t7 n3 t5 (n5, t8)), .res (event_Join_out n2 t3 n t (n6, t9)), .res (event_Join_out n2 t3 n t (n6, t9)), .res (event_Same_out n4 t7 n6 t9 b2), .br true, .res (event_Join_out n2 t3 n3 t5 (n7, t10)), .res (event_Join_out n2 t3 n3 t5 (n7, t10)), .res (event_Join_out n2 t3 n3 t5 (n7, t10)), .res (event_Join_out n2 t3 n3 t5 (n7, t10)), .res (event_Join_out n t n7 t10 (n8, t11)), .res (event_Join_out n t n7 t10 (n8, t11)), .res (event_Same_out n5 t8 n8 t11 b3), .br true, .res (event_Join_out n t n t (n9, t12)), .res (event_Join_out n t n t (n9, t12)), .res (event_Same_out n9 t12 n t b4), .br true, .res (event_Leq_out n t n3 t5 b5), .br true, .br true, .br true, .res (event_Leq_out n t n2 t3 b6), .br true, .br true]) (.k1 (an_ (kinfolklaw02_awake_runs N _ h1) (an_ (not_of2 h2) (an_ (kinfolklaw02_made_runs N p _ h3) (an_ (kinfolklaw02_made_runs N q _ h4) (an_ (kinfolklaw02_made_runs N r _ h5) (an_ (event_Join_runs N n t n2 t3 _ h6) (an_ (event_Join_runs N n4 t7 n3 t5 _ h7) (an_ (event_Join_runs N n2 t3 n t _ h8) (an_ (event_Join_runs N n2 t3 n t _ h8) (an_ (event_Same_runs N n4 t7 n6 t9 _ h9) (an_ h10 (an_ (event_Join_runs N n2 t3 n3 t5 _ h11) (an_ (event_Join_runs N n2 t3 n3 t5 _ h11) (an_ (event_Join_runs N n2 t3 n3 t5 _ h11) (an_ (event_Join_runs N n2 t3 n3 t5 _ h11) (an_ (event_Join_runs N n t n7 t10 _ h12) (an_ (event_Join_runs N n t n7 t10 _ h12) (an_ (event_Same_runs N n5 t8 n8 t11 _ h13) (an_ h14 (an_ (event_Join_runs N n t n t _ h15) (an_ (event_Join_runs N n t n t _ h15) (an_ (event_Same_runs N n9 t12 n t _ h16) (an_ h17 (an_ (event_Leq_runs N n t n3 t5 _ h18) (an_ (not_of h19) (an_ (rfl : true = true) (an_ (rfl : true = true) (an_ (event_Leq_runs N n t n2 t3 _ h20) (an_ (not_of h21) (an_ (rfl : true = true) trivial)))))))))))))))))))))))))))))) (by kernel_rfl) (by kernel_rfl))
        · have h := some_of h
          subst h
          exact runs_of (C := cfg) (objs := []) (sc := [.res (kinfolklaw02_awake_out b), .br false, .res (kinfolklaw02_made_out p (n, t, t2)), .res (kinfolklaw02_made_out q (n2, t3, t4)), .res (kinfolklaw02_made_out r (n3, t5, t6)), .res (event_Join_out n t n2 t3 (n4, t7)), .res (event_Join_out n4 t7 n3 t5 (n5, t8)), .res (event_Join_out n2 t3 n t (n6, t9)), .res (event_Join_out n2 t3 n t (n6, t9)), .res (event_Same_out n4 t7 n6 t9 b2), .br true, .res (event_Join_out n2 t3 n3 t5 (n7, t10)), .res (event_Join_out n2 t3 n3 t5 (n7, t10)), .res (event_Join_out n2 t3 n3 t5 (n7, t10)), .res (event_Join_out n2 t3 n3 t5 (n7, t10)), .res (event_Join_out n t n7 t10 (n8, t11)), .res (event_Join_out n t n7 t10 (n8, t11)), .res (event_Same_out n5 t8 n8 t11 b3), .br true, .res (event_Join_out n t n t (n9, t12)), .res (event_Join_out n t n t (n9, t12)), .res (event_Same_out n9 t12 n t b4), .br false, .br false]) (.k1 (an_ (kinfolklaw02_awake_runs N _ h1) (an_ (not_of2 h2) (an_ (kinfolklaw02_made_runs N p _ h3) (an_ (kinfolklaw02_made_runs N q _ h4) (an_ (kinfolklaw02_made_runs N r _ h5) (an_ (event_Join_runs N n t n2 t3 _ h6) (an_ (event_Join_runs N n4 t7 n3 t5 _ h7) (an_ (event_Join_runs N n2 t3 n t _ h8) (an_ (event_Join_runs N n2 t3 n t _ h8) (an_ (event_Same_runs N n4 t7 n6 t9 _ h9) (an_ h10 (an_ (event_Join_runs N n2 t3 n3 t5 _ h11) (an_ (event_Join_runs N n2 t3 n3 t5 _ h11) (an_ (event_Join_runs N n2 t3 n3 t5 _ h11) (an_ (event_Join_runs N n2 t3 n3 t5 _ h11) (an_ (event_Join_runs N n t n7 t10 _ h12) (an_ (event_Join_runs N n t n7 t10 _ h12) (an_ (event_Same_runs N n5 t8 n8 t11 _ h13) (an_ h14 (an_ (event_Join_runs N n t n t _ h15) (an_ (event_Join_runs N n t n t _ h15) (an_ (event_Same_runs N n9 t12 n t _ h16) (an_ h17 (an_ (rfl : false = false) trivial)))))))))))))))))))))))) (by kernel_rfl) (by kernel_rfl))
      · have h := some_of h
        subst h
        exact runs_of (C := cfg) (objs := []) (sc := [.res (kinfolklaw02_awake_out b), .br false, .res (kinfolklaw02_made_out p (n, t, t2)), .res (kinfolklaw02_made_out q (n2, t3, t4)), .res (kinfolklaw02_made_out r (n3, t5, t6)), .res (event_Join_out n t n2 t3 (n4, t7)), .res (event_Join_out n4 t7 n3 t5 (n5, t8)), .res (event_Join_out n2 t3 n t (n6, t9)), .res (event_Join_out n2 t3 n t (n6, t9)), .res (event_Same_out n4 t7 n6 t9 b2), .br true, .res (event_Join_out n2 t3 n3 t5 (n7, t10)), .res (event_Join_out n2 t3 n3 t5 (n7, t10)), .res (event_Join_out n2 t3 n3 t5 (n7, t10)), .res (event_Join_out n2 t3 n3 t5 (n7, t10)), .res (event_Join_out n t n7 t10 (n8, t11)), .res (event_Join_out n t n7 t10 (n8, t11)), .res (event_Same_out n5 t8 n8 t11 b3), .br false, .br false, .br false]) (.k1 (an_ (kinfolklaw02_awake_runs N _ h1) (an_ (not_of2 h2) (an_ (kinfolklaw02_made_runs N p _ h3) (an_ (kinfolklaw02_made_runs N q _ h4) (an_ (kinfolklaw02_made_runs N r _ h5) (an_ (event_Join_runs N n t n2 t3 _ h6) (an_ (event_Join_runs N n4 t7 n3 t5 _ h7) (an_ (event_Join_runs N n2 t3 n t _ h8) (an_ (event_Join_runs N n2 t3 n t _ h8) (an_ (event_Same_runs N n4 t7 n6 t9 _ h9) (an_ h10 (an_ (event_Join_runs N n2 t3 n3 t5 _ h11) (an_ (event_Join_runs N n2 t3 n3 t5 _ h11) (an_ (event_Join_runs N n2 t3 n3 t5 _ h11) (an_ (event_Join_runs N n2 t3 n3 t5 _ h11) (an_ (event_Join_runs N n t n7 t10 _ h12) (an_ (event_Join_runs N n t n7 t10 _ h12) (an_ (event_Same_runs N n5 t8 n8 t11 _ h13) (an_ h14 (an_ (rfl : false = false) (an_ (rfl : false = false) trivial))))))))))))))))))))) (by kernel_rfl) (by kernel_rfl))
    · have h := some_of h
      subst h
      exact runs_of (C := cfg) (objs := []) (sc := [.res (kinfolklaw02_awake_out b), .br false, .res (kinfolklaw02_made_out p (n, t, t2)), .res (kinfolklaw02_made_out q (n2, t3, t4)), .res (kinfolklaw02_made_out r (n3, t5, t6)), .res (event_Join_out n t n2 t3 (n4, t7)), .res (event_Join_out n4 t7 n3 t5 (n5, t8)), .res (event_Join_out n2 t3 n t (n6, t9)), .res (event_Join_out n2 t3 n t (n6, t9)), .res (event_Same_out n4 t7 n6 t9 b2), .br false, .br false, .br false, .br false]) (.k1 (an_ (kinfolklaw02_awake_runs N _ h1) (an_ (not_of2 h2) (an_ (kinfolklaw02_made_runs N p _ h3) (an_ (kinfolklaw02_made_runs N q _ h4) (an_ (kinfolklaw02_made_runs N r _ h5) (an_ (event_Join_runs N n t n2 t3 _ h6) (an_ (event_Join_runs N n4 t7 n3 t5 _ h7) (an_ (event_Join_runs N n2 t3 n t _ h8) (an_ (event_Join_runs N n2 t3 n t _ h8) (an_ (event_Same_runs N n4 t7 n6 t9 _ h9) (an_ h10 (an_ (rfl : false = false) (an_ (rfl : false = false) (an_ (rfl : false = false) trivial)))))))))))))) (by kernel_rfl) (by kernel_rfl))
  · have h := some_of h
    subst h
    exact runs_of (C := cfg) (objs := []) (sc := [.res (kinfolklaw02_awake_out b), .br true]) (.k0 (an_ (kinfolklaw02_awake_runs N _ h1) (an_ (not_of h2) trivial)) (by kernel_rfl))
/-! ### kinfolklaw02_EventForms_out -/
def kinfolklaw02_EventForms_out (p : List Int) (q : List Int) (n : Int) : Bool → Res
  | r1 => ([(.one (.pv (.bool r1)))], [], [])
/-! ### kinfolkref02_Depth_out -/
def kinfolkref02_Depth_out (e : T_kinfolkref02_Event) : Int → Res
  | r1 => ([(.one (.pv (.int .i64 r1)))], [], [])
/-! ### kinfolkref02_Depth -/
noncomputable def kinfolkref02_Depth_b (rec_kinfolkref02_Depth : T_kinfolkref02_Event → Option (Int)) (e : T_kinfolkref02_Event) : Option (Int) :=
  match e with
  | .nil =>
    none
  | .mk n t t2 =>
    match t with
    | .nil =>
      some 0
    | .mk n2 t3 t4 =>
      (rec_kinfolkref02_Depth t).bind fun n3 =>
      (rec_kinfolkref02_Depth t2).bind fun n4 =>
      bif (decide ((n4 : Int) < n3)) then
        some (iadd .i64 1 n3)
      else
        some (iadd .i64 1 n4)
theorem kinfolkref02_Depth_b_runs (rec_kinfolkref02_Depth : T_kinfolkref02_Event → Option (Int)) (hrec_kinfolkref02_Depth : ∀ e r_, rec_kinfolkref02_Depth e = some r_ → Runs Tryd.prog 57 [(.one (.pv (T_kinfolkref02_Event.pv e)))] [] [] (kinfolkref02_Depth_out e r_)) (e : T_kinfolkref02_Event) (r_ : Int) (h : kinfolkref02_Depth_b rec_kinfolkref02_Depth e = some r_) : Runs Tryd.prog 57 [(.one (.pv (T_kinfolkref02_Event.pv e)))] [] [] (kinfolkref02_Depth_out e r_) := by
  unfold kinfolkref02_Depth_b at h
  cases e with
  | nil =>
    cases h
  | mk n t t2 =>
    cases t with
    | nil =>
      have h := some_of h
      subst h
      exact runs_of (C := cfg) (objs := []) (sc := [.br true]) (.k0 (an_ (rfl : true = true) trivial) (by kernel_rfl))
    | mk n2 t3 t4 =>
      obtain ⟨n3, h1, h⟩ := bind_of h
      obtain ⟨n4, h2, h⟩ := bind_of h
      rcases cond_of h with ⟨h3, h⟩ | ⟨h3, h⟩
      · have h := some_of h
        subst h
        exact runs_of (C := cfg) (objs := []) (sc := [.br false, .res (kinfolkref02_Depth_out (T_kinfolkref02_Event.mk n2 t3 t4) n3), .res (kinfolkref02_Depth_out t2 n4), .br true]) (.k0 (an_ (rfl : false = false) (an_ (hrec_kinfolkref02_Depth (T_kinfolkref02_Event.mk n2 t3 t4) _ h1) (an_ (hrec_kinfolkref02_Depth t2 _ h2) (an_ h3 trivial)))) (by kernel_rfl))
      · have h := some_of h
        subst h
        exact runs_of (C := cfg) (objs := []) (sc := [.br false, .res (kinfolkref02_Depth_out (T_kinfolkref02_Event.mk n2 t3 t4) n3), .res (kinfolkref02_Depth_out t2 n4), .br false]) (.k0 (an_ (rfl : false = false) (an_ (hrec_kinfolkref02_Depth (T_kinfolkref02_Event.mk n2 t3 t4) _ h1) (an_ (hrec_kinfolkref02_Depth t2 _ h2) (an_ h3 trivial)))) (by kernel_rfl))
noncomputable def kinfolkref02_Depth : Nat → T_kinfolkref02_Event → Option (Int)
  | 0, _ => none
  | N + 1, e => kinfolkref02_Depth_b (kinfolkref02_Depth N) e
theorem kinfolkref02_Depth_runs : ∀ (N : Nat) (e : T_kinfolkref02_Event) (r_ : Int), kinfolkref02_Depth N e = some r_ → Runs Tryd.prog 57 [(.one (.pv (T_kinfolkref02_Event.pv e)))] [] [] (kinfolkref02_Depth_out e r_)
  | 0, _, _, h => by cases h
  | N + 1, e, r_, h => kinfolkref02_Depth_b_runs (kinfolkref02_Depth N) (kinfolkref02_Depth_runs N) e r_ h
/-! ### kinfolkref02_Heights_out -/
def kinfolkref02_Heights_out (e : T_kinfolkref02_Event) (depth : Int) : List Int → Res
  | r1 => ([(.one (.own 0 0 (r1).length false))], [], [(.ints .u64 r1)])
/-! ### kinfolkref02_Max_out -/
def kinfolkref02_Max_out (e : T_kinfolkref02_Event) : Int → Res
  | r1 => ([(.one (.pv (.int .u64 r1)))], [], [])
/-! ### kinfolkref02_Max -/
noncomputable def kinfolkref02_Max_b (rec_kinfolkref02_Max : T_kinfolkref02_Event → Option (Int)) (e : T_kinfolkref02_Event) : Option (Int) :=
  match e with
  | .nil =>
    none
  | .mk n t t2 =>
    match t with
    | .nil =>
      some n
    | .mk n2 t3 t4 =>
      (rec_kinfolkref02_Max t).bind fun n3 =>
      (rec_kinfolkref02_Max t2).bind fun n4 =>
      bif (decide ((n4 : Int) < n3)) then
        some (iadd .u64 n n3)
      else
        some (iadd .u64 n n4)
theorem kinfolkref02_Max_b_runs (rec_kinfolkref02_Max : T_kinfolkref02_Event → Option (Int)) (hrec_kinfolkref02_Max : ∀ e r_, rec_kinfolkref02_Max e = some r_ → Runs Tryd.prog 29 [(.one (.pv (T_kinfolkref02_Event.pv e)))] [] [] (kinfolkref02_Max_out e r_)) (e : T_kinfolkref02_Event) (r_ : Int) (h : kinfolkref02_Max_b rec_kinfolkref02_Max e = some r_) : Runs Tryd.prog 29 [(.one (.pv (T_kinfolkref02_Event.pv e)))] [] [] (kinfolkref02_Max_out e r_) := by
  unfold kinfolkref02_Max_b at h
  cases e with
  | nil =>
    cases h
  | mk n t t2 =>
    cases t with
    | nil =>
      have h := some_of h
      subst h
      exact runs_of (C := cfg) (objs := []) (sc := [.br true]) (.k0 (an_ (rfl : true = true) trivial) (by kernel_rfl))
    | mk n2 t3 t4 =>
      obtain ⟨n3, h1, h⟩ := bind_of h
      obtain ⟨n4, h2, h⟩ := bind_of h
      rcases cond_of h with ⟨h3, h⟩ | ⟨h3, h⟩
      · have h := some_of h
        subst h
        exact runs_of (C := cfg) (objs := []) (sc := [.br false, .res (kinfolkref02_Max_out (T_kinfolkref02_Event.mk n2 t3 t4) n3), .res (kinfolkref02_Max_out t2 n4), .br true]) (.k0 (an_ (rfl : false = false) (an_ (hrec_kinfolkref02_Max (T_kinfolkref02_Event.mk n2 t3 t4) _ h1) (an_ (hrec_kinfolkref02_Max t2 _ h2) (an_ h3 trivial)))) (by kernel_rfl))
      · have h := some_of h
        subst h
        exact runs_of (C := cfg) (objs := []) (sc := [.br false, .res (kinfolkref02_Max_out (T_kinfolkref02_Event.mk n2 t3 t4) n3), .res (kinfolkref02_Max_out t2 n4), .br false]) (.k0 (an_ (rfl : false = false) (an_ (hrec_kinfolkref02_Max (T_kinfolkref02_Event.mk n2 t3 t4) _ h1) (an_ (hrec_kinfolkref02_Max t2 _ h2) (an_ h3 trivial)))) (by kernel_rfl))
noncomputable def kinfolkref02_Max : Nat → T_kinfolkref02_Event → Option (Int)
  | 0, _ => none
  | N + 1, e => kinfolkref02_Max_b (kinfolkref02_Max N) e
theorem kinfolkref02_Max_runs : ∀ (N : Nat) (e : T_kinfolkref02_Event) (r_ : Int), kinfolkref02_Max N e = some r_ → Runs Tryd.prog 29 [(.one (.pv (T_kinfolkref02_Event.pv e)))] [] [] (kinfolkref02_Max_out e r_)
  | 0, _, _, h => by cases h
  | N + 1, e, r_, h => kinfolkref02_Max_b_runs (kinfolkref02_Max N) (kinfolkref02_Max_runs N) e r_ h
/-! ### kinfolkref02_Left_out -/
def kinfolkref02_Left_out (e : T_kinfolkref02_Event) : T_kinfolkref02_Event → Res
  | r1 => ([(.one (.pv (T_kinfolkref02_Event.pv r1)))], [], [])
/-! ### kinfolkref02_Add_out -/
def kinfolkref02_Add_out (e : T_kinfolkref02_Event) (n : Int) : T_kinfolkref02_Event → Res
  | r1 => ([(.one (.pv (T_kinfolkref02_Event.pv r1)))], [], [])
/-! ### kinfolkref02_Add -/
noncomputable def kinfolkref02_Add (e : T_kinfolkref02_Event) (n : Int) : Option (T_kinfolkref02_Event) :=
  match e with
  | .nil =>
    none
  | .mk n2 t t2 =>
    some (T_kinfolkref02_Event.mk (iadd .u64 n2 n) t t2)
theorem kinfolkref02_Add_runs (e : T_kinfolkref02_Event) (n : Int) (r_ : T_kinfolkref02_Event) (h : kinfolkref02_Add e n = some r_) : Runs Tryd.prog 119 [(.one (.pv (T_kinfolkref02_Event.pv e))), (.one (.pv (.int .u64 n)))] [] [] (kinfolkref02_Add_out e n r_) := by
  unfold kinfolkref02_Add at h
  cases e with
  | nil =>
    cases h
  | mk n2 t t2 =>
    have h := some_of h
    subst h
    have e_ : Runs Tryd.prog 119 [(.one (.pv (T_kinfolkref02_Event.pv (T_kinfolkref02_Event.mk n2 t t2)))), (.one (.pv (.int .u64 n)))] [] [] ([(.one (.pv (.imm [(.int .u64 (iadd .u64 n2 n)), (T_kinfolkref02_Event.pv t), (T_kinfolkref02_Event.pv t2)] 0)))], [], []) := runs_of (C := cfg) (objs := []) (sc := []) (.k0 (trivial) (by kernel_rfl))
    exact e_.out ⟨.eq rfl, trivial⟩ trivial trivial rfl
/-! ### kinfolkref02_Left -/
noncomputable def kinfolkref02_Left (e : T_kinfolkref02_Event) : Option (T_kinfolkref02_Event) :=
  match e with
  | .nil =>
    none
  | .mk n t t2 =>
    match t with
    | .nil =>
      some e
    | .mk n2 t3 t4 =>
      (kinfolkref02_Add t n).bind fun t5 =>
      some t5
theorem kinfolkref02_Left_runs (e : T_kinfolkref02_Event) (r_ : T_kinfolkref02_Event) (h : kinfolkref02_Left e = some r_) : Runs Tryd.prog 67 [(.one (.pv (T_kinfolkref02_Event.pv e)))] [] [] (kinfolkref02_Left_out e r_) := by
  unfold kinfolkref02_Left at h
  cases e with
  | nil =>
    cases h
  | mk n t t2 =>
    cases t with
    | nil =>
      have h := some_of h
      subst h
      exact runs_of (C := cfg) (objs := []) (sc := [.br true]) (.k0 (an_ (rfl : true = true) trivial) (by kernel_rfl))
    | mk n2 t3 t4 =>
      obtain ⟨t5, h1, h⟩ := bind_of h
      have h := some_of h
      subst h
      exact runs_of (C := cfg) (objs := []) (sc := [.br false, .res (kinfolkref02_Add_out (T_kinfolkref02_Event.mk n2 t3 t4) n t5)]) (.k0 (an_ (rfl : false = false) (an_ (kinfolkref02_Add_runs (T_kinfolkref02_Event.mk n2 t3 t4) n _ h1) trivial)) (by kernel_rfl))
/-! ### kinfolkref02_Right_out -/
def kinfolkref02_Right_out (e : T_kinfolkref02_Event) : T_kinfolkref02_Event → Res
  | r1 => ([(.one (.pv (T_kinfolkref02_Event.pv r1)))], [], [])
/-! ### kinfolkref02_Right -/
noncomputable def kinfolkref02_Right (e : T_kinfolkref02_Event) : Option (T_kinfolkref02_Event) :=
  match e with
  | .nil =>
    none
  | .mk n t t2 =>
    match t with
    | .nil =>
      some e
    | .mk n2 t3 t4 =>
      (kinfolkref02_Add t2 n).bind fun t5 =>
      some t5
theorem kinfolkref02_Right_runs (e : T_kinfolkref02_Event) (r_ : T_kinfolkref02_Event) (h : kinfolkref02_Right e = some r_) : Runs Tryd.prog 68 [(.one (.pv (T_kinfolkref02_Event.pv e)))] [] [] (kinfolkref02_Right_out e r_) := by
  unfold kinfolkref02_Right at h
  cases e with
  | nil =>
    cases h
  | mk n t t2 =>
    cases t with
    | nil =>
      have h := some_of h
      subst h
      exact runs_of (C := cfg) (objs := []) (sc := [.br true]) (.k0 (an_ (rfl : true = true) trivial) (by kernel_rfl))
    | mk n2 t3 t4 =>
      obtain ⟨t5, h1, h⟩ := bind_of h
      have h := some_of h
      subst h
      exact runs_of (C := cfg) (objs := []) (sc := [.br false, .res (kinfolkref02_Add_out t2 n t5)]) (.k0 (an_ (rfl : false = false) (an_ (kinfolkref02_Add_runs t2 n _ h1) trivial)) (by kernel_rfl))
/-! ### kinfolkref02_Heights -/
noncomputable def kinfolkref02_Heights_b (N : Nat) (rec_kinfolkref02_Heights : T_kinfolkref02_Event → Int → Option (List Int)) (e : T_kinfolkref02_Event) (depth : Int) : Option (List Int) :=
  bif (decide ((depth : Int) = 0)) then
    (kinfolkref02_Max N e).bind fun n =>
    some [n]
  else
    (kinfolkref02_Left e).bind fun t =>
    (rec_kinfolkref02_Heights t (isub .i64 depth 1)).bind fun l_ =>
    (kinfolkref02_Right e).bind fun t2 =>
    (rec_kinfolkref02_Heights t2 (isub .i64 depth 1)).bind fun l_2 =>
    bif fits ((l_ ++ (List.take (l_2).length l_2))).length then
    some (l_ ++ l_2)
    else none
theorem kinfolkref02_Heights_b_runs (N : Nat) (rec_kinfolkref02_Heights : T_kinfolkref02_Event → Int → Option (List Int)) (hrec_kinfolkref02_Heights : ∀ e depth r_, rec_kinfolkref02_Heights e depth = some r_ → Runs Tryd.prog 27 [(.one (.pv (T_kinfolkref02_Event.pv e))), (.one (.pv (.int .i64 depth)))] [] [] (kinfolkref02_Heights_out e depth r_)) (e : T_kinfolkref02_Event) (depth : Int) (r_ : List Int) (h : kinfolkref02_Heights_b N rec_kinfolkref02_Heights e depth = some r_) : Runs Tryd.prog 27 [(.one (.pv (T_kinfolkref02_Event.pv e))), (.one (.pv (.int .i64 depth)))] [] [] (kinfolkref02_Heights_out e depth r_) := by
  unfold kinfolkref02_Heights_b at h
  rcases cond_of h with ⟨h1, h⟩ | ⟨h1, h⟩
  · obtain ⟨n, h2, h⟩ := bind_of h
    have h := some_of h
    subst h
    have e_ : Runs Tryd.prog 27 [(.one (.pv (T_kinfolkref02_Event.pv e))), (.one (.pv (.int .i64 depth)))] [] [] ([(.one (.own 0 0 1 true))], [], [(.ints .u64 [n])]) := runs_of (C := cfg) (objs := []) (sc := [.br true, .res (kinfolkref02_Max_out e n)]) (.k0 (an_ h1 (an_ (kinfolkref02_Max_runs N e _ h2) trivial)) (by kernel_rfl))
    exact e_.out ⟨.ownF (by first | rfl | (simp only [List.take_length]; done) | (simp only [List.take_length, List.length_append, List.drop_zero, List.map_append, List.map_take, List.map_drop, List.map_cons, List.map_nil, List.append_nil, List.nil_append]; done) | (simp; done)), trivial⟩ trivial ⟨.eq rfl, trivial⟩ rfl
  · obtain ⟨t, h2, h⟩ := bind_of h
    obtain ⟨l_, h3, h⟩ := bind_of h
    obtain ⟨t2, h4, h⟩ := bind_of h
    obtain ⟨l_2, h5, h⟩ := bind_of h
    obtain ⟨h6, h⟩ := need_of h
    have h := some_of h
    subst h
    have e_ : Runs Tryd.prog 27 [(.one (.pv (T_kinfolkref02_Event.pv e))), (.one (.pv (.int .i64 depth)))] [] [] ([(.one (.own 0 0 ((l_ ++ (List.take (l_2).length l_2))).length false))], [], [(.ints .u64 (l_ ++ (List.take (l_2).length l_2)))]) := runs_of (C := cfg) (objs := []) (sc := [.br false, .res (kinfolkref02_Left_out e t), .res (kinfolkref02_Heights_out t (isub .i64 depth 1) l_), .res (kinfolkref02_Right_out e t2), .res (kinfolkref02_Heights_out t2 (isub .i64 depth 1) l_2)]) (.k0 (an_ h1 (an_ (kinfolkref02_Left_runs e _ h2) (an_ (hrec_kinfolkref02_Heights t (isub .i64 depth 1) _ h3) (an_ (kinfolkref02_Right_runs e _ h4) (an_ (hrec_kinfolkref02_Heights t2 (isub .i64 depth 1) _ h5) (an_ (show (Nat.beq (l_).length (l_).length) = true from Nat.beq_refl _) (an_ h6 trivial))))))) (by kernel_rfl))
    exact e_.out ⟨.own (by first | rfl | (simp only [List.take_length]; done) | (simp only [List.take_length, List.length_append, List.drop_zero, List.map_append, List.map_take, List.map_drop, List.map_cons, List.map_nil, List.append_nil, List.nil_append]; done) | (simp; done)), trivial⟩ trivial ⟨.eq (by first | rfl | (simp only [List.take_length]; done) | (simp only [List.take_length, List.length_append, List.drop_zero, List.map_append, List.map_take, List.map_drop, List.map_cons, List.map_nil, List.append_nil, List.nil_append]; done) | (simp; done)), trivial⟩ rfl
noncomputable def kinfolkref02_Heights : Nat → T_kinfolkref02_Event → Int → Option (List Int)
  | 0, _, _ => none
  | N + 1, e, depth => kinfolkref02_Heights_b N (kinfolkref02_Heights N) e depth
theorem kinfolkref02_Heights_runs : ∀ (N : Nat) (e : T_kinfolkref02_Event) (depth : Int) (r_ : List Int), kinfolkref02_Heights N e depth = some r_ → Runs Tryd.prog 27 [(.one (.pv (T_kinfolkref02_Event.pv e))), (.one (.pv (.int .i64 depth)))] [] [] (kinfolkref02_Heights_out e depth r_)
  | 0, _, _, _, h => by cases h
  | N + 1, e, depth, r_, h => kinfolkref02_Heights_b_runs N (kinfolkref02_Heights N) (kinfolkref02_Heights_runs N) e depth r_ h
/-! ### kinfolkref02_Of_out -/
def kinfolkref02_Of_out (l : List Int) : T_kinfolkref02_Event → Res
  | r1 => ([(.one (.pv (T_kinfolkref02_Event.pv r1)))], [], [])
/-! ### kinfolkref02_Of -/
noncomputable def kinfolkref02_Of_b (N : Nat) (rec_kinfolkref02_Of : List Int → Option (T_kinfolkref02_Event)) (l : List Int) : Option (T_kinfolkref02_Event) :=
  bif (decide ((((l).length : Int) : Int) = 1)) then
    bif decide ((0 : Int) ≤ 0) && decide ((0 : Int) < ((l).length : Int)) then
    (kinfolkref02_Leaf (l.getD 0 0)).bind fun t =>
    some t
    else none
  else
    bif decide ((0 : Int) ≤ 0) && decide ((0 : Int) ≤ (iquo .i64 ((l).length : Int) 2)) && decide (((iquo .i64 ((l).length : Int) 2) : Int) ≤ ((l).length : Int)) && decide (((iquo .i64 ((l).length : Int) 2) : Int) = (iquo .i64 ((l).length : Int) 2)) then
    bif decide ((0 : Int) ≤ (iquo .i64 ((l).length : Int) 2)) && decide (((iquo .i64 ((l).length : Int) 2) : Int) ≤ ((l).length : Int)) && decide ((((l).length : Int) : Int) ≤ ((l).length : Int)) && decide ((((l).length : Int) : Int) = ((l).length : Int)) then
    (rec_kinfolkref02_Of (List.take ((iquo .i64 ((l).length : Int) 2) - 0).toNat l)).bind fun t =>
    (rec_kinfolkref02_Of (List.take (((l).length : Int) - (iquo .i64 ((l).length : Int) 2)).toNat (List.drop ((iquo .i64 ((l).length : Int) 2)).toNat l))).bind fun t2 =>
    (kinfolkref02_Node N 0 t t2).bind fun t3 =>
    some t3
    else none
    else none
theorem kinfolkref02_Of_b_runs (N : Nat) (rec_kinfolkref02_Of : List Int → Option (T_kinfolkref02_Event)) (hrec_kinfolkref02_Of : ∀ l r_, rec_kinfolkref02_Of l = some r_ → Runs Tryd.prog 58 [(.one (.pv (.ints .u64 l false)))] [] [] (kinfolkref02_Of_out l r_)) (l : List Int) (r_ : T_kinfolkref02_Event) (h : kinfolkref02_Of_b N rec_kinfolkref02_Of l = some r_) : Runs Tryd.prog 58 [(.one (.pv (.ints .u64 l false)))] [] [] (kinfolkref02_Of_out l r_) := by
  unfold kinfolkref02_Of_b at h
  rcases cond_of h with ⟨h1, h⟩ | ⟨h1, h⟩
  · obtain ⟨h2, h⟩ := need_of h
    obtain ⟨t, h3, h⟩ := bind_of h
    have h := some_of h
    subst h
    exact runs_of (C := cfg) (objs := []) (sc := [.br true, .res (kinfolkref02_Leaf_out (l.getD 0 0) t)]) (.k0 (an_ h1 (an_ h2 (an_ (kinfolkref02_Leaf_runs (l.getD 0 0) _ h3) trivial))) (by kernel_rfl))
  · obtain ⟨h2, h⟩ := need_of h
    obtain ⟨h3, h⟩ := need_of h
    obtain ⟨t, h4, h⟩ := bind_of h
    obtain ⟨t2, h5, h⟩ := bind_of h
    obtain ⟨t3, h6, h⟩ := bind_of h
    have h := some_of h
    subst h
    exact runs_of (C := cfg) (objs := []) (sc := [.br false, .res (kinfolkref02_Of_out (List.take ((iquo .i64 ((l).length : Int) 2) - 0).toNat l) t), .res (kinfolkref02_Of_out (List.take (((l).length : Int) - (iquo .i64 ((l).length : Int) 2)).toNat (List.drop ((iquo .i64 ((l).length : Int) 2)).toNat l)) t2), .res (kinfolkref02_Node_out 0 t t2 t3)]) (.k0 (an_ h1 (an_ (rfl : true = true) (an_ h2 (an_ (rfl : true = true) (an_ h3 (an_ (hrec_kinfolkref02_Of (List.take ((iquo .i64 ((l).length : Int) 2) - 0).toNat l) _ h4) (an_ (hrec_kinfolkref02_Of (List.take (((l).length : Int) - (iquo .i64 ((l).length : Int) 2)).toNat (List.drop ((iquo .i64 ((l).length : Int) 2)).toNat l)) _ h5) (an_ (kinfolkref02_Node_runs N 0 t t2 _ h6) trivial)))))))) (by kernel_rfl))
noncomputable def kinfolkref02_Of : Nat → List Int → Option (T_kinfolkref02_Event)
  | 0, _ => none
  | N + 1, l => kinfolkref02_Of_b N (kinfolkref02_Of N) l
theorem kinfolkref02_Of_runs : ∀ (N : Nat) (l : List Int) (r_ : T_kinfolkref02_Event), kinfolkref02_Of N l = some r_ → Runs Tryd.prog 58 [(.one (.pv (.ints .u64 l false)))] [] [] (kinfolkref02_Of_out l r_)
  | 0, _, _, h => by cases h
  | N + 1, l, r_, h => kinfolkref02_Of_b_runs N (kinfolkref02_Of N) (kinfolkref02_Of_runs N) l r_ h
/-! ### kinfolklaw02_like_out -/
def kinfolklaw02_like_out (e : Int) (e2 : T_event_halves) (x : T_kinfolkref02_Event) : Bool → Res
  | r1 => ([(.one (.pv (.bool r1)))], [], [])
/-! ### event_Event_IsLeaf_out -/
def event_Event_IsLeaf_out (e : Int) (e2 : T_event_halves) : Bool → Res
  | r1 => ([(.one (.pv (.bool r1)))], [], [])
/-! ### event_Event_IsLeaf -/
noncomputable def event_Event_IsLeaf (e : Int) (e2 : T_event_halves) : Option (Bool) :=
  match e2 with
  | .nil =>
    some true
  | .mk n t n2 t2 =>
    some false
theorem event_Event_IsLeaf_runs (e : Int) (e2 : T_event_halves) (r_ : Bool) (h : event_Event_IsLeaf e e2 = some r_) : Runs Tryd.prog 64 [(.agg [(.pv (.int .u64 e)), (.pv (T_event_halves.pv e2))])] [] [] (event_Event_IsLeaf_out e e2 r_) := by
  unfold event_Event_IsLeaf at h
  cases e2 with
  | nil =>
    have h := some_of h
    subst h
    exact runs_of (C := cfg) (objs := []) (sc := []) (.k0 (trivial) (by kernel_rfl))
  | mk n t n2 t2 =>
    have h := some_of h
    subst h
    exact runs_of (C := cfg) (objs := []) (sc := []) (.k0 (trivial) (by kernel_rfl))
/-! ### event_Event_Base_out -/
def event_Event_Base_out (e : Int) (e2 : T_event_halves) : Unit → Res
  | _ => ([(.one (.pv (.int .u64 e)))], [], [])
/-! ### event_Event_Base -/
noncomputable def event_Event_Base (e : Int) (e2 : T_event_halves) : Option (Unit) :=
  some ()
theorem event_Event_Base_runs (e : Int) (e2 : T_event_halves) (r_ : Unit) (h : event_Event_Base e e2 = some r_) : Runs Tryd.prog 63 [(.agg [(.pv (.int .u64 e)), (.pv (T_event_halves.pv e2))])] [] [] (event_Event_Base_out e e2 r_) := by
  unfold event_Event_Base at h
  have h := some_of h
  subst h
  exact runs_of (C := cfg) (objs := []) (sc := []) (.k0 (trivial) (by kernel_rfl))
/-! ### event_Event_Min_out -/
def event_Event_Min_out (e : Int) (e2 : T_event_halves) : Unit → Res
  | _ => ([(.one (.pv (.int .u64 e)))], [], [])
/-! ### event_Event_Min -/
noncomputable def event_Event_Min (e : Int) (e2 : T_event_halves) : Option (Unit) :=
  some ()
theorem event_Event_Min_runs (e : Int) (e2 : T_event_halves) (r_ : Unit) (h : event_Event_Min e e2 = some r_) : Runs Tryd.prog 95 [(.agg [(.pv (.int .u64 e)), (.pv (T_event_halves.pv e2))])] [] [] (event_Event_Min_out e e2 r_) := by
  unfold event_Event_Min at h
  have h := some_of h
  subst h
  exact runs_of (C := cfg) (objs := []) (sc := []) (.k0 (trivial) (by kernel_rfl))
/-! ### kinfolkref02_Text_out -/
def kinfolkref02_Text_out (e : T_kinfolkref02_Event) : ByteArray → Res
  | r1 => ([(.one (.pv (.str r1)))], [], [])
/-! ### kinfolkref02_Dec_out -/
def kinfolkref02_Dec_out (n : Int) : ByteArray → Res
  | r1 => ([(.one (.pv (.str r1)))], [], [])
/-! ### kinfolkref02_Dec -/
noncomputable def kinfolkref02_Dec_b (rec_kinfolkref02_Dec : Int → Option (ByteArray)) (n : Int) : Option (ByteArray) :=
  bif decide ((0 : Int) ≤ (irem .u64 n 10)) && decide (((irem .u64 n 10) : Int) ≤ (iadd .u64 (irem .u64 n 10) 1)) && decide (((iadd .u64 (irem .u64 n 10) 1) : Int) ≤ ((⟨#[48, 49, 50, 51, 52, 53, 54, 55, 56, 57]⟩ : ByteArray).size : Int)) then
  bif (decide ((n : Int) < 10)) then
    some ((⟨#[48, 49, 50, 51, 52, 53, 54, 55, 56, 57]⟩ : ByteArray).extract ((irem .u64 n 10)).toNat ((iadd .u64 (irem .u64 n 10) 1)).toNat)
  else
    (rec_kinfolkref02_Dec (iquo .u64 n 10)).bind fun s =>
    bif decide (s.size + ((⟨#[48, 49, 50, 51, 52, 53, 54, 55, 56, 57]⟩ : ByteArray).extract ((irem .u64 n 10)).toNat ((iadd .u64 (irem .u64 n 10) 1)).toNat).size ≤ 140737488355328) then
    some (s ++ ((⟨#[48, 49, 50, 51, 52, 53, 54, 55, 56, 57]⟩ : ByteArray).extract ((irem .u64 n 10)).toNat ((iadd .u64 (irem .u64 n 10) 1)).toNat))
    else none
  else none
theorem kinfolkref02_Dec_b_runs (rec_kinfolkref02_Dec : Int → Option (ByteArray)) (hrec_kinfolkref02_Dec : ∀ n r_, rec_kinfolkref02_Dec n = some r_ → Runs Tryd.prog 98 [(.one (.pv (.int .u64 n)))] [] [] (kinfolkref02_Dec_out n r_)) (n : Int) (r_ : ByteArray) (h : kinfolkref02_Dec_b rec_kinfolkref02_Dec n = some r_) : Runs Tryd.prog 98 [(.one (.pv (.int .u64 n)))] [] [] (kinfolkref02_Dec_out n r_) := by
  unfold kinfolkref02_Dec_b at h
  obtain ⟨h1, h⟩ := need_of h
  rcases cond_of h with ⟨h2, h⟩ | ⟨h2, h⟩
  · have h := some_of h
    subst h
    exact runs_of (C := cfg) (objs := []) (sc := [.br true]) (.k0 (an_ (rfl : true = true) (an_ (rfl : true = true) (an_ h1 (an_ h2 trivial)))) (by kernel_rfl))
  · obtain ⟨s, h3, h⟩ := bind_of h
    obtain ⟨h4, h⟩ := need_of h
    have h := some_of h
    subst h
    exact runs_of (C := cfg) (objs := []) (sc := [.br false, .res (kinfolkref02_Dec_out (iquo .u64 n 10) s)]) (.k0 (an_ (rfl : true = true) (an_ (rfl : true = true) (an_ h1 (an_ h2 (an_ (rfl : true = true) (an_ (hrec_kinfolkref02_Dec (iquo .u64 n 10) _ h3) (an_ h4 trivial))))))) (by kernel_rfl))
noncomputable def kinfolkref02_Dec : Nat → Int → Option (ByteArray)
  | 0, _ => none
  | N + 1, n => kinfolkref02_Dec_b (kinfolkref02_Dec N) n
theorem kinfolkref02_Dec_runs : ∀ (N : Nat) (n : Int) (r_ : ByteArray), kinfolkref02_Dec N n = some r_ → Runs Tryd.prog 98 [(.one (.pv (.int .u64 n)))] [] [] (kinfolkref02_Dec_out n r_)
  | 0, _, _, h => by cases h
  | N + 1, n, r_, h => kinfolkref02_Dec_b_runs (kinfolkref02_Dec N) (kinfolkref02_Dec_runs N) n r_ h
/-! ### kinfolkref02_Text -/
noncomputable def kinfolkref02_Text_b (N : Nat) (rec_kinfolkref02_Text : T_kinfolkref02_Event → Option (ByteArray)) (e : T_kinfolkref02_Event) : Option (ByteArray) :=
  match e with
  | .nil =>
    none
  | .mk n t t2 =>
    match t with
    | .nil =>
      (kinfolkref02_Dec N n).bind fun s =>
      some s
    | .mk n2 t3 t4 =>
      (kinfolkref02_Dec N n).bind fun s =>
      bif decide ((⟨#[40]⟩ : ByteArray).size + s.size ≤ 140737488355328) then
      bif decide (((⟨#[40]⟩ : ByteArray) ++ s).size + (⟨#[44]⟩ : ByteArray).size ≤ 140737488355328) then
      (rec_kinfolkref02_Text t).bind fun s2 =>
      bif decide ((((⟨#[40]⟩ : ByteArray) ++ s) ++ (⟨#[44]⟩ : ByteArray)).size + s2.size ≤ 140737488355328) then
      bif decide (((((⟨#[40]⟩ : ByteArray) ++ s) ++ (⟨#[44]⟩ : ByteArray)) ++ s2).size + (⟨#[44]⟩ : ByteArray).size ≤ 140737488355328) then
      (rec_kinfolkref02_Text t2).bind fun s3 =>
      bif decide ((((((⟨#[40]⟩ : ByteArray) ++ s) ++ (⟨#[44]⟩ : ByteArray)) ++ s2) ++ (⟨#[44]⟩ : ByteArray)).size + s3.size ≤ 140737488355328) then
      bif decide (((((((⟨#[40]⟩ : ByteArray) ++ s) ++ (⟨#[44]⟩ : ByteArray)) ++ s2) ++ (⟨#[44]⟩ : ByteArray)) ++ s3).size + (⟨#[41]⟩ : ByteArray).size ≤ 140737488355328) then
      some (((((((⟨#[40]⟩ : ByteArray) ++ s) ++ (⟨#[44]⟩ : ByteArray)) ++ s2) ++ (⟨#[44]⟩ : ByteArray)) ++ s3) ++ (⟨#[41]⟩ : ByteArray))
      else none
      else none
      else none
      else none
      else none
      else none
theorem kinfolkref02_Text_b_runs (N : Nat) (rec_kinfolkref02_Text : T_kinfolkref02_Event → Option (ByteArray)) (hrec_kinfolkref02_Text : ∀ e r_, rec_kinfolkref02_Text e = some r_ → Runs Tryd.prog 22 [(.one (.pv (T_kinfolkref02_Event.pv e)))] [] [] (kinfolkref02_Text_out e r_)) (e : T_kinfolkref02_Event) (r_ : ByteArray) (h : kinfolkref02_Text_b N rec_kinfolkref02_Text e = some r_) : Runs Tryd.prog 22 [(.one (.pv (T_kinfolkref02_Event.pv e)))] [] [] (kinfolkref02_Text_out e r_) := by
  unfold kinfolkref02_Text_b at h
  cases e with
  | nil =>
    cases h
  | mk n t t2 =>
    cases t with
    | nil =>
      obtain ⟨s, h1, h⟩ := bind_of h
      have h := some_of h
      subst h
      exact runs_of (C := cfg) (objs := []) (sc := [.br true, .res (kinfolkref02_Dec_out n s)]) (.k0 (an_ (rfl : true = true) (an_ (kinfolkref02_Dec_runs N n _ h1) trivial)) (by kernel_rfl))
    | mk n2 t3 t4 =>
      obtain ⟨s, h1, h⟩ := bind_of h
      obtain ⟨h2, h⟩ := need_of h
      obtain ⟨h3, h⟩ := need_of h
      obtain ⟨s2, h4, h⟩ := bind_of h
      obtain ⟨h5, h⟩ := need_of h
      obtain ⟨h6, h⟩ := need_of h
      obtain ⟨s3, h7, h⟩ := bind_of h
      obtain ⟨h8, h⟩ := need_of h
      obtain ⟨h9, h⟩ := need_of h
      have h := some_of h
      subst h
      exact runs_of (C := cfg) (objs := []) (sc := [.br false, .res (kinfolkref02_Dec_out n s), .res (kinfolkref02_Text_out (T_kinfolkref02_Event.mk n2 t3 t4) s2), .res (kinfolkref02_Text_out t2 s3)]) (.k0 (an_ (rfl : false = false) (an_ (kinfolkref02_Dec_runs N n _ h1) (an_ h2 (an_ h3 (an_ (hrec_kinfolkref02_Text (T_kinfolkref02_Event.mk n2 t3 t4) _ h4) (an_ h5 (an_ h6 (an_ (hrec_kinfolkref02_Text t2 _ h7) (an_ h8 (an_ h9 trivial)))))))))) (by kernel_rfl))
noncomputable def kinfolkref02_Text : Nat → T_kinfolkref02_Event → Option (ByteArray)
  | 0, _ => none
  | N + 1, e => kinfolkref02_Text_b N (kinfolkref02_Text N) e
theorem kinfolkref02_Text_runs : ∀ (N : Nat) (e : T_kinfolkref02_Event) (r_ : ByteArray), kinfolkref02_Text N e = some r_ → Runs Tryd.prog 22 [(.one (.pv (T_kinfolkref02_Event.pv e)))] [] [] (kinfolkref02_Text_out e r_)
  | 0, _, _, h => by cases h
  | N + 1, e, r_, h => kinfolkref02_Text_b_runs N (kinfolkref02_Text N) (kinfolkref02_Text_runs N) e r_ h
/-! ### kinfolklaw02_like -/
noncomputable def kinfolklaw02_like_b (N : Nat) (rec_kinfolklaw02_like : Int → T_event_halves → T_kinfolkref02_Event → Option (Bool)) (e : Int) (e2 : T_event_halves) (x : T_kinfolkref02_Event) : Option (Bool) :=
  match x with
  | .nil =>
    none
  | .mk n t t2 =>
    match t with
    | .nil =>
      (event_Event_IsLeaf e e2).bind fun b =>
      bif (b == true) then
        (event_Event_Base e e2).bind fun _ =>
        bif (decide ((e : Int) = n)) then
          (event_Event_Min e e2).bind fun _ =>
          (kinfolkref02_Min N x).bind fun n2 =>
          bif (decide ((e : Int) = n2)) then
            (event_Event_Max N e e2).bind fun n3 =>
            (kinfolkref02_Max N x).bind fun n4 =>
            bif (decide ((n3 : Int) = n4)) then
              (event_Event_Depth N e e2).bind fun n5 =>
              (kinfolkref02_Depth N x).bind fun n6 =>
              bif (decide ((n5 : Int) = n6)) then
                (event_Event_Text N e e2).bind fun s =>
                (kinfolkref02_Text N x).bind fun s2 =>
                bif decide (s = s2) then
                  (event_Event_Left e e2).bind fun (n7, t3) =>
                  (event_Event_Text N n7 t3).bind fun s3 =>
                  bif (decide (s3 = (⟨#[48]⟩ : ByteArray))) then
                    (event_Event_Right e e2).bind fun (n8, t4) =>
                    (event_Event_Text N n8 t4).bind fun s4 =>
                    some (decide (s4 = (⟨#[48]⟩ : ByteArray)))
                  else
                    some false
                else
                  some false
              else
                some false
            else
              some false
          else
            some false
        else
          some false
      else
        some false
    | .mk n2 t3 t4 =>
      (event_Event_IsLeaf e e2).bind fun b =>
      bif (b == false) then
        (event_Event_Base e e2).bind fun _ =>
        bif (decide ((e : Int) = n)) then
          (event_Event_Min e e2).bind fun _ =>
          (kinfolkref02_Min N x).bind fun n3 =>
          bif (decide ((e : Int) = n3)) then
            (event_Event_Max N e e2).bind fun n4 =>
            (kinfolkref02_Max N x).bind fun n5 =>
            bif (decide ((n4 : Int) = n5)) then
              (event_Event_Depth N e e2).bind fun n6 =>
              (kinfolkref02_Depth N x).bind fun n7 =>
              bif (decide ((n6 : Int) = n7)) then
                (event_Event_Text N e e2).bind fun s =>
                (kinfolkref02_Text N x).bind fun s2 =>
                bif decide (s = s2) then
                  (event_Event_Left e e2).bind fun (n8, t5) =>
                  (rec_kinfolklaw02_like n8 t5 t).bind fun b2 =>
                  bif b2 then
                    (event_Event_Right e e2).bind fun (n9, t6) =>
                    (rec_kinfolklaw02_like n9 t6 t2).bind fun b3 =>
                    some b3
                  else
                    some false
                else
                  some false
              else
                some false
            else
              some false
          else
            some false
        else
          some false
      else
        some false
theorem kinfolklaw02_like_b_runs (N : Nat) (rec_kinfolklaw02_like : Int → T_event_halves → T_kinfolkref02_Event → Option (Bool)) (hrec_kinfolklaw02_like : ∀ e e2 x r_, rec_kinfolklaw02_like e e2 x = some r_ → Runs Tryd.prog 53 [(.agg [(.pv (.int .u64 e)), (.pv (T_event_halves.pv e2))]), (.one (.pv (T_kinfolkref02_Event.pv x)))] [] [] (kinfolklaw02_like_out e e2 x r_)) (e : Int) (e2 : T_event_halves) (x : T_kinfolkref02_Event) (r_ : Bool) (h : kinfolklaw02_like_b N rec_kinfolklaw02_like e e2 x = some r_) : Runs Tryd.prog 53 [(.agg [(.pv (.int .u64 e)), (.pv (T_event_halves.pv e2))]), (.one (.pv (T_kinfolkref02_Event.pv x)))] [] [] (kinfolklaw02_like_out e e2 x r_) := by
  unfold kinfolklaw02_like_b at h
  cases x with
  | nil =>
    cases h
  | mk n t t2 =>
    cases t with
    | nil =>
      obtain ⟨b, h1, h⟩ := bind_of h
      rcases cond_of h with ⟨h2, h⟩ | ⟨h2, h⟩
      · obtain ⟨_, h3, h⟩ := bind_of h
        rcases cond_of h with ⟨h4, h⟩ | ⟨h4, h⟩
        · obtain ⟨_, h5, h⟩ := bind_of h
          obtain ⟨n2, h6, h⟩ := bind_of h
          rcases cond_of h with ⟨h7, h⟩ | ⟨h7, h⟩
          · obtain ⟨n3, h8, h⟩ := bind_of h
            obtain ⟨n4, h9, h⟩ := bind_of h
            rcases cond_of h with ⟨h10, h⟩ | ⟨h10, h⟩
            · obtain ⟨n5, h11, h⟩ := bind_of h
              obtain ⟨n6, h12, h⟩ := bind_of h
              rcases cond_of h with ⟨h13, h⟩ | ⟨h13, h⟩
              · obtain ⟨s, h14, h⟩ := bind_of h
                obtain ⟨s2, h15, h⟩ := bind_of h
                rcases cond_of h with ⟨h16, h⟩ | ⟨h16, h⟩
                · obtain ⟨⟨n7, t3⟩, h17, h⟩ := bind_of h
                  obtain ⟨s3, h18, h⟩ := bind_of h
                  rcases cond_of h with ⟨h19, h⟩ | ⟨h19, h⟩
                  · obtain ⟨⟨n8, t4⟩, h20, h⟩ := bind_of h
                    obtain ⟨s4, h21, h⟩ := bind_of h
                    have h := some_of h
                    subst h
                    exact runs_of (C := cfg) (objs := []) (sc := [.res (event_Event_IsLeaf_out e e2 b), .br false, .res (event_Event_Base_out e e2 ()), .br false, .res (event_Event_Min_out e e2 ()), .res (kinfolkref02_Min_out (T_kinfolkref02_Event.mk n T_kinfolkref02_Event.nil t2) n2), .br false, .res (event_Event_Max_out e e2 n3), .res (kinfolkref02_Max_out (T_kinfolkref02_Event.mk n T_kinfolkref02_Event.nil t2) n4), .br false, .res (event_Event_Depth_out e e2 n5), .res (kinfolkref02_Depth_out (T_kinfolkref02_Event.mk n T_kinfolkref02_Event.nil t2) n6), .br false, .res (event_Event_Text_out e e2 s), .res (kinfolkref02_Text_out (T_kinfolkref02_Event.mk n T_kinfolkref02_Event.nil t2) s2), .br false, .br true, .res (event_Event_Left_out e e2 (n7, t3)), .res (event_Event_Text_out n7 t3 s3), .br true, .res (event_Event_Right_out e e2 (n8, t4)), .res (event_Event_Text_out n8 t4 s4)]) (.k0 (an_ (event_Event_IsLeaf_runs e e2 _ h1) (an_ (not_of2 h2) (an_ (event_Event_Base_runs e e2 _ h3) (an_ (not_of2 h4) (an_ (event_Event_Min_runs e e2 _ h5) (an_ (kinfolkref02_Min_runs N (T_kinfolkref02_Event.mk n T_kinfolkref02_Event.nil t2) _ h6) (an_ (not_of2 h7) (an_ (event_Event_Max_runs N e e2 _ h8) (an_ (kinfolkref02_Max_runs N (T_kinfolkref02_Event.mk n T_kinfolkref02_Event.nil t2) _ h9) (an_ (not_of2 h10) (an_ (event_Event_Depth_runs N e e2 _ h11) (an_ (kinfolkref02_Depth_runs N (T_kinfolkref02_Event.mk n T_kinfolkref02_Event.nil t2) _ h12) (an_ (not_of2 h13) (an_ (event_Event_Text_runs N e e2 _ h14) (an_ (kinfolkref02_Text_runs N (T_kinfolkref02_Event.mk n T_kinfolkref02_Event.nil t2) _ h15) (an_ (not_of2 h16) (an_ (rfl : true = true) (an_ (event_Event_Left_runs e e2 _ h17) (an_ (event_Event_Text_runs N n7 t3 _ h18) (an_ h19 (an_ (event_Event_Right_runs e e2 _ h20) (an_ (event_Event_Text_runs N n8 t4 _ h21) trivial)))))))))))))))))))))) (by kernel_rfl))
                  · have h := some_of h
                    subst h
                    exact runs_of (C := cfg) (objs := []) (sc := [.res (event_Event_IsLeaf_out e e2 b), .br false, .res (event_Event_Base_out e e2 ()), .br false, .res (event_Event_Min_out e e2 ()), .res (kinfolkref02_Min_out (T_kinfolkref02_Event.mk n T_kinfolkref02_Event.nil t2) n2), .br false, .res (event_Event_Max_out e e2 n3), .res (kinfolkref02_Max_out (T_kinfolkref02_Event.mk n T_kinfolkref02_Event.nil t2) n4), .br false, .res (event_Event_Depth_out e e2 n5), .res (kinfolkref02_Depth_out (T_kinfolkref02_Event.mk n T_kinfolkref02_Event.nil t2) n6), .br false, .res (event_Event_Text_out e e2 s), .res (kinfolkref02_Text_out (T_kinfolkref02_Event.mk n T_kinfolkref02_Event.nil t2) s2), .br false, .br true, .res (event_Event_Left_out e e2 (n7, t3)), .res (event_Event_Text_out n7 t3 s3), .br false]) (.k0 (an_ (event_Event_IsLeaf_runs e e2 _ h1) (an_ (not_of2 h2) (an_ (event_Event_Base_runs e e2 _ h3) (an_ (not_of2 h4) (an_ (event_Event_Min_runs e e2 _ h5) (an_ (kinfolkref02_Min_runs N (T_kinfolkref02_Event.mk n T_kinfolkref02_Event.nil t2) _ h6) (an_ (not_of2 h7) (an_ (event_Event_Max_runs N e e2 _ h8) (an_ (kinfolkref02_Max_runs N (T_kinfolkref02_Event.mk n T_kinfolkref02_Event.nil t2) _ h9) (an_ (not_of2 h10) (an_ (event_Event_Depth_runs N e e2 _ h11) (an_ (kinfolkref02_Depth_runs N (T_kinfolkref02_Event.mk n T_kinfolkref02_Event.nil t2) _ h12) (an_ (not_of2 h13) (an_ (event_Event_Text_runs N e e2 _ h14) (an_ (kinfolkref02_Text_runs N (T_kinfolkref02_Event.mk n T_kinfolkref02_Event.nil t2) _ h15) (an_ (not_of2 h16) (an_ (rfl : true = true) (an_ (event_Event_Left_runs e e2 _ h17) (an_ (event_Event_Text_runs N n7 t3 _ h18) (an_ h19 trivial)))))))))))))))))))) (by kernel_rfl))
                · have h := some_of h
                  subst h
                  exact runs_of (C := cfg) (objs := []) (sc := [.res (event_Event_IsLeaf_out e e2 b), .br false, .res (event_Event_Base_out e e2 ()), .br false, .res (event_Event_Min_out e e2 ()), .res (kinfolkref02_Min_out (T_kinfolkref02_Event.mk n T_kinfolkref02_Event.nil t2) n2), .br false, .res (event_Event_Max_out e e2 n3), .res (kinfolkref02_Max_out (T_kinfolkref02_Event.mk n T_kinfolkref02_Event.nil t2) n4), .br false, .res (event_Event_Depth_out e e2 n5), .res (kinfolkref02_Depth_out (T_kinfolkref02_Event.mk n T_kinfolkref02_Event.nil t2) n6), .br false, .res (event_Event_Text_out e e2 s), .res (kinfolkref02_Text_out (T_kinfolkref02_Event.mk n T_kinfolkref02_Event.nil t2) s2), .br true]) (.k0 (an_ (event_Event_IsLeaf_runs e e2 _ h1) (an_ (not_of2 h2) (an_ (event_Event_Base_runs e e2 _ h3) (an_ (not_of2 h4) (an_ (event_Event_Min_runs e e2 _ h5) (an_ (kinfolkref02_Min_runs N (T_kinfolkref02_Event.mk n T_kinfolkref02_Event.nil t2) _ h6) (an_ (not_of2 h7) (an_ (event_Event_Max_runs N e e2 _ h8) (an_ (kinfolkref02_Max_runs N (T_kinfolkref02_Event.mk n T_kinfolkref02_Event.nil t2) _ h9) (an_ (not_of2 h10) (an_ (event_Event_Depth_runs N e e2 _ h11) (an_ (kinfolkref02_Depth_runs N (T_kinfolkref02_Event.mk n T_kinfolkref02_Event.nil t2) _ h12) (an_ (not_of2 h13) (an_ (event_Event_Text_runs N e e2 _ h14) (an_ (kinfolkref02_Text_runs N (T_kinfolkref02_Event.mk n T_kinfolkref02_Event.nil t2) _ h15) (an_ (not_of h16) trivial)))))))))))))))) (by kernel_rfl))
              · have h := some_of h
                subst h
                exact runs_of (C := cfg) (objs := []) (sc := [.res (event_Event_IsLeaf_out e e2 b), .br false, .res (event_Event_Base_out e e2 ()), .br false, .res (event_Event_Min_out e e2 ()), .res (kinfolkref02_Min_out (T_kinfolkref02_Event.mk n T_kinfolkref02_Event.nil t2) n2), .br false, .res (event_Event_Max_out e e2 n3), .res (kinfolkref02_Max_out (T_kinfolkref02_Event.mk n T_kinfolkref02_Event.nil t2) n4), .br false, .res (event_Event_Depth_out e e2 n5), .res (kinfolkref02_Depth_out (T_kinfolkref02_Event.mk n T_kinfolkref02_Event.nil t2) n6), .br true, .br true]) (.k0 (an_ (event_Event_IsLeaf_runs e e2 _ h1) (an_ (not_of2 h2) (an_ (event_Event_Base_runs e e2 _ h3) (an_ (not_of2 h4) (an_ (event_Event_Min_runs e e2 _ h5) (an_ (kinfolkref02_Min_runs N (T_kinfolkref02_Event.mk n T_kinfolkref02_Event.nil t2) _ h6) (an_ (not_of2 h7) (an_ (event_Event_Max_runs N e e2 _ h8) (an_ (kinfolkref02_Max_runs N (T_kinfolkref02_Event.mk n T_kinfolkref02_Event.nil t2) _ h9) (an_ (not_of2 h10) (an_ (event_Event_Depth_runs N e e2 _ h11) (an_ (kinfolkref02_Depth_runs N (T_kinfolkref02_Event.mk n T_kinfolkref02_Event.nil t2) _ h12) (an_ (not_of h13) (an_ (rfl : true = true) trivial)))))))))))))) (by kernel_rfl))
            · have h := some_of h
              subst h
              exact runs_of (C := cfg) (objs := []) (sc := [.res (event_Event_IsLeaf_out e e2 b), .br false, .res (event_Event_Base_out e e2 ()), .br false, .res (event_Event_Min_out e e2 ()), .res (kinfolkref02_Min_out (T_kinfolkref02_Event.mk n T_kinfolkref02_Event.nil t2) n2), .br false, .res (event_Event_Max_out e e2 n3), .res (kinfolkref02_Max_out (T_kinfolkref02_Event.mk n T_kinfolkref02_Event.nil t2) n4), .br true, .br true, .br true]) (.k0 (an_ (event_Event_IsLeaf_runs e e2 _ h1) (an_ (not_of2 h2) (an_ (event_Event_Base_runs e e2 _ h3) (an_ (not_of2 h4) (an_ (event_Event_Min_runs e e2 _ h5) (an_ (kinfolkref02_Min_runs N (T_kinfolkref02_Event.mk n T_kinfolkref02_Event.nil t2) _ h6) (an_ (not_of2 h7) (an_ (event_Event_Max_runs N e e2 _ h8) (an_ (kinfolkref02_Max_runs N (T_kinfolkref02_Event.mk n T_kinfolkref02_Event.nil t2) _ h9) (an_ (not_of h10) (an_ (rfl : true = true) (an_ (rfl : true = true) trivial)))))))))))) (by kernel_rfl))
          · have h := some_of h
            subst h
            exact runs_of (C := cfg) (objs := []) (sc := [.res (event_Event_IsLeaf_out e e2 b), .br false, .res (event_Event_Base_out e e2 ()), .br false, .res (event_Event_Min_out e e2 ()), .res (kinfolkref02_Min_out (T_kinfolkref02_Event.mk n T_kinfolkref02_Event.nil t2) n2), .br true, .br true, .br true, .br true]) (.k0 (an_ (event_Event_IsLeaf_runs e e2 _ h1) (an_ (not_of2 h2) (an_ (event_Event_Base_runs e e2 _ h3) (an_ (not_of2 h4) (an_ (event_Event_Min_runs e e2 _ h5) (an_ (kinfolkref02_Min_runs N (T_kinfolkref02_Event.mk n T_kinfolkref02_Event.nil t2) _ h6) (an_ (not_of h7) (an_ (rfl : true = true) (an_ (rfl : true = true) (an_ (rfl : true = true) trivial)))))))))) (by kernel_rfl))
        · have h := some_of h
          subst h
          exact runs_of (C := cfg) (objs := []) (sc := [.res (event_Event_IsLeaf_out e e2 b), .br false, .res (event_Event_Base_out e e2 ()), .br true, .br true, .br true, .br true, .br true]) (.k0 (an_ (event_Event_IsLeaf_runs e e2 _ h1) (an_ (not_of2 h2) (an_ (event_Event_Base_runs e e2 _ h3) (an_ (not_of h4) (an_ (rfl : true = true) (an_ (rfl : true = true) (an_ (rfl : true = true) (an_ (rfl : true = true) trivial)))))))) (by kernel_rfl))
      · have h := some_of h
        subst h
        exact runs_of (C := cfg) (objs := []) (sc := [.res (event_Event_IsLeaf_out e e2 b), .br true, .br true, .br true, .br true, .br true, .br true]) (.k1 (an_ (event_Event_IsLeaf_runs e e2 _ h1) (an_ (not_of h2) (an_ (rfl : true = true) (an_ (rfl : true = true) (an_ (rfl : true = true) (an_ (rfl : true = true) (an_ (rfl : true = true) trivial))))))) (by kernel_rfl) (by kernel_rfl))
    | mk n2 t3 t4 =>
      obtain ⟨b, h1, h⟩ := bind_of h
      rcases cond_of h with ⟨h2, h⟩ | ⟨h2, h⟩
      · obtain ⟨_, h3, h⟩ := bind_of h
        rcases cond_of h with ⟨h4, h⟩ | ⟨h4, h⟩
        · obtain ⟨_, h5, h⟩ := bind_of h
          obtain ⟨n3, h6, h⟩ := bind_of h
          rcases cond_of h with ⟨h7, h⟩ | ⟨h7, h⟩
          · obtain ⟨n4, h8, h⟩ := bind_of h
            obtain ⟨n5, h9, h⟩ := bind_of h
            rcases cond_of h with ⟨h10, h⟩ | ⟨h10, h⟩
            · obtain ⟨n6, h11, h⟩ := bind_of h
              obtain ⟨n7, h12, h⟩ := bind_of h
              rcases cond_of h with ⟨h13, h⟩ | ⟨h13, h⟩
              · obtain ⟨s, h14, h⟩ := bind_of h
                obtain ⟨s2, h15, h⟩ := bind_of h
                rcases cond_of h with ⟨h16, h⟩ | ⟨h16, h⟩
                · obtain ⟨⟨n8, t5⟩, h17, h⟩ := bind_of h
                  obtain ⟨b2, h18, h⟩ := bind_of h
                  rcases cond_of h with ⟨h19, h⟩ | ⟨h19, h⟩
                  · obtain ⟨⟨n9, t6⟩, h20, h⟩ := bind_of h
                    obtain ⟨b3, h21, h⟩ := bind_of h
                    have h := some_of h
                    subst h
                    exact runs_of (C := cfg) (objs := []) (sc := [.res (event_Event_IsLeaf_out e e2 b), .br false, .res (event_Event_Base_out e e2 ()), .br false, .res (event_Event_Min_out e e2 ()), .res (kinfolkref02_Min_out (T_kinfolkref02_Event.mk n (T_kinfolkref02_Event.mk n2 t3 t4) t2) n3), .br false, .res (event_Event_Max_out e e2 n4), .res (kinfolkref02_Max_out (T_kinfolkref02_Event.mk n (T_kinfolkref02_Event.mk n2 t3 t4) t2) n5), .br false, .res (event_Event_Depth_out e e2 n6), .res (kinfolkref02_Depth_out (T_kinfolkref02_Event.mk n (T_kinfolkref02_Event.mk n2 t3 t4) t2) n7), .br false, .res (event_Event_Text_out e e2 s), .res (kinfolkref02_Text_out (T_kinfolkref02_Event.mk n (T_kinfolkref02_Event.mk n2 t3 t4) t2) s2), .br false, .br false, .res (event_Event_Left_out e e2 (n8, t5)), .res (kinfolklaw02_like_out n8 t5 (T_kinfolkref02_Event.mk n2 t3 t4) b2), .br true, .res (event_Event_Right_out e e2 (n9, t6)), .res (kinfolklaw02_like_out n9 t6 t2 b3)]) (.k0 (an_ (event_Event_IsLeaf_runs e e2 _ h1) (an_ (not_of2 h2) (an_ (event_Event_Base_runs e e2 _ h3) (an_ (not_of2 h4) (an_ (event_Event_Min_runs e e2 _ h5) (an_ (kinfolkref02_Min_runs N (T_kinfolkref02_Event.mk n (T_kinfolkref02_Event.mk n2 t3 t4) t2) _ h6) (an_ (not_of2 h7) (an_ (event_Event_Max_runs N e e2 _ h8) (an_ (kinfolkref02_Max_runs N (T_kinfolkref02_Event.mk n (T_kinfolkref02_Event.mk n2 t3 t4) t2) _ h9) (an_ (not_of2 h10) (an_ (event_Event_Depth_runs N e e2 _ h11) (an_ (kinfolkref02_Depth_runs N (T_kinfolkref02_Event.mk n (T_kinfolkref02_Event.mk n2 t3 t4) t2) _ h12) (an_ (not_of2 h13) (an_ (event_Event_Text_runs N e e2 _ h14) (an_ (kinfolkref02_Text_runs N (T_kinfolkref02_Event.mk n (T_kinfolkref02_Event.mk n2 t3 t4) t2) _ h15) (an_ (not_of2 h16) (an_ (rfl : false = false) (an_ (event_Event_Left_runs e e2 _ h17) (an_ (hrec_kinfolklaw02_like n8 t5 (T_kinfolkref02_Event.mk n2 t3 t4) _ h18) (an_ h19 (an_ (event_Event_Right_runs e e2 _ h20) (an_ (hrec_kinfolklaw02_like n9 t6 t2 _ h21) trivial)))))))))))))))))))))) (by kernel_rfl))
                  · have h := some_of h
                    subst h
                    exact runs_of (C := cfg) (objs := []) (sc := [.res (event_Event_IsLeaf_out e e2 b), .br false, .res (event_Event_Base_out e e2 ()), .br false, .res (event_Event_Min_out e e2 ()), .res (kinfolkref02_Min_out (T_kinfolkref02_Event.mk n (T_kinfolkref02_Event.mk n2 t3 t4) t2) n3), .br false, .res (event_Event_Max_out e e2 n4), .res (kinfolkref02_Max_out (T_kinfolkref02_Event.mk n (T_kinfolkref02_Event.mk n2 t3 t4) t2) n5), .br false, .res (event_Event_Depth_out e e2 n6), .res (kinfolkref02_Depth_out (T_kinfolkref02_Event.mk n (T_kinfolkref02_Event.mk n2 t3 t4) t2) n7), .br false, .res (event_Event_Text_out e e2 s), .res (kinfolkref02_Text_out (T_kinfolkref02_Event.mk n (T_kinfolkref02_Event.mk n2 t3 t4) t2) s2), .br false, .br false, .res (event_Event_Left_out e e2 (n8, t5)), .res (kinfolklaw02_like_out n8 t5 (T_kinfolkref02_Event.mk n2 t3 t4) b2), .br false]) (.k1 (an_ (event_Event_IsLeaf_runs e e2 _ h1) (an_ (not_of2 h2) (an_ (event_Event_Base_runs e e2 _ h3) (an_ (not_of2 h4) (an_ (event_Event_Min_runs e e2 _ h5) (an_ (kinfolkref02_Min_runs N (T_kinfolkref02_Event.mk n (T_kinfolkref02_Event.mk n2 t3 t4) t2) _ h6) (an_ (not_of2 h7) (an_ (event_Event_Max_runs N e e2 _ h8) (an_ (kinfolkref02_Max_runs N (T_kinfolkref02_Event.mk n (T_kinfolkref02_Event.mk n2 t3 t4) t2) _ h9) (an_ (not_of2 h10) (an_ (event_Event_Depth_runs N e e2 _ h11) (an_ (kinfolkref02_Depth_runs N (T_kinfolkref02_Event.mk n (T_kinfolkref02_Event.mk n2 t3 t4) t2) _ h12) (an_ (not_of2 h13) (an_ (event_Event_Text_runs N e e2 _ h14) (an_ (kinfolkref02_Text_runs N (T_kinfolkref02_Event.mk n (T_kinfolkref02_Event.mk n2 t3 t4) t2) _ h15) (an_ (not_of2 h16) (an_ (rfl : false = false) (an_ (event_Event_Left_runs e e2 _ h17) (an_ (hrec_kinfolklaw02_like n8 t5 (T_kinfolkref02_Event.mk n2 t3 t4) _ h18) (an_ h19 trivial)))))))))))))))))))) (by kernel_rfl) (by kernel_rfl))
                · have h := some_of h
                  subst h
                  exact runs_of (C := cfg) (objs := []) (sc := [.res (event_Event_IsLeaf_out e e2 b), .br false, .res (event_Event_Base_out e e2 ()), .br false, .res (event_Event_Min_out e e2 ()), .res (kinfolkref02_Min_out (T_kinfolkref02_Event.mk n (T_kinfolkref02_Event.mk n2 t3 t4) t2) n3), .br false, .res (event_Event_Max_out e e2 n4), .res (kinfolkref02_Max_out (T_kinfolkref02_Event.mk n (T_kinfolkref02_Event.mk n2 t3 t4) t2) n5), .br false, .res (event_Event_Depth_out e e2 n6), .res (kinfolkref02_Depth_out (T_kinfolkref02_Event.mk n (T_kinfolkref02_Event.mk n2 t3 t4) t2) n7), .br false, .res (event_Event_Text_out e e2 s), .res (kinfolkref02_Text_out (T_kinfolkref02_Event.mk n (T_kinfolkref02_Event.mk n2 t3 t4) t2) s2), .br true]) (.k0 (an_ (event_Event_IsLeaf_runs e e2 _ h1) (an_ (not_of2 h2) (an_ (event_Event_Base_runs e e2 _ h3) (an_ (not_of2 h4) (an_ (event_Event_Min_runs e e2 _ h5) (an_ (kinfolkref02_Min_runs N (T_kinfolkref02_Event.mk n (T_kinfolkref02_Event.mk n2 t3 t4) t2) _ h6) (an_ (not_of2 h7) (an_ (event_Event_Max_runs N e e2 _ h8) (an_ (kinfolkref02_Max_runs N (T_kinfolkref02_Event.mk n (T_kinfolkref02_Event.mk n2 t3 t4) t2) _ h9) (an_ (not_of2 h10) (an_ (event_Event_Depth_runs N e e2 _ h11) (an_ (kinfolkref02_Depth_runs N (T_kinfolkref02_Event.mk n (T_kinfolkref02_Event.mk n2 t3 t4) t2) _ h12) (an_ (not_of2 h13) (an_ (event_Event_Text_runs N e e2 _ h14) (an_ (kinfolkref02_Text_runs N (T_kinfolkref02_Event.mk n (T_kinfolkref02_Event.mk n2 t3 t4) t2) _ h15) (an_ (not_of h16) trivial)))))))))))))))) (by kernel_rfl))
              · have h := some_of h
                subst h
                exact runs_of (C := cfg) (objs := []) (sc := [.res (event_Event_IsLeaf_out e e2 b), .br false, .res (event_Event_Base_out e e2 ()), .br false, .res (event_Event_Min_out e e2 ()), .res (kinfolkref02_Min_out (T_kinfolkref02_Event.mk n (T_kinfolkref02_Event.mk n2 t3 t4) t2) n3), .br false, .res (event_Event_Max_out e e2 n4), .res (kinfolkref02_Max_out (T_kinfolkref02_Event.mk n (T_kinfolkref02_Event.mk n2 t3 t4) t2) n5), .br false, .res (event_Event_Depth_out e e2 n6), .res (kinfolkref02_Depth_out (T_kinfolkref02_Event.mk n (T_kinfolkref02_Event.mk n2 t3 t4) t2) n7), .br true, .br true]) (.k0 (an_ (event_Event_IsLeaf_runs e e2 _ h1) (an_ (not_of2 h2) (an_ (event_Event_Base_runs e e2 _ h3) (an_ (not_of2 h4) (an_ (event_Event_Min_runs e e2 _ h5) (an_ (kinfolkref02_Min_runs N (T_kinfolkref02_Event.mk n (T_kinfolkref02_Event.mk n2 t3 t4) t2) _ h6) (an_ (not_of2 h7) (an_ (event_Event_Max_runs N e e2 _ h8) (an_ (kinfolkref02_Max_runs N (T_kinfolkref02_Event.mk n (T_kinfolkref02_Event.mk n2 t3 t4) t2) _ h9) (an_ (not_of2 h10) (an_ (event_Event_Depth_runs N e e2 _ h11) (an_ (kinfolkref02_Depth_runs N (T_kinfolkref02_Event.mk n (T_kinfolkref02_Event.mk n2 t3 t4) t2) _ h12) (an_ (not_of h13) (an_ (rfl : true = true) trivial)))))))))))))) (by kernel_rfl))
            · have h := some_of h
              subst h
              exact runs_of (C := cfg) (objs := []) (sc := [.res (event_Event_IsLeaf_out e e2 b), .br false, .res (event_Event_Base_out e e2 ()), .br false, .res (event_Event_Min_out e e2 ()), .res (kinfolkref02_Min_out (T_kinfolkref02_Event.mk n (T_kinfolkref02_Event.mk n2 t3 t4) t2) n3), .br false, .res (event_Event_Max_out e e2 n4), .res (kinfolkref02_Max_out (T_kinfolkref02_Event.mk n (T_kinfolkref02_Event.mk n2 t3 t4) t2) n5), .br true, .br true, .br true]) (.k0 (an_ (event_Event_IsLeaf_runs e e2 _ h1) (an_ (not_of2 h2) (an_ (event_Event_Base_runs e e2 _ h3) (an_ (not_of2 h4) (an_ (event_Event_Min_runs e e2 _ h5) (an_ (kinfolkref02_Min_runs N (T_kinfolkref02_Event.mk n (T_kinfolkref02_Event.mk n2 t3 t4) t2) _ h6) (an_ (not_of2 h7) (an_ (event_Event_Max_runs N e e2 _ h8) (an_ (kinfolkref02_Max_runs N (T_kinfolkref02_Event.mk n (T_kinfolkref02_Event.mk n2 t3 t4) t2) _ h9) (an_ (not_of h10) (an_ (rfl : true = true) (an_ (rfl : true = true) trivial)))))))))))) (by kernel_rfl))
          · have h := some_of h
            subst h
            exact runs_of (C := cfg) (objs := []) (sc := [.res (event_Event_IsLeaf_out e e2 b), .br false, .res (event_Event_Base_out e e2 ()), .br false, .res (event_Event_Min_out e e2 ()), .res (kinfolkref02_Min_out (T_kinfolkref02_Event.mk n (T_kinfolkref02_Event.mk n2 t3 t4) t2) n3), .br true, .br true, .br true, .br true]) (.k0 (an_ (event_Event_IsLeaf_runs e e2 _ h1) (an_ (not_of2 h2) (an_ (event_Event_Base_runs e e2 _ h3) (an_ (not_of2 h4) (an_ (event_Event_Min_runs e e2 _ h5) (an_ (kinfolkref02_Min_runs N (T_kinfolkref02_Event.mk n (T_kinfolkref02_Event.mk n2 t3 t4) t2) _ h6) (an_ (not_of h7) (an_ (rfl : true = true) (an_ (rfl : true = true) (an_ (rfl : true = true) trivial)))))))))) (by kernel_rfl))
        · have h := some_of h
          subst h
          exact runs_of (C := cfg) (objs := []) (sc := [.res (event_Event_IsLeaf_out e e2 b), .br false, .res (event_Event_Base_out e e2 ()), .br true, .br true, .br true, .br true, .br true]) (.k0 (an_ (event_Event_IsLeaf_runs e e2 _ h1) (an_ (not_of2 h2) (an_ (event_Event_Base_runs e e2 _ h3) (an_ (not_of h4) (an_ (rfl : true = true) (an_ (rfl : true = true) (an_ (rfl : true = true) (an_ (rfl : true = true) trivial)))))))) (by kernel_rfl))
      · have h := some_of h
        subst h
        exact runs_of (C := cfg) (objs := []) (sc := [.res (event_Event_IsLeaf_out e e2 b), .br true, .br true, .br true, .br true, .br true, .br true]) (.k1 (an_ (event_Event_IsLeaf_runs e e2 _ h1) (an_ (not_of h2) (an_ (rfl : true = true) (an_ (rfl : true = true) (an_ (rfl : true = true) (an_ (rfl : true = true) (an_ (rfl : true = true) trivial))))))) (by kernel_rfl) (by kernel_rfl))
noncomputable def kinfolklaw02_like : Nat → Int → T_event_halves → T_kinfolkref02_Event → Option (Bool)
  | 0, _, _, _ => none
  | N + 1, e, e2, x => kinfolklaw02_like_b N (kinfolklaw02_like N) e e2 x
theorem kinfolklaw02_like_runs : ∀ (N : Nat) (e : Int) (e2 : T_event_halves) (x : T_kinfolkref02_Event) (r_ : Bool), kinfolklaw02_like N e e2 x = some r_ → Runs Tryd.prog 53 [(.agg [(.pv (.int .u64 e)), (.pv (T_event_halves.pv e2))]), (.one (.pv (T_kinfolkref02_Event.pv x)))] [] [] (kinfolklaw02_like_out e e2 x r_)
  | 0, _, _, _, _, h => by cases h
  | N + 1, e, e2, x, r_, h => kinfolklaw02_like_b_runs N (kinfolklaw02_like N) (kinfolklaw02_like_runs N) e e2 x r_ h

end Go.Proofs.YtjjakdmcnkldoaaDoor
