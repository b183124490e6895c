/- What functions compute, and that they do. -/
import Derived.Test.YtjjakdmcnkldoaaA1
set_option linter.unusedVariables false
set_option linter.unusedSimpArgs false
namespace Go.Proofs.Ytjjakdmcnkldoaa
open Go.Ev

/-! ### kinfolkref01_Pair -/
noncomputable def kinfolkref01_Pair (l : T_kinfolkref01_ID) (r : T_kinfolkref01_ID) : Option (T_kinfolkref01_ID) :=
  match l with
  | .nil =>
    none
  | .mk n t t2 =>
    match r with
    | .nil =>
      none
    | .mk n2 t3 t4 =>
      bif (decide ((n : Int) = n2)) then
        bif (decide ((n : Int) < 2)) then
          some l
        else
          some (T_kinfolkref01_ID.mk 2 l r)
      else
        some (T_kinfolkref01_ID.mk 2 l r)
theorem kinfolkref01_Pair_runs (l : T_kinfolkref01_ID) (r : T_kinfolkref01_ID) (r_ : T_kinfolkref01_ID) (h : kinfolkref01_Pair l r = some r_) : Runs Try.prog 65 [(.one (.pv (T_kinfolkref01_ID.pv l))), (.one (.pv (T_kinfolkref01_ID.pv r)))] [] [] (kinfolkref01_Pair_out l r r_) := by
  unfold kinfolkref01_Pair at h
  cases l with
  | nil =>
    cases h
  | mk n t t2 =>
    cases r with
    | nil =>
      cases h
    | mk n2 t3 t4 =>
      rcases cond_of h with ⟨h1, h⟩ | ⟨h1, h⟩
      · rcases cond_of h with ⟨h2, h⟩ | ⟨h2, h⟩
        · have h := some_of h
          subst h
          exact runs_of (C := cfg) (objs := []) (sc := [.br true, .br true]) (.k0 (an_ h1 (an_ h2 trivial)) (by kernel_rfl))
        · have h := some_of h
          subst h
          have e_ : Runs Try.prog 65 [(.one (.pv (T_kinfolkref01_ID.pv (T_kinfolkref01_ID.mk n t t2)))), (.one (.pv (T_kinfolkref01_ID.pv (T_kinfolkref01_ID.mk n2 t3 t4))))] [] [] ([(.one (.pv (.imm [(.int .i64 2), (T_kinfolkref01_ID.pv (T_kinfolkref01_ID.mk n t t2)), (T_kinfolkref01_ID.pv (T_kinfolkref01_ID.mk n2 t3 t4))] 0)))], [], []) := runs_of (C := cfg) (objs := []) (sc := [.br true, .br false]) (.k0 (an_ h1 (an_ h2 trivial)) (by kernel_rfl))
          exact e_.out ⟨.eq rfl, trivial⟩ trivial trivial rfl
      · have h := some_of h
        subst h
        have e_ : Runs Try.prog 65 [(.one (.pv (T_kinfolkref01_ID.pv (T_kinfolkref01_ID.mk n t t2)))), (.one (.pv (T_kinfolkref01_ID.pv (T_kinfolkref01_ID.mk n2 t3 t4))))] [] [] ([(.one (.pv (.imm [(.int .i64 2), (T_kinfolkref01_ID.pv (T_kinfolkref01_ID.mk n t t2)), (T_kinfolkref01_ID.pv (T_kinfolkref01_ID.mk n2 t3 t4))] 0)))], [], []) := runs_of (C := cfg) (objs := []) (sc := [.br false, .br false]) (.k0 (an_ h1 (an_ (rfl : false = false) trivial)) (by kernel_rfl))
        exact e_.out ⟨.eq rfl, trivial⟩ trivial trivial rfl
/-! ### kinfolkref01_Make -/
noncomputable def kinfolkref01_Make_b (rec_kinfolkref01_Make : List Int → Int → Option (T_kinfolkref01_ID × List Int)) (p : List Int) (most : Int) : Option (T_kinfolkref01_ID × List Int) :=
  bif (decide ((((p).length : Int) : Int) = 0)) then
    (kinfolkref01_Zero).bind fun t =>
    some (t, [])
  else
    bif decide ((0 : Int) ≤ 0) && decide ((0 : Int) < ((p).length : Int)) then
    bif decide ((0 : Int) ≤ 1) && decide ((1 : Int) ≤ ((p).length : Int)) && decide ((((p).length : Int) : Int) ≤ ((p).length : Int)) && decide ((((p).length : Int) : Int) = ((p).length : Int)) then
    bif (decide ((most : Int) = 0)) then
      some ((T_kinfolkref01_ID.mk (IntKind.i64.wrap (irem .u8 (p.getD 0 0) 2)) T_kinfolkref01_ID.nil T_kinfolkref01_ID.nil), (List.take (((p).length : Int) - 1).toNat (List.drop 1 p)))
    else
      bif (decide (((irem .u8 (p.getD 0 0) 4) : Int) < 2)) then
        some ((T_kinfolkref01_ID.mk (IntKind.i64.wrap (irem .u8 (p.getD 0 0) 2)) T_kinfolkref01_ID.nil T_kinfolkref01_ID.nil), (List.take (((p).length : Int) - 1).toNat (List.drop 1 p)))
      else
        (rec_kinfolkref01_Make (List.take (((p).length : Int) - 1).toNat (List.drop 1 p)) (isub .i64 most 1)).bind fun (t, l_) =>
        (rec_kinfolkref01_Make l_ (isub .i64 most 1)).bind fun (t2, l_2) =>
        (kinfolkref01_Pair t t2).bind fun t3 =>
        some (t3, l_2)
    else none
    else none
theorem kinfolkref01_Make_b_runs (rec_kinfolkref01_Make : List Int → Int → Option (T_kinfolkref01_ID × List Int)) (hrec_kinfolkref01_Make : ∀ p most r_, rec_kinfolkref01_Make p most = some r_ → Runs Try.prog 33 [(.one (.pv (.ints .u8 p false))), (.one (.pv (.int .i64 most)))] [] [] (kinfolkref01_Make_out p most r_)) (p : List Int) (most : Int) (r_ : T_kinfolkref01_ID × List Int) (h : kinfolkref01_Make_b rec_kinfolkref01_Make p most = some r_) : Runs Try.prog 33 [(.one (.pv (.ints .u8 p false))), (.one (.pv (.int .i64 most)))] [] [] (kinfolkref01_Make_out p most r_) := by
  unfold kinfolkref01_Make_b at h
  rcases cond_of h with ⟨h1, h⟩ | ⟨h1, h⟩
  · obtain ⟨t, h2, h⟩ := bind_of h
    have h := some_of h
    subst h
    have e_ : Runs Try.prog 33 [(.one (.pv (.ints .u8 p false))), (.one (.pv (.int .i64 most)))] [] [] ([(.one (.pv (T_kinfolkref01_ID.pv t))), (.one (.pv .nils))], [], []) := runs_of (C := cfg) (objs := []) (sc := [.br true, .res (kinfolkref01_Zero_out t)]) (.k0 (an_ h1 (an_ (kinfolkref01_Zero_runs _ h2) trivial)) (by kernel_rfl))
    exact e_.out ⟨.eq rfl, .pv (.nilsI), trivial⟩ trivial trivial rfl
  · obtain ⟨h2, h⟩ := need_of h
    obtain ⟨h3, h⟩ := need_of h
    rcases cond_of h with ⟨h4, h⟩ | ⟨h4, h⟩
    · have h := some_of h
      subst h
      have e_ : Runs Try.prog 33 [(.one (.pv (.ints .u8 p false))), (.one (.pv (.int .i64 most)))] [] [] ([(.one (.pv (.imm [(.int .i64 (IntKind.i64.wrap (irem .u8 (p.getD 0 0) 2))), .nilp, .nilp] 0))), (.one (.pv (.ints .u8 (List.take (((p).length : Int) - 1).toNat (List.drop 1 p)) false)))], [], []) := runs_of (C := cfg) (objs := []) (sc := [.br false, .br true, .br true]) (.k0 (an_ h1 (an_ h2 (an_ h3 (an_ h4 (an_ (rfl : true = true) (an_ (rfl : true = true) trivial)))))) (by kernel_rfl))
      exact e_.out ⟨.eq rfl, .eq rfl, trivial⟩ trivial trivial rfl
    · rcases cond_of h with ⟨h5, h⟩ | ⟨h5, h⟩
      · have h := some_of h
        subst h
        have e_ : Runs Try.prog 33 [(.one (.pv (.ints .u8 p false))), (.one (.pv (.int .i64 most)))] [] [] ([(.one (.pv (.imm [(.int .i64 (IntKind.i64.wrap (irem .u8 (p.getD 0 0) 2))), .nilp, .nilp] 0))), (.one (.pv (.ints .u8 (List.take (((p).length : Int) - 1).toNat (List.drop 1 p)) false)))], [], []) := runs_of (C := cfg) (objs := []) (sc := [.br false, .br false, .br true]) (.k0 (an_ h1 (an_ h2 (an_ h3 (an_ h4 (an_ (rfl : true = true) (an_ h5 (an_ (rfl : true = true) trivial))))))) (by kernel_rfl))
        exact e_.out ⟨.eq rfl, .eq rfl, trivial⟩ trivial trivial rfl
      · obtain ⟨⟨t, l_⟩, h6, h⟩ := bind_of h
        obtain ⟨⟨t2, l_2⟩, h7, h⟩ := bind_of h
        obtain ⟨t3, h8, h⟩ := bind_of h
        have h := some_of h
        subst h
        exact runs_of (C := cfg) (objs := []) (sc := [.br false, .br false, .br false, .res (kinfolkref01_Make_out (List.take (((p).length : Int) - 1).toNat (List.drop 1 p)) (isub .i64 most 1) (t, l_)), .res (kinfolkref01_Make_out l_ (isub .i64 most 1) (t2, l_2)), .res (kinfolkref01_Pair_out t t2 t3)]) (.k0 (an_ h1 (an_ h2 (an_ h3 (an_ h4 (an_ (rfl : true = true) (an_ h5 (an_ (hrec_kinfolkref01_Make (List.take (((p).length : Int) - 1).toNat (List.drop 1 p)) (isub .i64 most 1) _ h6) (an_ (hrec_kinfolkref01_Make l_ (isub .i64 most 1) _ h7) (an_ (kinfolkref01_Pair_runs t t2 _ h8) trivial))))))))) (by kernel_rfl))
noncomputable def kinfolkref01_Make : Nat → List Int → Int → Option (T_kinfolkref01_ID × List Int)
  | 0, _, _ => none
  | N + 1, p, most => kinfolkref01_Make_b (kinfolkref01_Make N) p most
theorem kinfolkref01_Make_runs : ∀ (N : Nat) (p : List Int) (most : Int) (r_ : T_kinfolkref01_ID × List Int), kinfolkref01_Make N p most = some r_ → Runs Try.prog 33 [(.one (.pv (.ints .u8 p false))), (.one (.pv (.int .i64 most)))] [] [] (kinfolkref01_Make_out p most r_)
  | 0, _, _, _, h => by cases h
  | N + 1, p, most, r_, h => kinfolkref01_Make_b_runs (kinfolkref01_Make N) (kinfolkref01_Make_runs N) p most r_ h
/-! ### kinfolkref02_Make_out -/
def kinfolkref02_Make_out (p : List Int) (most : Int) : T_kinfolkref02_Event × List Int → Res
  | (r1, r2) => ([(.one (.pv (T_kinfolkref02_Event.pv r1))), (.one (.pv (.ints .u8 r2 false)))], [], [])
/-! ### kinfolkref02_Leaf_out -/
def kinfolkref02_Leaf_out (n : Int) : T_kinfolkref02_Event → Res
  | r1 => ([(.one (.pv (T_kinfolkref02_Event.pv r1)))], [], [])
/-! ### kinfolkref02_Leaf -/
noncomputable def kinfolkref02_Leaf (n : Int) : Option (T_kinfolkref02_Event) :=
  some (T_kinfolkref02_Event.mk n T_kinfolkref02_Event.nil T_kinfolkref02_Event.nil)
theorem kinfolkref02_Leaf_runs (n : Int) (r_ : T_kinfolkref02_Event) (h : kinfolkref02_Leaf n = some r_) : Runs Try.prog 66 [(.one (.pv (.int .u64 n)))] [] [] (kinfolkref02_Leaf_out n r_) := by
  unfold kinfolkref02_Leaf at h
  have h := some_of h
  subst h
  have e_ : Runs Try.prog 66 [(.one (.pv (.int .u64 n)))] [] [] ([(.one (.pv (.imm [(.int .u64 n), .nilp, .nilp] 0)))], [], []) := runs_of (C := cfg) (objs := []) (sc := []) (.k0 (trivial) (by kernel_rfl))
  exact e_.out ⟨.eq rfl, trivial⟩ trivial trivial rfl
/-! ### kinfolkref02_Node_out -/
def kinfolkref02_Node_out (n : Int) (l : T_kinfolkref02_Event) (r : T_kinfolkref02_Event) : T_kinfolkref02_Event → Res
  | r1 => ([(.one (.pv (T_kinfolkref02_Event.pv r1)))], [], [])
/-! ### kinfolkref02_Min_out -/
def kinfolkref02_Min_out (e : T_kinfolkref02_Event) : Int → Res
  | r1 => ([(.one (.pv (.int .u64 r1)))], [], [])
/-! ### kinfolkref02_Min -/
noncomputable def kinfolkref02_Min_b (rec_kinfolkref02_Min : T_kinfolkref02_Event → Option (Int)) (e : T_kinfolkref02_Event) : Option (Int) :=
  match e with
  | .nil =>
    none
  | .mk n t t2 =>
    match t with
    | .nil =>
      some n
    | .mk n2 t3 t4 =>
      (rec_kinfolkref02_Min t).bind fun n3 =>
      (rec_kinfolkref02_Min t2).bind fun n4 =>
      bif (decide ((n3 : Int) < n4)) then
        some (iadd .u64 n n3)
      else
        some (iadd .u64 n n4)
theorem kinfolkref02_Min_b_runs (rec_kinfolkref02_Min : T_kinfolkref02_Event → Option (Int)) (hrec_kinfolkref02_Min : ∀ e r_, rec_kinfolkref02_Min e = some r_ → Runs Try.prog 80 [(.one (.pv (T_kinfolkref02_Event.pv e)))] [] [] (kinfolkref02_Min_out e r_)) (e : T_kinfolkref02_Event) (r_ : Int) (h : kinfolkref02_Min_b rec_kinfolkref02_Min e = some r_) : Runs Try.prog 80 [(.one (.pv (T_kinfolkref02_Event.pv e)))] [] [] (kinfolkref02_Min_out e r_) := by
  unfold kinfolkref02_Min_b at h
  cases e with
  | nil =>
    cases h
  | mk n t t2 =>
    cases t with
    | nil =>
      have h := some_of h
      subst h
      exact runs_of (C := cfg) (objs := []) (sc := [.br true]) (.k0 (an_ (rfl : true = true) trivial) (by kernel_rfl))
    | mk n2 t3 t4 =>
      obtain ⟨n3, h1, h⟩ := bind_of h
      obtain ⟨n4, h2, h⟩ := bind_of h
      rcases cond_of h with ⟨h3, h⟩ | ⟨h3, h⟩
      · have h := some_of h
        subst h
        exact runs_of (C := cfg) (objs := []) (sc := [.br false, .res (kinfolkref02_Min_out (T_kinfolkref02_Event.mk n2 t3 t4) n3), .res (kinfolkref02_Min_out t2 n4), .br true]) (.k0 (an_ (rfl : false = false) (an_ (hrec_kinfolkref02_Min (T_kinfolkref02_Event.mk n2 t3 t4) _ h1) (an_ (hrec_kinfolkref02_Min t2 _ h2) (an_ h3 trivial)))) (by kernel_rfl))
      · have h := some_of h
        subst h
        exact runs_of (C := cfg) (objs := []) (sc := [.br false, .res (kinfolkref02_Min_out (T_kinfolkref02_Event.mk n2 t3 t4) n3), .res (kinfolkref02_Min_out t2 n4), .br false]) (.k0 (an_ (rfl : false = false) (an_ (hrec_kinfolkref02_Min (T_kinfolkref02_Event.mk n2 t3 t4) _ h1) (an_ (hrec_kinfolkref02_Min t2 _ h2) (an_ h3 trivial)))) (by kernel_rfl))
noncomputable def kinfolkref02_Min : Nat → T_kinfolkref02_Event → Option (Int)
  | 0, _ => none
  | N + 1, e => kinfolkref02_Min_b (kinfolkref02_Min N) e
theorem kinfolkref02_Min_runs : ∀ (N : Nat) (e : T_kinfolkref02_Event) (r_ : Int), kinfolkref02_Min N e = some r_ → Runs Try.prog 80 [(.one (.pv (T_kinfolkref02_Event.pv e)))] [] [] (kinfolkref02_Min_out e r_)
  | 0, _, _, h => by cases h
  | N + 1, e, r_, h => kinfolkref02_Min_b_runs (kinfolkref02_Min N) (kinfolkref02_Min_runs N) e r_ h
/-! ### kinfolkref02_Node -/
noncomputable def kinfolkref02_Node (N : Nat) (n : Int) (l : T_kinfolkref02_Event) (r : T_kinfolkref02_Event) : Option (T_kinfolkref02_Event) :=
  match l with
  | .nil =>
    none
  | .mk n2 t t2 =>
    match t with
    | .nil =>
      match r with
      | .nil =>
        none
      | .mk n3 t3 t4 =>
        match t3 with
        | .nil =>
          bif (decide ((n2 : Int) = n3)) then
            (kinfolkref02_Leaf (iadd .u64 n n2)).bind fun t5 =>
            some t5
          else
            (kinfolkref02_Min N l).bind fun n4 =>
            (kinfolkref02_Min N r).bind fun n5 =>
            bif (decide ((n5 : Int) < n4)) then
              some (T_kinfolkref02_Event.mk (iadd .u64 n n5) (T_kinfolkref02_Event.mk (isub .u64 n2 n5) t t2) (T_kinfolkref02_Event.mk (isub .u64 n3 n5) t3 t4))
            else
              some (T_kinfolkref02_Event.mk (iadd .u64 n n4) (T_kinfolkref02_Event.mk (isub .u64 n2 n4) t t2) (T_kinfolkref02_Event.mk (isub .u64 n3 n4) t3 t4))
        | .mk n4 t5 t6 =>
          (kinfolkref02_Min N l).bind fun n5 =>
          (kinfolkref02_Min N r).bind fun n6 =>
          bif (decide ((n6 : Int) < n5)) then
            some (T_kinfolkref02_Event.mk (iadd .u64 n n6) (T_kinfolkref02_Event.mk (isub .u64 n2 n6) t t2) (T_kinfolkref02_Event.mk (isub .u64 n3 n6) t3 t4))
          else
            some (T_kinfolkref02_Event.mk (iadd .u64 n n5) (T_kinfolkref02_Event.mk (isub .u64 n2 n5) t t2) (T_kinfolkref02_Event.mk (isub .u64 n3 n5) t3 t4))
    | .mk n3 t3 t4 =>
      (kinfolkref02_Min N l).bind fun n4 =>
      (kinfolkref02_Min N r).bind fun n5 =>
      bif (decide ((n5 : Int) < n4)) then
        match r with
        | .nil =>
          none
        | .mk n6 t5 t6 =>
          some (T_kinfolkref02_Event.mk (iadd .u64 n n5) (T_kinfolkref02_Event.mk (isub .u64 n2 n5) t t2) (T_kinfolkref02_Event.mk (isub .u64 n6 n5) t5 t6))
      else
        match r with
        | .nil =>
          none
        | .mk n6 t5 t6 =>
          some (T_kinfolkref02_Event.mk (iadd .u64 n n4) (T_kinfolkref02_Event.mk (isub .u64 n2 n4) t t2) (T_kinfolkref02_Event.mk (isub .u64 n6 n4) t5 t6))
theorem kinfolkref02_Node_runs (N : Nat) (n : Int) (l : T_kinfolkref02_Event) (r : T_kinfolkref02_Event) (r_ : T_kinfolkref02_Event) (h : kinfolkref02_Node N n l r = some r_) : Runs Try.prog 67 [(.one (.pv (.int .u64 n))), (.one (.pv (T_kinfolkref02_Event.pv l))), (.one (.pv (T_kinfolkref02_Event.pv r)))] [] [] (kinfolkref02_Node_out n l r r_) := by
  unfold kinfolkref02_Node at h
  cases l with
  | nil =>
    cases h
  | mk n2 t t2 =>
    cases t with
    | nil =>
      cases r with
      | nil =>
        cases h
      | mk n3 t3 t4 =>
        cases t3 with
        | nil =>
          rcases cond_of h with ⟨h1, h⟩ | ⟨h1, h⟩
          · obtain ⟨t5, h2, h⟩ := bind_of h
            have h := some_of h
            subst h
            exact runs_of (C := cfg) (objs := []) (sc := [.br true, .br true, .br true, .res (kinfolkref02_Leaf_out (iadd .u64 n n2) t5)]) (.k0 (an_ (rfl : true = true) (an_ (rfl : true = true) (an_ h1 (an_ (kinfolkref02_Leaf_runs (iadd .u64 n n2) _ h2) trivial)))) (by kernel_rfl))
          · obtain ⟨n4, h2, h⟩ := bind_of h
            obtain ⟨n5, h3, h⟩ := bind_of h
            rcases cond_of h with ⟨h4, h⟩ | ⟨h4, h⟩
            · have h := some_of h
              subst h
              have e_ : Runs Try.prog 67 [(.one (.pv (.int .u64 n))), (.one (.pv (T_kinfolkref02_Event.pv (T_kinfolkref02_Event.mk n2 T_kinfolkref02_Event.nil t2)))), (.one (.pv (T_kinfolkref02_Event.pv (T_kinfolkref02_Event.mk n3 T_kinfolkref02_Event.nil t4))))] [] [] ([(.one (.pv (.imm [(.int .u64 (iadd .u64 n n5)), (.imm [(.int .u64 (isub .u64 n2 n5)), (T_kinfolkref02_Event.pv T_kinfolkref02_Event.nil), (T_kinfolkref02_Event.pv t2)] 0), (.imm [(.int .u64 (isub .u64 n3 n5)), (T_kinfolkref02_Event.pv T_kinfolkref02_Event.nil), (T_kinfolkref02_Event.pv t4)] 0)] 0)))], [], []) := runs_of (C := cfg) (objs := []) (sc := [.br true, .br true, .br false, .res (kinfolkref02_Min_out (T_kinfolkref02_Event.mk n2 T_kinfolkref02_Event.nil t2) n4), .res (kinfolkref02_Min_out (T_kinfolkref02_Event.mk n3 T_kinfolkref02_Event.nil t4) n5), .br true, .res (kinfolkref02_Min_out (T_kinfolkref02_Event.mk n3 T_kinfolkref02_Event.nil t4) n5)]) (.k1 (an_ (rfl : true = true) (an_ (rfl : true = true) (an_ h1 (an_ (kinfolkref02_Min_runs N (T_kinfolkref02_Event.mk n2 T_kinfolkref02_Event.nil t2) _ h2) (an_ (kinfolkref02_Min_runs N (T_kinfolkref02_Event.mk n3 T_kinfolkref02_Event.nil t4) _ h3) (an_ h4 (an_ (kinfolkref02_Min_runs N (T_kinfolkref02_Event.mk n3 T_kinfolkref02_Event.nil t4) _ h3) trivial))))))) (by kernel_rfl) (by kernel_rfl))
              exact e_.out ⟨.eq rfl, trivial⟩ trivial trivial rfl
            · have h := some_of h
              subst h
              have e_ : Runs Try.prog 67 [(.one (.pv (.int .u64 n))), (.one (.pv (T_kinfolkref02_Event.pv (T_kinfolkref02_Event.mk n2 T_kinfolkref02_Event.nil t2)))), (.one (.pv (T_kinfolkref02_Event.pv (T_kinfolkref02_Event.mk n3 T_kinfolkref02_Event.nil t4))))] [] [] ([(.one (.pv (.imm [(.int .u64 (iadd .u64 n n4)), (.imm [(.int .u64 (isub .u64 n2 n4)), (T_kinfolkref02_Event.pv T_kinfolkref02_Event.nil), (T_kinfolkref02_Event.pv t2)] 0), (.imm [(.int .u64 (isub .u64 n3 n4)), (T_kinfolkref02_Event.pv T_kinfolkref02_Event.nil), (T_kinfolkref02_Event.pv t4)] 0)] 0)))], [], []) := runs_of (C := cfg) (objs := []) (sc := [.br true, .br true, .br false, .res (kinfolkref02_Min_out (T_kinfolkref02_Event.mk n2 T_kinfolkref02_Event.nil t2) n4), .res (kinfolkref02_Min_out (T_kinfolkref02_Event.mk n3 T_kinfolkref02_Event.nil t4) n5), .br false]) (.k1 (an_ (rfl : true = true) (an_ (rfl : true = true) (an_ h1 (an_ (kinfolkref02_Min_runs N (T_kinfolkref02_Event.mk n2 T_kinfolkref02_Event.nil t2) _ h2) (an_ (kinfolkref02_Min_runs N (T_kinfolkref02_Event.mk n3 T_kinfolkref02_Event.nil t4) _ h3) (an_ h4 trivial)))))) (by kernel_rfl) (by kernel_rfl))
              exact e_.out ⟨.eq rfl, trivial⟩ trivial trivial rfl
        | mk n4 t5 t6 =>
          obtain ⟨n5, h1, h⟩ := bind_of h
          obtain ⟨n6, h2, h⟩ := bind_of h
          rcases cond_of h with ⟨h3, h⟩ | ⟨h3, h⟩
          · have h := some_of h
            subst h
            have e_ : Runs Try.prog 67 [(.one (.pv (.int .u64 n))), (.one (.pv (T_kinfolkref02_Event.pv (T_kinfolkref02_Event.mk n2 T_kinfolkref02_Event.nil t2)))), (.one (.pv (T_kinfolkref02_Event.pv (T_kinfolkref02_Event.mk n3 (T_kinfolkref02_Event.mk n4 t5 t6) t4))))] [] [] ([(.one (.pv (.imm [(.int .u64 (iadd .u64 n n6)), (.imm [(.int .u64 (isub .u64 n2 n6)), (T_kinfolkref02_Event.pv T_kinfolkref02_Event.nil), (T_kinfolkref02_Event.pv t2)] 0), (.imm [(.int .u64 (isub .u64 n3 n6)), (T_kinfolkref02_Event.pv (T_kinfolkref02_Event.mk n4 t5 t6)), (T_kinfolkref02_Event.pv t4)] 0)] 0)))], [], []) := runs_of (C := cfg) (objs := []) (sc := [.br true, .br false, .br false, .res (kinfolkref02_Min_out (T_kinfolkref02_Event.mk n2 T_kinfolkref02_Event.nil t2) n5), .res (kinfolkref02_Min_out (T_kinfolkref02_Event.mk n3 (T_kinfolkref02_Event.mk n4 t5 t6) t4) n6), .br true, .res (kinfolkref02_Min_out (T_kinfolkref02_Event.mk n3 (T_kinfolkref02_Event.mk n4 t5 t6) t4) n6)]) (.k1 (an_ (rfl : true = true) (an_ (rfl : false = false) (an_ (rfl : false = false) (an_ (kinfolkref02_Min_runs N (T_kinfolkref02_Event.mk n2 T_kinfolkref02_Event.nil t2) _ h1) (an_ (kinfolkref02_Min_runs N (T_kinfolkref02_Event.mk n3 (T_kinfolkref02_Event.mk n4 t5 t6) t4) _ h2) (an_ h3 (an_ (kinfolkref02_Min_runs N (T_kinfolkref02_Event.mk n3 (T_kinfolkref02_Event.mk n4 t5 t6) t4) _ h2) trivial))))))) (by kernel_rfl) (by kernel_rfl))
            exact e_.out ⟨.eq rfl, trivial⟩ trivial trivial rfl
          · have h := some_of h
            subst h
            have e_ : Runs Try.prog 67 [(.one (.pv (.int .u64 n))), (.one (.pv (T_kinfolkref02_Event.pv (T_kinfolkref02_Event.mk n2 T_kinfolkref02_Event.nil t2)))), (.one (.pv (T_kinfolkref02_Event.pv (T_kinfolkref02_Event.mk n3 (T_kinfolkref02_Event.mk n4 t5 t6) t4))))] [] [] ([(.one (.pv (.imm [(.int .u64 (iadd .u64 n n5)), (.imm [(.int .u64 (isub .u64 n2 n5)), (T_kinfolkref02_Event.pv T_kinfolkref02_Event.nil), (T_kinfolkref02_Event.pv t2)] 0), (.imm [(.int .u64 (isub .u64 n3 n5)), (T_kinfolkref02_Event.pv (T_kinfolkref02_Event.mk n4 t5 t6)), (T_kinfolkref02_Event.pv t4)] 0)] 0)))], [], []) := runs_of (C := cfg) (objs := []) (sc := [.br true, .br false, .br false, .res (kinfolkref02_Min_out (T_kinfolkref02_Event.mk n2 T_kinfolkref02_Event.nil t2) n5), .res (kinfolkref02_Min_out (T_kinfolkref02_Event.mk n3 (T_kinfolkref02_Event.mk n4 t5 t6) t4) n6), .br false]) (.k1 (an_ (rfl : true = true) (an_ (rfl : false = false) (an_ (rfl : false = false) (an_ (kinfolkref02_Min_runs N (T_kinfolkref02_Event.mk n2 T_kinfolkref02_Event.nil t2) _ h1) (an_ (kinfolkref02_Min_runs N (T_kinfolkref02_Event.mk n3 (T_kinfolkref02_Event.mk n4 t5 t6) t4) _ h2) (an_ h3 trivial)))))) (by kernel_rfl) (by kernel_rfl))
            exact e_.out ⟨.eq rfl, trivial⟩ trivial trivial rfl
    | mk n3 t3 t4 =>
      obtain ⟨n4, h1, h⟩ := bind_of h
      obtain ⟨n5, h2, h⟩ := bind_of h
      rcases cond_of h with ⟨h3, h⟩ | ⟨h3, h⟩
      · cases r with
        | nil =>
          cases h
        | mk n6 t5 t6 =>
          have h := some_of h
          subst h
          have e_ : Runs Try.prog 67 [(.one (.pv (.int .u64 n))), (.one (.pv (T_kinfolkref02_Event.pv (T_kinfolkref02_Event.mk n2 (T_kinfolkref02_Event.mk n3 t3 t4) t2)))), (.one (.pv (T_kinfolkref02_Event.pv (T_kinfolkref02_Event.mk n6 t5 t6))))] [] [] ([(.one (.pv (.imm [(.int .u64 (iadd .u64 n n5)), (.imm [(.int .u64 (isub .u64 n2 n5)), (T_kinfolkref02_Event.pv (T_kinfolkref02_Event.mk n3 t3 t4)), (T_kinfolkref02_Event.pv t2)] 0), (.imm [(.int .u64 (isub .u64 n6 n5)), (T_kinfolkref02_Event.pv t5), (T_kinfolkref02_Event.pv t6)] 0)] 0)))], [], []) := runs_of (C := cfg) (objs := []) (sc := [.br false, .br false, .br false, .res (kinfolkref02_Min_out (T_kinfolkref02_Event.mk n2 (T_kinfolkref02_Event.mk n3 t3 t4) t2) n4), .res (kinfolkref02_Min_out (T_kinfolkref02_Event.mk n6 t5 t6) n5), .br true, .res (kinfolkref02_Min_out (T_kinfolkref02_Event.mk n6 t5 t6) n5)]) (.k1 (an_ (rfl : false = false) (an_ (rfl : false = false) (an_ (rfl : false = false) (an_ (kinfolkref02_Min_runs N (T_kinfolkref02_Event.mk n2 (T_kinfolkref02_Event.mk n3 t3 t4) t2) _ h1) (an_ (kinfolkref02_Min_runs N (T_kinfolkref02_Event.mk n6 t5 t6) _ h2) (an_ h3 (an_ (kinfolkref02_Min_runs N (T_kinfolkref02_Event.mk n6 t5 t6) _ h2) trivial))))))) (by kernel_rfl) (by kernel_rfl))
          exact e_.out ⟨.eq rfl, trivial⟩ trivial trivial rfl
      · cases r with
        | nil =>
          cases h
        | mk n6 t5 t6 =>
          have h := some_of h
          subst h
          have e_ : Runs Try.prog 67 [(.one (.pv (.int .u64 n))), (.one (.pv (T_kinfolkref02_Event.pv (T_kinfolkref02_Event.mk n2 (T_kinfolkref02_Event.mk n3 t3 t4) t2)))), (.one (.pv (T_kinfolkref02_Event.pv (T_kinfolkref02_Event.mk n6 t5 t6))))] [] [] ([(.one (.pv (.imm [(.int .u64 (iadd .u64 n n4)), (.imm [(.int .u64 (isub .u64 n2 n4)), (T_kinfolkref02_Event.pv (T_kinfolkref02_Event.mk n3 t3 t4)), (T_kinfolkref02_Event.pv t2)] 0), (.imm [(.int .u64 (isub .u64 n6 n4)), (T_kinfolkref02_Event.pv t5), (T_kinfolkref02_Event.pv t6)] 0)] 0)))], [], []) := runs_of (C := cfg) (objs := []) (sc := [.br false, .br false, .br false, .res (kinfolkref02_Min_out (T_kinfolkref02_Event.mk n2 (T_kinfolkref02_Event.mk n3 t3 t4) t2) n4), .res (kinfolkref02_Min_out (T_kinfolkref02_Event.mk n6 t5 t6) n5), .br false]) (.k1 (an_ (rfl : false = false) (an_ (rfl : false = false) (an_ (rfl : false = false) (an_ (kinfolkref02_Min_runs N (T_kinfolkref02_Event.mk n2 (T_kinfolkref02_Event.mk n3 t3 t4) t2) _ h1) (an_ (kinfolkref02_Min_runs N (T_kinfolkref02_Event.mk n6 t5 t6) _ h2) (an_ h3 trivial)))))) (by kernel_rfl) (by kernel_rfl))
          exact e_.out ⟨.eq rfl, trivial⟩ trivial trivial rfl
/-! ### kinfolkref02_Make -/
noncomputable def kinfolkref02_Make_b (N : Nat) (rec_kinfolkref02_Make : List Int → Int → Option (T_kinfolkref02_Event × List Int)) (p : List Int) (most : Int) : Option (T_kinfolkref02_Event × List Int) :=
  bif (decide ((((p).length : Int) : Int) = 0)) then
    (kinfolkref02_Leaf 0).bind fun t =>
    some (t, [])
  else
    bif decide ((0 : Int) ≤ 0) && decide ((0 : Int) < ((p).length : Int)) then
    bif decide ((0 : Int) ≤ 1) && decide ((1 : Int) ≤ ((p).length : Int)) && decide ((((p).length : Int) : Int) ≤ ((p).length : Int)) && decide ((((p).length : Int) : Int) = ((p).length : Int)) then
    bif (decide ((most : Int) = 0)) then
      (kinfolkref02_Leaf (IntKind.u64.wrap (irem .u8 (iquo .u8 (p.getD 0 0) 4) 8))).bind fun t =>
      some (t, (List.take (((p).length : Int) - 1).toNat (List.drop 1 p)))
    else
      bif (decide (((irem .u8 (p.getD 0 0) 4) : Int) < 2)) then
        (kinfolkref02_Leaf (IntKind.u64.wrap (irem .u8 (iquo .u8 (p.getD 0 0) 4) 8))).bind fun t =>
        some (t, (List.take (((p).length : Int) - 1).toNat (List.drop 1 p)))
      else
        (rec_kinfolkref02_Make (List.take (((p).length : Int) - 1).toNat (List.drop 1 p)) (isub .i64 most 1)).bind fun (t, l_) =>
        (rec_kinfolkref02_Make l_ (isub .i64 most 1)).bind fun (t2, l_2) =>
        (kinfolkref02_Node N (IntKind.u64.wrap (irem .u8 (iquo .u8 (p.getD 0 0) 4) 4)) t t2).bind fun t3 =>
        some (t3, l_2)
    else none
    else none
theorem kinfolkref02_Make_b_runs (N : Nat) (rec_kinfolkref02_Make : List Int → Int → Option (T_kinfolkref02_Event × List Int)) (hrec_kinfolkref02_Make : ∀ p most r_, rec_kinfolkref02_Make p most = some r_ → Runs Try.prog 34 [(.one (.pv (.ints .u8 p false))), (.one (.pv (.int .i64 most)))] [] [] (kinfolkref02_Make_out p most r_)) (p : List Int) (most : Int) (r_ : T_kinfolkref02_Event × List Int) (h : kinfolkref02_Make_b N rec_kinfolkref02_Make p most = some r_) : Runs Try.prog 34 [(.one (.pv (.ints .u8 p false))), (.one (.pv (.int .i64 most)))] [] [] (kinfolkref02_Make_out p most r_) := by
  unfold kinfolkref02_Make_b at h
  rcases cond_of h with ⟨h1, h⟩ | ⟨h1, h⟩
  · obtain ⟨t, h2, h⟩ := bind_of h
    have h := some_of h
    subst h
    have e_ : Runs Try.prog 34 [(.one (.pv (.ints .u8 p false))), (.one (.pv (.int .i64 most)))] [] [] ([(.one (.pv (T_kinfolkref02_Event.pv t))), (.one (.pv .nils))], [], []) := runs_of (C := cfg) (objs := []) (sc := [.br true, .res (kinfolkref02_Leaf_out 0 t)]) (.k0 (an_ h1 (an_ (kinfolkref02_Leaf_runs 0 _ h2) trivial)) (by kernel_rfl))
    exact e_.out ⟨.eq rfl, .pv (.nilsI), trivial⟩ trivial trivial rfl
  · obtain ⟨h2, h⟩ := need_of h
    obtain ⟨h3, h⟩ := need_of h
    rcases cond_of h with ⟨h4, h⟩ | ⟨h4, h⟩
    · obtain ⟨t, h5, h⟩ := bind_of h
      have h := some_of h
      subst h
      exact runs_of (C := cfg) (objs := []) (sc := [.br false, .br true, .br true, .res (kinfolkref02_Leaf_out (IntKind.u64.wrap (irem .u8 (iquo .u8 (p.getD 0 0) 4) 8)) t)]) (.k0 (an_ h1 (an_ h2 (an_ h3 (an_ h4 (an_ (rfl : true = true) (an_ (rfl : true = true) (an_ (rfl : true = true) (an_ (kinfolkref02_Leaf_runs (IntKind.u64.wrap (irem .u8 (iquo .u8 (p.getD 0 0) 4) 8)) _ h5) trivial)))))))) (by kernel_rfl))
    · rcases cond_of h with ⟨h5, h⟩ | ⟨h5, h⟩
      · obtain ⟨t, h6, h⟩ := bind_of h
        have h := some_of h
        subst h
        exact runs_of (C := cfg) (objs := []) (sc := [.br false, .br false, .br true, .res (kinfolkref02_Leaf_out (IntKind.u64.wrap (irem .u8 (iquo .u8 (p.getD 0 0) 4) 8)) t)]) (.k0 (an_ h1 (an_ h2 (an_ h3 (an_ h4 (an_ (rfl : true = true) (an_ h5 (an_ (rfl : true = true) (an_ (rfl : true = true) (an_ (kinfolkref02_Leaf_runs (IntKind.u64.wrap (irem .u8 (iquo .u8 (p.getD 0 0) 4) 8)) _ h6) trivial))))))))) (by kernel_rfl))
      · obtain ⟨⟨t, l_⟩, h6, h⟩ := bind_of h
        obtain ⟨⟨t2, l_2⟩, h7, h⟩ := bind_of h
        obtain ⟨t3, h8, h⟩ := bind_of h
        have h := some_of h
        subst h
        exact runs_of (C := cfg) (objs := []) (sc := [.br false, .br false, .br false, .res (kinfolkref02_Make_out (List.take (((p).length : Int) - 1).toNat (List.drop 1 p)) (isub .i64 most 1) (t, l_)), .res (kinfolkref02_Make_out l_ (isub .i64 most 1) (t2, l_2)), .res (kinfolkref02_Node_out (IntKind.u64.wrap (irem .u8 (iquo .u8 (p.getD 0 0) 4) 4)) t t2 t3)]) (.k0 (an_ h1 (an_ h2 (an_ h3 (an_ h4 (an_ (rfl : true = true) (an_ h5 (an_ (hrec_kinfolkref02_Make (List.take (((p).length : Int) - 1).toNat (List.drop 1 p)) (isub .i64 most 1) _ h6) (an_ (hrec_kinfolkref02_Make l_ (isub .i64 most 1) _ h7) (an_ (rfl : true = true) (an_ (rfl : true = true) (an_ (kinfolkref02_Node_runs N (IntKind.u64.wrap (irem .u8 (iquo .u8 (p.getD 0 0) 4) 4)) t t2 _ h8) trivial))))))))))) (by kernel_rfl))
noncomputable def kinfolkref02_Make : Nat → List Int → Int → Option (T_kinfolkref02_Event × List Int)
  | 0, _, _ => none
  | N + 1, p, most => kinfolkref02_Make_b N (kinfolkref02_Make N) p most
theorem kinfolkref02_Make_runs : ∀ (N : Nat) (p : List Int) (most : Int) (r_ : T_kinfolkref02_Event × List Int), kinfolkref02_Make N p most = some r_ → Runs Try.prog 34 [(.one (.pv (.ints .u8 p false))), (.one (.pv (.int .i64 most)))] [] [] (kinfolkref02_Make_out p most r_)
  | 0, _, _, _, h => by cases h
  | N + 1, p, most, r_, h => kinfolkref02_Make_b_runs N (kinfolkref02_Make N) (kinfolkref02_Make_runs N) p most r_ h
/-! ### kinfolklaw07_own_out -/
def kinfolklaw07_own_out (x : T_kinfolkref01_ID) : Bool × T_id_halves → Res
  | (r1, r2) => ([(.agg [(.pv (.bool r1)), (.pv (T_id_halves.pv r2))])], [], [])
/-! ### id_Zero_out -/
def id_Zero_out : Unit → Res
  | _ => ([(.agg [(.pv (.bool false)), (.pv (T_id_halves.pv T_id_halves.nil))])], [], [])
/-! ### id_Zero -/
noncomputable def id_Zero : Option (Unit) :=
  some ()
theorem id_Zero_runs (r_ : Unit) (h : id_Zero = some r_) : Runs Try.prog 53 [] [] [] (id_Zero_out r_) := by
  unfold id_Zero at h
  have h := some_of h
  subst h
  have e_ : Runs Try.prog 53 [] [] [] ([(.agg [(.pv (.bool false)), (.pv .nilp)])], [], []) := runs_of (C := cfg) (objs := []) (sc := []) (.k0 (trivial) (by kernel_rfl))
  exact e_.out ⟨⟨.eq rfl, .eq rfl, trivial⟩, trivial⟩ trivial trivial rfl
/-! ### id_Pair_out -/
def id_Pair_out (l : Bool) (l2 : T_id_halves) (r : Bool) (r2 : T_id_halves) : Bool × T_id_halves × Int → Res
  | (r1, r2, r3) => ([(.agg [(.pv (.bool r1)), (.pv (T_id_halves.pv r2))]), (.one (.pv (.int .i64 r3)))], [], [])
/-! ### id_pair_out -/
def id_pair_out (l : Bool) (l2 : T_id_halves) (r : Bool) (r2 : T_id_halves) : Bool × T_id_halves → Res
  | (r1, r2) => ([(.agg [(.pv (.bool r1)), (.pv (T_id_halves.pv r2))])], [], [])
/-! ### id_pair -/
noncomputable def id_pair (l : Bool) (l2 : T_id_halves) (r : Bool) (r2 : T_id_halves) : Option (Bool × T_id_halves) :=
  (id_ID_IsZero l l2).bind fun b =>
  bif b then
    (id_ID_IsZero r r2).bind fun b2 =>
    bif b2 then
      (id_Zero).bind fun _ =>
      some (false, T_id_halves.nil)
    else
      (id_ID_IsOne l l2).bind fun _ =>
      bif l then
        (id_ID_IsOne r r2).bind fun _ =>
        bif r then
          (id_One).bind fun _ =>
          some (true, T_id_halves.nil)
        else
          some (false, (T_id_halves.mk l l2 r r2))
      else
        some (false, (T_id_halves.mk l l2 r r2))
  else
    (id_ID_IsOne l l2).bind fun _ =>
    bif l then
      (id_ID_IsOne r r2).bind fun _ =>
      bif r then
        (id_One).bind fun _ =>
        some (true, T_id_halves.nil)
      else
        some (false, (T_id_halves.mk l l2 r r2))
    else
      some (false, (T_id_halves.mk l l2 r r2))
theorem id_pair_runs (l : Bool) (l2 : T_id_halves) (r : Bool) (r2 : T_id_halves) (r_ : Bool × T_id_halves) (h : id_pair l l2 r r2 = some r_) : Runs Try.prog 81 [(.agg [(.pv (.bool l)), (.pv (T_id_halves.pv l2))]), (.agg [(.pv (.bool r)), (.pv (T_id_halves.pv r2))])] [] [] (id_pair_out l l2 r r2 r_) := by
  unfold id_pair at h
  obtain ⟨b, h1, h⟩ := bind_of h
  rcases cond_of h with ⟨h2, h⟩ | ⟨h2, h⟩
  · obtain ⟨b2, h3, h⟩ := bind_of h
    rcases cond_of h with ⟨h4, h⟩ | ⟨h4, h⟩
    · obtain ⟨_, h5, h⟩ := bind_of h
      have h := some_of h
      subst h
      exact runs_of (C := cfg) (objs := []) (sc := [.res (id_ID_IsZero_out l l2 b), .br true, .res (id_ID_IsZero_out r r2 b2), .br true, .res (id_Zero_out ())]) (.k0 (an_ (id_ID_IsZero_runs l l2 _ h1) (an_ h2 (an_ (id_ID_IsZero_runs r r2 _ h3) (an_ h4 (an_ (id_Zero_runs _ h5) trivial))))) (by kernel_rfl))
    · obtain ⟨_, h5, h⟩ := bind_of h
      rcases cond_of h with ⟨h6, h⟩ | ⟨h6, h⟩
      · obtain ⟨_, h7, h⟩ := bind_of h
        rcases cond_of h with ⟨h8, h⟩ | ⟨h8, h⟩
        · obtain ⟨_, h9, h⟩ := bind_of h
          have h := some_of h
          subst h
          exact runs_of (C := cfg) (objs := []) (sc := [.res (id_ID_IsZero_out l l2 b), .br true, .res (id_ID_IsZero_out r r2 b2), .br false, .res (id_ID_IsOne_out l l2 ()), .br true, .res (id_ID_IsOne_out r r2 ()), .br true, .res (id_One_out ())]) (.k0 (an_ (id_ID_IsZero_runs l l2 _ h1) (an_ h2 (an_ (id_ID_IsZero_runs r r2 _ h3) (an_ h4 (an_ (id_ID_IsOne_runs l l2 _ h5) (an_ h6 (an_ (id_ID_IsOne_runs r r2 _ h7) (an_ h8 (an_ (id_One_runs _ h9) trivial))))))))) (by kernel_rfl))
        · have h := some_of h
          subst h
          have e_ : Runs Try.prog 81 [(.agg [(.pv (.bool l)), (.pv (T_id_halves.pv l2))]), (.agg [(.pv (.bool r)), (.pv (T_id_halves.pv r2))])] [] [] ([(.agg [(.pv (.bool false)), (.pv (.imm [(.bool l), (T_id_halves.pv l2), (.bool r), (T_id_halves.pv r2)] 0))])], [], []) := runs_of (C := cfg) (objs := []) (sc := [.res (id_ID_IsZero_out l l2 b), .br true, .res (id_ID_IsZero_out r r2 b2), .br false, .res (id_ID_IsOne_out l l2 ()), .br true, .res (id_ID_IsOne_out r r2 ()), .br false]) (.k0 (an_ (id_ID_IsZero_runs l l2 _ h1) (an_ h2 (an_ (id_ID_IsZero_runs r r2 _ h3) (an_ h4 (an_ (id_ID_IsOne_runs l l2 _ h5) (an_ h6 (an_ (id_ID_IsOne_runs r r2 _ h7) (an_ h8 trivial)))))))) (by kernel_rfl))
          exact e_.out ⟨⟨.eq rfl, .eq rfl, trivial⟩, trivial⟩ trivial trivial rfl
      · have h := some_of h
        subst h
        have e_ : Runs Try.prog 81 [(.agg [(.pv (.bool l)), (.pv (T_id_halves.pv l2))]), (.agg [(.pv (.bool r)), (.pv (T_id_halves.pv r2))])] [] [] ([(.agg [(.pv (.bool false)), (.pv (.imm [(.bool l), (T_id_halves.pv l2), (.bool r), (T_id_halves.pv r2)] 0))])], [], []) := runs_of (C := cfg) (objs := []) (sc := [.res (id_ID_IsZero_out l l2 b), .br true, .res (id_ID_IsZero_out r r2 b2), .br false, .res (id_ID_IsOne_out l l2 ()), .br false, .br false]) (.k0 (an_ (id_ID_IsZero_runs l l2 _ h1) (an_ h2 (an_ (id_ID_IsZero_runs r r2 _ h3) (an_ h4 (an_ (id_ID_IsOne_runs l l2 _ h5) (an_ h6 (an_ (rfl : false = false) trivial))))))) (by kernel_rfl))
        exact e_.out ⟨⟨.eq rfl, .eq rfl, trivial⟩, trivial⟩ trivial trivial rfl
  · obtain ⟨_, h3, h⟩ := bind_of h
    rcases cond_of h with ⟨h4, h⟩ | ⟨h4, h⟩
    · obtain ⟨_, h5, h⟩ := bind_of h
      rcases cond_of h with ⟨h6, h⟩ | ⟨h6, h⟩
      · obtain ⟨_, h7, h⟩ := bind_of h
        have h := some_of h
        subst h
        exact runs_of (C := cfg) (objs := []) (sc := [.res (id_ID_IsZero_out l l2 b), .br false, .br false, .res (id_ID_IsOne_out l l2 ()), .br true, .res (id_ID_IsOne_out r r2 ()), .br true, .res (id_One_out ())]) (.k0 (an_ (id_ID_IsZero_runs l l2 _ h1) (an_ h2 (an_ (rfl : false = false) (an_ (id_ID_IsOne_runs l l2 _ h3) (an_ h4 (an_ (id_ID_IsOne_runs r r2 _ h5) (an_ h6 (an_ (id_One_runs _ h7) trivial)))))))) (by kernel_rfl))
      · have h := some_of h
        subst h
        have e_ : Runs Try.prog 81 [(.agg [(.pv (.bool l)), (.pv (T_id_halves.pv l2))]), (.agg [(.pv (.bool r)), (.pv (T_id_halves.pv r2))])] [] [] ([(.agg [(.pv (.bool false)), (.pv (.imm [(.bool l), (T_id_halves.pv l2), (.bool r), (T_id_halves.pv r2)] 0))])], [], []) := runs_of (C := cfg) (objs := []) (sc := [.res (id_ID_IsZero_out l l2 b), .br false, .br false, .res (id_ID_IsOne_out l l2 ()), .br true, .res (id_ID_IsOne_out r r2 ()), .br false]) (.k0 (an_ (id_ID_IsZero_runs l l2 _ h1) (an_ h2 (an_ (rfl : false = false) (an_ (id_ID_IsOne_runs l l2 _ h3) (an_ h4 (an_ (id_ID_IsOne_runs r r2 _ h5) (an_ h6 trivial))))))) (by kernel_rfl))
        exact e_.out ⟨⟨.eq rfl, .eq rfl, trivial⟩, trivial⟩ trivial trivial rfl
    · have h := some_of h
      subst h
      have e_ : Runs Try.prog 81 [(.agg [(.pv (.bool l)), (.pv (T_id_halves.pv l2))]), (.agg [(.pv (.bool r)), (.pv (T_id_halves.pv r2))])] [] [] ([(.agg [(.pv (.bool false)), (.pv (.imm [(.bool l), (T_id_halves.pv l2), (.bool r), (T_id_halves.pv r2)] 0))])], [], []) := runs_of (C := cfg) (objs := []) (sc := [.res (id_ID_IsZero_out l l2 b), .br false, .br false, .res (id_ID_IsOne_out l l2 ()), .br false, .br false]) (.k0 (an_ (id_ID_IsZero_runs l l2 _ h1) (an_ h2 (an_ (rfl : false = false) (an_ (id_ID_IsOne_runs l l2 _ h3) (an_ h4 (an_ (rfl : false = false) trivial)))))) (by kernel_rfl))
      exact e_.out ⟨⟨.eq rfl, .eq rfl, trivial⟩, trivial⟩ trivial trivial rfl
/-! ### id_ID_Depth_out -/
def id_ID_Depth_out (i : Bool) (i2 : T_id_halves) : Int → Res
  | r1 => ([(.one (.pv (.int .i64 r1)))], [], [])
/-! ### id_ID_Depth -/
noncomputable def id_ID_Depth_b (rec_id_ID_Depth : Bool → T_id_halves → Option (Int)) (i : Bool) (i2 : T_id_halves) : Option (Int) :=
  match i2 with
  | .nil =>
    some 0
  | .mk b t b2 t2 =>
    (rec_id_ID_Depth b t).bind fun n =>
    (rec_id_ID_Depth b2 t2).bind fun n2 =>
    some (iadd .i64 1 (if (n : Int) < n2 then n2 else n))
theorem id_ID_Depth_b_runs (rec_id_ID_Depth : Bool → T_id_halves → Option (Int)) (hrec_id_ID_Depth : ∀ i i2 r_, rec_id_ID_Depth i i2 = some r_ → Runs Try.prog 82 [(.agg [(.pv (.bool i)), (.pv (T_id_halves.pv i2))])] [] [] (id_ID_Depth_out i i2 r_)) (i : Bool) (i2 : T_id_halves) (r_ : Int) (h : id_ID_Depth_b rec_id_ID_Depth i i2 = some r_) : Runs Try.prog 82 [(.agg [(.pv (.bool i)), (.pv (T_id_halves.pv i2))])] [] [] (id_ID_Depth_out i i2 r_) := by
  unfold id_ID_Depth_b at h
  cases i2 with
  | nil =>
    have h := some_of h
    subst h
    exact runs_of (C := cfg) (objs := []) (sc := [.br true]) (.k0 (an_ (rfl : true = true) trivial) (by kernel_rfl))
  | mk b t b2 t2 =>
    obtain ⟨n, h1, h⟩ := bind_of h
    obtain ⟨n2, h2, h⟩ := bind_of h
    have h := some_of h
    subst h
    exact runs_of (C := cfg) (objs := []) (sc := [.br false, .res (id_ID_Depth_out b t n), .res (id_ID_Depth_out b t n), .res (id_ID_Depth_out b2 t2 n2)]) (.k1 (an_ (rfl : false = false) (an_ (hrec_id_ID_Depth b t _ h1) (an_ (hrec_id_ID_Depth b t _ h1) (an_ (hrec_id_ID_Depth b2 t2 _ h2) trivial)))) (by kernel_rfl) (by kernel_rfl))
noncomputable def id_ID_Depth : Nat → Bool → T_id_halves → Option (Int)
  | 0, _, _ => none
  | N + 1, i, i2 => id_ID_Depth_b (id_ID_Depth N) i i2
theorem id_ID_Depth_runs : ∀ (N : Nat) (i : Bool) (i2 : T_id_halves) (r_ : Int), id_ID_Depth N i i2 = some r_ → Runs Try.prog 82 [(.agg [(.pv (.bool i)), (.pv (T_id_halves.pv i2))])] [] [] (id_ID_Depth_out i i2 r_)
  | 0, _, _, _, h => by cases h
  | N + 1, i, i2, r_, h => id_ID_Depth_b_runs (id_ID_Depth N) (id_ID_Depth_runs N) i i2 r_ h
/-! ### id_Pair -/
noncomputable def id_Pair (N : Nat) (l : Bool) (l2 : T_id_halves) (r : Bool) (r2 : T_id_halves) : Option (Bool × T_id_halves × Int) :=
  (id_pair l l2 r r2).bind fun (b, t) =>
  (id_ID_Depth N b t).bind fun n =>
  bif (decide ((16 : Int) < n)) then
    (id_Zero).bind fun _ =>
    some (false, T_id_halves.nil, 3)
  else
    some (b, t, 0)
theorem id_Pair_runs (N : Nat) (l : Bool) (l2 : T_id_halves) (r : Bool) (r2 : T_id_halves) (r_ : Bool × T_id_halves × Int) (h : id_Pair N l l2 r r2 = some r_) : Runs Try.prog 68 [(.agg [(.pv (.bool l)), (.pv (T_id_halves.pv l2))]), (.agg [(.pv (.bool r)), (.pv (T_id_halves.pv r2))])] [] [] (id_Pair_out l l2 r r2 r_) := by
  unfold id_Pair at h
  obtain ⟨⟨b, t⟩, h1, h⟩ := bind_of h
  obtain ⟨n, h2, h⟩ := bind_of h
  rcases cond_of h with ⟨h3, h⟩ | ⟨h3, h⟩
  · obtain ⟨_, h4, h⟩ := bind_of h
    have h := some_of h
    subst h
    exact runs_of (C := cfg) (objs := []) (sc := [.res (id_pair_out l l2 r r2 (b, t)), .res (id_ID_Depth_out b t n), .br true, .res (id_Zero_out ())]) (.k0 (an_ (id_pair_runs l l2 r r2 _ h1) (an_ (id_ID_Depth_runs N b t _ h2) (an_ h3 (an_ (id_Zero_runs _ h4) trivial)))) (by kernel_rfl))
  · have h := some_of h
    subst h
    exact runs_of (C := cfg) (objs := []) (sc := [.res (id_pair_out l l2 r r2 (b, t)), .res (id_ID_Depth_out b t n), .br false]) (.k0 (an_ (id_pair_runs l l2 r r2 _ h1) (an_ (id_ID_Depth_runs N b t _ h2) (an_ h3 trivial))) (by kernel_rfl))
/-! ### kinfolklaw07_own -/
noncomputable def kinfolklaw07_own_b (N : Nat) (rec_kinfolklaw07_own : T_kinfolkref01_ID → Option (Bool × T_id_halves)) (x : T_kinfolkref01_ID) : Option (Bool × T_id_halves) :=
  match x with
  | .nil =>
    none
  | .mk n t t2 =>
    bif (decide ((n : Int) = 0)) then
      (id_Zero).bind fun _ =>
      some (false, T_id_halves.nil)
    else
      bif (decide ((n : Int) = 1)) then
        (id_One).bind fun _ =>
        some (true, T_id_halves.nil)
      else
        (rec_kinfolklaw07_own t).bind fun (b, t3) =>
        (rec_kinfolklaw07_own t2).bind fun (b2, t4) =>
        (id_Pair N b t3 b2 t4).bind fun (b3, t5, n2) =>
        some (b3, t5)
theorem kinfolklaw07_own_b_runs (N : Nat) (rec_kinfolklaw07_own : T_kinfolkref01_ID → Option (Bool × T_id_halves)) (hrec_kinfolklaw07_own : ∀ x r_, rec_kinfolklaw07_own x = some r_ → Runs Try.prog 35 [(.one (.pv (T_kinfolkref01_ID.pv x)))] [] [] (kinfolklaw07_own_out x r_)) (x : T_kinfolkref01_ID) (r_ : Bool × T_id_halves) (h : kinfolklaw07_own_b N rec_kinfolklaw07_own x = some r_) : Runs Try.prog 35 [(.one (.pv (T_kinfolkref01_ID.pv x)))] [] [] (kinfolklaw07_own_out x r_) := by
  unfold kinfolklaw07_own_b at h
  cases x with
  | nil =>
    cases h
  | mk n t t2 =>
    rcases cond_of h with ⟨h1, h⟩ | ⟨h1, h⟩
    · obtain ⟨_, h2, h⟩ := bind_of h
      have h := some_of h
      subst h
      exact runs_of (C := cfg) (objs := []) (sc := [.br true, .res (id_Zero_out ())]) (.k0 (an_ h1 (an_ (id_Zero_runs _ h2) trivial)) (by kernel_rfl))
    · rcases cond_of h with ⟨h2, h⟩ | ⟨h2, h⟩
      · obtain ⟨_, h3, h⟩ := bind_of h
        have h := some_of h
        subst h
        exact runs_of (C := cfg) (objs := []) (sc := [.br false, .br true, .res (id_One_out ())]) (.k0 (an_ h1 (an_ h2 (an_ (id_One_runs _ h3) trivial))) (by kernel_rfl))
      · obtain ⟨⟨b, t3⟩, h3, h⟩ := bind_of h
        obtain ⟨⟨b2, t4⟩, h4, h⟩ := bind_of h
        obtain ⟨⟨b3, t5, n2⟩, h5, h⟩ := bind_of h
        have h := some_of h
        subst h
        exact runs_of (C := cfg) (objs := []) (sc := [.br false, .br false, .res (kinfolklaw07_own_out t (b, t3)), .res (kinfolklaw07_own_out t (b, t3)), .res (kinfolklaw07_own_out t2 (b2, t4)), .res (id_Pair_out b t3 b2 t4 (b3, t5, n2)), .res (kinfolklaw07_own_out t2 (b2, t4)), .res (id_Pair_out b t3 b2 t4 (b3, t5, n2))]) (.k1 (an_ h1 (an_ h2 (an_ (hrec_kinfolklaw07_own t _ h3) (an_ (hrec_kinfolklaw07_own t _ h3) (an_ (hrec_kinfolklaw07_own t2 _ h4) (an_ (id_Pair_runs N b t3 b2 t4 _ h5) (an_ (hrec_kinfolklaw07_own t2 _ h4) (an_ (id_Pair_runs N b t3 b2 t4 _ h5) trivial)))))))) (by kernel_rfl) (by kernel_rfl))
noncomputable def kinfolklaw07_own : Nat → T_kinfolkref01_ID → Option (Bool × T_id_halves)
  | 0, _ => none
  | N + 1, x => kinfolklaw07_own_b N (kinfolklaw07_own N) x
theorem kinfolklaw07_own_runs : ∀ (N : Nat) (x : T_kinfolkref01_ID) (r_ : Bool × T_id_halves), kinfolklaw07_own N x = some r_ → Runs Try.prog 35 [(.one (.pv (T_kinfolkref01_ID.pv x)))] [] [] (kinfolklaw07_own_out x r_)
  | 0, _, _, h => by cases h
  | N + 1, x, r_, h => kinfolklaw07_own_b_runs N (kinfolklaw07_own N) (kinfolklaw07_own_runs N) x r_ h
/-! ### kinfolklaw07_tree_out -/
def kinfolklaw07_tree_out (x : T_kinfolkref02_Event) : Int × T_event_halves → Res
  | (r1, r2) => ([(.agg [(.pv (.int .u64 r1)), (.pv (T_event_halves.pv r2))])], [], [])
/-! ### event_Leaf_out -/
def event_Leaf_out (n : Int) : Int × Int → Res
  | (r1, r2) => ([(.agg [(.pv (.int .u64 r1)), (.pv (T_event_halves.pv T_event_halves.nil))]), (.one (.pv (.int .i64 r2)))], [], [])
/-! ### event_Leaf -/
noncomputable def event_Leaf (n : Int) : Option (Int × Int) :=
  bif (decide ((1048576 : Int) < n)) then
    some (0, 4)
  else
    some (n, 0)
theorem event_Leaf_runs (n : Int) (r_ : Int × Int) (h : event_Leaf n = some r_) : Runs Try.prog 69 [(.one (.pv (.int .u64 n)))] [] [] (event_Leaf_out n r_) := by
  unfold event_Leaf at h
  rcases cond_of h with ⟨h1, h⟩ | ⟨h1, h⟩
  · have h := some_of h
    subst h
    have e_ : Runs Try.prog 69 [(.one (.pv (.int .u64 n)))] [] [] ([(.agg [(.pv (.int .u64 0)), (.pv .nilp)]), (.one (.pv (.int .i64 4)))], [], []) := runs_of (C := cfg) (objs := []) (sc := [.br true]) (.k0 (an_ h1 trivial) (by kernel_rfl))
    exact e_.out ⟨⟨.eq rfl, .eq rfl, trivial⟩, .eq rfl, trivial⟩ trivial trivial rfl
  · have h := some_of h
    subst h
    have e_ : Runs Try.prog 69 [(.one (.pv (.int .u64 n)))] [] [] ([(.agg [(.pv (.int .u64 n)), (.pv .nilp)]), (.one (.pv (.int .i64 0)))], [], []) := runs_of (C := cfg) (objs := []) (sc := [.br false]) (.k0 (an_ h1 trivial) (by kernel_rfl))
    exact e_.out ⟨⟨.eq rfl, .eq rfl, trivial⟩, .eq rfl, trivial⟩ trivial trivial rfl
/-! ### event_Node_out -/
def event_Node_out (n : Int) (l : Int) (l2 : T_event_halves) (r : Int) (r2 : T_event_halves) : Int × T_event_halves × Int → Res
  | (r1, r2, r3) => ([(.agg [(.pv (.int .u64 r1)), (.pv (T_event_halves.pv r2))]), (.one (.pv (.int .i64 r3)))], [], [])
/-! ### event_node_out -/
def event_node_out (n : Int) (l : Int) (l2 : T_event_halves) (r : Int) (r2 : T_event_halves) : Int × T_event_halves → Res
  | (r1, r2) => ([(.agg [(.pv (.int .u64 r1)), (.pv (T_event_halves.pv r2))])], [], [])
/-! ### event_node -/
noncomputable def event_node (n : Int) (l : Int) (l2 : T_event_halves) (r : Int) (r2 : T_event_halves) : Option (Int × T_event_halves) :=
  match l2 with
  | .nil =>
    match r2 with
    | .nil =>
      bif (decide ((l : Int) = r)) then
        some ((iadd .u64 n l), T_event_halves.nil)
      else
        some ((iadd .u64 n (if (r : Int) < l then r else l)), (T_event_halves.mk (isub .u64 l (if (r : Int) < l then r else l)) l2 (isub .u64 r (if (r : Int) < l then r else l)) r2))
    | .mk n2 t n3 t2 =>
      some ((iadd .u64 n (if (r : Int) < l then r else l)), (T_event_halves.mk (isub .u64 l (if (r : Int) < l then r else l)) l2 (isub .u64 r (if (r : Int) < l then r else l)) r2))
  | .mk n2 t n3 t2 =>
    some ((iadd .u64 n (if (r : Int) < l then r else l)), (T_event_halves.mk (isub .u64 l (if (r : Int) < l then r else l)) l2 (isub .u64 r (if (r : Int) < l then r else l)) r2))
theorem event_node_runs (n : Int) (l : Int) (l2 : T_event_halves) (r : Int) (r2 : T_event_halves) (r_ : Int × T_event_halves) (h : event_node n l l2 r r2 = some r_) : Runs Try.prog 83 [(.one (.pv (.int .u64 n))), (.agg [(.pv (.int .u64 l)), (.pv (T_event_halves.pv l2))]), (.agg [(.pv (.int .u64 r)), (.pv (T_event_halves.pv r2))])] [] [] (event_node_out n l l2 r r2 r_) := by
  unfold event_node at h
  cases l2 with
  | nil =>
    cases r2 with
    | nil =>
      rcases cond_of h with ⟨h1, h⟩ | ⟨h1, h⟩
      · have h := some_of h
        subst h
        have e_ : Runs Try.prog 83 [(.one (.pv (.int .u64 n))), (.agg [(.pv (.int .u64 l)), (.pv (T_event_halves.pv T_event_halves.nil))]), (.agg [(.pv (.int .u64 r)), (.pv (T_event_halves.pv T_event_halves.nil))])] [] [] ([(.agg [(.pv (.int .u64 (iadd .u64 n l))), (.pv .nilp)])], [], []) := runs_of (C := cfg) (objs := []) (sc := [.br true, .br true, .br true]) (.k0 (an_ (rfl : true = true) (an_ (rfl : true = true) (an_ h1 trivial))) (by kernel_rfl))
        exact e_.out ⟨⟨.eq rfl, .eq rfl, trivial⟩, trivial⟩ trivial trivial rfl
      · have h := some_of h
        subst h
        have e_ : Runs Try.prog 83 [(.one (.pv (.int .u64 n))), (.agg [(.pv (.int .u64 l)), (.pv (T_event_halves.pv T_event_halves.nil))]), (.agg [(.pv (.int .u64 r)), (.pv (T_event_halves.pv T_event_halves.nil))])] [] [] ([(.agg [(.pv (.int .u64 (iadd .u64 n (if (r : Int) < l then r else l)))), (.pv (.imm [(.int .u64 (isub .u64 l (if (r : Int) < l then r else l))), (T_event_halves.pv T_event_halves.nil), (.int .u64 (isub .u64 r (if (r : Int) < l then r else l))), (T_event_halves.pv T_event_halves.nil)] 0))])], [], []) := runs_of (C := cfg) (objs := []) (sc := [.br true, .br true, .br false]) (.k0 (an_ (rfl : true = true) (an_ (rfl : true = true) (an_ h1 trivial))) (by kernel_rfl))
        exact e_.out ⟨⟨.eq rfl, .eq rfl, trivial⟩, trivial⟩ trivial trivial rfl
    | mk n2 t n3 t2 =>
      have h := some_of h
      subst h
      have e_ : Runs Try.prog 83 [(.one (.pv (.int .u64 n))), (.agg [(.pv (.int .u64 l)), (.pv (T_event_halves.pv T_event_halves.nil))]), (.agg [(.pv (.int .u64 r)), (.pv (T_event_halves.pv (T_event_halves.mk n2 t n3 t2)))])] [] [] ([(.agg [(.pv (.int .u64 (iadd .u64 n (if (r : Int) < l then r else l)))), (.pv (.imm [(.int .u64 (isub .u64 l (if (r : Int) < l then r else l))), (T_event_halves.pv T_event_halves.nil), (.int .u64 (isub .u64 r (if (r : Int) < l then r else l))), (T_event_halves.pv (T_event_halves.mk n2 t n3 t2))] 0))])], [], []) := runs_of (C := cfg) (objs := []) (sc := [.br true, .br false, .br false]) (.k0 (an_ (rfl : true = true) (an_ (rfl : false = false) (an_ (rfl : false = false) trivial))) (by kernel_rfl))
      exact e_.out ⟨⟨.eq rfl, .eq rfl, trivial⟩, trivial⟩ trivial trivial rfl
  | mk n2 t n3 t2 =>
    have h := some_of h
    subst h
    have e_ : Runs Try.prog 83 [(.one (.pv (.int .u64 n))), (.agg [(.pv (.int .u64 l)), (.pv (T_event_halves.pv (T_event_halves.mk n2 t n3 t2)))]), (.agg [(.pv (.int .u64 r)), (.pv (T_event_halves.pv r2))])] [] [] ([(.agg [(.pv (.int .u64 (iadd .u64 n (if (r : Int) < l then r else l)))), (.pv (.imm [(.int .u64 (isub .u64 l (if (r : Int) < l then r else l))), (T_event_halves.pv (T_event_halves.mk n2 t n3 t2)), (.int .u64 (isub .u64 r (if (r : Int) < l then r else l))), (T_event_halves.pv r2)] 0))])], [], []) := runs_of (C := cfg) (objs := []) (sc := [.br false, .br false, .br false]) (.k0 (an_ (rfl : false = false) (an_ (rfl : false = false) (an_ (rfl : false = false) trivial))) (by kernel_rfl))
    exact e_.out ⟨⟨.eq rfl, .eq rfl, trivial⟩, trivial⟩ trivial trivial rfl
/-! ### event_Event_right_out -/
def event_Event_right_out (e : Int) (e2 : T_event_halves) : Int → Res
  | r1 => ([(.one (.pv (.int .i64 r1)))], [], [])
/-! ### event_Event_Depth_out -/
def event_Event_Depth_out (e : Int) (e2 : T_event_halves) : Int → Res
  | r1 => ([(.one (.pv (.int .i64 r1)))], [], [])
/-! ### event_Event_Depth -/
noncomputable def event_Event_Depth_b (rec_event_Event_Depth : Int → T_event_halves → Option (Int)) (e : Int) (e2 : T_event_halves) : Option (Int) :=
  match e2 with
  | .nil =>
    some 0
  | .mk n t n2 t2 =>
    (rec_event_Event_Depth n t).bind fun n3 =>
    (rec_event_Event_Depth n2 t2).bind fun n4 =>
    some (iadd .i64 1 (if (n3 : Int) < n4 then n4 else n3))
theorem event_Event_Depth_b_runs (rec_event_Event_Depth : Int → T_event_halves → Option (Int)) (hrec_event_Event_Depth : ∀ e e2 r_, rec_event_Event_Depth e e2 = some r_ → Runs Try.prog 86 [(.agg [(.pv (.int .u64 e)), (.pv (T_event_halves.pv e2))])] [] [] (event_Event_Depth_out e e2 r_)) (e : Int) (e2 : T_event_halves) (r_ : Int) (h : event_Event_Depth_b rec_event_Event_Depth e e2 = some r_) : Runs Try.prog 86 [(.agg [(.pv (.int .u64 e)), (.pv (T_event_halves.pv e2))])] [] [] (event_Event_Depth_out e e2 r_) := by
  unfold event_Event_Depth_b at h
  cases e2 with
  | nil =>
    have h := some_of h
    subst h
    exact runs_of (C := cfg) (objs := []) (sc := [.br true]) (.k0 (an_ (rfl : true = true) trivial) (by kernel_rfl))
  | mk n t n2 t2 =>
    obtain ⟨n3, h1, h⟩ := bind_of h
    obtain ⟨n4, h2, h⟩ := bind_of h
    have h := some_of h
    subst h
    exact runs_of (C := cfg) (objs := []) (sc := [.br false, .res (event_Event_Depth_out n t n3), .res (event_Event_Depth_out n t n3), .res (event_Event_Depth_out n2 t2 n4)]) (.k1 (an_ (rfl : false = false) (an_ (hrec_event_Event_Depth n t _ h1) (an_ (hrec_event_Event_Depth n t _ h1) (an_ (hrec_event_Event_Depth n2 t2 _ h2) trivial)))) (by kernel_rfl) (by kernel_rfl))
noncomputable def event_Event_Depth : Nat → Int → T_event_halves → Option (Int)
  | 0, _, _ => none
  | N + 1, e, e2 => event_Event_Depth_b (event_Event_Depth N) e e2
theorem event_Event_Depth_runs : ∀ (N : Nat) (e : Int) (e2 : T_event_halves) (r_ : Int), event_Event_Depth N e e2 = some r_ → Runs Try.prog 86 [(.agg [(.pv (.int .u64 e)), (.pv (T_event_halves.pv e2))])] [] [] (event_Event_Depth_out e e2 r_)
  | 0, _, _, _, h => by cases h
  | N + 1, e, e2, r_, h => event_Event_Depth_b_runs (event_Event_Depth N) (event_Event_Depth_runs N) e e2 r_ h
/-! ### event_Event_Max_out -/
def event_Event_Max_out (e : Int) (e2 : T_event_halves) : Int → Res
  | r1 => ([(.one (.pv (.int .u64 r1)))], [], [])
/-! ### event_Event_Max -/
noncomputable def event_Event_Max_b (rec_event_Event_Max : Int → T_event_halves → Option (Int)) (e : Int) (e2 : T_event_halves) : Option (Int) :=
  match e2 with
  | .nil =>
    some e
  | .mk n t n2 t2 =>
    (rec_event_Event_Max n t).bind fun n3 =>
    (rec_event_Event_Max n2 t2).bind fun n4 =>
    some (iadd .u64 e (if (n3 : Int) < n4 then n4 else n3))
theorem event_Event_Max_b_runs (rec_event_Event_Max : Int → T_event_halves → Option (Int)) (hrec_event_Event_Max : ∀ e e2 r_, rec_event_Event_Max e e2 = some r_ → Runs Try.prog 87 [(.agg [(.pv (.int .u64 e)), (.pv (T_event_halves.pv e2))])] [] [] (event_Event_Max_out e e2 r_)) (e : Int) (e2 : T_event_halves) (r_ : Int) (h : event_Event_Max_b rec_event_Event_Max e e2 = some r_) : Runs Try.prog 87 [(.agg [(.pv (.int .u64 e)), (.pv (T_event_halves.pv e2))])] [] [] (event_Event_Max_out e e2 r_) := by
  unfold event_Event_Max_b at h
  cases e2 with
  | nil =>
    have h := some_of h
    subst h
    exact runs_of (C := cfg) (objs := []) (sc := [.br true]) (.k0 (an_ (rfl : true = true) trivial) (by kernel_rfl))
  | mk n t n2 t2 =>
    obtain ⟨n3, h1, h⟩ := bind_of h
    obtain ⟨n4, h2, h⟩ := bind_of h
    have h := some_of h
    subst h
    exact runs_of (C := cfg) (objs := []) (sc := [.br false, .res (event_Event_Max_out n t n3), .res (event_Event_Max_out n t n3), .res (event_Event_Max_out n t n3), .res (event_Event_Max_out n2 t2 n4), .res (event_Event_Max_out n t n3), .res (event_Event_Max_out n2 t2 n4)]) (.k1 (an_ (rfl : false = false) (an_ (hrec_event_Event_Max n t _ h1) (an_ (hrec_event_Event_Max n t _ h1) (an_ (hrec_event_Event_Max n t _ h1) (an_ (hrec_event_Event_Max n2 t2 _ h2) (an_ (hrec_event_Event_Max n t _ h1) (an_ (hrec_event_Event_Max n2 t2 _ h2) trivial))))))) (by kernel_rfl) (by kernel_rfl))
noncomputable def event_Event_Max : Nat → Int → T_event_halves → Option (Int)
  | 0, _, _ => none
  | N + 1, e, e2 => event_Event_Max_b (event_Event_Max N) e e2
theorem event_Event_Max_runs : ∀ (N : Nat) (e : Int) (e2 : T_event_halves) (r_ : Int), event_Event_Max N e e2 = some r_ → Runs Try.prog 87 [(.agg [(.pv (.int .u64 e)), (.pv (T_event_halves.pv e2))])] [] [] (event_Event_Max_out e e2 r_)
  | 0, _, _, _, h => by cases h
  | N + 1, e, e2, r_, h => event_Event_Max_b_runs (event_Event_Max N) (event_Event_Max_runs N) e e2 r_ h
/-! ### event_Event_right -/
noncomputable def event_Event_right (N : Nat) (e : Int) (e2 : T_event_halves) : Option (Int) :=
  (event_Event_Depth N e e2).bind fun n =>
  bif (decide ((16 : Int) < n)) then
    some 3
  else
    (event_Event_Max N e e2).bind fun n2 =>
    bif (decide ((1048576 : Int) < n2)) then
      some 4
    else
      some 0
theorem event_Event_right_runs (N : Nat) (e : Int) (e2 : T_event_halves) (r_ : Int) (h : event_Event_right N e e2 = some r_) : Runs Try.prog 84 [(.agg [(.pv (.int .u64 e)), (.pv (T_event_halves.pv e2))])] [] [] (event_Event_right_out e e2 r_) := by
  unfold event_Event_right at h
  obtain ⟨n, h1, h⟩ := bind_of h
  rcases cond_of h with ⟨h2, h⟩ | ⟨h2, h⟩
  · have h := some_of h
    subst h
    exact runs_of (C := cfg) (objs := []) (sc := [.res (event_Event_Depth_out e e2 n), .br true]) (.k0 (an_ (event_Event_Depth_runs N e e2 _ h1) (an_ h2 trivial)) (by kernel_rfl))
  · obtain ⟨n2, h3, h⟩ := bind_of h
    rcases cond_of h with ⟨h4, h⟩ | ⟨h4, h⟩
    · have h := some_of h
      subst h
      exact runs_of (C := cfg) (objs := []) (sc := [.res (event_Event_Depth_out e e2 n), .br false, .res (event_Event_Max_out e e2 n2), .br true]) (.k0 (an_ (event_Event_Depth_runs N e e2 _ h1) (an_ h2 (an_ (event_Event_Max_runs N e e2 _ h3) (an_ h4 trivial)))) (by kernel_rfl))
    · have h := some_of h
      subst h
      exact runs_of (C := cfg) (objs := []) (sc := [.res (event_Event_Depth_out e e2 n), .br false, .res (event_Event_Max_out e e2 n2), .br false]) (.k0 (an_ (event_Event_Depth_runs N e e2 _ h1) (an_ h2 (an_ (event_Event_Max_runs N e e2 _ h3) (an_ h4 trivial)))) (by kernel_rfl))
/-! ### event_Node -/
noncomputable def event_Node (N : Nat) (n : Int) (l : Int) (l2 : T_event_halves) (r : Int) (r2 : T_event_halves) : Option (Int × T_event_halves × Int) :=
  (event_node (if (2097152 : Int) < n then 2097152 else n) l l2 r r2).bind fun (n2, t) =>
  (event_Event_right N n2 t).bind fun n3 =>
  bif (decide ((n3 : Int) = 0)) then
    some (n2, t, 0)
  else
    some (0, T_event_halves.nil, n3)
theorem event_Node_runs (N : Nat) (n : Int) (l : Int) (l2 : T_event_halves) (r : Int) (r2 : T_event_halves) (r_ : Int × T_event_halves × Int) (h : event_Node N n l l2 r r2 = some r_) : Runs Try.prog 70 [(.one (.pv (.int .u64 n))), (.agg [(.pv (.int .u64 l)), (.pv (T_event_halves.pv l2))]), (.agg [(.pv (.int .u64 r)), (.pv (T_event_halves.pv r2))])] [] [] (event_Node_out n l l2 r r2 r_) := by
  unfold event_Node at h
  obtain ⟨⟨n2, t⟩, h1, h⟩ := bind_of h
  obtain ⟨n3, h2, h⟩ := bind_of h
  rcases cond_of h with ⟨h3, h⟩ | ⟨h3, h⟩
  · have h := some_of h
    subst h
    exact runs_of (C := cfg) (objs := []) (sc := [.res (event_node_out (if (2097152 : Int) < n then 2097152 else n) l l2 r r2 (n2, t)), .res (event_Event_right_out n2 t n3), .br false]) (.k0 (an_ (event_node_runs (if (2097152 : Int) < n then 2097152 else n) l l2 r r2 _ h1) (an_ (event_Event_right_runs N n2 t _ h2) (an_ (not_of2 h3) trivial))) (by kernel_rfl))
  · have h := some_of h
    subst h
    have e_ : Runs Try.prog 70 [(.one (.pv (.int .u64 n))), (.agg [(.pv (.int .u64 l)), (.pv (T_event_halves.pv l2))]), (.agg [(.pv (.int .u64 r)), (.pv (T_event_halves.pv r2))])] [] [] ([(.agg [(.pv (.int .u64 0)), (.pv .nilp)]), (.one (.pv (.int .i64 n3)))], [], []) := runs_of (C := cfg) (objs := []) (sc := [.res (event_node_out (if (2097152 : Int) < n then 2097152 else n) l l2 r r2 (n2, t)), .res (event_Event_right_out n2 t n3), .br true]) (.k0 (an_ (event_node_runs (if (2097152 : Int) < n then 2097152 else n) l l2 r r2 _ h1) (an_ (event_Event_right_runs N n2 t _ h2) (an_ (not_of h3) trivial))) (by kernel_rfl))
    exact e_.out ⟨⟨.eq rfl, .eq rfl, trivial⟩, .eq rfl, trivial⟩ trivial trivial rfl
/-! ### kinfolklaw07_tree -/
noncomputable def kinfolklaw07_tree_b (N : Nat) (rec_kinfolklaw07_tree : T_kinfolkref02_Event → Option (Int × T_event_halves)) (x : T_kinfolkref02_Event) : Option (Int × T_event_halves) :=
  match x with
  | .nil =>
    none
  | .mk n t t2 =>
    match t with
    | .nil =>
      (event_Leaf n).bind fun (n2, n3) =>
      some (n2, T_event_halves.nil)
    | .mk n2 t3 t4 =>
      (rec_kinfolklaw07_tree t).bind fun (n3, t5) =>
      (rec_kinfolklaw07_tree t2).bind fun (n4, t6) =>
      (event_Node N n n3 t5 n4 t6).bind fun (n5, t7, n6) =>
      some (n5, t7)
theorem kinfolklaw07_tree_b_runs (N : Nat) (rec_kinfolklaw07_tree : T_kinfolkref02_Event → Option (Int × T_event_halves)) (hrec_kinfolklaw07_tree : ∀ x r_, rec_kinfolklaw07_tree x = some r_ → Runs Try.prog 36 [(.one (.pv (T_kinfolkref02_Event.pv x)))] [] [] (kinfolklaw07_tree_out x r_)) (x : T_kinfolkref02_Event) (r_ : Int × T_event_halves) (h : kinfolklaw07_tree_b N rec_kinfolklaw07_tree x = some r_) : Runs Try.prog 36 [(.one (.pv (T_kinfolkref02_Event.pv x)))] [] [] (kinfolklaw07_tree_out x r_) := by
  unfold kinfolklaw07_tree_b at h
  cases x with
  | nil =>
    cases h
  | mk n t t2 =>
    cases t with
    | nil =>
      obtain ⟨⟨n2, n3⟩, h1, h⟩ := bind_of h
      have h := some_of h
      subst h
      exact runs_of (C := cfg) (objs := []) (sc := [.br true, .res (event_Leaf_out n (n2, n3))]) (.k0 (an_ (rfl : true = true) (an_ (event_Leaf_runs n _ h1) trivial)) (by kernel_rfl))
    | mk n2 t3 t4 =>
      obtain ⟨⟨n3, t5⟩, h1, h⟩ := bind_of h
      obtain ⟨⟨n4, t6⟩, h2, h⟩ := bind_of h
      obtain ⟨⟨n5, t7, n6⟩, h3, h⟩ := bind_of h
      have h := some_of h
      subst h
      exact runs_of (C := cfg) (objs := []) (sc := [.br false, .res (kinfolklaw07_tree_out (T_kinfolkref02_Event.mk n2 t3 t4) (n3, t5)), .res (kinfolklaw07_tree_out (T_kinfolkref02_Event.mk n2 t3 t4) (n3, t5)), .res (kinfolklaw07_tree_out t2 (n4, t6)), .res (event_Node_out n n3 t5 n4 t6 (n5, t7, n6)), .res (kinfolklaw07_tree_out t2 (n4, t6)), .res (event_Node_out n n3 t5 n4 t6 (n5, t7, n6))]) (.k1 (an_ (rfl : false = false) (an_ (hrec_kinfolklaw07_tree (T_kinfolkref02_Event.mk n2 t3 t4) _ h1) (an_ (hrec_kinfolklaw07_tree (T_kinfolkref02_Event.mk n2 t3 t4) _ h1) (an_ (hrec_kinfolklaw07_tree t2 _ h2) (an_ (event_Node_runs N n n3 t5 n4 t6 _ h3) (an_ (hrec_kinfolklaw07_tree t2 _ h2) (an_ (event_Node_runs N n n3 t5 n4 t6 _ h3) trivial))))))) (by kernel_rfl) (by kernel_rfl))
noncomputable def kinfolklaw07_tree : Nat → T_kinfolkref02_Event → Option (Int × T_event_halves)
  | 0, _ => none
  | N + 1, x => kinfolklaw07_tree_b N (kinfolklaw07_tree N) x
theorem kinfolklaw07_tree_runs : ∀ (N : Nat) (x : T_kinfolkref02_Event) (r_ : Int × T_event_halves), kinfolklaw07_tree N x = some r_ → Runs Try.prog 36 [(.one (.pv (T_kinfolkref02_Event.pv x)))] [] [] (kinfolklaw07_tree_out x r_)
  | 0, _, _, h => by cases h
  | N + 1, x, r_, h => kinfolklaw07_tree_b_runs N (kinfolklaw07_tree N) (kinfolklaw07_tree_runs N) x r_ h
/-! ### kinfolklaw07_made -/
noncomputable def kinfolklaw07_made (N : Nat) (p : List Int) (q : List Int) : Option (Bool × T_id_halves × Int × T_event_halves × T_kinfolkref01_ID × T_kinfolkref02_Event) :=
  bif decide ((0 : Int) ≤ 0) && decide ((0 : Int) ≤ (if (60 : Int) < ((p).length : Int) then 60 else ((p).length : Int))) && decide (((if (60 : Int) < ((p).length : Int) then 60 else ((p).length : Int)) : Int) ≤ ((p).length : Int)) && decide (((if (60 : Int) < ((p).length : Int) then 60 else ((p).length : Int)) : Int) = (if (60 : Int) < ((p).length : Int) then 60 else ((p).length : Int))) then
  (kinfolkref01_Make N (List.take ((if (60 : Int) < ((p).length : Int) then 60 else ((p).length : Int)) - 0).toNat p) 7).bind fun (t, l_) =>
  bif decide ((0 : Int) ≤ 0) && decide ((0 : Int) ≤ (if (60 : Int) < ((q).length : Int) then 60 else ((q).length : Int))) && decide (((if (60 : Int) < ((q).length : Int) then 60 else ((q).length : Int)) : Int) ≤ ((q).length : Int)) && decide (((if (60 : Int) < ((q).length : Int) then 60 else ((q).length : Int)) : Int) = (if (60 : Int) < ((q).length : Int) then 60 else ((q).length : Int))) then
  (kinfolkref02_Make N (List.take ((if (60 : Int) < ((q).length : Int) then 60 else ((q).length : Int)) - 0).toNat q) 7).bind fun (t2, l_2) =>
  (kinfolklaw07_own N t).bind fun (b, t3) =>
  (kinfolklaw07_tree N t2).bind fun (n, t4) =>
  some (b, t3, n, t4, t, t2)
  else none
  else none
theorem kinfolklaw07_made_runs (N : Nat) (p : List Int) (q : List Int) (r_ : Bool × T_id_halves × Int × T_event_halves × T_kinfolkref01_ID × T_kinfolkref02_Event) (h : kinfolklaw07_made N p q = some r_) : Runs Try.prog 7 [(.one (.pv (.ints .u8 p false))), (.one (.pv (.ints .u8 q false)))] [] [] (kinfolklaw07_made_out p q r_) := by
  unfold kinfolklaw07_made at h
  obtain ⟨h1, h⟩ := need_of h
  obtain ⟨⟨t, l_⟩, h2, h⟩ := bind_of h
  obtain ⟨h3, h⟩ := need_of h
  obtain ⟨⟨t2, l_2⟩, h4, h⟩ := bind_of h
  obtain ⟨⟨b, t3⟩, h5, h⟩ := bind_of h
  obtain ⟨⟨n, t4⟩, h6, h⟩ := bind_of h
  have h := some_of h
  subst h
  exact runs_of (C := cfg) (objs := []) (sc := [.res (kinfolkref01_Make_out (List.take ((if (60 : Int) < ((p).length : Int) then 60 else ((p).length : Int)) - 0).toNat p) 7 (t, l_)), .res (kinfolkref02_Make_out (List.take ((if (60 : Int) < ((q).length : Int) then 60 else ((q).length : Int)) - 0).toNat q) 7 (t2, l_2)), .res (kinfolklaw07_own_out t (b, t3)), .res (kinfolklaw07_tree_out t2 (n, t4))]) (.k0 (an_ h1 (an_ (kinfolkref01_Make_runs N (List.take ((if (60 : Int) < ((p).length : Int) then 60 else ((p).length : Int)) - 0).toNat p) 7 _ h2) (an_ h3 (an_ (kinfolkref02_Make_runs N (List.take ((if (60 : Int) < ((q).length : Int) then 60 else ((q).length : Int)) - 0).toNat q) 7 _ h4) (an_ (kinfolklaw07_own_runs N t _ h5) (an_ (kinfolklaw07_tree_runs N t2 _ h6) trivial)))))) (by kernel_rfl))
/-! ### stamp_Same_out -/
def stamp_Same_out (a : Bool) (a2 : T_id_halves) (a3 : Int) (a4 : T_event_halves) (b : Bool) (b2 : T_id_halves) (b3 : Int) (b4 : T_event_halves) : Bool → Res
  | r1 => ([(.one (.pv (.bool r1)))], [], [])
/-! ### id_Same_out -/
def id_Same_out (a : Bool) (a2 : T_id_halves) (b : Bool) (b2 : T_id_halves) : Bool → Res
  | r1 => ([(.one (.pv (.bool r1)))], [], [])
/-! ### id_Covers_out -/
def id_Covers_out (a : Bool) (a2 : T_id_halves) (b : Bool) (b2 : T_id_halves) : Bool → Res
  | r1 => ([(.one (.pv (.bool r1)))], [], [])
/-! ### id_Covers -/
noncomputable def id_Covers_b (rec_id_Covers : Bool → T_id_halves → Bool → T_id_halves → Option (Bool)) (a : Bool) (a2 : T_id_halves) (b : Bool) (b2 : T_id_halves) : Option (Bool) :=
  (id_ID_IsOne a a2).bind fun _ =>
  bif a then
    some true
  else
    (id_ID_IsZero b b2).bind fun b3 =>
    bif b3 then
      some true
    else
      (id_ID_IsZero a a2).bind fun b4 =>
      bif b4 then
        some false
      else
        (id_ID_IsOne b b2).bind fun _ =>
        bif b then
          some false
        else
          match b2 with
          | .nil =>
            none
          | .mk b5 t b6 t2 =>
            match a2 with
            | .nil =>
              none
            | .mk b7 t3 b8 t4 =>
              (rec_id_Covers b7 t3 b5 t).bind fun b9 =>
              bif b9 then
                (rec_id_Covers b8 t4 b6 t2).bind fun b10 =>
                some b10
              else
                some false
theorem id_Covers_b_runs (rec_id_Covers : Bool → T_id_halves → Bool → T_id_halves → Option (Bool)) (hrec_id_Covers : ∀ a a2 b b2 r_, rec_id_Covers a a2 b b2 = some r_ → Runs Try.prog 37 [(.agg [(.pv (.bool a)), (.pv (T_id_halves.pv a2))]), (.agg [(.pv (.bool b)), (.pv (T_id_halves.pv b2))])] [] [] (id_Covers_out a a2 b b2 r_)) (a : Bool) (a2 : T_id_halves) (b : Bool) (b2 : T_id_halves) (r_ : Bool) (h : id_Covers_b rec_id_Covers a a2 b b2 = some r_) : Runs Try.prog 37 [(.agg [(.pv (.bool a)), (.pv (T_id_halves.pv a2))]), (.agg [(.pv (.bool b)), (.pv (T_id_halves.pv b2))])] [] [] (id_Covers_out a a2 b b2 r_) := by
  unfold id_Covers_b at h
  obtain ⟨_, h1, h⟩ := bind_of h
  rcases cond_of h with ⟨h2, h⟩ | ⟨h2, h⟩
  · have h := some_of h
    subst h
    exact runs_of (C := cfg) (objs := []) (sc := [.res (id_ID_IsOne_out a a2 ()), .br true, .br true]) (.k0 (an_ (id_ID_IsOne_runs a a2 _ h1) (an_ h2 (an_ (rfl : true = true) trivial))) (by kernel_rfl))
  · obtain ⟨b3, h3, h⟩ := bind_of h
    rcases cond_of h with ⟨h4, h⟩ | ⟨h4, h⟩
    · have h := some_of h
      subst h
      exact runs_of (C := cfg) (objs := []) (sc := [.res (id_ID_IsOne_out a a2 ()), .br false, .res (id_ID_IsZero_out b b2 b3), .br true]) (.k0 (an_ (id_ID_IsOne_runs a a2 _ h1) (an_ h2 (an_ (id_ID_IsZero_runs b b2 _ h3) (an_ h4 trivial)))) (by kernel_rfl))
    · obtain ⟨b4, h5, h⟩ := bind_of h
      rcases cond_of h with ⟨h6, h⟩ | ⟨h6, h⟩
      · have h := some_of h
        subst h
        exact runs_of (C := cfg) (objs := []) (sc := [.res (id_ID_IsOne_out a a2 ()), .br false, .res (id_ID_IsZero_out b b2 b3), .br false, .res (id_ID_IsZero_out a a2 b4), .br true, .br true]) (.k0 (an_ (id_ID_IsOne_runs a a2 _ h1) (an_ h2 (an_ (id_ID_IsZero_runs b b2 _ h3) (an_ h4 (an_ (id_ID_IsZero_runs a a2 _ h5) (an_ h6 (an_ (rfl : true = true) trivial))))))) (by kernel_rfl))
      · obtain ⟨_, h7, h⟩ := bind_of h
        rcases cond_of h with ⟨h8, h⟩ | ⟨h8, h⟩
        · have h := some_of h
          subst h
          exact runs_of (C := cfg) (objs := []) (sc := [.res (id_ID_IsOne_out a a2 ()), .br false, .res (id_ID_IsZero_out b b2 b3), .br false, .res (id_ID_IsZero_out a a2 b4), .br false, .res (id_ID_IsOne_out b b2 ()), .br true]) (.k0 (an_ (id_ID_IsOne_runs a a2 _ h1) (an_ h2 (an_ (id_ID_IsZero_runs b b2 _ h3) (an_ h4 (an_ (id_ID_IsZero_runs a a2 _ h5) (an_ h6 (an_ (id_ID_IsOne_runs b b2 _ h7) (an_ h8 trivial)))))))) (by kernel_rfl))
        · cases b2 with
          | nil =>
            cases h
          | mk b5 t b6 t2 =>
            cases a2 with
            | nil =>
              cases h
            | mk b7 t3 b8 t4 =>
              obtain ⟨b9, h9, h⟩ := bind_of h
              rcases cond_of h with ⟨h10, h⟩ | ⟨h10, h⟩
              · obtain ⟨b10, h11, h⟩ := bind_of h
                have h := some_of h
                subst h
                exact runs_of (C := cfg) (objs := []) (sc := [.res (id_ID_IsOne_out a (T_id_halves.mk b7 t3 b8 t4) ()), .br false, .res (id_ID_IsZero_out b (T_id_halves.mk b5 t b6 t2) b3), .br false, .res (id_ID_IsZero_out a (T_id_halves.mk b7 t3 b8 t4) b4), .br false, .res (id_ID_IsOne_out b (T_id_halves.mk b5 t b6 t2) ()), .br false, .res (id_Covers_out b7 t3 b5 t b9), .br true, .res (id_Covers_out b8 t4 b6 t2 b10)]) (.k1 (an_ (id_ID_IsOne_runs a (T_id_halves.mk b7 t3 b8 t4) _ h1) (an_ h2 (an_ (id_ID_IsZero_runs b (T_id_halves.mk b5 t b6 t2) _ h3) (an_ h4 (an_ (id_ID_IsZero_runs a (T_id_halves.mk b7 t3 b8 t4) _ h5) (an_ h6 (an_ (id_ID_IsOne_runs b (T_id_halves.mk b5 t b6 t2) _ h7) (an_ h8 (an_ (hrec_id_Covers b7 t3 b5 t _ h9) (an_ h10 (an_ (hrec_id_Covers b8 t4 b6 t2 _ h11) trivial))))))))))) (by kernel_rfl) (by kernel_rfl))
              · have h := some_of h
                subst h
                exact runs_of (C := cfg) (objs := []) (sc := [.res (id_ID_IsOne_out a (T_id_halves.mk b7 t3 b8 t4) ()), .br false, .res (id_ID_IsZero_out b (T_id_halves.mk b5 t b6 t2) b3), .br false, .res (id_ID_IsZero_out a (T_id_halves.mk b7 t3 b8 t4) b4), .br false, .res (id_ID_IsOne_out b (T_id_halves.mk b5 t b6 t2) ()), .br false, .res (id_Covers_out b7 t3 b5 t b9), .br false]) (.k1 (an_ (id_ID_IsOne_runs a (T_id_halves.mk b7 t3 b8 t4) _ h1) (an_ h2 (an_ (id_ID_IsZero_runs b (T_id_halves.mk b5 t b6 t2) _ h3) (an_ h4 (an_ (id_ID_IsZero_runs a (T_id_halves.mk b7 t3 b8 t4) _ h5) (an_ h6 (an_ (id_ID_IsOne_runs b (T_id_halves.mk b5 t b6 t2) _ h7) (an_ h8 (an_ (hrec_id_Covers b7 t3 b5 t _ h9) (an_ h10 trivial)))))))))) (by kernel_rfl) (by kernel_rfl))
noncomputable def id_Covers : Nat → Bool → T_id_halves → Bool → T_id_halves → Option (Bool)
  | 0, _, _, _, _ => none
  | N + 1, a, a2, b, b2 => id_Covers_b (id_Covers N) a a2 b b2
theorem id_Covers_runs : ∀ (N : Nat) (a : Bool) (a2 : T_id_halves) (b : Bool) (b2 : T_id_halves) (r_ : Bool), id_Covers N a a2 b b2 = some r_ → Runs Try.prog 37 [(.agg [(.pv (.bool a)), (.pv (T_id_halves.pv a2))]), (.agg [(.pv (.bool b)), (.pv (T_id_halves.pv b2))])] [] [] (id_Covers_out a a2 b b2 r_)
  | 0, _, _, _, _, _, h => by cases h
  | N + 1, a, a2, b, b2, r_, h => id_Covers_b_runs (id_Covers N) (id_Covers_runs N) a a2 b b2 r_ h
/-! ### id_Same -/
noncomputable def id_Same (N : Nat) (a : Bool) (a2 : T_id_halves) (b : Bool) (b2 : T_id_halves) : Option (Bool) :=
  (id_Covers N a a2 b b2).bind fun b3 =>
  bif b3 then
    (id_Covers N b b2 a a2).bind fun b4 =>
    some b4
  else
    some false
theorem id_Same_runs (N : Nat) (a : Bool) (a2 : T_id_halves) (b : Bool) (b2 : T_id_halves) (r_ : Bool) (h : id_Same N a a2 b b2 = some r_) : Runs Try.prog 12 [(.agg [(.pv (.bool a)), (.pv (T_id_halves.pv a2))]), (.agg [(.pv (.bool b)), (.pv (T_id_halves.pv b2))])] [] [] (id_Same_out a a2 b b2 r_) := by
  unfold id_Same at h
  obtain ⟨b3, h1, h⟩ := bind_of h
  rcases cond_of h with ⟨h2, h⟩ | ⟨h2, h⟩
  · obtain ⟨b4, h3, h⟩ := bind_of h
    have h := some_of h
    subst h
    exact runs_of (C := cfg) (objs := []) (sc := [.res (id_Covers_out a a2 b b2 b3), .br true, .res (id_Covers_out b b2 a a2 b4)]) (.k0 (an_ (id_Covers_runs N a a2 b b2 _ h1) (an_ h2 (an_ (id_Covers_runs N b b2 a a2 _ h3) trivial))) (by kernel_rfl))
  · have h := some_of h
    subst h
    exact runs_of (C := cfg) (objs := []) (sc := [.res (id_Covers_out a a2 b b2 b3), .br false]) (.k0 (an_ (id_Covers_runs N a a2 b b2 _ h1) (an_ h2 trivial)) (by kernel_rfl))
/-! ### event_Same_out -/
def event_Same_out (a : Int) (a2 : T_event_halves) (b : Int) (b2 : T_event_halves) : Bool → Res
  | r1 => ([(.one (.pv (.bool r1)))], [], [])
/-! ### event_Leq_out -/
def event_Leq_out (a : Int) (a2 : T_event_halves) (b : Int) (b2 : T_event_halves) : Bool → Res
  | r1 => ([(.one (.pv (.bool r1)))], [], [])
/-! ### event_Event_up_out -/
def event_Event_up_out (e : Int) (e2 : T_event_halves) (n : Int) : Int → Res
  | r1 => ([(.agg [(.pv (.int .u64 r1)), (.pv (T_event_halves.pv e2))])], [], [])
/-! ### event_Event_up -/
noncomputable def event_Event_up (e : Int) (e2 : T_event_halves) (n : Int) : Option (Int) :=
  some (iadd .u64 e n)
theorem event_Event_up_runs (e : Int) (e2 : T_event_halves) (n : Int) (r_ : Int) (h : event_Event_up e e2 n = some r_) : Runs Try.prog 71 [(.agg [(.pv (.int .u64 e)), (.pv (T_event_halves.pv e2))]), (.one (.pv (.int .u64 n)))] [] [] (event_Event_up_out e e2 n r_) := by
  unfold event_Event_up at h
  have h := some_of h
  subst h
  exact runs_of (C := cfg) (objs := []) (sc := []) (.k0 (trivial) (by kernel_rfl))
/-! ### event_Leq -/
noncomputable def event_Leq_b (rec_event_Leq : Int → T_event_halves → Int → T_event_halves → Option (Bool)) (a : Int) (a2 : T_event_halves) (b : Int) (b2 : T_event_halves) : Option (Bool) :=
  match a2 with
  | .nil =>
    some (decide ((a : Int) ≤ b))
  | .mk n t n2 t2 =>
    bif (decide ((b : Int) < a)) then
      match b2 with
      | .nil =>
        some false
      | .mk n3 t3 n4 t4 =>
        (event_Event_up n t a).bind fun n5 =>
        (event_Event_Left b b2).bind fun (n6, t5) =>
        (event_Event_up n6 t5 b).bind fun n7 =>
        (rec_event_Leq n5 t n7 t5).bind fun b3 =>
        bif b3 then
          (event_Event_up n2 t2 a).bind fun n8 =>
          (event_Event_Right b b2).bind fun (n9, t6) =>
          (event_Event_up n9 t6 b).bind fun n10 =>
          (rec_event_Leq n8 t2 n10 t6).bind fun b4 =>
          some b4
        else
          some false
    else
      (event_Event_up n t a).bind fun n3 =>
      (event_Event_Left b b2).bind fun (n4, t3) =>
      (event_Event_up n4 t3 b).bind fun n5 =>
      (rec_event_Leq n3 t n5 t3).bind fun b3 =>
      bif b3 then
        (event_Event_up n2 t2 a).bind fun n6 =>
        (event_Event_Right b b2).bind fun (n7, t4) =>
        (event_Event_up n7 t4 b).bind fun n8 =>
        (rec_event_Leq n6 t2 n8 t4).bind fun b4 =>
        some b4
      else
        some false
theorem event_Leq_b_runs (rec_event_Leq : Int → T_event_halves → Int → T_event_halves → Option (Bool)) (hrec_event_Leq : ∀ a a2 b b2 r_, rec_event_Leq a a2 b b2 = some r_ → Runs Try.prog 38 [(.agg [(.pv (.int .u64 a)), (.pv (T_event_halves.pv a2))]), (.agg [(.pv (.int .u64 b)), (.pv (T_event_halves.pv b2))])] [] [] (event_Leq_out a a2 b b2 r_)) (a : Int) (a2 : T_event_halves) (b : Int) (b2 : T_event_halves) (r_ : Bool) (h : event_Leq_b rec_event_Leq a a2 b b2 = some r_) : Runs Try.prog 38 [(.agg [(.pv (.int .u64 a)), (.pv (T_event_halves.pv a2))]), (.agg [(.pv (.int .u64 b)), (.pv (T_event_halves.pv b2))])] [] [] (event_Leq_out a a2 b b2 r_) := by
  unfold event_Leq_b at h
  cases a2 with
  | nil =>
    have h := some_of h
    subst h
    exact runs_of (C := cfg) (objs := []) (sc := [.br true]) (.k0 (an_ (rfl : true = true) trivial) (by kernel_rfl))
  | mk n t n2 t2 =>
    rcases cond_of h with ⟨h1, h⟩ | ⟨h1, h⟩
    · cases b2 with
      | nil =>
        have h := some_of h
        subst h
        exact runs_of (C := cfg) (objs := []) (sc := [.br false, .br true, .br true]) (.k0 (an_ (rfl : false = false) (an_ h1 (an_ (rfl : true = true) trivial))) (by kernel_rfl))
      | mk n3 t3 n4 t4 =>
        obtain ⟨n5, h2, h⟩ := bind_of h
        obtain ⟨⟨n6, t5⟩, h3, h⟩ := bind_of h
        obtain ⟨n7, h4, h⟩ := bind_of h
        obtain ⟨b3, h5, h⟩ := bind_of h
        rcases cond_of h with ⟨h6, h⟩ | ⟨h6, h⟩
        · obtain ⟨n8, h7, h⟩ := bind_of h
          obtain ⟨⟨n9, t6⟩, h8, h⟩ := bind_of h
          obtain ⟨n10, h9, h⟩ := bind_of h
          obtain ⟨b4, h10, h⟩ := bind_of h
          have h := some_of h
          subst h
          exact runs_of (C := cfg) (objs := []) (sc := [.br false, .br true, .br false, .res (event_Event_up_out n t a n5), .res (event_Event_up_out n t a n5), .res (event_Event_up_out n t a n5), .res (event_Event_up_out n t a n5), .res (event_Event_Left_out b (T_event_halves.mk n3 t3 n4 t4) (n6, t5)), .res (event_Event_Left_out b (T_event_halves.mk n3 t3 n4 t4) (n6, t5)), .res (event_Event_up_out n6 t5 b n7), .res (event_Leq_out n5 t n7 t5 b3), .br true, .res (event_Event_up_out n2 t2 a n8), .res (event_Event_up_out n2 t2 a n8), .res (event_Event_up_out n2 t2 a n8), .res (event_Event_up_out n2 t2 a n8), .res (event_Event_Right_out b (T_event_halves.mk n3 t3 n4 t4) (n9, t6)), .res (event_Event_Right_out b (T_event_halves.mk n3 t3 n4 t4) (n9, t6)), .res (event_Event_up_out n9 t6 b n10), .res (event_Leq_out n8 t2 n10 t6 b4)]) (.k1 (an_ (rfl : false = false) (an_ h1 (an_ (rfl : false = false) (an_ (event_Event_up_runs n t a _ h2) (an_ (event_Event_up_runs n t a _ h2) (an_ (event_Event_up_runs n t a _ h2) (an_ (event_Event_up_runs n t a _ h2) (an_ (event_Event_Left_runs b (T_event_halves.mk n3 t3 n4 t4) _ h3) (an_ (event_Event_Left_runs b (T_event_halves.mk n3 t3 n4 t4) _ h3) (an_ (event_Event_up_runs n6 t5 b _ h4) (an_ (hrec_event_Leq n5 t n7 t5 _ h5) (an_ h6 (an_ (event_Event_up_runs n2 t2 a _ h7) (an_ (event_Event_up_runs n2 t2 a _ h7) (an_ (event_Event_up_runs n2 t2 a _ h7) (an_ (event_Event_up_runs n2 t2 a _ h7) (an_ (event_Event_Right_runs b (T_event_halves.mk n3 t3 n4 t4) _ h8) (an_ (event_Event_Right_runs b (T_event_halves.mk n3 t3 n4 t4) _ h8) (an_ (event_Event_up_runs n9 t6 b _ h9) (an_ (hrec_event_Leq n8 t2 n10 t6 _ h10) trivial)))))))))))))))))))) (by kernel_rfl) (by kernel_rfl))
        · have h := some_of h
          subst h
          exact runs_of (C := cfg) (objs := []) (sc := [.br false, .br true, .br false, .res (event_Event_up_out n t a n5), .res (event_Event_up_out n t a n5), .res (event_Event_up_out n t a n5), .res (event_Event_up_out n t a n5), .res (event_Event_Left_out b (T_event_halves.mk n3 t3 n4 t4) (n6, t5)), .res (event_Event_Left_out b (T_event_halves.mk n3 t3 n4 t4) (n6, t5)), .res (event_Event_up_out n6 t5 b n7), .res (event_Leq_out n5 t n7 t5 b3), .br false]) (.k1 (an_ (rfl : false = false) (an_ h1 (an_ (rfl : false = false) (an_ (event_Event_up_runs n t a _ h2) (an_ (event_Event_up_runs n t a _ h2) (an_ (event_Event_up_runs n t a _ h2) (an_ (event_Event_up_runs n t a _ h2) (an_ (event_Event_Left_runs b (T_event_halves.mk n3 t3 n4 t4) _ h3) (an_ (event_Event_Left_runs b (T_event_halves.mk n3 t3 n4 t4) _ h3) (an_ (event_Event_up_runs n6 t5 b _ h4) (an_ (hrec_event_Leq n5 t n7 t5 _ h5) (an_ h6 trivial)))))))))))) (by kernel_rfl) (by kernel_rfl))
    · obtain ⟨n3, h2, h⟩ := bind_of h
      obtain ⟨⟨n4, t3⟩, h3, h⟩ := bind_of h
      obtain ⟨n5, h4, h⟩ := bind_of h
      obtain ⟨b3, h5, h⟩ := bind_of h
      rcases cond_of h with ⟨h6, h⟩ | ⟨h6, h⟩
      · obtain ⟨n6, h7, h⟩ := bind_of h
        obtain ⟨⟨n7, t4⟩, h8, h⟩ := bind_of h
        obtain ⟨n8, h9, h⟩ := bind_of h
        obtain ⟨b4, h10, h⟩ := bind_of h
        have h := some_of h
        subst h
        exact runs_of (C := cfg) (objs := []) (sc := [.br false, .br false, .br false, .res (event_Event_up_out n t a n3), .res (event_Event_up_out n t a n3), .res (event_Event_up_out n t a n3), .res (event_Event_up_out n t a n3), .res (event_Event_Left_out b b2 (n4, t3)), .res (event_Event_Left_out b b2 (n4, t3)), .res (event_Event_up_out n4 t3 b n5), .res (event_Leq_out n3 t n5 t3 b3), .br true, .res (event_Event_up_out n2 t2 a n6), .res (event_Event_up_out n2 t2 a n6), .res (event_Event_up_out n2 t2 a n6), .res (event_Event_up_out n2 t2 a n6), .res (event_Event_Right_out b b2 (n7, t4)), .res (event_Event_Right_out b b2 (n7, t4)), .res (event_Event_up_out n7 t4 b n8), .res (event_Leq_out n6 t2 n8 t4 b4)]) (.k1 (an_ (rfl : false = false) (an_ h1 (an_ (rfl : false = false) (an_ (event_Event_up_runs n t a _ h2) (an_ (event_Event_up_runs n t a _ h2) (an_ (event_Event_up_runs n t a _ h2) (an_ (event_Event_up_runs n t a _ h2) (an_ (event_Event_Left_runs b b2 _ h3) (an_ (event_Event_Left_runs b b2 _ h3) (an_ (event_Event_up_runs n4 t3 b _ h4) (an_ (hrec_event_Leq n3 t n5 t3 _ h5) (an_ h6 (an_ (event_Event_up_runs n2 t2 a _ h7) (an_ (event_Event_up_runs n2 t2 a _ h7) (an_ (event_Event_up_runs n2 t2 a _ h7) (an_ (event_Event_up_runs n2 t2 a _ h7) (an_ (event_Event_Right_runs b b2 _ h8) (an_ (event_Event_Right_runs b b2 _ h8) (an_ (event_Event_up_runs n7 t4 b _ h9) (an_ (hrec_event_Leq n6 t2 n8 t4 _ h10) trivial)))))))))))))))))))) (by kernel_rfl) (by kernel_rfl))
      · have h := some_of h
        subst h
        exact runs_of (C := cfg) (objs := []) (sc := [.br false, .br false, .br false, .res (event_Event_up_out n t a n3), .res (event_Event_up_out n t a n3), .res (event_Event_up_out n t a n3), .res (event_Event_up_out n t a n3), .res (event_Event_Left_out b b2 (n4, t3)), .res (event_Event_Left_out b b2 (n4, t3)), .res (event_Event_up_out n4 t3 b n5), .res (event_Leq_out n3 t n5 t3 b3), .br false]) (.k1 (an_ (rfl : false = false) (an_ h1 (an_ (rfl : false = false) (an_ (event_Event_up_runs n t a _ h2) (an_ (event_Event_up_runs n t a _ h2) (an_ (event_Event_up_runs n t a _ h2) (an_ (event_Event_up_runs n t a _ h2) (an_ (event_Event_Left_runs b b2 _ h3) (an_ (event_Event_Left_runs b b2 _ h3) (an_ (event_Event_up_runs n4 t3 b _ h4) (an_ (hrec_event_Leq n3 t n5 t3 _ h5) (an_ h6 trivial)))))))))))) (by kernel_rfl) (by kernel_rfl))
noncomputable def event_Leq : Nat → Int → T_event_halves → Int → T_event_halves → Option (Bool)
  | 0, _, _, _, _ => none
  | N + 1, a, a2, b, b2 => event_Leq_b (event_Leq N) a a2 b b2
theorem event_Leq_runs : ∀ (N : Nat) (a : Int) (a2 : T_event_halves) (b : Int) (b2 : T_event_halves) (r_ : Bool), event_Leq N a a2 b b2 = some r_ → Runs Try.prog 38 [(.agg [(.pv (.int .u64 a)), (.pv (T_event_halves.pv a2))]), (.agg [(.pv (.int .u64 b)), (.pv (T_event_halves.pv b2))])] [] [] (event_Leq_out a a2 b b2 r_)
  | 0, _, _, _, _, _, h => by cases h
  | N + 1, a, a2, b, b2, r_, h => event_Leq_b_runs (event_Leq N) (event_Leq_runs N) a a2 b b2 r_ h
/-! ### event_Same -/
noncomputable def event_Same (N : Nat) (a : Int) (a2 : T_event_halves) (b : Int) (b2 : T_event_halves) : Option (Bool) :=
  (event_Leq N a a2 b b2).bind fun b3 =>
  bif b3 then
    (event_Leq N b b2 a a2).bind fun b4 =>
    some b4
  else
    some false
theorem event_Same_runs (N : Nat) (a : Int) (a2 : T_event_halves) (b : Int) (b2 : T_event_halves) (r_ : Bool) (h : event_Same N a a2 b b2 = some r_) : Runs Try.prog 14 [(.agg [(.pv (.int .u64 a)), (.pv (T_event_halves.pv a2))]), (.agg [(.pv (.int .u64 b)), (.pv (T_event_halves.pv b2))])] [] [] (event_Same_out a a2 b b2 r_) := by
  unfold event_Same at h
  obtain ⟨b3, h1, h⟩ := bind_of h
  rcases cond_of h with ⟨h2, h⟩ | ⟨h2, h⟩
  · obtain ⟨b4, h3, h⟩ := bind_of h
    have h := some_of h
    subst h
    exact runs_of (C := cfg) (objs := []) (sc := [.res (event_Leq_out a a2 b b2 b3), .br true, .res (event_Leq_out b b2 a a2 b4)]) (.k0 (an_ (event_Leq_runs N a a2 b b2 _ h1) (an_ h2 (an_ (event_Leq_runs N b b2 a a2 _ h3) trivial))) (by kernel_rfl))
  · have h := some_of h
    subst h
    exact runs_of (C := cfg) (objs := []) (sc := [.res (event_Leq_out a a2 b b2 b3), .br false]) (.k0 (an_ (event_Leq_runs N a a2 b b2 _ h1) (an_ h2 trivial)) (by kernel_rfl))
/-! ### stamp_Same -/
noncomputable def stamp_Same (N : Nat) (a : Bool) (a2 : T_id_halves) (a3 : Int) (a4 : T_event_halves) (b : Bool) (b2 : T_id_halves) (b3 : Int) (b4 : T_event_halves) : Option (Bool) :=
  (id_Same N a a2 b b2).bind fun b5 =>
  bif b5 then
    (event_Same N a3 a4 b3 b4).bind fun b6 =>
    some b6
  else
    some false
theorem stamp_Same_runs (N : Nat) (a : Bool) (a2 : T_id_halves) (a3 : Int) (a4 : T_event_halves) (b : Bool) (b2 : T_id_halves) (b3 : Int) (b4 : T_event_halves) (r_ : Bool) (h : stamp_Same N a a2 a3 a4 b b2 b3 b4 = some r_) : Runs Try.prog 10 [(.agg [(.pv (.bool a)), (.pv (T_id_halves.pv a2)), (.pv (.int .u64 a3)), (.pv (T_event_halves.pv a4))]), (.agg [(.pv (.bool b)), (.pv (T_id_halves.pv b2)), (.pv (.int .u64 b3)), (.pv (T_event_halves.pv b4))])] [] [] (stamp_Same_out a a2 a3 a4 b b2 b3 b4 r_) := by
  unfold stamp_Same at h
  obtain ⟨b5, h1, h⟩ := bind_of h
  rcases cond_of h with ⟨h2, h⟩ | ⟨h2, h⟩
  · obtain ⟨b6, h3, h⟩ := bind_of h
    have h := some_of h
    subst h
    exact runs_of (C := cfg) (objs := []) (sc := [.res (id_Same_out a a2 b b2 b5), .br true, .res (event_Same_out a3 a4 b3 b4 b6)]) (.k0 (an_ (id_Same_runs N a a2 b b2 _ h1) (an_ h2 (an_ (event_Same_runs N a3 a4 b3 b4 _ h3) trivial))) (by kernel_rfl))
  · have h := some_of h
    subst h
    exact runs_of (C := cfg) (objs := []) (sc := [.res (id_Same_out a a2 b b2 b5), .br false]) (.k0 (an_ (id_Same_runs N a a2 b b2 _ h1) (an_ h2 trivial)) (by kernel_rfl))
/-! ### code_ID_out -/
def code_ID_out (i : Bool) (i2 : T_id_halves) : List Int → Res
  | r1 => ([(.one (.pv (.ints .u8 r1 false)))], [], [])
/-! ### code_ID -/
noncomputable def code_ID (N : Nat) (i : Bool) (i2 : T_id_halves) : Option (List Int) :=
  (bits_NewWriter).bind fun _ =>
  (code_PutID N i i2 0).bind fun (n, l_) =>
  (bits_Writer_Bytes n l_).bind fun _ =>
  some l_
theorem code_ID_runs (N : Nat) (i : Bool) (i2 : T_id_halves) (r_ : List Int) (h : code_ID N i i2 = some r_) : Runs Try.prog 11 [(.agg [(.pv (.bool i)), (.pv (T_id_halves.pv i2))])] [] [] (code_ID_out i i2 r_) := by
  unfold code_ID at h
  obtain ⟨_, h1, h⟩ := bind_of h
  obtain ⟨⟨n, l_⟩, h2, h⟩ := bind_of h
  obtain ⟨_, h3, h⟩ := bind_of h
  have h := some_of h
  subst h
  exact runs_of (C := cfg) (objs := []) (sc := [.res (bits_NewWriter_out ()), .res (code_PutID_out i i2 0 (n, l_)), .res (bits_Writer_Bytes_out n l_ ())]) (.k0 (an_ (bits_NewWriter_runs _ h1) (an_ (code_PutID_runs N i i2 0 _ h2) (an_ (bits_Writer_Bytes_runs n l_ _ h3) trivial))) (by kernel_rfl))
/-! ### code_Event_out -/
def code_Event_out (e : Int) (e2 : T_event_halves) : List Int → Res
  | r1 => ([(.one (.pv (.ints .u8 r1 false)))], [], [])
/-! ### code_PutEvent_2_out -/
def code_PutEvent_2_out (e : Int) (e2 : T_event_halves) (n : Int) : Int × List Int → Res
  | (r1, r2) => ([], [[(.own 0 0 (r2).length false), (.pv (.int .i64 r1))]], [(.ints .u8 r2)])

end Go.Proofs.Ytjjakdmcnkldoaa
