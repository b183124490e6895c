/- What functions compute, and that they do. -/
import Derived.Test.YtjjakdmcnkldoaaDoorCA1
set_option linter.unusedVariables false
set_option linter.unusedSimpArgs false
set_option maxRecDepth 100000
namespace Go.Proofs.YtjjakdmcnkldoaaDoor
open Go.Ev

/-! ### id_pair -/
noncomputable def id_pair (l : Bool) (l2 : T_id_halves) (r : Bool) (r2 : T_id_halves) : Option (Bool × T_id_halves) :=
  (id_ID_IsZero l l2).bind fun b =>
  bif b then
    (id_ID_IsZero r r2).bind fun b2 =>
    bif b2 then
      (id_Zero).bind fun _ =>
      some (false, T_id_halves.nil)
    else
      (id_ID_IsOne l l2).bind fun _ =>
      bif l then
        (id_ID_IsOne r r2).bind fun _ =>
        bif r then
          (id_One).bind fun _ =>
          some (true, T_id_halves.nil)
        else
          some (false, (T_id_halves.mk l l2 r r2))
      else
        some (false, (T_id_halves.mk l l2 r r2))
  else
    (id_ID_IsOne l l2).bind fun _ =>
    bif l then
      (id_ID_IsOne r r2).bind fun _ =>
      bif r then
        (id_One).bind fun _ =>
        some (true, T_id_halves.nil)
      else
        some (false, (T_id_halves.mk l l2 r r2))
    else
      some (false, (T_id_halves.mk l l2 r r2))
theorem id_pair_runs (l : Bool) (l2 : T_id_halves) (r : Bool) (r2 : T_id_halves) (r_ : Bool × T_id_halves) (h : id_pair l l2 r r2 = some r_) : Runs Tryd.prog 159 [(.agg [(.pv (.bool l)), (.pv (T_id_halves.pv l2))]), (.agg [(.pv (.bool r)), (.pv (T_id_halves.pv r2))])] [] [] (id_pair_out l l2 r r2 r_) := by
  unfold id_pair at h
  obtain ⟨b, h1, h⟩ := bind_of h
  rcases cond_of h with ⟨h2, h⟩ | ⟨h2, h⟩
  · obtain ⟨b2, h3, h⟩ := bind_of h
    rcases cond_of h with ⟨h4, h⟩ | ⟨h4, h⟩
    · obtain ⟨_, h5, h⟩ := bind_of h
      have h := some_of h
      subst h
      have t_ := tR (id_ID_IsZero_runs l l2 _ h1) <| tT h2 <| tR (id_ID_IsZero_runs r r2 _ h3) <| tT h4 <| tR (id_Zero_runs _ h5) <| tN
      exact runs_of (C := cfg) (objs := []) (sc := t_.ev) (.k0 t_.pf (by kernel_rfl))
    · obtain ⟨_, h5, h⟩ := bind_of h
      rcases cond_of h with ⟨h6, h⟩ | ⟨h6, h⟩
      · obtain ⟨_, h7, h⟩ := bind_of h
        rcases cond_of h with ⟨h8, h⟩ | ⟨h8, h⟩
        · obtain ⟨_, h9, h⟩ := bind_of h
          have h := some_of h
          subst h
          have t_ := tR (id_ID_IsZero_runs l l2 _ h1) <| tT h2 <| tR (id_ID_IsZero_runs r r2 _ h3) <| tF h4 <| tR (id_ID_IsOne_runs l l2 _ h5) <| tT h6 <| tR (id_ID_IsOne_runs r r2 _ h7) <| tT h8 <| tR (id_One_runs _ h9) <| tN
          exact runs_of (C := cfg) (objs := []) (sc := t_.ev) (.k0 t_.pf (by kernel_rfl))
        · have h := some_of h
          subst h
          have t_ := tR (id_ID_IsZero_runs l l2 _ h1) <| tT h2 <| tR (id_ID_IsZero_runs r r2 _ h3) <| tF h4 <| tR (id_ID_IsOne_runs l l2 _ h5) <| tT h6 <| tR (id_ID_IsOne_runs r r2 _ h7) <| tF h8 <| tN
          have e_ : Runs Tryd.prog 159 [(.agg [(.pv (.bool l)), (.pv (T_id_halves.pv l2))]), (.agg [(.pv (.bool r)), (.pv (T_id_halves.pv r2))])] [] [] ([(.agg [(.pv (.bool false)), (.pv (.imm [(.bool l), (T_id_halves.pv l2), (.bool r), (T_id_halves.pv r2)] 0))])], [], []) := runs_of (C := cfg) (objs := []) (sc := t_.ev) (.k0 t_.pf (by kernel_rfl))
          exact e_.out ⟨⟨.eq rfl, .eq rfl, trivial⟩, trivial⟩ trivial trivial rfl
      · have h := some_of h
        subst h
        have t_ := tR (id_ID_IsZero_runs l l2 _ h1) <| tT h2 <| tR (id_ID_IsZero_runs r r2 _ h3) <| tF h4 <| tR (id_ID_IsOne_runs l l2 _ h5) <| tF h6 <| tF (rfl : false = false) <| tN
        have e_ : Runs Tryd.prog 159 [(.agg [(.pv (.bool l)), (.pv (T_id_halves.pv l2))]), (.agg [(.pv (.bool r)), (.pv (T_id_halves.pv r2))])] [] [] ([(.agg [(.pv (.bool false)), (.pv (.imm [(.bool l), (T_id_halves.pv l2), (.bool r), (T_id_halves.pv r2)] 0))])], [], []) := runs_of (C := cfg) (objs := []) (sc := t_.ev) (.k0 t_.pf (by kernel_rfl))
        exact e_.out ⟨⟨.eq rfl, .eq rfl, trivial⟩, trivial⟩ trivial trivial rfl
  · obtain ⟨_, h3, h⟩ := bind_of h
    rcases cond_of h with ⟨h4, h⟩ | ⟨h4, h⟩
    · obtain ⟨_, h5, h⟩ := bind_of h
      rcases cond_of h with ⟨h6, h⟩ | ⟨h6, h⟩
      · obtain ⟨_, h7, h⟩ := bind_of h
        have h := some_of h
        subst h
        have t_ := tR (id_ID_IsZero_runs l l2 _ h1) <| tF h2 <| tF (rfl : false = false) <| tR (id_ID_IsOne_runs l l2 _ h3) <| tT h4 <| tR (id_ID_IsOne_runs r r2 _ h5) <| tT h6 <| tR (id_One_runs _ h7) <| tN
        exact runs_of (C := cfg) (objs := []) (sc := t_.ev) (.k0 t_.pf (by kernel_rfl))
      · have h := some_of h
        subst h
        have t_ := tR (id_ID_IsZero_runs l l2 _ h1) <| tF h2 <| tF (rfl : false = false) <| tR (id_ID_IsOne_runs l l2 _ h3) <| tT h4 <| tR (id_ID_IsOne_runs r r2 _ h5) <| tF h6 <| tN
        have e_ : Runs Tryd.prog 159 [(.agg [(.pv (.bool l)), (.pv (T_id_halves.pv l2))]), (.agg [(.pv (.bool r)), (.pv (T_id_halves.pv r2))])] [] [] ([(.agg [(.pv (.bool false)), (.pv (.imm [(.bool l), (T_id_halves.pv l2), (.bool r), (T_id_halves.pv r2)] 0))])], [], []) := runs_of (C := cfg) (objs := []) (sc := t_.ev) (.k0 t_.pf (by kernel_rfl))
        exact e_.out ⟨⟨.eq rfl, .eq rfl, trivial⟩, trivial⟩ trivial trivial rfl
    · have h := some_of h
      subst h
      have t_ := tR (id_ID_IsZero_runs l l2 _ h1) <| tF h2 <| tF (rfl : false = false) <| tR (id_ID_IsOne_runs l l2 _ h3) <| tF h4 <| tF (rfl : false = false) <| tN
      have e_ : Runs Tryd.prog 159 [(.agg [(.pv (.bool l)), (.pv (T_id_halves.pv l2))]), (.agg [(.pv (.bool r)), (.pv (T_id_halves.pv r2))])] [] [] ([(.agg [(.pv (.bool false)), (.pv (.imm [(.bool l), (T_id_halves.pv l2), (.bool r), (T_id_halves.pv r2)] 0))])], [], []) := runs_of (C := cfg) (objs := []) (sc := t_.ev) (.k0 t_.pf (by kernel_rfl))
      exact e_.out ⟨⟨.eq rfl, .eq rfl, trivial⟩, trivial⟩ trivial trivial rfl
/-! ### id_ID_Depth_out -/
def id_ID_Depth_out (i : Bool) (i2 : T_id_halves) : Int → Res
  | r1 => ([(.one (.pv (.int .i64 r1)))], [], [])
/-! ### id_ID_Depth -/
noncomputable def id_ID_Depth_b (rec_id_ID_Depth : Bool → T_id_halves → Option (Int)) (i : Bool) (i2 : T_id_halves) : Option (Int) :=
  match i2 with
  | .nil =>
    some 0
  | .mk b t b2 t2 =>
    (rec_id_ID_Depth b t).bind fun n =>
    (rec_id_ID_Depth b2 t2).bind fun n2 =>
    some (iadd .i64 1 (if (n : Int) < n2 then n2 else n))
theorem id_ID_Depth_b_runs (rec_id_ID_Depth : Bool → T_id_halves → Option (Int)) (hrec_id_ID_Depth : ∀ i i2 r_, rec_id_ID_Depth i i2 = some r_ → Runs Tryd.prog 141 [(.agg [(.pv (.bool i)), (.pv (T_id_halves.pv i2))])] [] [] (id_ID_Depth_out i i2 r_)) (i : Bool) (i2 : T_id_halves) (r_ : Int) (h : id_ID_Depth_b rec_id_ID_Depth i i2 = some r_) : Runs Tryd.prog 141 [(.agg [(.pv (.bool i)), (.pv (T_id_halves.pv i2))])] [] [] (id_ID_Depth_out i i2 r_) := by
  unfold id_ID_Depth_b at h
  cases i2 with
  | nil =>
    have h := some_of h
    subst h
    have t_ := tT (rfl : true = true) <| tN
    exact runs_of (C := cfg) (objs := []) (sc := t_.ev) (.k0 t_.pf (by kernel_rfl))
  | mk b t b2 t2 =>
    obtain ⟨n, h1, h⟩ := bind_of h
    obtain ⟨n2, h2, h⟩ := bind_of h
    have h := some_of h
    subst h
    have t_ := tF (rfl : false = false) <| tR (hrec_id_ID_Depth b t _ h1) <| tR (hrec_id_ID_Depth b t _ h1) <| tR (hrec_id_ID_Depth b2 t2 _ h2) <| tN
    exact runs_of (C := cfg) (objs := []) (sc := t_.ev) (.k1 t_.pf (by kernel_rfl) (by kernel_rfl))
noncomputable def id_ID_Depth : Nat → Bool → T_id_halves → Option (Int)
  | 0, _, _ => none
  | N + 1, i, i2 => id_ID_Depth_b (id_ID_Depth N) i i2
theorem id_ID_Depth_runs : ∀ (N : Nat) (i : Bool) (i2 : T_id_halves) (r_ : Int), id_ID_Depth N i i2 = some r_ → Runs Tryd.prog 141 [(.agg [(.pv (.bool i)), (.pv (T_id_halves.pv i2))])] [] [] (id_ID_Depth_out i i2 r_)
  | 0, _, _, _, h => by cases h
  | N + 1, i, i2, r_, h => id_ID_Depth_b_runs (id_ID_Depth N) (id_ID_Depth_runs N) i i2 r_ h
/-! ### id_Pair -/
noncomputable def id_Pair (N : Nat) (l : Bool) (l2 : T_id_halves) (r : Bool) (r2 : T_id_halves) : Option (Bool × T_id_halves × Int) :=
  (id_pair l l2 r r2).bind fun (b, t) =>
  (id_ID_Depth N b t).bind fun n =>
  bif (decide ((16 : Int) < n)) then
    (id_Zero).bind fun _ =>
    some (false, T_id_halves.nil, 3)
  else
    some (b, t, 0)
theorem id_Pair_runs (N : Nat) (l : Bool) (l2 : T_id_halves) (r : Bool) (r2 : T_id_halves) (r_ : Bool × T_id_halves × Int) (h : id_Pair N l l2 r r2 = some r_) : Runs Tryd.prog 137 [(.agg [(.pv (.bool l)), (.pv (T_id_halves.pv l2))]), (.agg [(.pv (.bool r)), (.pv (T_id_halves.pv r2))])] [] [] (id_Pair_out l l2 r r2 r_) := by
  unfold id_Pair at h
  obtain ⟨⟨b, t⟩, h1, h⟩ := bind_of h
  obtain ⟨n, h2, h⟩ := bind_of h
  rcases cond_of h with ⟨h3, h⟩ | ⟨h3, h⟩
  · obtain ⟨_, h4, h⟩ := bind_of h
    have h := some_of h
    subst h
    have t_ := tR (id_pair_runs l l2 r r2 _ h1) <| tR (id_ID_Depth_runs N b t _ h2) <| tT h3 <| tR (id_Zero_runs _ h4) <| tN
    exact runs_of (C := cfg) (objs := []) (sc := t_.ev) (.k0 t_.pf (by kernel_rfl))
  · have h := some_of h
    subst h
    have t_ := tR (id_pair_runs l l2 r r2 _ h1) <| tR (id_ID_Depth_runs N b t _ h2) <| tF h3 <| tN
    exact runs_of (C := cfg) (objs := []) (sc := t_.ev) (.k0 t_.pf (by kernel_rfl))
/-! ### code_source_id_C30 -/
def code_source_id_C30_ex (depth : Int) (kind : Int) (b : Bool) (n : Int) (l : List Int) (n2 : Int) (n3 : Int) : Int × Int × Int × Bool × T_id_halves → Ex × St
  | (r1, r2, r3, r4, r5) => (.normal, ⟨[(0, (.av (.one (.ref 0 0)))), (1, (.av (.one (.pv (.int .i64 depth))))), (4, (.av (.one (.ref 2 0)))), (5, (.av (.one (.ref 3 0)))), (6, (.av (.one (.ref 4 0)))), (7, (.av (.one (.pv (.int .u64 kind)))))], [(0, [(.ref 1 0), (.pv (.int .i64 r1))]), (1, [(.pv (.ints .u8 l false)), (.pv (.int .i64 r2)), (.pv (.int .i64 r3))]), (2, [(.pv (.bool false)), (.pv (T_id_halves.pv T_id_halves.nil))]), (3, [(.pv (.bool r4)), (.pv (T_id_halves.pv r5))]), (4, [(.pv (.bool false)), (.pv (T_id_halves.pv T_id_halves.nil))])], []⟩)
noncomputable def code_source_id_C30 (rec_code_source_id_2 : Int → Int → List Int → Int → Int → Option (Bool × T_id_halves × Int × Int × Int)) (depth : Int) (kind : Int) (b : Bool) (n : Int) (l : List Int) (n2 : Int) (n3 : Int) : Option (Int × Int × Int × Bool × T_id_halves) :=
  bif b then
    (rec_code_source_id_2 (iadd .i64 depth 1) n l n2 n3).bind fun (b2, t, n4, n5, n6) =>
    some (n4, n5, n6, b2, t)
  else
    some (n, n2, n3, false, T_id_halves.nil)
theorem code_source_id_C30_runs (rec_code_source_id_2 : Int → Int → List Int → Int → Int → Option (Bool × T_id_halves × Int × Int × Int)) (hrec_code_source_id_2 : ∀ depth n l n2 n3 r_, rec_code_source_id_2 depth n l n2 n3 = some r_ → Runs Tryd.prog 121 [(.one (.ref 0 0)), (.one (.pv (.int .i64 depth)))] [[(.ref 1 0), (.pv (.int .i64 n))], [(.pv (.ints .u8 l false)), (.pv (.int .i64 n2)), (.pv (.int .i64 n3))]] [] (code_source_id_2_out depth n l n2 n3 r_)) (depth : Int) (kind : Int) (b : Bool) (n : Int) (l : List Int) (n2 : Int) (n3 : Int) (r_ : Int × Int × Int × Bool × T_id_halves) (h : code_source_id_C30 rec_code_source_id_2 depth kind b n l n2 n3 = some r_) : LRuns Tryd.prog (lEnv Tryd.prog cfg 121 2).nt 2 (.cond (.tmp 30) (condAt Tryd.prog 121 30).1 (condAt Tryd.prog 121 30).2) ⟨[(0, (.av (.one (.ref 0 0)))), (1, (.av (.one (.pv (.int .i64 depth))))), (4, (.av (.one (.ref 2 0)))), (5, (.av (.one (.ref 3 0)))), (6, (.av (.one (.ref 4 0)))), (7, (.av (.one (.pv (.int .u64 kind))))), (30, (.av (.one (.pv (.bool b)))))], [(0, [(.ref 1 0), (.pv (.int .i64 n))]), (1, [(.pv (.ints .u8 l false)), (.pv (.int .i64 n2)), (.pv (.int .i64 n3))]), (2, [(.pv (.bool false)), (.pv (T_id_halves.pv T_id_halves.nil))]), (3, [(.pv (.bool false)), (.pv (T_id_halves.pv T_id_halves.nil))]), (4, [(.pv (.bool false)), (.pv (T_id_halves.pv T_id_halves.nil))])], []⟩ (code_source_id_C30_ex depth kind b n l n2 n3 r_).1 (code_source_id_C30_ex depth kind b n l n2 n3 r_).2 := by
  unfold code_source_id_C30 at h
  rcases cond_of h with ⟨h1, h⟩ | ⟨h1, h⟩
  · obtain ⟨⟨b2, t, n4, n5, n6⟩, h2, h⟩ := bind_of h
    have h := some_of h
    subst h
    have t_ := tT h1 <| tR (hrec_code_source_id_2 (iadd .i64 depth 1) n l n2 n3 _ h2) <| tN
    exact piece_ok (C := cfg) (sc := t_.ev) (.k0 t_.pf (by kernel_rfl))
  · have h := some_of h
    subst h
    have t_ := tF h1 <| tN
    exact piece_ok (C := cfg) (sc := t_.ev) (.k0 t_.pf (by kernel_rfl))
/-! ### code_source_id_C40 -/
def code_source_id_C40_ex (depth : Int) (kind : Int) (b : Bool) (n : Int) (l : List Int) (n2 : Int) (n3 : Int) (b2 : Bool) (t : T_id_halves) : Int × Int × Int × Bool × T_id_halves → Ex × St
  | (r1, r2, r3, r4, r5) => (.normal, ⟨[(0, (.av (.one (.ref 0 0)))), (4, (.av (.one (.ref 2 0)))), (5, (.av (.one (.ref 3 0)))), (6, (.av (.one (.ref 4 0)))), (7, (.av (.one (.pv (.int .u64 kind)))))], [(0, [(.ref 1 0), (.pv (.int .i64 r1))]), (1, [(.pv (.ints .u8 l false)), (.pv (.int .i64 r2)), (.pv (.int .i64 r3))]), (2, [(.pv (.bool false)), (.pv (T_id_halves.pv T_id_halves.nil))]), (3, [(.pv (.bool b2)), (.pv (T_id_halves.pv t))]), (4, [(.pv (.bool r4)), (.pv (T_id_halves.pv r5))])], []⟩)
noncomputable def code_source_id_C40 (rec_code_source_id_2 : Int → Int → List Int → Int → Int → Option (Bool × T_id_halves × Int × Int × Int)) (depth : Int) (kind : Int) (b : Bool) (n : Int) (l : List Int) (n2 : Int) (n3 : Int) (b2 : Bool) (t : T_id_halves) : Option (Int × Int × Int × Bool × T_id_halves) :=
  bif b then
    (rec_code_source_id_2 (iadd .i64 depth 1) n l n2 n3).bind fun (b3, t2, n4, n5, n6) =>
    some (n4, n5, n6, b3, t2)
  else
    some (n, n2, n3, false, T_id_halves.nil)
theorem code_source_id_C40_runs (rec_code_source_id_2 : Int → Int → List Int → Int → Int → Option (Bool × T_id_halves × Int × Int × Int)) (hrec_code_source_id_2 : ∀ depth n l n2 n3 r_, rec_code_source_id_2 depth n l n2 n3 = some r_ → Runs Tryd.prog 121 [(.one (.ref 0 0)), (.one (.pv (.int .i64 depth)))] [[(.ref 1 0), (.pv (.int .i64 n))], [(.pv (.ints .u8 l false)), (.pv (.int .i64 n2)), (.pv (.int .i64 n3))]] [] (code_source_id_2_out depth n l n2 n3 r_)) (depth : Int) (kind : Int) (b : Bool) (n : Int) (l : List Int) (n2 : Int) (n3 : Int) (b2 : Bool) (t : T_id_halves) (r_ : Int × Int × Int × Bool × T_id_halves) (h : code_source_id_C40 rec_code_source_id_2 depth kind b n l n2 n3 b2 t = some r_) : LRuns Tryd.prog (lEnv Tryd.prog cfg 121 2).nt 2 (.cond (.tmp 40) (condAt Tryd.prog 121 40).1 (condAt Tryd.prog 121 40).2) ⟨[(0, (.av (.one (.ref 0 0)))), (1, (.av (.one (.pv (.int .i64 depth))))), (4, (.av (.one (.ref 2 0)))), (5, (.av (.one (.ref 3 0)))), (6, (.av (.one (.ref 4 0)))), (7, (.av (.one (.pv (.int .u64 kind))))), (40, (.av (.one (.pv (.bool b)))))], [(0, [(.ref 1 0), (.pv (.int .i64 n))]), (1, [(.pv (.ints .u8 l false)), (.pv (.int .i64 n2)), (.pv (.int .i64 n3))]), (2, [(.pv (.bool false)), (.pv (T_id_halves.pv T_id_halves.nil))]), (3, [(.pv (.bool b2)), (.pv (T_id_halves.pv t))]), (4, [(.pv (.bool false)), (.pv (T_id_halves.pv T_id_halves.nil))])], []⟩ (code_source_id_C40_ex depth kind b n l n2 n3 b2 t r_).1 (code_source_id_C40_ex depth kind b n l n2 n3 b2 t r_).2 := by
  unfold code_source_id_C40 at h
  rcases cond_of h with ⟨h1, h⟩ | ⟨h1, h⟩
  · obtain ⟨⟨b3, t2, n4, n5, n6⟩, h2, h⟩ := bind_of h
    have h := some_of h
    subst h
    have t_ := tT h1 <| tR (hrec_code_source_id_2 (iadd .i64 depth 1) n l n2 n3 _ h2) <| tN
    exact piece_ok (C := cfg) (sc := t_.ev) (.k0 t_.pf (by kernel_rfl))
  · have h := some_of h
    subst h
    have t_ := tF h1 <| tN
    exact piece_ok (C := cfg) (sc := t_.ev) (.k0 t_.pf (by kernel_rfl))
/-! ### code_source_id_C40_2 -/
def code_source_id_C40_2_ex (depth : Int) (kind : Int) (b : Bool) (n : Int) (l : List Int) (n2 : Int) (n3 : Int) : Int × Int × Int × Bool × T_id_halves → Ex × St
  | (r1, r2, r3, r4, r5) => (.normal, ⟨[(0, (.av (.one (.ref 0 0)))), (4, (.av (.one (.ref 2 0)))), (5, (.av (.one (.ref 3 0)))), (6, (.av (.one (.ref 4 0)))), (7, (.av (.one (.pv (.int .u64 kind)))))], [(0, [(.ref 1 0), (.pv (.int .i64 r1))]), (1, [(.pv (.ints .u8 l false)), (.pv (.int .i64 r2)), (.pv (.int .i64 r3))]), (2, [(.pv (.bool false)), (.pv (T_id_halves.pv T_id_halves.nil))]), (3, [(.pv (.bool false)), (.pv (T_id_halves.pv T_id_halves.nil))]), (4, [(.pv (.bool r4)), (.pv (T_id_halves.pv r5))])], []⟩)
noncomputable def code_source_id_C40_2 (rec_code_source_id_2 : Int → Int → List Int → Int → Int → Option (Bool × T_id_halves × Int × Int × Int)) (depth : Int) (kind : Int) (b : Bool) (n : Int) (l : List Int) (n2 : Int) (n3 : Int) : Option (Int × Int × Int × Bool × T_id_halves) :=
  bif b then
    (rec_code_source_id_2 (iadd .i64 depth 1) n l n2 n3).bind fun (b2, t, n4, n5, n6) =>
    some (n4, n5, n6, b2, t)
  else
    some (n, n2, n3, false, T_id_halves.nil)
theorem code_source_id_C40_2_runs (rec_code_source_id_2 : Int → Int → List Int → Int → Int → Option (Bool × T_id_halves × Int × Int × Int)) (hrec_code_source_id_2 : ∀ depth n l n2 n3 r_, rec_code_source_id_2 depth n l n2 n3 = some r_ → Runs Tryd.prog 121 [(.one (.ref 0 0)), (.one (.pv (.int .i64 depth)))] [[(.ref 1 0), (.pv (.int .i64 n))], [(.pv (.ints .u8 l false)), (.pv (.int .i64 n2)), (.pv (.int .i64 n3))]] [] (code_source_id_2_out depth n l n2 n3 r_)) (depth : Int) (kind : Int) (b : Bool) (n : Int) (l : List Int) (n2 : Int) (n3 : Int) (r_ : Int × Int × Int × Bool × T_id_halves) (h : code_source_id_C40_2 rec_code_source_id_2 depth kind b n l n2 n3 = some r_) : LRuns Tryd.prog (lEnv Tryd.prog cfg 121 2).nt 2 (.cond (.tmp 40) (condAt Tryd.prog 121 40).1 (condAt Tryd.prog 121 40).2) ⟨[(0, (.av (.one (.ref 0 0)))), (1, (.av (.one (.pv (.int .i64 depth))))), (4, (.av (.one (.ref 2 0)))), (5, (.av (.one (.ref 3 0)))), (6, (.av (.one (.ref 4 0)))), (7, (.av (.one (.pv (.int .u64 kind))))), (40, (.av (.one (.pv (.bool b)))))], [(0, [(.ref 1 0), (.pv (.int .i64 n))]), (1, [(.pv (.ints .u8 l false)), (.pv (.int .i64 n2)), (.pv (.int .i64 n3))]), (2, [(.pv (.bool false)), (.pv (T_id_halves.pv T_id_halves.nil))]), (3, [(.pv (.bool false)), (.pv (T_id_halves.pv T_id_halves.nil))]), (4, [(.pv (.bool false)), (.pv (T_id_halves.pv T_id_halves.nil))])], []⟩ (code_source_id_C40_2_ex depth kind b n l n2 n3 r_).1 (code_source_id_C40_2_ex depth kind b n l n2 n3 r_).2 := by
  unfold code_source_id_C40_2 at h
  rcases cond_of h with ⟨h1, h⟩ | ⟨h1, h⟩
  · obtain ⟨⟨b2, t, n4, n5, n6⟩, h2, h⟩ := bind_of h
    have h := some_of h
    subst h
    have t_ := tT h1 <| tR (hrec_code_source_id_2 (iadd .i64 depth 1) n l n2 n3 _ h2) <| tN
    exact piece_ok (C := cfg) (sc := t_.ev) (.k0 t_.pf (by kernel_rfl))
  · have h := some_of h
    subst h
    have t_ := tF h1 <| tN
    exact piece_ok (C := cfg) (sc := t_.ev) (.k0 t_.pf (by kernel_rfl))
/-! ### code_source_id_2 -/
noncomputable def code_source_id_2_b (N : Nat) (rec_code_source_id_2 : Int → Int → List Int → Int → Int → Option (Bool × T_id_halves × Int × Int × Int)) (depth : Int) (n : Int) (l : List Int) (n2 : Int) (n3 : Int) : Option (Bool × T_id_halves × Int × Int × Int) :=
  (id_Zero).bind fun _ =>
  (code_source_bit 2 n l n2 n3).bind fun (n4, n5, n6, n7) =>
  bif (decide ((n4 : Int) = 0)) then
    (code_source_bit 1 n5 l n6 n7).bind fun (n8, n9, n10, n11) =>
    bif (decide ((n8 : Int) = 1)) then
      (id_One).bind fun _ =>
      some (true, T_id_halves.nil, n9, n10, n11)
    else
      some (false, T_id_halves.nil, n9, n10, n11)
  else
    (code_source_id_C22 depth n4 (decide ((depth : Int) = 16)) n5 l n6 n7).bind fun n8 =>
    (code_source_ok n8 l n6 n7).bind fun (b, n9) =>
    bif b then
      (code_source_id_C30 rec_code_source_id_2 depth n4 (!(decide ((n4 : Int) = 1))) n9 l n6 n7).bind fun (n10, n11, n12, b2, t) =>
      (code_source_ok n10 l n11 n12).bind fun (b3, n13) =>
      bif b3 then
        (code_source_id_C40 rec_code_source_id_2 depth n4 (!(decide ((n4 : Int) = 2))) n13 l n11 n12 b2 t).bind fun (n14, n15, n16, b4, t2) =>
        (id_ID_IsZero b2 t).bind fun b5 =>
        bif (b5 == (decide ((n4 : Int) = 1))) then
          (id_ID_IsZero b4 t2).bind fun b6 =>
          bif (b6 == (decide ((n4 : Int) = 2))) then
            (id_ID_IsOne b2 t).bind fun _ =>
            bif b2 then
              (id_ID_IsOne b4 t2).bind fun _ =>
              (code_source_must (!b4) n14 l n15 n16).bind fun n17 =>
              (id_Pair N b2 t b4 t2).bind fun (b7, t3, n18) =>
              some (b7, t3, n17, n15, n16)
            else
              (code_source_must true n14 l n15 n16).bind fun n17 =>
              (id_Pair N b2 t b4 t2).bind fun (b7, t3, n18) =>
              some (b7, t3, n17, n15, n16)
          else
            (code_source_must false n14 l n15 n16).bind fun n17 =>
            (id_Pair N b2 t b4 t2).bind fun (b7, t3, n18) =>
            some (b7, t3, n17, n15, n16)
        else
          (code_source_must false n14 l n15 n16).bind fun n17 =>
          (id_Pair N b2 t b4 t2).bind fun (b6, t3, n18) =>
          some (b6, t3, n17, n15, n16)
      else
        (id_ID_IsZero b2 t).bind fun b4 =>
        bif (b4 == (decide ((n4 : Int) = 1))) then
          (id_ID_IsZero false T_id_halves.nil).bind fun b5 =>
          bif (b5 == (decide ((n4 : Int) = 2))) then
            (id_ID_IsOne b2 t).bind fun _ =>
            bif b2 then
              (id_ID_IsOne false T_id_halves.nil).bind fun _ =>
              (code_source_must true n13 l n11 n12).bind fun n14 =>
              (id_Pair N b2 t false T_id_halves.nil).bind fun (b6, t2, n15) =>
              some (b6, t2, n14, n11, n12)
            else
              (code_source_must true n13 l n11 n12).bind fun n14 =>
              (id_Pair N b2 t false T_id_halves.nil).bind fun (b6, t2, n15) =>
              some (b6, t2, n14, n11, n12)
          else
            (code_source_must false n13 l n11 n12).bind fun n14 =>
            (id_Pair N b2 t false T_id_halves.nil).bind fun (b6, t2, n15) =>
            some (b6, t2, n14, n11, n12)
        else
          (code_source_must false n13 l n11 n12).bind fun n14 =>
          (id_Pair N b2 t false T_id_halves.nil).bind fun (b5, t2, n15) =>
          some (b5, t2, n14, n11, n12)
    else
      (code_source_ok n9 l n6 n7).bind fun (b2, n10) =>
      bif b2 then
        (code_source_id_C40_2 rec_code_source_id_2 depth n4 (!(decide ((n4 : Int) = 2))) n10 l n6 n7).bind fun (n11, n12, n13, b3, t) =>
        (id_ID_IsZero false T_id_halves.nil).bind fun b4 =>
        bif (b4 == (decide ((n4 : Int) = 1))) then
          (id_ID_IsZero b3 t).bind fun b5 =>
          bif (b5 == (decide ((n4 : Int) = 2))) then
            (id_ID_IsOne false T_id_halves.nil).bind fun _ =>
            (code_source_must true n11 l n12 n13).bind fun n14 =>
            (id_Pair N false T_id_halves.nil b3 t).bind fun (b6, t2, n15) =>
            some (b6, t2, n14, n12, n13)
          else
            (code_source_must false n11 l n12 n13).bind fun n14 =>
            (id_Pair N false T_id_halves.nil b3 t).bind fun (b6, t2, n15) =>
            some (b6, t2, n14, n12, n13)
        else
          (code_source_must false n11 l n12 n13).bind fun n14 =>
          (id_Pair N false T_id_halves.nil b3 t).bind fun (b5, t2, n15) =>
          some (b5, t2, n14, n12, n13)
      else
        (id_ID_IsZero false T_id_halves.nil).bind fun b3 =>
        bif (b3 == (decide ((n4 : Int) = 1))) then
          bif (b3 == (decide ((n4 : Int) = 2))) then
            (id_ID_IsOne false T_id_halves.nil).bind fun _ =>
            (code_source_must true n10 l n6 n7).bind fun n11 =>
            (id_Pair N false T_id_halves.nil false T_id_halves.nil).bind fun (b4, t, n12) =>
            some (b4, t, n11, n6, n7)
          else
            (code_source_must false n10 l n6 n7).bind fun n11 =>
            (id_Pair N false T_id_halves.nil false T_id_halves.nil).bind fun (b4, t, n12) =>
            some (b4, t, n11, n6, n7)
        else
          (code_source_must false n10 l n6 n7).bind fun n11 =>
          (id_Pair N false T_id_halves.nil false T_id_halves.nil).bind fun (b4, t, n12) =>
          some (b4, t, n11, n6, n7)
theorem code_source_id_2_b_runs (N : Nat) (rec_code_source_id_2 : Int → Int → List Int → Int → Int → Option (Bool × T_id_halves × Int × Int × Int)) (hrec_code_source_id_2 : ∀ depth n l n2 n3 r_, rec_code_source_id_2 depth n l n2 n3 = some r_ → Runs Tryd.prog 121 [(.one (.ref 0 0)), (.one (.pv (.int .i64 depth)))] [[(.ref 1 0), (.pv (.int .i64 n))], [(.pv (.ints .u8 l false)), (.pv (.int .i64 n2)), (.pv (.int .i64 n3))]] [] (code_source_id_2_out depth n l n2 n3 r_)) (depth : Int) (n : Int) (l : List Int) (n2 : Int) (n3 : Int) (r_ : Bool × T_id_halves × Int × Int × Int) (h : code_source_id_2_b N rec_code_source_id_2 depth n l n2 n3 = some r_) : Runs Tryd.prog 121 [(.one (.ref 0 0)), (.one (.pv (.int .i64 depth)))] [[(.ref 1 0), (.pv (.int .i64 n))], [(.pv (.ints .u8 l false)), (.pv (.int .i64 n2)), (.pv (.int .i64 n3))]] [] (code_source_id_2_out depth n l n2 n3 r_) := by
  unfold code_source_id_2_b at h
  obtain ⟨_, h1, h⟩ := bind_of h
  obtain ⟨⟨n4, n5, n6, n7⟩, h2, h⟩ := bind_of h
  rcases cond_of h with ⟨h3, h⟩ | ⟨h3, h⟩
  · obtain ⟨⟨n8, n9, n10, n11⟩, h4, h⟩ := bind_of h
    rcases cond_of h with ⟨h5, h⟩ | ⟨h5, h⟩
    · obtain ⟨_, h6, h⟩ := bind_of h
      have h := some_of h
      subst h
      have t_ := tR (id_Zero_runs _ h1) <| tR (id_Zero_runs _ h1) <| tR (code_source_bit_runs 2 n l n2 n3 _ h2) <| tT h3 <| tR (code_source_bit_runs 1 n5 l n6 n7 _ h4) <| tT h5 <| tR (id_One_runs _ h6) <| tN
      exact runs_of (C := cfg) (objs := [[(.ref 1 0), (.pv (.int .i64 n))], [(.pv (.ints .u8 l false)), (.pv (.int .i64 n2)), (.pv (.int .i64 n3))]]) (sc := t_.ev) (.k0 t_.pf (by kernel_rfl))
    · have h := some_of h
      subst h
      have t_ := tR (id_Zero_runs _ h1) <| tR (id_Zero_runs _ h1) <| tR (code_source_bit_runs 2 n l n2 n3 _ h2) <| tT h3 <| tR (code_source_bit_runs 1 n5 l n6 n7 _ h4) <| tF h5 <| tR (id_Zero_runs _ h1) <| tN
      exact runs_of (C := cfg) (objs := [[(.ref 1 0), (.pv (.int .i64 n))], [(.pv (.ints .u8 l false)), (.pv (.int .i64 n2)), (.pv (.int .i64 n3))]]) (sc := t_.ev) (.k0 t_.pf (by kernel_rfl))
  · obtain ⟨n8, h4, h⟩ := bind_of h
    have q_4 := (LRuns.coe (s0 := ⟨[(0, (.av (.one (.ref 0 0)))), (1, (.av (.one (.pv (.int .i64 depth))))), (4, (.av (.one (.ref 2 0)))), (5, (.av (.one (.ref 3 0)))), (6, (.av (.one (.ref 4 0)))), (7, (.av (.one (.pv (.int .u64 n4))))), (22, (.av (.one (.pv (.bool (decide ((depth : Int) = 16)))))))], [(0, [(.ref 1 0), (.pv (.int .i64 n5))]), (1, [(.pv (.ints .u8 l false)), (.pv (.int .i64 n6)), (.pv (.int .i64 n7))]), (2, [(.pv (.bool false)), (.pv .nilp)]), (3, [(.pv (.bool false)), (.pv (T_id_halves.pv T_id_halves.nil))]), (4, [(.pv (.bool false)), (.pv (T_id_halves.pv T_id_halves.nil))])], []⟩) (code_source_id_C22_runs depth n4 (decide ((depth : Int) = 16)) n5 l n6 n7 _ h4) ⟨⟨⟨_, rfl, .eq rfl⟩, ⟨_, rfl, .eq rfl⟩, ⟨_, rfl, .eq rfl⟩, ⟨_, rfl, .eq rfl⟩, ⟨_, rfl, .eq rfl⟩, ⟨_, rfl, .eq rfl⟩, ⟨_, rfl, .eq rfl⟩, trivial⟩, ⟨⟨rfl, ⟨.eq rfl, .eq rfl, trivial⟩⟩, ⟨rfl, ⟨.eq rfl, .eq rfl, .eq rfl, trivial⟩⟩, ⟨rfl, ⟨.eq rfl, .eq rfl, trivial⟩⟩, ⟨rfl, ⟨.eq rfl, .eq rfl, trivial⟩⟩, ⟨rfl, ⟨.eq rfl, .eq rfl, trivial⟩⟩, trivial⟩, trivial⟩)
    obtain ⟨⟨b, n9⟩, h5, h⟩ := bind_of h
    rcases cond_of h with ⟨h6, h⟩ | ⟨h6, h⟩
    · obtain ⟨⟨n10, n11, n12, b2, t⟩, h7, h⟩ := bind_of h
      have q_7 := (code_source_id_C30_runs rec_code_source_id_2 hrec_code_source_id_2 depth n4 (!(decide ((n4 : Int) = 1))) n9 l n6 n7 _ h7)
      obtain ⟨⟨b3, n13⟩, h8, h⟩ := bind_of h
      rcases cond_of h with ⟨h9, h⟩ | ⟨h9, h⟩
      · obtain ⟨⟨n14, n15, n16, b4, t2⟩, h10, h⟩ := bind_of h
        have q_10 := (code_source_id_C40_runs rec_code_source_id_2 hrec_code_source_id_2 depth n4 (!(decide ((n4 : Int) = 2))) n13 l n11 n12 b2 t _ h10)
        obtain ⟨b5, h11, h⟩ := bind_of h
        rcases cond_of h with ⟨h12, h⟩ | ⟨h12, h⟩
        · obtain ⟨b6, h13, h⟩ := bind_of h
          rcases cond_of h with ⟨h14, h⟩ | ⟨h14, h⟩
          · obtain ⟨_, h15, h⟩ := bind_of h
            rcases cond_of h with ⟨h16, h⟩ | ⟨h16, h⟩
            · obtain ⟨_, h17, h⟩ := bind_of h
              obtain ⟨n17, h18, h⟩ := bind_of h
              obtain ⟨⟨b7, t3, n18⟩, h19, h⟩ := bind_of h
              have h := some_of h
              subst h
              have t_ := tR (id_Zero_runs _ h1) <| tR (id_Zero_runs _ h1) <| tR (code_source_bit_runs 2 n l n2 n3 _ h2) <| tF h3 <| tL q_4 <| tR (code_source_ok_runs n8 l n6 n7 _ h5) <| tT h6 <| tL q_7 <| tR (code_source_ok_runs n10 l n11 n12 _ h8) <| tT h9 <| tL q_10 <| tR (id_ID_IsZero_runs b2 t _ h11) <| tT h12 <| tR (id_ID_IsZero_runs b4 t2 _ h13) <| tT h14 <| tR (id_ID_IsOne_runs b2 t _ h15) <| tT h16 <| tR (id_ID_IsOne_runs b4 t2 _ h17) <| tR (code_source_must_runs (!b4) n14 l n15 n16 _ h18) <| tR (id_Pair_runs N b2 t b4 t2 _ h19) <| tN
              exact runs_of (C := cfg) (objs := [[(.ref 1 0), (.pv (.int .i64 n))], [(.pv (.ints .u8 l false)), (.pv (.int .i64 n2)), (.pv (.int .i64 n3))]]) (sc := t_.ev) (.k0 t_.pf (by kernel_rfl))
            · obtain ⟨n17, h17, h⟩ := bind_of h
              obtain ⟨⟨b7, t3, n18⟩, h18, h⟩ := bind_of h
              have h := some_of h
              subst h
              have t_ := tR (id_Zero_runs _ h1) <| tR (id_Zero_runs _ h1) <| tR (code_source_bit_runs 2 n l n2 n3 _ h2) <| tF h3 <| tL q_4 <| tR (code_source_ok_runs n8 l n6 n7 _ h5) <| tT h6 <| tL q_7 <| tR (code_source_ok_runs n10 l n11 n12 _ h8) <| tT h9 <| tL q_10 <| tR (id_ID_IsZero_runs b2 t _ h11) <| tT h12 <| tR (id_ID_IsZero_runs b4 t2 _ h13) <| tT h14 <| tR (id_ID_IsOne_runs b2 t _ h15) <| tF h16 <| tR (code_source_must_runs true n14 l n15 n16 _ h17) <| tR (id_Pair_runs N b2 t b4 t2 _ h18) <| tN
              exact runs_of (C := cfg) (objs := [[(.ref 1 0), (.pv (.int .i64 n))], [(.pv (.ints .u8 l false)), (.pv (.int .i64 n2)), (.pv (.int .i64 n3))]]) (sc := t_.ev) (.k0 t_.pf (by kernel_rfl))
          · obtain ⟨n17, h15, h⟩ := bind_of h
            obtain ⟨⟨b7, t3, n18⟩, h16, h⟩ := bind_of h
            have h := some_of h
            subst h
            have t_ := tR (id_Zero_runs _ h1) <| tR (id_Zero_runs _ h1) <| tR (code_source_bit_runs 2 n l n2 n3 _ h2) <| tF h3 <| tL q_4 <| tR (code_source_ok_runs n8 l n6 n7 _ h5) <| tT h6 <| tL q_7 <| tR (code_source_ok_runs n10 l n11 n12 _ h8) <| tT h9 <| tL q_10 <| tR (id_ID_IsZero_runs b2 t _ h11) <| tT h12 <| tR (id_ID_IsZero_runs b4 t2 _ h13) <| tF h14 <| tR (code_source_must_runs false n14 l n15 n16 _ h15) <| tR (id_Pair_runs N b2 t b4 t2 _ h16) <| tN
            exact runs_of (C := cfg) (objs := [[(.ref 1 0), (.pv (.int .i64 n))], [(.pv (.ints .u8 l false)), (.pv (.int .i64 n2)), (.pv (.int .i64 n3))]]) (sc := t_.ev) (.k0 t_.pf (by kernel_rfl))
        · obtain ⟨n17, h13, h⟩ := bind_of h
          obtain ⟨⟨b6, t3, n18⟩, h14, h⟩ := bind_of h
          have h := some_of h
          subst h
          have t_ := tR (id_Zero_runs _ h1) <| tR (id_Zero_runs _ h1) <| tR (code_source_bit_runs 2 n l n2 n3 _ h2) <| tF h3 <| tL q_4 <| tR (code_source_ok_runs n8 l n6 n7 _ h5) <| tT h6 <| tL q_7 <| tR (code_source_ok_runs n10 l n11 n12 _ h8) <| tT h9 <| tL q_10 <| tR (id_ID_IsZero_runs b2 t _ h11) <| tF h12 <| tF (rfl : false = false) <| tR (code_source_must_runs false n14 l n15 n16 _ h13) <| tR (id_Pair_runs N b2 t b4 t2 _ h14) <| tN
          exact runs_of (C := cfg) (objs := [[(.ref 1 0), (.pv (.int .i64 n))], [(.pv (.ints .u8 l false)), (.pv (.int .i64 n2)), (.pv (.int .i64 n3))]]) (sc := t_.ev) (.k0 t_.pf (by kernel_rfl))
      · obtain ⟨b4, h10, h⟩ := bind_of h
        rcases cond_of h with ⟨h11, h⟩ | ⟨h11, h⟩
        · obtain ⟨b5, h12, h⟩ := bind_of h
          rcases cond_of h with ⟨h13, h⟩ | ⟨h13, h⟩
          · obtain ⟨_, h14, h⟩ := bind_of h
            rcases cond_of h with ⟨h15, h⟩ | ⟨h15, h⟩
            · obtain ⟨_, h16, h⟩ := bind_of h
              obtain ⟨n14, h17, h⟩ := bind_of h
              obtain ⟨⟨b6, t2, n15⟩, h18, h⟩ := bind_of h
              have h := some_of h
              subst h
              have t_ := tR (id_Zero_runs _ h1) <| tR (id_Zero_runs _ h1) <| tR (code_source_bit_runs 2 n l n2 n3 _ h2) <| tF h3 <| tL q_4 <| tR (code_source_ok_runs n8 l n6 n7 _ h5) <| tT h6 <| tL q_7 <| tR (code_source_ok_runs n10 l n11 n12 _ h8) <| tF h9 <| tF (rfl : false = false) <| tR (id_ID_IsZero_runs b2 t _ h10) <| tT h11 <| tR (id_ID_IsZero_runs false T_id_halves.nil _ h12) <| tT h13 <| tR (id_ID_IsOne_runs b2 t _ h14) <| tT h15 <| tR (id_ID_IsOne_runs false T_id_halves.nil _ h16) <| tR (code_source_must_runs true n13 l n11 n12 _ h17) <| tR (id_Pair_runs N b2 t false T_id_halves.nil _ h18) <| tN
              exact runs_of (C := cfg) (objs := [[(.ref 1 0), (.pv (.int .i64 n))], [(.pv (.ints .u8 l false)), (.pv (.int .i64 n2)), (.pv (.int .i64 n3))]]) (sc := t_.ev) (.k0 t_.pf (by kernel_rfl))
            · obtain ⟨n14, h16, h⟩ := bind_of h
              obtain ⟨⟨b6, t2, n15⟩, h17, h⟩ := bind_of h
              have h := some_of h
              subst h
              have t_ := tR (id_Zero_runs _ h1) <| tR (id_Zero_runs _ h1) <| tR (code_source_bit_runs 2 n l n2 n3 _ h2) <| tF h3 <| tL q_4 <| tR (code_source_ok_runs n8 l n6 n7 _ h5) <| tT h6 <| tL q_7 <| tR (code_source_ok_runs n10 l n11 n12 _ h8) <| tF h9 <| tF (rfl : false = false) <| tR (id_ID_IsZero_runs b2 t _ h10) <| tT h11 <| tR (id_ID_IsZero_runs false T_id_halves.nil _ h12) <| tT h13 <| tR (id_ID_IsOne_runs b2 t _ h14) <| tF h15 <| tR (code_source_must_runs true n13 l n11 n12 _ h16) <| tR (id_Pair_runs N b2 t false T_id_halves.nil _ h17) <| tN
              exact runs_of (C := cfg) (objs := [[(.ref 1 0), (.pv (.int .i64 n))], [(.pv (.ints .u8 l false)), (.pv (.int .i64 n2)), (.pv (.int .i64 n3))]]) (sc := t_.ev) (.k0 t_.pf (by kernel_rfl))
          · obtain ⟨n14, h14, h⟩ := bind_of h
            obtain ⟨⟨b6, t2, n15⟩, h15, h⟩ := bind_of h
            have h := some_of h
            subst h
            have t_ := tR (id_Zero_runs _ h1) <| tR (id_Zero_runs _ h1) <| tR (code_source_bit_runs 2 n l n2 n3 _ h2) <| tF h3 <| tL q_4 <| tR (code_source_ok_runs n8 l n6 n7 _ h5) <| tT h6 <| tL q_7 <| tR (code_source_ok_runs n10 l n11 n12 _ h8) <| tF h9 <| tF (rfl : false = false) <| tR (id_ID_IsZero_runs b2 t _ h10) <| tT h11 <| tR (id_ID_IsZero_runs false T_id_halves.nil _ h12) <| tF h13 <| tR (code_source_must_runs false n13 l n11 n12 _ h14) <| tR (id_Pair_runs N b2 t false T_id_halves.nil _ h15) <| tN
            exact runs_of (C := cfg) (objs := [[(.ref 1 0), (.pv (.int .i64 n))], [(.pv (.ints .u8 l false)), (.pv (.int .i64 n2)), (.pv (.int .i64 n3))]]) (sc := t_.ev) (.k0 t_.pf (by kernel_rfl))
        · obtain ⟨n14, h12, h⟩ := bind_of h
          obtain ⟨⟨b5, t2, n15⟩, h13, h⟩ := bind_of h
          have h := some_of h
          subst h
          have t_ := tR (id_Zero_runs _ h1) <| tR (id_Zero_runs _ h1) <| tR (code_source_bit_runs 2 n l n2 n3 _ h2) <| tF h3 <| tL q_4 <| tR (code_source_ok_runs n8 l n6 n7 _ h5) <| tT h6 <| tL q_7 <| tR (code_source_ok_runs n10 l n11 n12 _ h8) <| tF h9 <| tF (rfl : false = false) <| tR (id_ID_IsZero_runs b2 t _ h10) <| tF h11 <| tF (rfl : false = false) <| tR (code_source_must_runs false n13 l n11 n12 _ h12) <| tR (id_Pair_runs N b2 t false T_id_halves.nil _ h13) <| tN
          exact runs_of (C := cfg) (objs := [[(.ref 1 0), (.pv (.int .i64 n))], [(.pv (.ints .u8 l false)), (.pv (.int .i64 n2)), (.pv (.int .i64 n3))]]) (sc := t_.ev) (.k0 t_.pf (by kernel_rfl))
    · obtain ⟨⟨b2, n10⟩, h7, h⟩ := bind_of h
      rcases cond_of h with ⟨h8, h⟩ | ⟨h8, h⟩
      · obtain ⟨⟨n11, n12, n13, b3, t⟩, h9, h⟩ := bind_of h
        have q_9 := (code_source_id_C40_2_runs rec_code_source_id_2 hrec_code_source_id_2 depth n4 (!(decide ((n4 : Int) = 2))) n10 l n6 n7 _ h9)
        obtain ⟨b4, h10, h⟩ := bind_of h
        rcases cond_of h with ⟨h11, h⟩ | ⟨h11, h⟩
        · obtain ⟨b5, h12, h⟩ := bind_of h
          rcases cond_of h with ⟨h13, h⟩ | ⟨h13, h⟩
          · obtain ⟨_, h14, h⟩ := bind_of h
            obtain ⟨n14, h15, h⟩ := bind_of h
            obtain ⟨⟨b6, t2, n15⟩, h16, h⟩ := bind_of h
            have h := some_of h
            subst h
            have t_ := tR (id_Zero_runs _ h1) <| tR (id_Zero_runs _ h1) <| tR (code_source_bit_runs 2 n l n2 n3 _ h2) <| tF h3 <| tL q_4 <| tR (code_source_ok_runs n8 l n6 n7 _ h5) <| tF h6 <| tF (rfl : false = false) <| tR (code_source_ok_runs n9 l n6 n7 _ h7) <| tT h8 <| tL q_9 <| tR (id_ID_IsZero_runs false T_id_halves.nil _ h10) <| tT h11 <| tR (id_ID_IsZero_runs b3 t _ h12) <| tT h13 <| tR (id_ID_IsOne_runs false T_id_halves.nil _ h14) <| tF (rfl : false = false) <| tR (code_source_must_runs true n11 l n12 n13 _ h15) <| tR (id_Pair_runs N false T_id_halves.nil b3 t _ h16) <| tN
            exact runs_of (C := cfg) (objs := [[(.ref 1 0), (.pv (.int .i64 n))], [(.pv (.ints .u8 l false)), (.pv (.int .i64 n2)), (.pv (.int .i64 n3))]]) (sc := t_.ev) (.k0 t_.pf (by kernel_rfl))
          · obtain ⟨n14, h14, h⟩ := bind_of h
            obtain ⟨⟨b6, t2, n15⟩, h15, h⟩ := bind_of h
            have h := some_of h
            subst h
            have t_ := tR (id_Zero_runs _ h1) <| tR (id_Zero_runs _ h1) <| tR (code_source_bit_runs 2 n l n2 n3 _ h2) <| tF h3 <| tL q_4 <| tR (code_source_ok_runs n8 l n6 n7 _ h5) <| tF h6 <| tF (rfl : false = false) <| tR (code_source_ok_runs n9 l n6 n7 _ h7) <| tT h8 <| tL q_9 <| tR (id_ID_IsZero_runs false T_id_halves.nil _ h10) <| tT h11 <| tR (id_ID_IsZero_runs b3 t _ h12) <| tF h13 <| tR (code_source_must_runs false n11 l n12 n13 _ h14) <| tR (id_Pair_runs N false T_id_halves.nil b3 t _ h15) <| tN
            exact runs_of (C := cfg) (objs := [[(.ref 1 0), (.pv (.int .i64 n))], [(.pv (.ints .u8 l false)), (.pv (.int .i64 n2)), (.pv (.int .i64 n3))]]) (sc := t_.ev) (.k0 t_.pf (by kernel_rfl))
        · obtain ⟨n14, h12, h⟩ := bind_of h
          obtain ⟨⟨b5, t2, n15⟩, h13, h⟩ := bind_of h
          have h := some_of h
          subst h
          have t_ := tR (id_Zero_runs _ h1) <| tR (id_Zero_runs _ h1) <| tR (code_source_bit_runs 2 n l n2 n3 _ h2) <| tF h3 <| tL q_4 <| tR (code_source_ok_runs n8 l n6 n7 _ h5) <| tF h6 <| tF (rfl : false = false) <| tR (code_source_ok_runs n9 l n6 n7 _ h7) <| tT h8 <| tL q_9 <| tR (id_ID_IsZero_runs false T_id_halves.nil _ h10) <| tF h11 <| tF (rfl : false = false) <| tR (code_source_must_runs false n11 l n12 n13 _ h12) <| tR (id_Pair_runs N false T_id_halves.nil b3 t _ h13) <| tN
          exact runs_of (C := cfg) (objs := [[(.ref 1 0), (.pv (.int .i64 n))], [(.pv (.ints .u8 l false)), (.pv (.int .i64 n2)), (.pv (.int .i64 n3))]]) (sc := t_.ev) (.k0 t_.pf (by kernel_rfl))
      · obtain ⟨b3, h9, h⟩ := bind_of h
        rcases cond_of h with ⟨h10, h⟩ | ⟨h10, h⟩
        · rcases cond_of h with ⟨h11, h⟩ | ⟨h11, h⟩
          · obtain ⟨_, h12, h⟩ := bind_of h
            obtain ⟨n11, h13, h⟩ := bind_of h
            obtain ⟨⟨b4, t, n12⟩, h14, h⟩ := bind_of h
            have h := some_of h
            subst h
            have t_ := tR (id_Zero_runs _ h1) <| tR (id_Zero_runs _ h1) <| tR (code_source_bit_runs 2 n l n2 n3 _ h2) <| tF h3 <| tL q_4 <| tR (code_source_ok_runs n8 l n6 n7 _ h5) <| tF h6 <| tF (rfl : false = false) <| tR (code_source_ok_runs n9 l n6 n7 _ h7) <| tF h8 <| tF (rfl : false = false) <| tR (id_ID_IsZero_runs false T_id_halves.nil _ h9) <| tT h10 <| tR (id_ID_IsZero_runs false T_id_halves.nil _ h9) <| tT h11 <| tR (id_ID_IsOne_runs false T_id_halves.nil _ h12) <| tF (rfl : false = false) <| tR (code_source_must_runs true n10 l n6 n7 _ h13) <| tR (id_Pair_runs N false T_id_halves.nil false T_id_halves.nil _ h14) <| tN
            exact runs_of (C := cfg) (objs := [[(.ref 1 0), (.pv (.int .i64 n))], [(.pv (.ints .u8 l false)), (.pv (.int .i64 n2)), (.pv (.int .i64 n3))]]) (sc := t_.ev) (.k0 t_.pf (by kernel_rfl))
          · obtain ⟨n11, h12, h⟩ := bind_of h
            obtain ⟨⟨b4, t, n12⟩, h13, h⟩ := bind_of h
            have h := some_of h
            subst h
            have t_ := tR (id_Zero_runs _ h1) <| tR (id_Zero_runs _ h1) <| tR (code_source_bit_runs 2 n l n2 n3 _ h2) <| tF h3 <| tL q_4 <| tR (code_source_ok_runs n8 l n6 n7 _ h5) <| tF h6 <| tF (rfl : false = false) <| tR (code_source_ok_runs n9 l n6 n7 _ h7) <| tF h8 <| tF (rfl : false = false) <| tR (id_ID_IsZero_runs false T_id_halves.nil _ h9) <| tT h10 <| tR (id_ID_IsZero_runs false T_id_halves.nil _ h9) <| tF h11 <| tR (code_source_must_runs false n10 l n6 n7 _ h12) <| tR (id_Pair_runs N false T_id_halves.nil false T_id_halves.nil _ h13) <| tN
            exact runs_of (C := cfg) (objs := [[(.ref 1 0), (.pv (.int .i64 n))], [(.pv (.ints .u8 l false)), (.pv (.int .i64 n2)), (.pv (.int .i64 n3))]]) (sc := t_.ev) (.k0 t_.pf (by kernel_rfl))
        · obtain ⟨n11, h11, h⟩ := bind_of h
          obtain ⟨⟨b4, t, n12⟩, h12, h⟩ := bind_of h
          have h := some_of h
          subst h
          have t_ := tR (id_Zero_runs _ h1) <| tR (id_Zero_runs _ h1) <| tR (code_source_bit_runs 2 n l n2 n3 _ h2) <| tF h3 <| tL q_4 <| tR (code_source_ok_runs n8 l n6 n7 _ h5) <| tF h6 <| tF (rfl : false = false) <| tR (code_source_ok_runs n9 l n6 n7 _ h7) <| tF h8 <| tF (rfl : false = false) <| tR (id_ID_IsZero_runs false T_id_halves.nil _ h9) <| tF h10 <| tF (rfl : false = false) <| tR (code_source_must_runs false n10 l n6 n7 _ h11) <| tR (id_Pair_runs N false T_id_halves.nil false T_id_halves.nil _ h12) <| tN
          exact runs_of (C := cfg) (objs := [[(.ref 1 0), (.pv (.int .i64 n))], [(.pv (.ints .u8 l false)), (.pv (.int .i64 n2)), (.pv (.int .i64 n3))]]) (sc := t_.ev) (.k0 t_.pf (by kernel_rfl))
noncomputable def code_source_id_2 : Nat → Int → Int → List Int → Int → Int → Option (Bool × T_id_halves × Int × Int × Int)
  | 0, _, _, _, _, _ => none
  | N + 1, depth, n, l, n2, n3 => code_source_id_2_b N (code_source_id_2 N) depth n l n2 n3
theorem code_source_id_2_runs : ∀ (N : Nat) (depth : Int) (n : Int) (l : List Int) (n2 : Int) (n3 : Int) (r_ : Bool × T_id_halves × Int × Int × Int), code_source_id_2 N depth n l n2 n3 = some r_ → Runs Tryd.prog 121 [(.one (.ref 0 0)), (.one (.pv (.int .i64 depth)))] [[(.ref 1 0), (.pv (.int .i64 n))], [(.pv (.ints .u8 l false)), (.pv (.int .i64 n2)), (.pv (.int .i64 n3))]] [] (code_source_id_2_out depth n l n2 n3 r_)
  | 0, _, _, _, _, _, _, h => by cases h
  | N + 1, depth, n, l, n2, n3, r_, h => code_source_id_2_b_runs N (code_source_id_2 N) (code_source_id_2_runs N) depth n l n2 n3 r_ h
/-! ### code_GetID -/
noncomputable def code_GetID (N : Nat) (l : List Int) (n : Int) (n2 : Int) : Option (Bool × T_id_halves × Int × Int × Int) :=
  (code_source_id_2 N 0 0 l n n2).bind fun (b, t, n3, n4, n5) =>
  bif (decide ((n3 : Int) = 0)) then
    some (b, t, 0, n4, n5)
  else
    (id_Zero).bind fun _ =>
    some (false, T_id_halves.nil, n3, n4, n5)
theorem code_GetID_runs (N : Nat) (l : List Int) (n : Int) (n2 : Int) (r_ : Bool × T_id_halves × Int × Int × Int) (h : code_GetID N l n n2 = some r_) : Runs Tryd.prog 72 [(.one (.ref 0 0))] [[(.pv (.ints .u8 l false)), (.pv (.int .i64 n)), (.pv (.int .i64 n2))]] [] (code_GetID_out l n n2 r_) := by
  unfold code_GetID at h
  obtain ⟨⟨b, t, n3, n4, n5⟩, h1, h⟩ := bind_of h
  rcases cond_of h with ⟨h2, h⟩ | ⟨h2, h⟩
  · have h := some_of h
    subst h
    have t_ := tR (code_source_id_2_runs N 0 0 l n n2 _ h1) <| tF (not_of2 h2) <| tN
    exact runs_of (C := cfg) (objs := [[(.pv (.ints .u8 l false)), (.pv (.int .i64 n)), (.pv (.int .i64 n2))]]) (sc := t_.ev) (.k0 t_.pf (by kernel_rfl))
  · obtain ⟨_, h3, h⟩ := bind_of h
    have h := some_of h
    subst h
    have t_ := tR (code_source_id_2_runs N 0 0 l n n2 _ h1) <| tT (not_of h2) <| tR (id_Zero_runs _ h3) <| tR (id_Zero_runs _ h3) <| tN
    exact runs_of (C := cfg) (objs := [[(.pv (.ints .u8 l false)), (.pv (.int .i64 n)), (.pv (.int .i64 n2))]]) (sc := t_.ev) (.k1 t_.pf (by kernel_rfl) (by kernel_rfl))
/-! ### kinfolkref05_Bits_out -/
def kinfolkref05_Bits_out (p : List Int) : List Bool → Res
  | r1 => ([(.one (.own 0 0 (r1).length false))], [], [(.bools r1)])
/-! ### kinfolkref05_Bits_L1_3 -/
def kinfolkref05_Bits_L1_3_st (l : List Int) (n : Int) (n2 : Int) : Int × Int × List Bool → St
  | (b, k, l2) => ⟨[(3, (.av (.one (.own 0 0 (l2).length false)))), (5, (.av (.one (.pv (.int .u8 b))))), (6, (.av (.one (.pv (.int .i64 k))))), (7, (.av (.one (.pv (.ints .u8 l false))))), (8, (.av (.one (.pv (.int .i64 n))))), (9, (.av (.one (.pv (.int .i64 n2)))))], [], [(0, (.live (.bools l2)))]⟩
def kinfolkref05_Bits_L1_3_ex (l : List Int) (n : Int) (n2 : Int) : List Bool → Ex × St
  | r1 => ((.exit 2), ⟨[(3, (.av (.one (.own 0 0 (r1).length false)))), (7, (.av (.one (.pv (.ints .u8 l false))))), (8, (.av (.one (.pv (.int .i64 n))))), (9, (.av (.one (.pv (.int .i64 n2)))))], [], [(0, (.live (.bools r1)))]⟩)
noncomputable def kinfolkref05_Bits_L1_3_step (l : List Int) (n : Int) (n2 : Int) : Int × Int × List Bool → Option ((Int × Int × List Bool) ⊕ (List Bool))
  | (b, k, l2) =>
  bif (decide ((k : Int) < 8)) then
    bif fits ((l2 ++ [(decide ((128 : Int) ≤ b))])).length then
    some (.inl ((imul .u8 b 2), (iadd .i64 k 1), (l2 ++ [(decide ((128 : Int) ≤ b))])))
    else none
  else
    some (.inr l2)
theorem kinfolkref05_Bits_L1_3_ok (l : List Int) (n : Int) (n2 : Int) (s_ : Int × Int × List Bool) (z_ : (Int × Int × List Bool) ⊕ (List Bool)) (h : kinfolkref05_Bits_L1_3_step l n n2 s_ = some z_) : RoundOk Tryd.prog cfg 75 0 (loopAt Tryd.prog 75 1) (kinfolkref05_Bits_L1_3_st l n n2) (kinfolkref05_Bits_L1_3_ex l n n2) s_ z_ := by
  rcases s_ with ⟨b, k, l2⟩
  rcases cond_of h with ⟨h1, h⟩ | ⟨h1, h⟩
  · obtain ⟨h2, h⟩ := need_of h
    have h := some_of h
    subst h
    have t_ := tT h1 <| tO (show (Nat.beq (l2).length (l2).length) = true from Nat.beq_refl _) <| tO h2 <| tN
    exact ⟨t_.ev, kinfolkref05_Bits_L1_3_st l n n2 ((imul .u8 b 2), (iadd .i64 k 1), (l2 ++ [(decide ((128 : Int) ≤ b))])), .k0 t_.pf (by kernel_rfl), .same (by kernel_rfl)⟩
  · have h := some_of h
    subst h
    have t_ := tF h1 <| tN
    exact ⟨t_.ev, ⟨[(14, (.av (.one (.pv (.bool false))))), (3, (.av (.one (.own 0 0 (l2).length false)))), (5, (.av (.one (.pv (.int .u8 b))))), (6, (.av (.one (.pv (.int .i64 k))))), (7, (.av (.one (.pv (.ints .u8 l false))))), (8, (.av (.one (.pv (.int .i64 n))))), (9, (.av (.one (.pv (.int .i64 n2))))), (14, (.av (.one (.pv (.bool (decide ((k : Int) < 8)))))))], [], [(0, (.live (.bools l2)))]⟩, .k0 t_.pf (by kernel_rfl), ⟨⟨⟨_, rfl, .eq rfl⟩, ⟨_, rfl, .eq rfl⟩, ⟨_, rfl, .eq rfl⟩, ⟨_, rfl, .eq rfl⟩, trivial⟩, trivial, ⟨⟨rfl, .eq rfl⟩, trivial⟩⟩⟩
theorem kinfolkref05_Bits_L1_3_runs (l : List Int) (n : Int) (n2 : Int) (s_ : Int × Int × List Bool) (r_ : List Bool) (h : runL (kinfolkref05_Bits_L1_3_step l n n2) s_ = some r_) : LRuns Tryd.prog (lEnv Tryd.prog cfg 75 0).nt 0 (.loop (loopAt Tryd.prog 75 1)) (kinfolkref05_Bits_L1_3_st l n n2 s_) (kinfolkref05_Bits_L1_3_ex l n n2 r_).1 (kinfolkref05_Bits_L1_3_ex l n n2 r_).2 :=
  loop_run h (kinfolkref05_Bits_L1_3_ok l n n2) (by intro r_; rcases r_ with r1 <;> simp [kinfolkref05_Bits_L1_3_ex])
/-! ### kinfolkref05_Bits_L0_2 -/
def kinfolkref05_Bits_L0_2_st (l : List Int) (n : Int) : Int × List Bool → St
  | (n2, l2) => ⟨[(3, (.av (.one (.own 0 0 (l2).length false)))), (7, (.av (.one (.pv (.ints .u8 l false))))), (8, (.av (.one (.pv (.int .i64 n))))), (9, (.av (.one (.pv (.int .i64 n2)))))], [], [(0, (.live (.bools l2)))]⟩
def kinfolkref05_Bits_L0_2_ex (l : List Int) (n : Int) : List Bool → Ex × St
  | r1 => ((.exit 0), ⟨[(3, (.av (.one (.own 0 0 (r1).length false))))], [], [(0, (.live (.bools r1)))]⟩)
noncomputable def kinfolkref05_Bits_L0_2_step (l : List Int) (n : Int) : Int × List Bool → Option ((Int × List Bool) ⊕ (List Bool))
  | (n2, l2) =>
  bif (decide ((n2 : Int) < n)) then
    bif decide ((0 : Int) ≤ n2) && decide ((n2 : Int) < ((l).length : Int)) then
    (runL (kinfolkref05_Bits_L1_3_step l n n2) ((l.getD (n2).toNat 0), 0, l2)).bind fun l_ =>
    some (.inl ((iadd .i64 n2 1), l_))
    else none
  else
    some (.inr l2)
theorem kinfolkref05_Bits_L0_2_ok (l : List Int) (n : Int) (s_ : Int × List Bool) (z_ : (Int × List Bool) ⊕ (List Bool)) (h : kinfolkref05_Bits_L0_2_step l n s_ = some z_) : RoundOk Tryd.prog cfg 75 0 (loopAt Tryd.prog 75 0) (kinfolkref05_Bits_L0_2_st l n) (kinfolkref05_Bits_L0_2_ex l n) s_ z_ := by
  rcases s_ with ⟨n2, l2⟩
  rcases cond_of h with ⟨h1, h⟩ | ⟨h1, h⟩
  · obtain ⟨h2, h⟩ := need_of h
    obtain ⟨l_, h3, h⟩ := bind_of h
    have h := some_of h
    subst h
    have t_ := tT h1 <| tO h2 <| tL (kinfolkref05_Bits_L1_3_runs l n n2 _ _ h3) <| tN
    exact ⟨t_.ev, kinfolkref05_Bits_L0_2_st l n ((iadd .i64 n2 1), l_), .k0 t_.pf (by kernel_rfl), .same (by kernel_rfl)⟩
  · have h := some_of h
    subst h
    have t_ := tF h1 <| tN
    exact ⟨t_.ev, ⟨[(10, (.av (.one (.pv (.bool false))))), (3, (.av (.one (.own 0 0 (l2).length false)))), (7, (.av (.one (.pv (.ints .u8 l false))))), (8, (.av (.one (.pv (.int .i64 n))))), (9, (.av (.one (.pv (.int .i64 n2))))), (10, (.av (.one (.pv (.bool (decide ((n2 : Int) < n)))))))], [], [(0, (.live (.bools l2)))]⟩, .k0 t_.pf (by kernel_rfl), ⟨⟨⟨_, rfl, .eq rfl⟩, trivial⟩, trivial, ⟨⟨rfl, .eq rfl⟩, trivial⟩⟩⟩
theorem kinfolkref05_Bits_L0_2_runs (l : List Int) (n : Int) (s_ : Int × List Bool) (r_ : List Bool) (h : runL (kinfolkref05_Bits_L0_2_step l n) s_ = some r_) : LRuns Tryd.prog (lEnv Tryd.prog cfg 75 0).nt 0 (.loop (loopAt Tryd.prog 75 0)) (kinfolkref05_Bits_L0_2_st l n s_) (kinfolkref05_Bits_L0_2_ex l n r_).1 (kinfolkref05_Bits_L0_2_ex l n r_).2 :=
  loop_run h (kinfolkref05_Bits_L0_2_ok l n) (by intro r_; rcases r_ with r1 <;> simp [kinfolkref05_Bits_L0_2_ex])
/-! ### kinfolkref05_Bits -/
noncomputable def kinfolkref05_Bits (p : List Int) : Option (List Bool) :=
  (runL (kinfolkref05_Bits_L0_2_step p ((p).length : Int)) (0, [])).bind fun l_ =>
  some l_
theorem kinfolkref05_Bits_runs (p : List Int) (r_ : List Bool) (h : kinfolkref05_Bits p = some r_) : Runs Tryd.prog 75 [(.one (.pv (.ints .u8 p false)))] [] [] (kinfolkref05_Bits_out p r_) := by
  unfold kinfolkref05_Bits at h
  obtain ⟨l_, h1, h⟩ := bind_of h
  have h := some_of h
  subst h
  have t_ := tL (LRuns.coe (s0 := ⟨[(3, (.av (.one (.own 0 0 0 false)))), (7, (.av (.one (.pv (.ints .u8 p false))))), (8, (.av (.one (.pv (.int .i64 ((p).length : Int)))))), (9, (.av (.one (.pv (.int .i64 0)))))], [], [(0, (.live (.bools [])))]⟩) (kinfolkref05_Bits_L0_2_runs p ((p).length : Int) _ _ h1) ⟨⟨⟨_, rfl, .own (by first | rfl | (simp only [List.take_length]; done) | (simp only [List.take_length, List.length_append, List.drop_zero, List.map_append, List.map_take, List.map_drop, List.map_cons, List.map_nil, List.append_nil, List.nil_append, E_event_Event.pv]; done) | (simp; done))⟩, ⟨_, rfl, .eq rfl⟩, ⟨_, rfl, .eq rfl⟩, ⟨_, rfl, .eq rfl⟩, trivial⟩, trivial, ⟨⟨rfl, .eq rfl⟩, trivial⟩⟩) <| tN
  exact runs_of (C := cfg) (objs := []) (sc := t_.ev) (.k0 t_.pf (by kernel_rfl))
/-! ### kinfolkref07_GetID_3_out -/
def kinfolkref07_GetID_3_out (depth : Int) (n : Int) (l : List Bool) : T_kinfolkref01_ID × Int × List Bool × Int → Res
  | (r1, r2, r3, r4) => ([(.one (.pv (T_kinfolkref01_ID.pv r1))), (.one (.pv (.int .i64 r2)))], [[(.pv (.bools r3 false)), (.pv (.int .i64 r4))]], [])
/-! ### kinfolkref05_Get_out -/
def kinfolkref05_Get_out (k : Int) (n : Int) (l : List Bool) : Int × List Bool × Int → Res
  | (r1, r2, r3) => ([(.one (.pv (.int .u64 r1)))], [[(.pv (.bools r2 false)), (.pv (.int .i64 r3))]], [])
/-! ### kinfolkref05_within_out -/
def kinfolkref05_within_out (k : Int) : Int → Res
  | r1 => ([(.one (.pv (.int .i64 r1)))], [], [])
/-! ### kinfolkref05_within -/
noncomputable def kinfolkref05_within (k : Int) : Option (Int) :=
  bif (decide ((k : Int) < 0)) then
    some 0
  else
    bif (decide ((64 : Int) < k)) then
      some 64
    else
      some k
theorem kinfolkref05_within_runs (k : Int) (r_ : Int) (h : kinfolkref05_within k = some r_) : Runs Tryd.prog 151 [(.one (.pv (.int .i64 k)))] [] [] (kinfolkref05_within_out k r_) := by
  unfold kinfolkref05_within at h
  rcases cond_of h with ⟨h1, h⟩ | ⟨h1, h⟩
  · have h := some_of h
    subst h
    have t_ := tT h1 <| tN
    exact runs_of (C := cfg) (objs := []) (sc := t_.ev) (.k0 t_.pf (by kernel_rfl))
  · rcases cond_of h with ⟨h2, h⟩ | ⟨h2, h⟩
    · have h := some_of h
      subst h
      have t_ := tF h1 <| tT h2 <| tN
      exact runs_of (C := cfg) (objs := []) (sc := t_.ev) (.k0 t_.pf (by kernel_rfl))
    · have h := some_of h
      subst h
      have t_ := tF h1 <| tF h2 <| tN
      exact runs_of (C := cfg) (objs := []) (sc := t_.ev) (.k0 t_.pf (by kernel_rfl))
/-! ### kinfolkref05_Get_L0 -/
def kinfolkref05_Get_L0_st (k : Int) (k2 : Nat) (n : Int) (n2 : Int) (l : List Bool) : Int × Int → St
  | (n3, n4) => ⟨[(0, (.av (.one (.ref 0 0)))), (1, (.av (.one (.pv (.int .i64 k))))), (5, (.av (.one (.pv (.int .u64 n3))))), (30, (.av (.one (.own 0 0 k2 false)))), (31, (.av (.one (.pv (.int .i64 n))))), (32, (.av (.one (.pv (.int .i64 n4)))))], [(0, [(.own 0 0 (l).length false), (.pv (.int .i64 n2))])], [(0, (.live (.bools l)))]⟩
def kinfolkref05_Get_L0_ex (k : Int) (k2 : Nat) (n : Int) (n2 : Int) (l : List Bool) : Int → Ex × St
  | r1 => ((.exit 0), ⟨[(0, (.av (.one (.ref 0 0)))), (1, (.av (.one (.pv (.int .i64 k))))), (5, (.av (.one (.pv (.int .u64 r1)))))], [(0, [(.own 0 0 (l).length false), (.pv (.int .i64 n2))])], [(0, (.live (.bools l)))]⟩)
noncomputable def kinfolkref05_Get_L0_step (k : Int) (k2 : Nat) (n : Int) (n2 : Int) (l : List Bool) : Int × Int → Option ((Int × Int) ⊕ (Int))
  | (n3, n4) =>
  bif (decide ((n4 : Int) < n)) then
    bif decide ((0 : Int) ≤ n4) && decide ((n4 : Int) < (k2 : Int)) then
    bif (l.getD (0 + (n4).toNat) false) then
      some (.inl ((iadd .u64 (imul .u64 n3 2) 1), (iadd .i64 n4 1)))
    else
      some (.inl ((imul .u64 n3 2), (iadd .i64 n4 1)))
    else none
  else
    some (.inr n3)
theorem kinfolkref05_Get_L0_ok (k : Int) (k2 : Nat) (n : Int) (n2 : Int) (l : List Bool) (s_ : Int × Int) (z_ : (Int × Int) ⊕ (Int)) (h : kinfolkref05_Get_L0_step k k2 n n2 l s_ = some z_) : RoundOk Tryd.prog cfg 123 1 (loopAt Tryd.prog 123 0) (kinfolkref05_Get_L0_st k k2 n n2 l) (kinfolkref05_Get_L0_ex k k2 n n2 l) s_ z_ := by
  rcases s_ with ⟨n3, n4⟩
  rcases cond_of h with ⟨h1, h⟩ | ⟨h1, h⟩
  · obtain ⟨h2, h⟩ := need_of h
    rcases cond_of h with ⟨h3, h⟩ | ⟨h3, h⟩
    · have h := some_of h
      subst h
      have t_ := tT h1 <| tO h2 <| tT h3 <| tN
      exact ⟨t_.ev, kinfolkref05_Get_L0_st k k2 n n2 l ((iadd .u64 (imul .u64 n3 2) 1), (iadd .i64 n4 1)), .k0 t_.pf (by kernel_rfl), .same (by kernel_rfl)⟩
    · have h := some_of h
      subst h
      have t_ := tT h1 <| tO h2 <| tF h3 <| tN
      exact ⟨t_.ev, kinfolkref05_Get_L0_st k k2 n n2 l ((imul .u64 n3 2), (iadd .i64 n4 1)), .k0 t_.pf (by kernel_rfl), .same (by kernel_rfl)⟩
  · have h := some_of h
    subst h
    have t_ := tF h1 <| tN
    exact ⟨t_.ev, ⟨[(33, (.av (.one (.pv (.bool false))))), (0, (.av (.one (.ref 0 0)))), (1, (.av (.one (.pv (.int .i64 k))))), (5, (.av (.one (.pv (.int .u64 n3))))), (30, (.av (.one (.own 0 0 k2 false)))), (31, (.av (.one (.pv (.int .i64 n))))), (32, (.av (.one (.pv (.int .i64 n4))))), (33, (.av (.one (.pv (.bool (decide ((n4 : Int) < n)))))))], [(0, [(.own 0 0 (l).length false), (.pv (.int .i64 n2))])], [(0, (.live (.bools l)))]⟩, .k0 t_.pf (by kernel_rfl), ⟨⟨⟨_, rfl, .eq rfl⟩, ⟨_, rfl, .eq rfl⟩, ⟨_, rfl, .eq rfl⟩, trivial⟩, ⟨⟨rfl, ⟨.eq rfl, .eq rfl, trivial⟩⟩, trivial⟩, ⟨⟨rfl, .eq rfl⟩, trivial⟩⟩⟩
theorem kinfolkref05_Get_L0_runs (k : Int) (k2 : Nat) (n : Int) (n2 : Int) (l : List Bool) (s_ : Int × Int) (r_ : Int) (h : runL (kinfolkref05_Get_L0_step k k2 n n2 l) s_ = some r_) : LRuns Tryd.prog (lEnv Tryd.prog cfg 123 1).nt 1 (.loop (loopAt Tryd.prog 123 0)) (kinfolkref05_Get_L0_st k k2 n n2 l s_) (kinfolkref05_Get_L0_ex k k2 n n2 l r_).1 (kinfolkref05_Get_L0_ex k k2 n n2 l r_).2 :=
  loop_run h (kinfolkref05_Get_L0_ok k k2 n n2 l) (by intro r_; rcases r_ with r1 <;> simp [kinfolkref05_Get_L0_ex])
/-! ### kinfolkref05_Get -/
noncomputable def kinfolkref05_Get (k : Int) (n : Int) (l : List Bool) : Option (Int × List Bool × Int) :=
  (kinfolkref05_within k).bind fun n2 =>
  bif (decide ((n : Int) = 0)) then
    bif (decide ((((l).length : Int) : Int) < n2)) then
      some (0, l, 6)
    else
      bif decide ((0 : Int) ≤ 0) && decide ((0 : Int) ≤ n2) && decide ((n2 : Int) ≤ ((l).length : Int)) && decide ((n2 : Int) = n2) then
      (runL (kinfolkref05_Get_L0_step n2 ((n2 - 0).toNat) ((n2 - 0).toNat : Int) n l) (0, 0)).bind fun n3 =>
      bif decide ((0 : Int) ≤ n2) && decide ((n2 : Int) ≤ ((l).length : Int)) && decide ((((l).length : Int) : Int) ≤ ((l).length : Int)) && decide ((((l).length : Int) : Int) = ((l).length : Int)) then
      some (n3, (List.take (((l).length : Int) - n2).toNat (List.drop (0 + (n2).toNat) l)), n)
      else none
      else none
  else
    some (0, l, n)
theorem kinfolkref05_Get_runs (k : Int) (n : Int) (l : List Bool) (r_ : Int × List Bool × Int) (h : kinfolkref05_Get k n l = some r_) : Runs Tryd.prog 123 [(.one (.ref 0 0)), (.one (.pv (.int .i64 k)))] [[(.own 0 0 (l).length false), (.pv (.int .i64 n))]] [(.bools l)] (kinfolkref05_Get_out k n l r_) := by
  unfold kinfolkref05_Get at h
  obtain ⟨n2, h1, h⟩ := bind_of h
  rcases cond_of h with ⟨h2, h⟩ | ⟨h2, h⟩
  · rcases cond_of h with ⟨h3, h⟩ | ⟨h3, h⟩
    · have h := some_of h
      subst h
      have t_ := tR (kinfolkref05_within_runs k _ h1) <| tF (not_of2 h2) <| tT h3 <| tN
      have e_ : Runs Tryd.prog 123 [(.one (.ref 0 0)), (.one (.pv (.int .i64 k)))] [[(.own 0 0 (l).length false), (.pv (.int .i64 n))]] [(.bools l)] ([(.one (.pv (.int .u64 0)))], [[(.own 0 0 (l).length false), (.pv (.int .i64 6))]], [(.bools l)]) := runs_of (C := cfg) (objs := [[(.own 0 0 (l).length false), (.pv (.int .i64 n))]]) (sc := t_.ev) (.k0 t_.pf (by kernel_rfl))
      have e_ := e_.shut (res' := ([(.one (.pv (.int .u64 0)))], [[(.pv (.bools (List.take (l).length l) false)), (.pv (.int .i64 6))]], [])) [0] (by kernel_rfl)
      exact e_.out ⟨.eq rfl, trivial⟩ ⟨⟨.pv (.bools (by first | rfl | (simp only [List.take_length]; done) | (simp only [List.take_length, List.length_append, List.drop_zero, List.map_append, List.map_take, List.map_drop, List.map_cons, List.map_nil, List.append_nil, List.nil_append, E_event_Event.pv]; done) | (simp; done))), .eq rfl, trivial⟩, trivial⟩ trivial rfl
    · obtain ⟨h4, h⟩ := need_of h
      obtain ⟨n3, h5, h⟩ := bind_of h
      obtain ⟨h6, h⟩ := need_of h
      have h := some_of h
      subst h
      have t_ := tR (kinfolkref05_within_runs k _ h1) <| tF (not_of2 h2) <| tF h3 <| tO h4 <| tL (kinfolkref05_Get_L0_runs n2 ((n2 - 0).toNat) ((n2 - 0).toNat : Int) n l _ _ h5) <| tO h6 <| tN
      have e_ : Runs Tryd.prog 123 [(.one (.ref 0 0)), (.one (.pv (.int .i64 k)))] [[(.own 0 0 (l).length false), (.pv (.int .i64 n))]] [(.bools l)] ([(.one (.pv (.int .u64 n3)))], [[(.own 0 (0 + (n2).toNat) (((l).length : Int) - n2).toNat false), (.pv (.int .i64 n))]], [(.bools l)]) := runs_of (C := cfg) (objs := [[(.own 0 0 (l).length false), (.pv (.int .i64 n))]]) (sc := t_.ev) (.k0 t_.pf (by kernel_rfl))
      have e_ := e_.shut (res' := ([(.one (.pv (.int .u64 n3)))], [[(.pv (.bools (List.take (((l).length : Int) - n2).toNat (List.drop (0 + (n2).toNat) l)) false)), (.pv (.int .i64 n))]], [])) [0] (by kernel_rfl)
      exact e_
  · have h := some_of h
    subst h
    have t_ := tR (kinfolkref05_within_runs k _ h1) <| tT (not_of h2) <| tN
    have e_ : Runs Tryd.prog 123 [(.one (.ref 0 0)), (.one (.pv (.int .i64 k)))] [[(.own 0 0 (l).length false), (.pv (.int .i64 n))]] [(.bools l)] ([(.one (.pv (.int .u64 0)))], [[(.own 0 0 (l).length false), (.pv (.int .i64 n))]], [(.bools l)]) := runs_of (C := cfg) (objs := [[(.own 0 0 (l).length false), (.pv (.int .i64 n))]]) (sc := t_.ev) (.k0 t_.pf (by kernel_rfl))
    have e_ := e_.shut (res' := ([(.one (.pv (.int .u64 0)))], [[(.pv (.bools (List.take (l).length l) false)), (.pv (.int .i64 n))]], [])) [0] (by kernel_rfl)
    exact e_.out ⟨.eq rfl, trivial⟩ ⟨⟨.pv (.bools (by first | rfl | (simp only [List.take_length]; done) | (simp only [List.take_length, List.length_append, List.drop_zero, List.map_append, List.map_take, List.map_drop, List.map_cons, List.map_nil, List.append_nil, List.nil_append, E_event_Event.pv]; done) | (simp; done))), .eq rfl, trivial⟩, trivial⟩ trivial rfl
/-! ### kinfolkref05_Get_2_out -/
def kinfolkref05_Get_2_out (k : Int) (l : List Bool) (n : Int) : Int × List Bool × Int → Res
  | (r1, r2, r3) => ([(.one (.pv (.int .u64 r1)))], [[(.pv (.bools r2 false)), (.pv (.int .i64 r3))]], [])
/-! ### kinfolkref05_Get_L0_2 -/
def kinfolkref05_Get_L0_2_st (k : Int) (l : List Bool) (n : Int) (l2 : List Bool) (n2 : Int) : Int × Int → St
  | (n3, n4) => ⟨[(0, (.av (.one (.ref 0 0)))), (1, (.av (.one (.pv (.int .i64 k))))), (5, (.av (.one (.pv (.int .u64 n3))))), (30, (.av (.one (.pv (.bools l false))))), (31, (.av (.one (.pv (.int .i64 n))))), (32, (.av (.one (.pv (.int .i64 n4)))))], [(0, [(.pv (.bools l2 false)), (.pv (.int .i64 n2))])], []⟩
def kinfolkref05_Get_L0_2_ex (k : Int) (l : List Bool) (n : Int) (l2 : List Bool) (n2 : Int) : Int → Ex × St
  | r1 => ((.exit 0), ⟨[(0, (.av (.one (.ref 0 0)))), (1, (.av (.one (.pv (.int .i64 k))))), (5, (.av (.one (.pv (.int .u64 r1)))))], [(0, [(.pv (.bools l2 false)), (.pv (.int .i64 n2))])], []⟩)
noncomputable def kinfolkref05_Get_L0_2_step (k : Int) (l : List Bool) (n : Int) (l2 : List Bool) (n2 : Int) : Int × Int → Option ((Int × Int) ⊕ (Int))
  | (n3, n4) =>
  bif (decide ((n4 : Int) < n)) then
    bif decide ((0 : Int) ≤ n4) && decide ((n4 : Int) < ((l).length : Int)) then
    bif (l.getD (n4).toNat false) then
      some (.inl ((iadd .u64 (imul .u64 n3 2) 1), (iadd .i64 n4 1)))
    else
      some (.inl ((imul .u64 n3 2), (iadd .i64 n4 1)))
    else none
  else
    some (.inr n3)
theorem kinfolkref05_Get_L0_2_ok (k : Int) (l : List Bool) (n : Int) (l2 : List Bool) (n2 : Int) (s_ : Int × Int) (z_ : (Int × Int) ⊕ (Int)) (h : kinfolkref05_Get_L0_2_step k l n l2 n2 s_ = some z_) : RoundOk Tryd.prog cfg 123 1 (loopAt Tryd.prog 123 0) (kinfolkref05_Get_L0_2_st k l n l2 n2) (kinfolkref05_Get_L0_2_ex k l n l2 n2) s_ z_ := by
  rcases s_ with ⟨n3, n4⟩
  rcases cond_of h with ⟨h1, h⟩ | ⟨h1, h⟩
  · obtain ⟨h2, h⟩ := need_of h
    rcases cond_of h with ⟨h3, h⟩ | ⟨h3, h⟩
    · have h := some_of h
      subst h
      have t_ := tT h1 <| tO h2 <| tT h3 <| tN
      exact ⟨t_.ev, kinfolkref05_Get_L0_2_st k l n l2 n2 ((iadd .u64 (imul .u64 n3 2) 1), (iadd .i64 n4 1)), .k0 t_.pf (by kernel_rfl), .same (by kernel_rfl)⟩
    · have h := some_of h
      subst h
      have t_ := tT h1 <| tO h2 <| tF h3 <| tN
      exact ⟨t_.ev, kinfolkref05_Get_L0_2_st k l n l2 n2 ((imul .u64 n3 2), (iadd .i64 n4 1)), .k0 t_.pf (by kernel_rfl), .same (by kernel_rfl)⟩
  · have h := some_of h
    subst h
    have t_ := tF h1 <| tN
    exact ⟨t_.ev, ⟨[(33, (.av (.one (.pv (.bool false))))), (0, (.av (.one (.ref 0 0)))), (1, (.av (.one (.pv (.int .i64 k))))), (5, (.av (.one (.pv (.int .u64 n3))))), (30, (.av (.one (.pv (.bools l false))))), (31, (.av (.one (.pv (.int .i64 n))))), (32, (.av (.one (.pv (.int .i64 n4))))), (33, (.av (.one (.pv (.bool (decide ((n4 : Int) < n)))))))], [(0, [(.pv (.bools l2 false)), (.pv (.int .i64 n2))])], []⟩, .k0 t_.pf (by kernel_rfl), ⟨⟨⟨_, rfl, .eq rfl⟩, ⟨_, rfl, .eq rfl⟩, ⟨_, rfl, .eq rfl⟩, trivial⟩, ⟨⟨rfl, ⟨.eq rfl, .eq rfl, trivial⟩⟩, trivial⟩, trivial⟩⟩
theorem kinfolkref05_Get_L0_2_runs (k : Int) (l : List Bool) (n : Int) (l2 : List Bool) (n2 : Int) (s_ : Int × Int) (r_ : Int) (h : runL (kinfolkref05_Get_L0_2_step k l n l2 n2) s_ = some r_) : LRuns Tryd.prog (lEnv Tryd.prog cfg 123 1).nt 1 (.loop (loopAt Tryd.prog 123 0)) (kinfolkref05_Get_L0_2_st k l n l2 n2 s_) (kinfolkref05_Get_L0_2_ex k l n l2 n2 r_).1 (kinfolkref05_Get_L0_2_ex k l n l2 n2 r_).2 :=
  loop_run h (kinfolkref05_Get_L0_2_ok k l n l2 n2) (by intro r_; rcases r_ with r1 <;> simp [kinfolkref05_Get_L0_2_ex])
/-! ### kinfolkref05_Get_2 -/
noncomputable def kinfolkref05_Get_2 (k : Int) (l : List Bool) (n : Int) : Option (Int × List Bool × Int) :=
  (kinfolkref05_within k).bind fun n2 =>
  bif (decide ((n : Int) = 0)) then
    bif (decide ((((l).length : Int) : Int) < n2)) then
      some (0, l, 6)
    else
      bif decide ((0 : Int) ≤ 0) && decide ((0 : Int) ≤ n2) && decide ((n2 : Int) ≤ ((l).length : Int)) && decide ((n2 : Int) = n2) then
      (runL (kinfolkref05_Get_L0_2_step n2 (List.take (n2 - 0).toNat l) (((List.take (n2 - 0).toNat l)).length : Int) l n) (0, 0)).bind fun n3 =>
      bif decide ((0 : Int) ≤ n2) && decide ((n2 : Int) ≤ ((l).length : Int)) && decide ((((l).length : Int) : Int) ≤ ((l).length : Int)) && decide ((((l).length : Int) : Int) = ((l).length : Int)) then
      some (n3, (List.take (((l).length : Int) - n2).toNat (List.drop (n2).toNat l)), n)
      else none
      else none
  else
    some (0, l, n)
theorem kinfolkref05_Get_2_runs (k : Int) (l : List Bool) (n : Int) (r_ : Int × List Bool × Int) (h : kinfolkref05_Get_2 k l n = some r_) : Runs Tryd.prog 123 [(.one (.ref 0 0)), (.one (.pv (.int .i64 k)))] [[(.pv (.bools l false)), (.pv (.int .i64 n))]] [] (kinfolkref05_Get_2_out k l n r_) := by
  unfold kinfolkref05_Get_2 at h
  obtain ⟨n2, h1, h⟩ := bind_of h
  rcases cond_of h with ⟨h2, h⟩ | ⟨h2, h⟩
  · rcases cond_of h with ⟨h3, h⟩ | ⟨h3, h⟩
    · have h := some_of h
      subst h
      have t_ := tR (kinfolkref05_within_runs k _ h1) <| tF (not_of2 h2) <| tT h3 <| tN
      exact runs_of (C := cfg) (objs := [[(.pv (.bools l false)), (.pv (.int .i64 n))]]) (sc := t_.ev) (.k0 t_.pf (by kernel_rfl))
    · obtain ⟨h4, h⟩ := need_of h
      obtain ⟨n3, h5, h⟩ := bind_of h
      obtain ⟨h6, h⟩ := need_of h
      have h := some_of h
      subst h
      have t_ := tR (kinfolkref05_within_runs k _ h1) <| tF (not_of2 h2) <| tF h3 <| tO h4 <| tL (kinfolkref05_Get_L0_2_runs n2 (List.take (n2 - 0).toNat l) (((List.take (n2 - 0).toNat l)).length : Int) l n _ _ h5) <| tO h6 <| tN
      exact runs_of (C := cfg) (objs := [[(.pv (.bools l false)), (.pv (.int .i64 n))]]) (sc := t_.ev) (.k0 t_.pf (by kernel_rfl))
  · have h := some_of h
    subst h
    have t_ := tR (kinfolkref05_within_runs k _ h1) <| tT (not_of h2) <| tN
    exact runs_of (C := cfg) (objs := [[(.pv (.bools l false)), (.pv (.int .i64 n))]]) (sc := t_.ev) (.k0 t_.pf (by kernel_rfl))
/-! ### kinfolkref07_GetID_C21 -/
def kinfolkref07_GetID_C21_ex (depth : Int) (kind : Int) (b : Bool) (l : List Bool) (n : Int) : (T_kinfolkref01_ID × List Bool × Int) ⊕ (List Bool × Int) → Ex × St
  | .inl (r1, r2, r3) => (.ret, ⟨[(4, (.av (.one (.pv (T_kinfolkref01_ID.pv r1))))), (5, (.av (.one (.pv (.int .i64 0)))))], [(0, [(.pv (.bools r2 false)), (.pv (.int .i64 r3))])], []⟩)
  | .inr (r1, r2) => (.normal, ⟨[(0, (.av (.one (.ref 0 0)))), (1, (.av (.one (.pv (.int .i64 depth))))), (6, (.av (.one (.pv (.int .u64 kind)))))], [(0, [(.pv (.bools r1 false)), (.pv (.int .i64 r2))])], []⟩)
noncomputable def kinfolkref07_GetID_C21 (depth : Int) (kind : Int) (b : Bool) (l : List Bool) (n : Int) : Option ((T_kinfolkref01_ID × List Bool × Int) ⊕ (List Bool × Int)) :=
  bif b then
    (kinfolkref05_Get_2 1 l n).bind fun (n2, l_, n3) =>
    bif (decide ((n3 : Int) = 0)) then
      some (.inl ((T_kinfolkref01_ID.mk (IntKind.i64.wrap n2) T_kinfolkref01_ID.nil T_kinfolkref01_ID.nil), l_, n3))
    else
      some (.inr (l_, n3))
  else
    some (.inr (l, n))
theorem kinfolkref07_GetID_C21_runs (depth : Int) (kind : Int) (b : Bool) (l : List Bool) (n : Int) (r_ : (T_kinfolkref01_ID × List Bool × Int) ⊕ (List Bool × Int)) (h : kinfolkref07_GetID_C21 depth kind b l n = some r_) : LRuns Tryd.prog (lEnv Tryd.prog cfg 74 1).nt 1 (.cond (.tmp 21) (condAt Tryd.prog 74 21).1 (condAt Tryd.prog 74 21).2) ⟨[(0, (.av (.one (.ref 0 0)))), (1, (.av (.one (.pv (.int .i64 depth))))), (6, (.av (.one (.pv (.int .u64 kind))))), (21, (.av (.one (.pv (.bool b)))))], [(0, [(.pv (.bools l false)), (.pv (.int .i64 n))])], []⟩ (kinfolkref07_GetID_C21_ex depth kind b l n r_).1 (kinfolkref07_GetID_C21_ex depth kind b l n r_).2 := by
  unfold kinfolkref07_GetID_C21 at h
  rcases cond_of h with ⟨h1, h⟩ | ⟨h1, h⟩
  · obtain ⟨⟨n2, l_, n3⟩, h2, h⟩ := bind_of h
    rcases cond_of h with ⟨h3, h⟩ | ⟨h3, h⟩
    · have h := some_of h
      subst h
      have t_ := tT h1 <| tR (kinfolkref05_Get_2_runs 1 l n _ h2) <| tT h3 <| tN
      exact piece_run (C := cfg) (s1 := ⟨[(4, (.av (.one (.pv (.imm [(.int .i64 (IntKind.i64.wrap n2)), .nilp, .nilp] 0))))), (5, (.av (.one (.pv (.int .i64 0)))))], [(0, [(.pv (.bools l_ false)), (.pv (.int .i64 n3))])], []⟩) (sc := t_.ev) (.k0 t_.pf (by kernel_rfl)) ⟨⟨⟨_, rfl, .eq rfl⟩, ⟨_, rfl, .eq rfl⟩, trivial⟩, ⟨⟨rfl, ⟨.eq rfl, .eq rfl, trivial⟩⟩, trivial⟩, trivial⟩
    · have h := some_of h
      subst h
      have t_ := tT h1 <| tR (kinfolkref05_Get_2_runs 1 l n _ h2) <| tF h3 <| tN
      exact piece_ok (C := cfg) (sc := t_.ev) (.k0 t_.pf (by kernel_rfl))
  · have h := some_of h
    subst h
    have t_ := tF h1 <| tN
    exact piece_ok (C := cfg) (sc := t_.ev) (.k0 t_.pf (by kernel_rfl))
/-! ### kinfolkref01_Zero_out -/
def kinfolkref01_Zero_out : T_kinfolkref01_ID → Res
  | r1 => ([(.one (.pv (T_kinfolkref01_ID.pv r1)))], [], [])
/-! ### kinfolkref01_Zero -/
noncomputable def kinfolkref01_Zero : Option (T_kinfolkref01_ID) :=
  some (T_kinfolkref01_ID.mk 0 T_kinfolkref01_ID.nil T_kinfolkref01_ID.nil)
theorem kinfolkref01_Zero_runs (r_ : T_kinfolkref01_ID) (h : kinfolkref01_Zero = some r_) : Runs Tryd.prog 49 [] [] [] (kinfolkref01_Zero_out r_) := by
  unfold kinfolkref01_Zero at h
  have h := some_of h
  subst h
  have t_ := tN
  have e_ : Runs Tryd.prog 49 [] [] [] ([(.one (.pv (.imm [(.int .i64 0), .nilp, .nilp] 0)))], [], []) := runs_of (C := cfg) (objs := []) (sc := t_.ev) (.k0 t_.pf (by kernel_rfl))
  exact e_.out ⟨.eq rfl, trivial⟩ trivial trivial rfl
/-! ### kinfolkref07_GetID_4_out -/
def kinfolkref07_GetID_4_out (depth : Int) (l : List Bool) (n : Int) : T_kinfolkref01_ID × Int × List Bool × Int → Res
  | (r1, r2, r3, r4) => ([(.one (.pv (T_kinfolkref01_ID.pv r1))), (.one (.pv (.int .i64 r2)))], [[(.pv (.bools r3 false)), (.pv (.int .i64 r4))]], [])
/-! ### kinfolkref07_GetID_C45_2 -/
def kinfolkref07_GetID_C45_2_ex (depth : Int) (kind : Int) (x : T_kinfolkref01_ID) (y : T_kinfolkref01_ID) (b : Bool) (l : List Bool) (n : Int) : (T_kinfolkref01_ID × List Bool × Int) ⊕ (T_kinfolkref01_ID × Int × List Bool × Int) → Ex × St
  | .inl (r1, r2, r3) => (.normal, ⟨[(0, (.av (.one (.ref 0 0)))), (1, (.av (.one (.pv (.int .i64 depth))))), (6, (.av (.one (.pv (.int .u64 kind))))), (8, (.av (.one (.pv (T_kinfolkref01_ID.pv r1))))), (9, (.av (.one (.pv (T_kinfolkref01_ID.pv y)))))], [(0, [(.pv (.bools r2 false)), (.pv (.int .i64 r3))])], []⟩)
  | .inr (r1, r2, r3, r4) => (.ret, ⟨[(4, (.av (.one (.pv (T_kinfolkref01_ID.pv r1))))), (5, (.av (.one (.pv (.int .i64 r2)))))], [(0, [(.pv (.bools r3 false)), (.pv (.int .i64 r4))])], []⟩)
noncomputable def kinfolkref07_GetID_C45_2 (rec_kinfolkref07_GetID_4 : Int → List Bool → Int → Option (T_kinfolkref01_ID × Int × List Bool × Int)) (depth : Int) (kind : Int) (x : T_kinfolkref01_ID) (y : T_kinfolkref01_ID) (b : Bool) (l : List Bool) (n : Int) : Option ((T_kinfolkref01_ID × List Bool × Int) ⊕ (T_kinfolkref01_ID × Int × List Bool × Int)) :=
  bif b then
    (rec_kinfolkref07_GetID_4 (iadd .i64 depth 1) l n).bind fun (t, n2, l_, n3) =>
    bif (decide ((n2 : Int) = 0)) then
      some (.inl (t, l_, n3))
    else
      (kinfolkref01_Zero).bind fun t2 =>
      some (.inr (t2, n2, l_, n3))
  else
    some (.inl (x, l, n))
theorem kinfolkref07_GetID_C45_2_runs (rec_kinfolkref07_GetID_4 : Int → List Bool → Int → Option (T_kinfolkref01_ID × Int × List Bool × Int)) (hrec_kinfolkref07_GetID_4 : ∀ depth l n r_, rec_kinfolkref07_GetID_4 depth l n = some r_ → Runs Tryd.prog 74 [(.one (.ref 0 0)), (.one (.pv (.int .i64 depth)))] [[(.pv (.bools l false)), (.pv (.int .i64 n))]] [] (kinfolkref07_GetID_4_out depth l n r_)) (depth : Int) (kind : Int) (x : T_kinfolkref01_ID) (y : T_kinfolkref01_ID) (b : Bool) (l : List Bool) (n : Int) (r_ : (T_kinfolkref01_ID × List Bool × Int) ⊕ (T_kinfolkref01_ID × Int × List Bool × Int)) (h : kinfolkref07_GetID_C45_2 rec_kinfolkref07_GetID_4 depth kind x y b l n = some r_) : LRuns Tryd.prog (lEnv Tryd.prog cfg 74 1).nt 1 (.cond (.tmp 45) (condAt Tryd.prog 74 45).1 (condAt Tryd.prog 74 45).2) ⟨[(0, (.av (.one (.ref 0 0)))), (1, (.av (.one (.pv (.int .i64 depth))))), (6, (.av (.one (.pv (.int .u64 kind))))), (8, (.av (.one (.pv (T_kinfolkref01_ID.pv x))))), (9, (.av (.one (.pv (T_kinfolkref01_ID.pv y))))), (45, (.av (.one (.pv (.bool b)))))], [(0, [(.pv (.bools l false)), (.pv (.int .i64 n))])], []⟩ (kinfolkref07_GetID_C45_2_ex depth kind x y b l n r_).1 (kinfolkref07_GetID_C45_2_ex depth kind x y b l n r_).2 := by
  unfold kinfolkref07_GetID_C45_2 at h
  rcases cond_of h with ⟨h1, h⟩ | ⟨h1, h⟩
  · obtain ⟨⟨t, n2, l_, n3⟩, h2, h⟩ := bind_of h
    have q_2 := (hrec_kinfolkref07_GetID_4 (iadd .i64 depth 1) l n _ h2)
    rcases cond_of h with ⟨h3, h⟩ | ⟨h3, h⟩
    · have h := some_of h
      subst h
      have t_ := tT h1 <| tR q_2 <| tF (not_of2 h3) <| tN
      exact piece_ok (C := cfg) (sc := t_.ev) (.k0 t_.pf (by kernel_rfl))
    · obtain ⟨t2, h4, h⟩ := bind_of h
      have h := some_of h
      subst h
      have t_ := tT h1 <| tR q_2 <| tT (not_of h3) <| tR (kinfolkref01_Zero_runs _ h4) <| tN
      exact piece_ok (C := cfg) (sc := t_.ev) (.k0 t_.pf (by kernel_rfl))
  · have h := some_of h
    subst h
    have t_ := tF h1 <| tN
    exact piece_ok (C := cfg) (sc := t_.ev) (.k0 t_.pf (by kernel_rfl))
/-! ### kinfolkref07_GetID_C58 -/
def kinfolkref07_GetID_C58_ex (depth : Int) (kind : Int) (x : T_kinfolkref01_ID) (y : T_kinfolkref01_ID) (b : Bool) (l : List Bool) (n : Int) : (T_kinfolkref01_ID × List Bool × Int) ⊕ (T_kinfolkref01_ID × Int × List Bool × Int) → Ex × St
  | .inl (r1, r2, r3) => (.normal, ⟨[(6, (.av (.one (.pv (.int .u64 kind))))), (8, (.av (.one (.pv (T_kinfolkref01_ID.pv x))))), (9, (.av (.one (.pv (T_kinfolkref01_ID.pv r1)))))], [(0, [(.pv (.bools r2 false)), (.pv (.int .i64 r3))])], []⟩)
  | .inr (r1, r2, r3, r4) => (.ret, ⟨[(4, (.av (.one (.pv (T_kinfolkref01_ID.pv r1))))), (5, (.av (.one (.pv (.int .i64 r2)))))], [(0, [(.pv (.bools r3 false)), (.pv (.int .i64 r4))])], []⟩)
noncomputable def kinfolkref07_GetID_C58 (rec_kinfolkref07_GetID_4 : Int → List Bool → Int → Option (T_kinfolkref01_ID × Int × List Bool × Int)) (depth : Int) (kind : Int) (x : T_kinfolkref01_ID) (y : T_kinfolkref01_ID) (b : Bool) (l : List Bool) (n : Int) : Option ((T_kinfolkref01_ID × List Bool × Int) ⊕ (T_kinfolkref01_ID × Int × List Bool × Int)) :=
  bif b then
    (rec_kinfolkref07_GetID_4 (iadd .i64 depth 1) l n).bind fun (t, n2, l_, n3) =>
    bif (decide ((n2 : Int) = 0)) then
      some (.inl (t, l_, n3))
    else
      (kinfolkref01_Zero).bind fun t2 =>
      some (.inr (t2, n2, l_, n3))
  else
    some (.inl (y, l, n))
theorem kinfolkref07_GetID_C58_runs (rec_kinfolkref07_GetID_4 : Int → List Bool → Int → Option (T_kinfolkref01_ID × Int × List Bool × Int)) (hrec_kinfolkref07_GetID_4 : ∀ depth l n r_, rec_kinfolkref07_GetID_4 depth l n = some r_ → Runs Tryd.prog 74 [(.one (.ref 0 0)), (.one (.pv (.int .i64 depth)))] [[(.pv (.bools l false)), (.pv (.int .i64 n))]] [] (kinfolkref07_GetID_4_out depth l n r_)) (depth : Int) (kind : Int) (x : T_kinfolkref01_ID) (y : T_kinfolkref01_ID) (b : Bool) (l : List Bool) (n : Int) (r_ : (T_kinfolkref01_ID × List Bool × Int) ⊕ (T_kinfolkref01_ID × Int × List Bool × Int)) (h : kinfolkref07_GetID_C58 rec_kinfolkref07_GetID_4 depth kind x y b l n = some r_) : LRuns Tryd.prog (lEnv Tryd.prog cfg 74 1).nt 1 (.cond (.tmp 58) (condAt Tryd.prog 74 58).1 (condAt Tryd.prog 74 58).2) ⟨[(0, (.av (.one (.ref 0 0)))), (1, (.av (.one (.pv (.int .i64 depth))))), (6, (.av (.one (.pv (.int .u64 kind))))), (8, (.av (.one (.pv (T_kinfolkref01_ID.pv x))))), (9, (.av (.one (.pv (T_kinfolkref01_ID.pv y))))), (58, (.av (.one (.pv (.bool b)))))], [(0, [(.pv (.bools l false)), (.pv (.int .i64 n))])], []⟩ (kinfolkref07_GetID_C58_ex depth kind x y b l n r_).1 (kinfolkref07_GetID_C58_ex depth kind x y b l n r_).2 := by
  unfold kinfolkref07_GetID_C58 at h
  rcases cond_of h with ⟨h1, h⟩ | ⟨h1, h⟩
  · obtain ⟨⟨t, n2, l_, n3⟩, h2, h⟩ := bind_of h
    have q_2 := (hrec_kinfolkref07_GetID_4 (iadd .i64 depth 1) l n _ h2)
    rcases cond_of h with ⟨h3, h⟩ | ⟨h3, h⟩
    · have h := some_of h
      subst h
      have t_ := tT h1 <| tR q_2 <| tF (not_of2 h3) <| tN
      exact piece_ok (C := cfg) (sc := t_.ev) (.k0 t_.pf (by kernel_rfl))
    · obtain ⟨t2, h4, h⟩ := bind_of h
      have h := some_of h
      subst h
      have t_ := tT h1 <| tR q_2 <| tT (not_of h3) <| tR (kinfolkref01_Zero_runs _ h4) <| tN
      exact piece_ok (C := cfg) (sc := t_.ev) (.k0 t_.pf (by kernel_rfl))
  · have h := some_of h
    subst h
    have t_ := tF h1 <| tN
    exact piece_ok (C := cfg) (sc := t_.ev) (.k0 t_.pf (by kernel_rfl))
/-! ### kinfolkref07_GetID_4 -/
noncomputable def kinfolkref07_GetID_4_b (rec_kinfolkref07_GetID_4 : Int → List Bool → Int → Option (T_kinfolkref01_ID × Int × List Bool × Int)) (depth : Int) (l : List Bool) (n : Int) : Option (T_kinfolkref01_ID × Int × List Bool × Int) :=
  (kinfolkref05_Get_2 2 l n).bind fun (n2, l_, n3) =>
  bif (decide ((n3 : Int) = 0)) then
    (kinfolkref07_GetID_C21 depth n2 (decide ((n2 : Int) = 0)) l_ n3).bind fun z_ => match z_ with
    | .inl (t, l_2, n4) =>
      some (t, 0, l_2, n4)
    | .inr (l_2, n4) =>
      bif (decide ((n4 : Int) = 0)) then
        bif (decide ((depth : Int) = 16)) then
          (kinfolkref01_Zero).bind fun t =>
          some (t, 3, l_2, n4)
        else
          (kinfolkref01_Zero).bind fun t =>
          (kinfolkref07_GetID_C45_2 rec_kinfolkref07_GetID_4 depth n2 t t (!(decide ((n2 : Int) = 1))) l_2 n4).bind fun z_ => match z_ with
          | .inl (t2, l_3, n5) =>
            (kinfolkref07_GetID_C58 rec_kinfolkref07_GetID_4 depth n2 t2 t (!(decide ((n2 : Int) = 2))) l_3 n5).bind fun z_ => match z_ with
            | .inl (t3, l_4, n6) =>
              match t2 with
              | .nil =>
                none
              | .mk n7 t4 t5 =>
                bif (decide ((n7 : Int) = 0)) then
                  bif (decide ((n2 : Int) = 1)) then
                    match t3 with
                    | .nil =>
                      none
                    | .mk n8 t6 t7 =>
                      bif (decide ((n8 : Int) = 0)) then
                        bif (decide ((n2 : Int) = 2)) then
                          bif (decide ((n7 : Int) = 1)) then
                            bif (decide ((n8 : Int) = 1)) then
                              some (t, 6, l_4, n6)
                            else
                              some ((T_kinfolkref01_ID.mk 2 t2 t3), 0, l_4, n6)
                          else
                            some ((T_kinfolkref01_ID.mk 2 t2 t3), 0, l_4, n6)
                        else
                          some (t, 6, l_4, n6)
                      else
                        bif (decide ((n7 : Int) = 1)) then
                          bif (decide ((n8 : Int) = 1)) then
                            some (t, 6, l_4, n6)
                          else
                            some ((T_kinfolkref01_ID.mk 2 t2 t3), 0, l_4, n6)
                        else
                          some ((T_kinfolkref01_ID.mk 2 t2 t3), 0, l_4, n6)
                  else
                    some (t, 6, l_4, n6)
                else
                  match t3 with
                  | .nil =>
                    none
                  | .mk n8 t6 t7 =>
                    bif (decide ((n8 : Int) = 0)) then
                      bif (decide ((n2 : Int) = 2)) then
                        bif (decide ((n7 : Int) = 1)) then
                          bif (decide ((n8 : Int) = 1)) then
                            some (t, 6, l_4, n6)
                          else
                            some ((T_kinfolkref01_ID.mk 2 t2 t3), 0, l_4, n6)
                        else
                          some ((T_kinfolkref01_ID.mk 2 t2 t3), 0, l_4, n6)
                      else
                        some (t, 6, l_4, n6)
                    else
                      bif (decide ((n7 : Int) = 1)) then
                        bif (decide ((n8 : Int) = 1)) then
                          some (t, 6, l_4, n6)
                        else
                          some ((T_kinfolkref01_ID.mk 2 t2 t3), 0, l_4, n6)
                      else
                        some ((T_kinfolkref01_ID.mk 2 t2 t3), 0, l_4, n6)
            | .inr (t3, n6, l_4, n7) =>
              some (t3, n6, l_4, n7)
          | .inr (t2, n5, l_3, n6) =>
            some (t2, n5, l_3, n6)
      else
        (kinfolkref01_Zero).bind fun t =>
        some (t, 6, l_2, n4)
  else
    (kinfolkref01_Zero).bind fun t =>
    some (t, 6, l_, n3)
theorem kinfolkref07_GetID_4_b_runs (rec_kinfolkref07_GetID_4 : Int → List Bool → Int → Option (T_kinfolkref01_ID × Int × List Bool × Int)) (hrec_kinfolkref07_GetID_4 : ∀ depth l n r_, rec_kinfolkref07_GetID_4 depth l n = some r_ → Runs Tryd.prog 74 [(.one (.ref 0 0)), (.one (.pv (.int .i64 depth)))] [[(.pv (.bools l false)), (.pv (.int .i64 n))]] [] (kinfolkref07_GetID_4_out depth l n r_)) (depth : Int) (l : List Bool) (n : Int) (r_ : T_kinfolkref01_ID × Int × List Bool × Int) (h : kinfolkref07_GetID_4_b rec_kinfolkref07_GetID_4 depth l n = some r_) : Runs Tryd.prog 74 [(.one (.ref 0 0)), (.one (.pv (.int .i64 depth)))] [[(.pv (.bools l false)), (.pv (.int .i64 n))]] [] (kinfolkref07_GetID_4_out depth l n r_) := by
  unfold kinfolkref07_GetID_4_b at h
  obtain ⟨⟨n2, l_, n3⟩, h1, h⟩ := bind_of h
  rcases cond_of h with ⟨h2, h⟩ | ⟨h2, h⟩
  · obtain ⟨z_, h3, h⟩ := bind_of h
    rcases z_ with ⟨t, l_2, n4⟩ | ⟨l_2, n4⟩
    · have h := some_of h
      subst h
      have t_ := tR (kinfolkref05_Get_2_runs 2 l n _ h1) <| tT h2 <| tL (kinfolkref07_GetID_C21_runs depth n2 (decide ((n2 : Int) = 0)) l_ n3 _ h3) <| tN
      exact runs_of (C := cfg) (objs := [[(.pv (.bools l false)), (.pv (.int .i64 n))]]) (sc := t_.ev) (.k0 t_.pf (by kernel_rfl))
    · have q_3 := (kinfolkref07_GetID_C21_runs depth n2 (decide ((n2 : Int) = 0)) l_ n3 _ h3)
      rcases cond_of h with ⟨h4, h⟩ | ⟨h4, h⟩
      · rcases cond_of h with ⟨h5, h⟩ | ⟨h5, h⟩
        · obtain ⟨t, h6, h⟩ := bind_of h
          have h := some_of h
          subst h
          have t_ := tR (kinfolkref05_Get_2_runs 2 l n _ h1) <| tT h2 <| tL q_3 <| tF (not_of2 h4) <| tT h5 <| tR (kinfolkref01_Zero_runs _ h6) <| tN
          exact runs_of (C := cfg) (objs := [[(.pv (.bools l false)), (.pv (.int .i64 n))]]) (sc := t_.ev) (.k0 t_.pf (by kernel_rfl))
        · obtain ⟨t, h6, h⟩ := bind_of h
          obtain ⟨z_, h7, h⟩ := bind_of h
          rcases z_ with ⟨t2, l_3, n5⟩ | ⟨t2, n5, l_3, n6⟩
          · have q_7 := (kinfolkref07_GetID_C45_2_runs rec_kinfolkref07_GetID_4 hrec_kinfolkref07_GetID_4 depth n2 t t (!(decide ((n2 : Int) = 1))) l_2 n4 _ h7)
            obtain ⟨z_, h8, h⟩ := bind_of h
            rcases z_ with ⟨t3, l_4, n6⟩ | ⟨t3, n6, l_4, n7⟩
            · have q_8 := (kinfolkref07_GetID_C58_runs rec_kinfolkref07_GetID_4 hrec_kinfolkref07_GetID_4 depth n2 t2 t (!(decide ((n2 : Int) = 2))) l_3 n5 _ h8)
              cases t2 with
              | nil =>
                cases h
              | mk n7 t4 t5 =>
                rcases cond_of h with ⟨h9, h⟩ | ⟨h9, h⟩
                · rcases cond_of h with ⟨h10, h⟩ | ⟨h10, h⟩
                  · cases t3 with
                    | nil =>
                      cases h
                    | mk n8 t6 t7 =>
                      rcases cond_of h with ⟨h11, h⟩ | ⟨h11, h⟩
                      · rcases cond_of h with ⟨h12, h⟩ | ⟨h12, h⟩
                        · rcases cond_of h with ⟨h13, h⟩ | ⟨h13, h⟩
                          · rcases cond_of h with ⟨h14, h⟩ | ⟨h14, h⟩
                            · have h := some_of h
                              subst h
                              have t_ := tR (kinfolkref05_Get_2_runs 2 l n _ h1) <| tT h2 <| tL q_3 <| tF (not_of2 h4) <| tF h5 <| tR (kinfolkref01_Zero_runs _ h6) <| tR (kinfolkref01_Zero_runs _ h6) <| tL q_7 <| tL q_8 <| tT h9 <| tF (not_of2 h10) <| tT h11 <| tF (not_of2 h12) <| tT h13 <| tT h14 <| tR (kinfolkref01_Zero_runs _ h6) <| tN
                              exact runs_of (C := cfg) (objs := [[(.pv (.bools l false)), (.pv (.int .i64 n))]]) (sc := t_.ev) (.k0 t_.pf (by kernel_rfl))
                            · have h := some_of h
                              subst h
                              have t_ := tR (kinfolkref05_Get_2_runs 2 l n _ h1) <| tT h2 <| tL q_3 <| tF (not_of2 h4) <| tF h5 <| tR (kinfolkref01_Zero_runs _ h6) <| tR (kinfolkref01_Zero_runs _ h6) <| tL q_7 <| tL q_8 <| tT h9 <| tF (not_of2 h10) <| tT h11 <| tF (not_of2 h12) <| tT h13 <| tF h14 <| tN
                              have e_ : Runs Tryd.prog 74 [(.one (.ref 0 0)), (.one (.pv (.int .i64 depth)))] [[(.pv (.bools l false)), (.pv (.int .i64 n))]] [] ([(.one (.pv (.imm [(.int .i64 2), (T_kinfolkref01_ID.pv (T_kinfolkref01_ID.mk n7 t4 t5)), (T_kinfolkref01_ID.pv (T_kinfolkref01_ID.mk n8 t6 t7))] 0))), (.one (.pv (.int .i64 0)))], [[(.pv (.bools l_4 false)), (.pv (.int .i64 n6))]], []) := runs_of (C := cfg) (objs := [[(.pv (.bools l false)), (.pv (.int .i64 n))]]) (sc := t_.ev) (.k0 t_.pf (by kernel_rfl))
                              exact e_.out ⟨.eq rfl, .eq rfl, trivial⟩ ⟨⟨.eq rfl, .eq rfl, trivial⟩, trivial⟩ trivial rfl
                          · have h := some_of h
                            subst h
                            have t_ := tR (kinfolkref05_Get_2_runs 2 l n _ h1) <| tT h2 <| tL q_3 <| tF (not_of2 h4) <| tF h5 <| tR (kinfolkref01_Zero_runs _ h6) <| tR (kinfolkref01_Zero_runs _ h6) <| tL q_7 <| tL q_8 <| tT h9 <| tF (not_of2 h10) <| tT h11 <| tF (not_of2 h12) <| tF h13 <| tF (rfl : false = false) <| tN
                            have e_ : Runs Tryd.prog 74 [(.one (.ref 0 0)), (.one (.pv (.int .i64 depth)))] [[(.pv (.bools l false)), (.pv (.int .i64 n))]] [] ([(.one (.pv (.imm [(.int .i64 2), (T_kinfolkref01_ID.pv (T_kinfolkref01_ID.mk n7 t4 t5)), (T_kinfolkref01_ID.pv (T_kinfolkref01_ID.mk n8 t6 t7))] 0))), (.one (.pv (.int .i64 0)))], [[(.pv (.bools l_4 false)), (.pv (.int .i64 n6))]], []) := runs_of (C := cfg) (objs := [[(.pv (.bools l false)), (.pv (.int .i64 n))]]) (sc := t_.ev) (.k0 t_.pf (by kernel_rfl))
                            exact e_.out ⟨.eq rfl, .eq rfl, trivial⟩ ⟨⟨.eq rfl, .eq rfl, trivial⟩, trivial⟩ trivial rfl
                        · have h := some_of h
                          subst h
                          have t_ := tR (kinfolkref05_Get_2_runs 2 l n _ h1) <| tT h2 <| tL q_3 <| tF (not_of2 h4) <| tF h5 <| tR (kinfolkref01_Zero_runs _ h6) <| tR (kinfolkref01_Zero_runs _ h6) <| tL q_7 <| tL q_8 <| tT h9 <| tF (not_of2 h10) <| tT h11 <| tT (not_of h12) <| tT (rfl : true = true) <| tR (kinfolkref01_Zero_runs _ h6) <| tN
                          exact runs_of (C := cfg) (objs := [[(.pv (.bools l false)), (.pv (.int .i64 n))]]) (sc := t_.ev) (.k0 t_.pf (by kernel_rfl))
                      · rcases cond_of h with ⟨h12, h⟩ | ⟨h12, h⟩
                        · rcases cond_of h with ⟨h13, h⟩ | ⟨h13, h⟩
                          · have h := some_of h
                            subst h
                            have t_ := tR (kinfolkref05_Get_2_runs 2 l n _ h1) <| tT h2 <| tL q_3 <| tF (not_of2 h4) <| tF h5 <| tR (kinfolkref01_Zero_runs _ h6) <| tR (kinfolkref01_Zero_runs _ h6) <| tL q_7 <| tL q_8 <| tT h9 <| tF (not_of2 h10) <| tF h11 <| tF (rfl : false = false) <| tT h12 <| tT h13 <| tR (kinfolkref01_Zero_runs _ h6) <| tN
                            exact runs_of (C := cfg) (objs := [[(.pv (.bools l false)), (.pv (.int .i64 n))]]) (sc := t_.ev) (.k0 t_.pf (by kernel_rfl))
                          · have h := some_of h
                            subst h
                            have t_ := tR (kinfolkref05_Get_2_runs 2 l n _ h1) <| tT h2 <| tL q_3 <| tF (not_of2 h4) <| tF h5 <| tR (kinfolkref01_Zero_runs _ h6) <| tR (kinfolkref01_Zero_runs _ h6) <| tL q_7 <| tL q_8 <| tT h9 <| tF (not_of2 h10) <| tF h11 <| tF (rfl : false = false) <| tT h12 <| tF h13 <| tN
                            have e_ : Runs Tryd.prog 74 [(.one (.ref 0 0)), (.one (.pv (.int .i64 depth)))] [[(.pv (.bools l false)), (.pv (.int .i64 n))]] [] ([(.one (.pv (.imm [(.int .i64 2), (T_kinfolkref01_ID.pv (T_kinfolkref01_ID.mk n7 t4 t5)), (T_kinfolkref01_ID.pv (T_kinfolkref01_ID.mk n8 t6 t7))] 0))), (.one (.pv (.int .i64 0)))], [[(.pv (.bools l_4 false)), (.pv (.int .i64 n6))]], []) := runs_of (C := cfg) (objs := [[(.pv (.bools l false)), (.pv (.int .i64 n))]]) (sc := t_.ev) (.k0 t_.pf (by kernel_rfl))
                            exact e_.out ⟨.eq rfl, .eq rfl, trivial⟩ ⟨⟨.eq rfl, .eq rfl, trivial⟩, trivial⟩ trivial rfl
                        · have h := some_of h
                          subst h
                          have t_ := tR (kinfolkref05_Get_2_runs 2 l n _ h1) <| tT h2 <| tL q_3 <| tF (not_of2 h4) <| tF h5 <| tR (kinfolkref01_Zero_runs _ h6) <| tR (kinfolkref01_Zero_runs _ h6) <| tL q_7 <| tL q_8 <| tT h9 <| tF (not_of2 h10) <| tF h11 <| tF (rfl : false = false) <| tF h12 <| tF (rfl : false = false) <| tN
                          have e_ : Runs Tryd.prog 74 [(.one (.ref 0 0)), (.one (.pv (.int .i64 depth)))] [[(.pv (.bools l false)), (.pv (.int .i64 n))]] [] ([(.one (.pv (.imm [(.int .i64 2), (T_kinfolkref01_ID.pv (T_kinfolkref01_ID.mk n7 t4 t5)), (T_kinfolkref01_ID.pv (T_kinfolkref01_ID.mk n8 t6 t7))] 0))), (.one (.pv (.int .i64 0)))], [[(.pv (.bools l_4 false)), (.pv (.int .i64 n6))]], []) := runs_of (C := cfg) (objs := [[(.pv (.bools l false)), (.pv (.int .i64 n))]]) (sc := t_.ev) (.k0 t_.pf (by kernel_rfl))
                          exact e_.out ⟨.eq rfl, .eq rfl, trivial⟩ ⟨⟨.eq rfl, .eq rfl, trivial⟩, trivial⟩ trivial rfl
                  · have h := some_of h
                    subst h
                    have t_ := tR (kinfolkref05_Get_2_runs 2 l n _ h1) <| tT h2 <| tL q_3 <| tF (not_of2 h4) <| tF h5 <| tR (kinfolkref01_Zero_runs _ h6) <| tR (kinfolkref01_Zero_runs _ h6) <| tL q_7 <| tL q_8 <| tT h9 <| tT (not_of h10) <| tT (rfl : true = true) <| tT (rfl : true = true) <| tR (kinfolkref01_Zero_runs _ h6) <| tN
                    exact runs_of (C := cfg) (objs := [[(.pv (.bools l false)), (.pv (.int .i64 n))]]) (sc := t_.ev) (.k0 t_.pf (by kernel_rfl))
                · cases t3 with
                  | nil =>
                    cases h
                  | mk n8 t6 t7 =>
                    rcases cond_of h with ⟨h10, h⟩ | ⟨h10, h⟩
                    · rcases cond_of h with ⟨h11, h⟩ | ⟨h11, h⟩
                      · rcases cond_of h with ⟨h12, h⟩ | ⟨h12, h⟩
                        · rcases cond_of h with ⟨h13, h⟩ | ⟨h13, h⟩
                          · have h := some_of h
                            subst h
                            have t_ := tR (kinfolkref05_Get_2_runs 2 l n _ h1) <| tT h2 <| tL q_3 <| tF (not_of2 h4) <| tF h5 <| tR (kinfolkref01_Zero_runs _ h6) <| tR (kinfolkref01_Zero_runs _ h6) <| tL q_7 <| tL q_8 <| tF h9 <| tF (rfl : false = false) <| tT h10 <| tF (not_of2 h11) <| tT h12 <| tT h13 <| tR (kinfolkref01_Zero_runs _ h6) <| tN
                            exact runs_of (C := cfg) (objs := [[(.pv (.bools l false)), (.pv (.int .i64 n))]]) (sc := t_.ev) (.k0 t_.pf (by kernel_rfl))
                          · have h := some_of h
                            subst h
                            have t_ := tR (kinfolkref05_Get_2_runs 2 l n _ h1) <| tT h2 <| tL q_3 <| tF (not_of2 h4) <| tF h5 <| tR (kinfolkref01_Zero_runs _ h6) <| tR (kinfolkref01_Zero_runs _ h6) <| tL q_7 <| tL q_8 <| tF h9 <| tF (rfl : false = false) <| tT h10 <| tF (not_of2 h11) <| tT h12 <| tF h13 <| tN
                            have e_ : Runs Tryd.prog 74 [(.one (.ref 0 0)), (.one (.pv (.int .i64 depth)))] [[(.pv (.bools l false)), (.pv (.int .i64 n))]] [] ([(.one (.pv (.imm [(.int .i64 2), (T_kinfolkref01_ID.pv (T_kinfolkref01_ID.mk n7 t4 t5)), (T_kinfolkref01_ID.pv (T_kinfolkref01_ID.mk n8 t6 t7))] 0))), (.one (.pv (.int .i64 0)))], [[(.pv (.bools l_4 false)), (.pv (.int .i64 n6))]], []) := runs_of (C := cfg) (objs := [[(.pv (.bools l false)), (.pv (.int .i64 n))]]) (sc := t_.ev) (.k0 t_.pf (by kernel_rfl))
                            exact e_.out ⟨.eq rfl, .eq rfl, trivial⟩ ⟨⟨.eq rfl, .eq rfl, trivial⟩, trivial⟩ trivial rfl
                        · have h := some_of h
                          subst h
                          have t_ := tR (kinfolkref05_Get_2_runs 2 l n _ h1) <| tT h2 <| tL q_3 <| tF (not_of2 h4) <| tF h5 <| tR (kinfolkref01_Zero_runs _ h6) <| tR (kinfolkref01_Zero_runs _ h6) <| tL q_7 <| tL q_8 <| tF h9 <| tF (rfl : false = false) <| tT h10 <| tF (not_of2 h11) <| tF h12 <| tF (rfl : false = false) <| tN
                          have e_ : Runs Tryd.prog 74 [(.one (.ref 0 0)), (.one (.pv (.int .i64 depth)))] [[(.pv (.bools l false)), (.pv (.int .i64 n))]] [] ([(.one (.pv (.imm [(.int .i64 2), (T_kinfolkref01_ID.pv (T_kinfolkref01_ID.mk n7 t4 t5)), (T_kinfolkref01_ID.pv (T_kinfolkref01_ID.mk n8 t6 t7))] 0))), (.one (.pv (.int .i64 0)))], [[(.pv (.bools l_4 false)), (.pv (.int .i64 n6))]], []) := runs_of (C := cfg) (objs := [[(.pv (.bools l false)), (.pv (.int .i64 n))]]) (sc := t_.ev) (.k0 t_.pf (by kernel_rfl))
                          exact e_.out ⟨.eq rfl, .eq rfl, trivial⟩ ⟨⟨.eq rfl, .eq rfl, trivial⟩, trivial⟩ trivial rfl
                      · have h := some_of h
                        subst h
                        have t_ := tR (kinfolkref05_Get_2_runs 2 l n _ h1) <| tT h2 <| tL q_3 <| tF (not_of2 h4) <| tF h5 <| tR (kinfolkref01_Zero_runs _ h6) <| tR (kinfolkref01_Zero_runs _ h6) <| tL q_7 <| tL q_8 <| tF h9 <| tF (rfl : false = false) <| tT h10 <| tT (not_of h11) <| tT (rfl : true = true) <| tR (kinfolkref01_Zero_runs _ h6) <| tN
                        exact runs_of (C := cfg) (objs := [[(.pv (.bools l false)), (.pv (.int .i64 n))]]) (sc := t_.ev) (.k0 t_.pf (by kernel_rfl))
                    · rcases cond_of h with ⟨h11, h⟩ | ⟨h11, h⟩
                      · rcases cond_of h with ⟨h12, h⟩ | ⟨h12, h⟩
                        · have h := some_of h
                          subst h
                          have t_ := tR (kinfolkref05_Get_2_runs 2 l n _ h1) <| tT h2 <| tL q_3 <| tF (not_of2 h4) <| tF h5 <| tR (kinfolkref01_Zero_runs _ h6) <| tR (kinfolkref01_Zero_runs _ h6) <| tL q_7 <| tL q_8 <| tF h9 <| tF (rfl : false = false) <| tF h10 <| tF (rfl : false = false) <| tT h11 <| tT h12 <| tR (kinfolkref01_Zero_runs _ h6) <| tN
                          exact runs_of (C := cfg) (objs := [[(.pv (.bools l false)), (.pv (.int .i64 n))]]) (sc := t_.ev) (.k0 t_.pf (by kernel_rfl))
                        · have h := some_of h
                          subst h
                          have t_ := tR (kinfolkref05_Get_2_runs 2 l n _ h1) <| tT h2 <| tL q_3 <| tF (not_of2 h4) <| tF h5 <| tR (kinfolkref01_Zero_runs _ h6) <| tR (kinfolkref01_Zero_runs _ h6) <| tL q_7 <| tL q_8 <| tF h9 <| tF (rfl : false = false) <| tF h10 <| tF (rfl : false = false) <| tT h11 <| tF h12 <| tN
                          have e_ : Runs Tryd.prog 74 [(.one (.ref 0 0)), (.one (.pv (.int .i64 depth)))] [[(.pv (.bools l false)), (.pv (.int .i64 n))]] [] ([(.one (.pv (.imm [(.int .i64 2), (T_kinfolkref01_ID.pv (T_kinfolkref01_ID.mk n7 t4 t5)), (T_kinfolkref01_ID.pv (T_kinfolkref01_ID.mk n8 t6 t7))] 0))), (.one (.pv (.int .i64 0)))], [[(.pv (.bools l_4 false)), (.pv (.int .i64 n6))]], []) := runs_of (C := cfg) (objs := [[(.pv (.bools l false)), (.pv (.int .i64 n))]]) (sc := t_.ev) (.k0 t_.pf (by kernel_rfl))
                          exact e_.out ⟨.eq rfl, .eq rfl, trivial⟩ ⟨⟨.eq rfl, .eq rfl, trivial⟩, trivial⟩ trivial rfl
                      · have h := some_of h
                        subst h
                        have t_ := tR (kinfolkref05_Get_2_runs 2 l n _ h1) <| tT h2 <| tL q_3 <| tF (not_of2 h4) <| tF h5 <| tR (kinfolkref01_Zero_runs _ h6) <| tR (kinfolkref01_Zero_runs _ h6) <| tL q_7 <| tL q_8 <| tF h9 <| tF (rfl : false = false) <| tF h10 <| tF (rfl : false = false) <| tF h11 <| tF (rfl : false = false) <| tN
                        have e_ : Runs Tryd.prog 74 [(.one (.ref 0 0)), (.one (.pv (.int .i64 depth)))] [[(.pv (.bools l false)), (.pv (.int .i64 n))]] [] ([(.one (.pv (.imm [(.int .i64 2), (T_kinfolkref01_ID.pv (T_kinfolkref01_ID.mk n7 t4 t5)), (T_kinfolkref01_ID.pv (T_kinfolkref01_ID.mk n8 t6 t7))] 0))), (.one (.pv (.int .i64 0)))], [[(.pv (.bools l_4 false)), (.pv (.int .i64 n6))]], []) := runs_of (C := cfg) (objs := [[(.pv (.bools l false)), (.pv (.int .i64 n))]]) (sc := t_.ev) (.k0 t_.pf (by kernel_rfl))
                        exact e_.out ⟨.eq rfl, .eq rfl, trivial⟩ ⟨⟨.eq rfl, .eq rfl, trivial⟩, trivial⟩ trivial rfl
            · have h := some_of h
              subst h
              have t_ := tR (kinfolkref05_Get_2_runs 2 l n _ h1) <| tT h2 <| tL q_3 <| tF (not_of2 h4) <| tF h5 <| tR (kinfolkref01_Zero_runs _ h6) <| tR (kinfolkref01_Zero_runs _ h6) <| tL q_7 <| tL (kinfolkref07_GetID_C58_runs rec_kinfolkref07_GetID_4 hrec_kinfolkref07_GetID_4 depth n2 t2 t (!(decide ((n2 : Int) = 2))) l_3 n5 _ h8) <| tN
              exact runs_of (C := cfg) (objs := [[(.pv (.bools l false)), (.pv (.int .i64 n))]]) (sc := t_.ev) (.k0 t_.pf (by kernel_rfl))
          · have h := some_of h
            subst h
            have t_ := tR (kinfolkref05_Get_2_runs 2 l n _ h1) <| tT h2 <| tL q_3 <| tF (not_of2 h4) <| tF h5 <| tR (kinfolkref01_Zero_runs _ h6) <| tR (kinfolkref01_Zero_runs _ h6) <| tL (kinfolkref07_GetID_C45_2_runs rec_kinfolkref07_GetID_4 hrec_kinfolkref07_GetID_4 depth n2 t t (!(decide ((n2 : Int) = 1))) l_2 n4 _ h7) <| tN
            exact runs_of (C := cfg) (objs := [[(.pv (.bools l false)), (.pv (.int .i64 n))]]) (sc := t_.ev) (.k0 t_.pf (by kernel_rfl))
      · obtain ⟨t, h5, h⟩ := bind_of h
        have h := some_of h
        subst h
        have t_ := tR (kinfolkref05_Get_2_runs 2 l n _ h1) <| tT h2 <| tL q_3 <| tT (not_of h4) <| tR (kinfolkref01_Zero_runs _ h5) <| tN
        exact runs_of (C := cfg) (objs := [[(.pv (.bools l false)), (.pv (.int .i64 n))]]) (sc := t_.ev) (.k0 t_.pf (by kernel_rfl))
  · obtain ⟨t, h3, h⟩ := bind_of h
    have h := some_of h
    subst h
    have t_ := tR (kinfolkref05_Get_2_runs 2 l n _ h1) <| tF h2 <| tF (rfl : false = false) <| tT (not_of h2) <| tR (kinfolkref01_Zero_runs _ h3) <| tN
    exact runs_of (C := cfg) (objs := [[(.pv (.bools l false)), (.pv (.int .i64 n))]]) (sc := t_.ev) (.k0 t_.pf (by kernel_rfl))
noncomputable def kinfolkref07_GetID_4 : Nat → Int → List Bool → Int → Option (T_kinfolkref01_ID × Int × List Bool × Int)
  | 0, _, _, _ => none
  | N + 1, depth, l, n => kinfolkref07_GetID_4_b (kinfolkref07_GetID_4 N) depth l n
theorem kinfolkref07_GetID_4_runs : ∀ (N : Nat) (depth : Int) (l : List Bool) (n : Int) (r_ : T_kinfolkref01_ID × Int × List Bool × Int), kinfolkref07_GetID_4 N depth l n = some r_ → Runs Tryd.prog 74 [(.one (.ref 0 0)), (.one (.pv (.int .i64 depth)))] [[(.pv (.bools l false)), (.pv (.int .i64 n))]] [] (kinfolkref07_GetID_4_out depth l n r_)
  | 0, _, _, _, _, h => by cases h
  | N + 1, depth, l, n, r_, h => kinfolkref07_GetID_4_b_runs (kinfolkref07_GetID_4 N) (kinfolkref07_GetID_4_runs N) depth l n r_ h
/-! ### kinfolkref07_GetID_C45 -/
def kinfolkref07_GetID_C45_ex (depth : Int) (kind : Int) (x : T_kinfolkref01_ID) (y : T_kinfolkref01_ID) (b : Bool) (l : List Bool) (n : Int) : (T_kinfolkref01_ID × List Bool × Int) ⊕ (T_kinfolkref01_ID × Int × List Bool × Int) → Ex × St
  | .inl (r1, r2, r3) => (.normal, ⟨[(0, (.av (.one (.ref 0 0)))), (1, (.av (.one (.pv (.int .i64 depth))))), (6, (.av (.one (.pv (.int .u64 kind))))), (8, (.av (.one (.pv (T_kinfolkref01_ID.pv r1))))), (9, (.av (.one (.pv (T_kinfolkref01_ID.pv y)))))], [(0, [(.pv (.bools r2 false)), (.pv (.int .i64 r3))])], []⟩)
  | .inr (r1, r2, r3, r4) => (.ret, ⟨[(4, (.av (.one (.pv (T_kinfolkref01_ID.pv r1))))), (5, (.av (.one (.pv (.int .i64 r2)))))], [(0, [(.pv (.bools r3 false)), (.pv (.int .i64 r4))])], []⟩)
noncomputable def kinfolkref07_GetID_C45 (N : Nat) (depth : Int) (kind : Int) (x : T_kinfolkref01_ID) (y : T_kinfolkref01_ID) (b : Bool) (l : List Bool) (n : Int) : Option ((T_kinfolkref01_ID × List Bool × Int) ⊕ (T_kinfolkref01_ID × Int × List Bool × Int)) :=
  bif b then
    (kinfolkref07_GetID_4 N (iadd .i64 depth 1) l n).bind fun (t, n2, l_, n3) =>
    bif (decide ((n2 : Int) = 0)) then
      some (.inl (t, l_, n3))
    else
      (kinfolkref01_Zero).bind fun t2 =>
      some (.inr (t2, n2, l_, n3))
  else
    some (.inl (x, l, n))
theorem kinfolkref07_GetID_C45_runs (N : Nat) (depth : Int) (kind : Int) (x : T_kinfolkref01_ID) (y : T_kinfolkref01_ID) (b : Bool) (l : List Bool) (n : Int) (r_ : (T_kinfolkref01_ID × List Bool × Int) ⊕ (T_kinfolkref01_ID × Int × List Bool × Int)) (h : kinfolkref07_GetID_C45 N depth kind x y b l n = some r_) : LRuns Tryd.prog (lEnv Tryd.prog cfg 74 1).nt 1 (.cond (.tmp 45) (condAt Tryd.prog 74 45).1 (condAt Tryd.prog 74 45).2) ⟨[(0, (.av (.one (.ref 0 0)))), (1, (.av (.one (.pv (.int .i64 depth))))), (6, (.av (.one (.pv (.int .u64 kind))))), (8, (.av (.one (.pv (T_kinfolkref01_ID.pv x))))), (9, (.av (.one (.pv (T_kinfolkref01_ID.pv y))))), (45, (.av (.one (.pv (.bool b)))))], [(0, [(.pv (.bools l false)), (.pv (.int .i64 n))])], []⟩ (kinfolkref07_GetID_C45_ex depth kind x y b l n r_).1 (kinfolkref07_GetID_C45_ex depth kind x y b l n r_).2 := by
  unfold kinfolkref07_GetID_C45 at h
  rcases cond_of h with ⟨h1, h⟩ | ⟨h1, h⟩
  · obtain ⟨⟨t, n2, l_, n3⟩, h2, h⟩ := bind_of h
    have q_2 := (kinfolkref07_GetID_4_runs N (iadd .i64 depth 1) l n _ h2)
    rcases cond_of h with ⟨h3, h⟩ | ⟨h3, h⟩
    · have h := some_of h
      subst h
      have t_ := tT h1 <| tR q_2 <| tF (not_of2 h3) <| tN
      exact piece_ok (C := cfg) (sc := t_.ev) (.k0 t_.pf (by kernel_rfl))
    · obtain ⟨t2, h4, h⟩ := bind_of h
      have h := some_of h
      subst h
      have t_ := tT h1 <| tR q_2 <| tT (not_of h3) <| tR (kinfolkref01_Zero_runs _ h4) <| tN
      exact piece_ok (C := cfg) (sc := t_.ev) (.k0 t_.pf (by kernel_rfl))
  · have h := some_of h
    subst h
    have t_ := tF h1 <| tN
    exact piece_ok (C := cfg) (sc := t_.ev) (.k0 t_.pf (by kernel_rfl))

end Go.Proofs.YtjjakdmcnkldoaaDoor
