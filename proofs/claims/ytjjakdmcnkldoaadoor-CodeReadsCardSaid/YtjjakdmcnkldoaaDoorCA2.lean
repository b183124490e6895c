/- What functions compute, and that they do. -/
import Derived.Test.YtjjakdmcnkldoaaDoorCA1
set_option linter.unusedVariables false
set_option linter.unusedSimpArgs false
set_option maxRecDepth 100000
namespace Go.Proofs.YtjjakdmcnkldoaaDoor
open Go.Ev

/-! ### id_pair -/
noncomputable def id_pair (l : Bool) (l2 : T_id_halves) (r : Bool) (r2 : T_id_halves) : Option (Bool × T_id_halves) :=
  (id_ID_IsZero l l2).bind fun b =>
  bif b then
    (id_ID_IsZero r r2).bind fun b2 =>
    bif b2 then
      (id_Zero).bind fun _ =>
      some (false, T_id_halves.nil)
    else
      (id_ID_IsOne l l2).bind fun _ =>
      bif l then
        (id_ID_IsOne r r2).bind fun _ =>
        bif r then
          (id_One).bind fun _ =>
          some (true, T_id_halves.nil)
        else
          some (false, (T_id_halves.mk l l2 r r2))
      else
        some (false, (T_id_halves.mk l l2 r r2))
  else
    (id_ID_IsOne l l2).bind fun _ =>
    bif l then
      (id_ID_IsOne r r2).bind fun _ =>
      bif r then
        (id_One).bind fun _ =>
        some (true, T_id_halves.nil)
      else
        some (false, (T_id_halves.mk l l2 r r2))
    else
      some (false, (T_id_halves.mk l l2 r r2))
theorem id_pair_runs (l : Bool) (l2 : T_id_halves) (r : Bool) (r2 : T_id_halves) (r_ : Bool × T_id_halves) (h : id_pair l l2 r r2 = some r_) : Runs Tryd.prog 159 [(.agg [(.pv (.bool l)), (.pv (T_id_halves.pv l2))]), (.agg [(.pv (.bool r)), (.pv (T_id_halves.pv r2))])] [] [] (id_pair_out l l2 r r2 r_) := by
  unfold id_pair at h
  obtain ⟨b, h1, h⟩ := bind_of h
  rcases cond_of h with ⟨h2, h⟩ | ⟨h2, h⟩
  · obtain ⟨b2, h3, h⟩ := bind_of h
    rcases cond_of h with ⟨h4, h⟩ | ⟨h4, h⟩
    · obtain ⟨_, h5, h⟩ := bind_of h
      have h := some_of h
      subst h
      have t_ := tR (id_ID_IsZero_runs l l2 _ h1) <| tT h2 <| tR (id_ID_IsZero_runs r r2 _ h3) <| tT h4 <| tR (id_Zero_runs _ h5) <| tN
      exact runs_of (C := cfg) (objs := []) (sc := t_.ev) (.k0 t_.pf (by kernel_rfl))
    · obtain ⟨_, h5, h⟩ := bind_of h
      rcases cond_of h with ⟨h6, h⟩ | ⟨h6, h⟩
      · obtain ⟨_, h7, h⟩ := bind_of h
        rcases cond_of h with ⟨h8, h⟩ | ⟨h8, h⟩
        · obtain ⟨_, h9, h⟩ := bind_of h
          have h := some_of h
          subst h
          have t_ := tR (id_ID_IsZero_runs l l2 _ h1) <| tT h2 <| tR (id_ID_IsZero_runs r r2 _ h3) <| tF h4 <| tR (id_ID_IsOne_runs l l2 _ h5) <| tT h6 <| tR (id_ID_IsOne_runs r r2 _ h7) <| tT h8 <| tR (id_One_runs _ h9) <| tN
          exact runs_of (C := cfg) (objs := []) (sc := t_.ev) (.k0 t_.pf (by kernel_rfl))
        · have h := some_of h
          subst h
          have t_ := tR (id_ID_IsZero_runs l l2 _ h1) <| tT h2 <| tR (id_ID_IsZero_runs r r2 _ h3) <| tF h4 <| tR (id_ID_IsOne_runs l l2 _ h5) <| tT h6 <| tR (id_ID_IsOne_runs r r2 _ h7) <| tF h8 <| tN
          have e_ : Runs Tryd.prog 159 [(.agg [(.pv (.bool l)), (.pv (T_id_halves.pv l2))]), (.agg [(.pv (.bool r)), (.pv (T_id_halves.pv r2))])] [] [] ([(.agg [(.pv (.bool false)), (.pv (.imm [(.bool l), (T_id_halves.pv l2), (.bool r), (T_id_halves.pv r2)] 0))])], [], []) := runs_of (C := cfg) (objs := []) (sc := t_.ev) (.k0 t_.pf (by kernel_rfl))
          exact e_.out ⟨⟨.eq rfl, .eq rfl, trivial⟩, trivial⟩ trivial trivial rfl
      · have h := some_of h
        subst h
        have t_ := tR (id_ID_IsZero_runs l l2 _ h1) <| tT h2 <| tR (id_ID_IsZero_runs r r2 _ h3) <| tF h4 <| tR (id_ID_IsOne_runs l l2 _ h5) <| tF h6 <| tF (rfl : false = false) <| tN
        have e_ : Runs Tryd.prog 159 [(.agg [(.pv (.bool l)), (.pv (T_id_halves.pv l2))]), (.agg [(.pv (.bool r)), (.pv (T_id_halves.pv r2))])] [] [] ([(.agg [(.pv (.bool false)), (.pv (.imm [(.bool l), (T_id_halves.pv l2), (.bool r), (T_id_halves.pv r2)] 0))])], [], []) := runs_of (C := cfg) (objs := []) (sc := t_.ev) (.k0 t_.pf (by kernel_rfl))
        exact e_.out ⟨⟨.eq rfl, .eq rfl, trivial⟩, trivial⟩ trivial trivial rfl
  · obtain ⟨_, h3, h⟩ := bind_of h
    rcases cond_of h with ⟨h4, h⟩ | ⟨h4, h⟩
    · obtain ⟨_, h5, h⟩ := bind_of h
      rcases cond_of h with ⟨h6, h⟩ | ⟨h6, h⟩
      · obtain ⟨_, h7, h⟩ := bind_of h
        have h := some_of h
        subst h
        have t_ := tR (id_ID_IsZero_runs l l2 _ h1) <| tF h2 <| tF (rfl : false = false) <| tR (id_ID_IsOne_runs l l2 _ h3) <| tT h4 <| tR (id_ID_IsOne_runs r r2 _ h5) <| tT h6 <| tR (id_One_runs _ h7) <| tN
        exact runs_of (C := cfg) (objs := []) (sc := t_.ev) (.k0 t_.pf (by kernel_rfl))
      · have h := some_of h
        subst h
        have t_ := tR (id_ID_IsZero_runs l l2 _ h1) <| tF h2 <| tF (rfl : false = false) <| tR (id_ID_IsOne_runs l l2 _ h3) <| tT h4 <| tR (id_ID_IsOne_runs r r2 _ h5) <| tF h6 <| tN
        have e_ : Runs Tryd.prog 159 [(.agg [(.pv (.bool l)), (.pv (T_id_halves.pv l2))]), (.agg [(.pv (.bool r)), (.pv (T_id_halves.pv r2))])] [] [] ([(.agg [(.pv (.bool false)), (.pv (.imm [(.bool l), (T_id_halves.pv l2), (.bool r), (T_id_halves.pv r2)] 0))])], [], []) := runs_of (C := cfg) (objs := []) (sc := t_.ev) (.k0 t_.pf (by kernel_rfl))
        exact e_.out ⟨⟨.eq rfl, .eq rfl, trivial⟩, trivial⟩ trivial trivial rfl
    · have h := some_of h
      subst h
      have t_ := tR (id_ID_IsZero_runs l l2 _ h1) <| tF h2 <| tF (rfl : false = false) <| tR (id_ID_IsOne_runs l l2 _ h3) <| tF h4 <| tF (rfl : false = false) <| tN
      have e_ : Runs Tryd.prog 159 [(.agg [(.pv (.bool l)), (.pv (T_id_halves.pv l2))]), (.agg [(.pv (.bool r)), (.pv (T_id_halves.pv r2))])] [] [] ([(.agg [(.pv (.bool false)), (.pv (.imm [(.bool l), (T_id_halves.pv l2), (.bool r), (T_id_halves.pv r2)] 0))])], [], []) := runs_of (C := cfg) (objs := []) (sc := t_.ev) (.k0 t_.pf (by kernel_rfl))
      exact e_.out ⟨⟨.eq rfl, .eq rfl, trivial⟩, trivial⟩ trivial trivial rfl
/-! ### id_ID_Depth_out -/
def id_ID_Depth_out (i : Bool) (i2 : T_id_halves) : Int → Res
  | r1 => ([(.one (.pv (.int .i64 r1)))], [], [])
/-! ### id_ID_Depth -/
noncomputable def id_ID_Depth_b (rec_id_ID_Depth : Bool → T_id_halves → Option (Int)) (i : Bool) (i2 : T_id_halves) : Option (Int) :=
  match i2 with
  | .nil =>
    some 0
  | .mk b t b2 t2 =>
    (rec_id_ID_Depth b t).bind fun n =>
    (rec_id_ID_Depth b2 t2).bind fun n2 =>
    some (iadd .i64 1 (if (n : Int) < n2 then n2 else n))
theorem id_ID_Depth_b_runs (rec_id_ID_Depth : Bool → T_id_halves → Option (Int)) (hrec_id_ID_Depth : ∀ i i2 r_, rec_id_ID_Depth i i2 = some r_ → Runs Tryd.prog 141 [(.agg [(.pv (.bool i)), (.pv (T_id_halves.pv i2))])] [] [] (id_ID_Depth_out i i2 r_)) (i : Bool) (i2 : T_id_halves) (r_ : Int) (h : id_ID_Depth_b rec_id_ID_Depth i i2 = some r_) : Runs Tryd.prog 141 [(.agg [(.pv (.bool i)), (.pv (T_id_halves.pv i2))])] [] [] (id_ID_Depth_out i i2 r_) := by
  unfold id_ID_Depth_b at h
  cases i2 with
  | nil =>
    have h := some_of h
    subst h
    have t_ := tT (rfl : true = true) <| tN
    exact runs_of (C := cfg) (objs := []) (sc := t_.ev) (.k0 t_.pf (by kernel_rfl))
  | mk b t b2 t2 =>
    obtain ⟨n, h1, h⟩ := bind_of h
    obtain ⟨n2, h2, h⟩ := bind_of h
    have h := some_of h
    subst h
    have t_ := tF (rfl : false = false) <| tR (hrec_id_ID_Depth b t _ h1) <| tR (hrec_id_ID_Depth b t _ h1) <| tR (hrec_id_ID_Depth b2 t2 _ h2) <| tN
    exact runs_of (C := cfg) (objs := []) (sc := t_.ev) (.k1 t_.pf (by kernel_rfl) (by kernel_rfl))
noncomputable def id_ID_Depth : Nat → Bool → T_id_halves → Option (Int)
  | 0, _, _ => none
  | N + 1, i, i2 => id_ID_Depth_b (id_ID_Depth N) i i2
theorem id_ID_Depth_runs : ∀ (N : Nat) (i : Bool) (i2 : T_id_halves) (r_ : Int), id_ID_Depth N i i2 = some r_ → Runs Tryd.prog 141 [(.agg [(.pv (.bool i)), (.pv (T_id_halves.pv i2))])] [] [] (id_ID_Depth_out i i2 r_)
  | 0, _, _, _, h => by cases h
  | N + 1, i, i2, r_, h => id_ID_Depth_b_runs (id_ID_Depth N) (id_ID_Depth_runs N) i i2 r_ h
/-! ### id_Pair -/
noncomputable def id_Pair (N : Nat) (l : Bool) (l2 : T_id_halves) (r : Bool) (r2 : T_id_halves) : Option (Bool × T_id_halves × Int) :=
  (id_pair l l2 r r2).bind fun (b, t) =>
  (id_ID_Depth N b t).bind fun n =>
  bif (decide ((16 : Int) < n)) then
    (id_Zero).bind fun _ =>
    some (false, T_id_halves.nil, 3)
  else
    some (b, t, 0)
theorem id_Pair_runs (N : Nat) (l : Bool) (l2 : T_id_halves) (r : Bool) (r2 : T_id_halves) (r_ : Bool × T_id_halves × Int) (h : id_Pair N l l2 r r2 = some r_) : Runs Tryd.prog 137 [(.agg [(.pv (.bool l)), (.pv (T_id_halves.pv l2))]), (.agg [(.pv (.bool r)), (.pv (T_id_halves.pv r2))])] [] [] (id_Pair_out l l2 r r2 r_) := by
  unfold id_Pair at h
  obtain ⟨⟨b, t⟩, h1, h⟩ := bind_of h
  obtain ⟨n, h2, h⟩ := bind_of h
  rcases cond_of h with ⟨h3, h⟩ | ⟨h3, h⟩
  · obtain ⟨_, h4, h⟩ := bind_of h
    have h := some_of h
    subst h
    have t_ := tR (id_pair_runs l l2 r r2 _ h1) <| tR (id_ID_Depth_runs N b t _ h2) <| tT h3 <| tR (id_Zero_runs _ h4) <| tN
    exact runs_of (C := cfg) (objs := []) (sc := t_.ev) (.k0 t_.pf (by kernel_rfl))
  · have h := some_of h
    subst h
    have t_ := tR (id_pair_runs l l2 r r2 _ h1) <| tR (id_ID_Depth_runs N b t _ h2) <| tF h3 <| tN
    exact runs_of (C := cfg) (objs := []) (sc := t_.ev) (.k0 t_.pf (by kernel_rfl))
/-! ### code_source_id_C30 -/
def code_source_id_C30_ex (depth : Int) (kind : Int) (b : Bool) (n : Int) (l : List Int) (n2 : Int) (n3 : Int) : Int × Int × Int × Bool × T_id_halves → Ex × St
  | (r1, r2, r3, r4, r5) => (.normal, ⟨[(0, (.av (.one (.ref 0 0)))), (1, (.av (.one (.pv (.int .i64 depth))))), (4, (.av (.one (.ref 2 0)))), (5, (.av (.one (.ref 3 0)))), (6, (.av (.one (.ref 4 0)))), (7, (.av (.one (.pv (.int .u64 kind)))))], [(0, [(.ref 1 0), (.pv (.int .i64 r1))]), (1, [(.pv (.ints .u8 l false)), (.pv (.int .i64 r2)), (.pv (.int .i64 r3))]), (2, [(.pv (.bool false)), (.pv (T_id_halves.pv T_id_halves.nil))]), (3, [(.pv (.bool r4)), (.pv (T_id_halves.pv r5))]), (4, [(.pv (.bool false)), (.pv (T_id_halves.pv T_id_halves.nil))])], []⟩)
noncomputable def code_source_id_C30 (rec_code_source_id_2 : Int → Int → List Int → Int → Int → Option (Bool × T_id_halves × Int × Int × Int)) (depth : Int) (kind : Int) (b : Bool) (n : Int) (l : List Int) (n2 : Int) (n3 : Int) : Option (Int × Int × Int × Bool × T_id_halves) :=
  bif b then
    (rec_code_source_id_2 (iadd .i64 depth 1) n l n2 n3).bind fun (b2, t, n4, n5, n6) =>
    some (n4, n5, n6, b2, t)
  else
    some (n, n2, n3, false, T_id_halves.nil)
theorem code_source_id_C30_runs (rec_code_source_id_2 : Int → Int → List Int → Int → Int → Option (Bool × T_id_halves × Int × Int × Int)) (hrec_code_source_id_2 : ∀ depth n l n2 n3 r_, rec_code_source_id_2 depth n l n2 n3 = some r_ → Runs Tryd.prog 121 [(.one (.ref 0 0)), (.one (.pv (.int .i64 depth)))] [[(.ref 1 0), (.pv (.int .i64 n))], [(.pv (.ints .u8 l false)), (.pv (.int .i64 n2)), (.pv (.int .i64 n3))]] [] (code_source_id_2_out depth n l n2 n3 r_)) (depth : Int) (kind : Int) (b : Bool) (n : Int) (l : List Int) (n2 : Int) (n3 : Int) (r_ : Int × Int × Int × Bool × T_id_halves) (h : code_source_id_C30 rec_code_source_id_2 depth kind b n l n2 n3 = some r_) : LRuns Tryd.prog (lEnv Tryd.prog cfg 121 2).nt 2 (.cond (.tmp 30) (condAt Tryd.prog 121 30).1 (condAt Tryd.prog 121 30).2) ⟨[(0, (.av (.one (.ref 0 0)))), (1, (.av (.one (.pv (.int .i64 depth))))), (4, (.av (.one (.ref 2 0)))), (5, (.av (.one (.ref 3 0)))), (6, (.av (.one (.ref 4 0)))), (7, (.av (.one (.pv (.int .u64 kind))))), (30, (.av (.one (.pv (.bool b)))))], [(0, [(.ref 1 0), (.pv (.int .i64 n))]), (1, [(.pv (.ints .u8 l false)), (.pv (.int .i64 n2)), (.pv (.int .i64 n3))]), (2, [(.pv (.bool false)), (.pv (T_id_halves.pv T_id_halves.nil))]), (3, [(.pv (.bool false)), (.pv (T_id_halves.pv T_id_halves.nil))]), (4, [(.pv (.bool false)), (.pv (T_id_halves.pv T_id_halves.nil))])], []⟩ (code_source_id_C30_ex depth kind b n l n2 n3 r_).1 (code_source_id_C30_ex depth kind b n l n2 n3 r_).2 := by
  unfold code_source_id_C30 at h
  rcases cond_of h with ⟨h1, h⟩ | ⟨h1, h⟩
  · obtain ⟨⟨b2, t, n4, n5, n6⟩, h2, h⟩ := bind_of h
    have h := some_of h
    subst h
    have t_ := tT h1 <| tR (hrec_code_source_id_2 (iadd .i64 depth 1) n l n2 n3 _ h2) <| tN
    exact piece_ok (C := cfg) (sc := t_.ev) (.k0 t_.pf (by kernel_rfl))
  · have h := some_of h
    subst h
    have t_ := tF h1 <| tN
    exact piece_ok (C := cfg) (sc := t_.ev) (.k0 t_.pf (by kernel_rfl))
/-! ### code_source_id_C40 -/
def code_source_id_C40_ex (depth : Int) (kind : Int) (b : Bool) (n : Int) (l : List Int) (n2 : Int) (n3 : Int) (b2 : Bool) (t : T_id_halves) : Int × Int × Int × Bool × T_id_halves → Ex × St
  | (r1, r2, r3, r4, r5) => (.normal, ⟨[(0, (.av (.one (.ref 0 0)))), (4, (.av (.one (.ref 2 0)))), (5, (.av (.one (.ref 3 0)))), (6, (.av (.one (.ref 4 0)))), (7, (.av (.one (.pv (.int .u64 kind)))))], [(0, [(.ref 1 0), (.pv (.int .i64 r1))]), (1, [(.pv (.ints .u8 l false)), (.pv (.int .i64 r2)), (.pv (.int .i64 r3))]), (2, [(.pv (.bool false)), (.pv (T_id_halves.pv T_id_halves.nil))]), (3, [(.pv (.bool b2)), (.pv (T_id_halves.pv t))]), (4, [(.pv (.bool r4)), (.pv (T_id_halves.pv r5))])], []⟩)
noncomputable def code_source_id_C40 (rec_code_source_id_2 : Int → Int → List Int → Int → Int → Option (Bool × T_id_halves × Int × Int × Int)) (depth : Int) (kind : Int) (b : Bool) (n : Int) (l : List Int) (n2 : Int) (n3 : Int) (b2 : Bool) (t : T_id_halves) : Option (Int × Int × Int × Bool × T_id_halves) :=
  bif b then
    (rec_code_source_id_2 (iadd .i64 depth 1) n l n2 n3).bind fun (b3, t2, n4, n5, n6) =>
    some (n4, n5, n6, b3, t2)
  else
    some (n, n2, n3, false, T_id_halves.nil)
theorem code_source_id_C40_runs (rec_code_source_id_2 : Int → Int → List Int → Int → Int → Option (Bool × T_id_halves × Int × Int × Int)) (hrec_code_source_id_2 : ∀ depth n l n2 n3 r_, rec_code_source_id_2 depth n l n2 n3 = some r_ → Runs Tryd.prog 121 [(.one (.ref 0 0)), (.one (.pv (.int .i64 depth)))] [[(.ref 1 0), (.pv (.int .i64 n))], [(.pv (.ints .u8 l false)), (.pv (.int .i64 n2)), (.pv (.int .i64 n3))]] [] (code_source_id_2_out depth n l n2 n3 r_)) (depth : Int) (kind : Int) (b : Bool) (n : Int) (l : List Int) (n2 : Int) (n3 : Int) (b2 : Bool) (t : T_id_halves) (r_ : Int × Int × Int × Bool × T_id_halves) (h : code_source_id_C40 rec_code_source_id_2 depth kind b n l n2 n3 b2 t = some r_) : LRuns Tryd.prog (lEnv Tryd.prog cfg 121 2).nt 2 (.cond (.tmp 40) (condAt Tryd.prog 121 40).1 (condAt Tryd.prog 121 40).2) ⟨[(0, (.av (.one (.ref 0 0)))), (1, (.av (.one (.pv (.int .i64 depth))))), (4, (.av (.one (.ref 2 0)))), (5, (.av (.one (.ref 3 0)))), (6, (.av (.one (.ref 4 0)))), (7, (.av (.one (.pv (.int .u64 kind))))), (40, (.av (.one (.pv (.bool b)))))], [(0, [(.ref 1 0), (.pv (.int .i64 n))]), (1, [(.pv (.ints .u8 l false)), (.pv (.int .i64 n2)), (.pv (.int .i64 n3))]), (2, [(.pv (.bool false)), (.pv (T_id_halves.pv T_id_halves.nil))]), (3, [(.pv (.bool b2)), (.pv (T_id_halves.pv t))]), (4, [(.pv (.bool false)), (.pv (T_id_halves.pv T_id_halves.nil))])], []⟩ (code_source_id_C40_ex depth kind b n l n2 n3 b2 t r_).1 (code_source_id_C40_ex depth kind b n l n2 n3 b2 t r_).2 := by
  unfold code_source_id_C40 at h
  rcases cond_of h with ⟨h1, h⟩ | ⟨h1, h⟩
  · obtain ⟨⟨b3, t2, n4, n5, n6⟩, h2, h⟩ := bind_of h
    have h := some_of h
    subst h
    have t_ := tT h1 <| tR (hrec_code_source_id_2 (iadd .i64 depth 1) n l n2 n3 _ h2) <| tN
    exact piece_ok (C := cfg) (sc := t_.ev) (.k0 t_.pf (by kernel_rfl))
  · have h := some_of h
    subst h
    have t_ := tF h1 <| tN
    exact piece_ok (C := cfg) (sc := t_.ev) (.k0 t_.pf (by kernel_rfl))
/-! ### code_source_id_C40_2 -/
def code_source_id_C40_2_ex (depth : Int) (kind : Int) (b : Bool) (n : Int) (l : List Int) (n2 : Int) (n3 : Int) : Int × Int × Int × Bool × T_id_halves → Ex × St
  | (r1, r2, r3, r4, r5) => (.normal, ⟨[(0, (.av (.one (.ref 0 0)))), (4, (.av (.one (.ref 2 0)))), (5, (.av (.one (.ref 3 0)))), (6, (.av (.one (.ref 4 0)))), (7, (.av (.one (.pv (.int .u64 kind)))))], [(0, [(.ref 1 0), (.pv (.int .i64 r1))]), (1, [(.pv (.ints .u8 l false)), (.pv (.int .i64 r2)), (.pv (.int .i64 r3))]), (2, [(.pv (.bool false)), (.pv (T_id_halves.pv T_id_halves.nil))]), (3, [(.pv (.bool false)), (.pv (T_id_halves.pv T_id_halves.nil))]), (4, [(.pv (.bool r4)), (.pv (T_id_halves.pv r5))])], []⟩)
noncomputable def code_source_id_C40_2 (rec_code_source_id_2 : Int → Int → List Int → Int → Int → Option (Bool × T_id_halves × Int × Int × Int)) (depth : Int) (kind : Int) (b : Bool) (n : Int) (l : List Int) (n2 : Int) (n3 : Int) : Option (Int × Int × Int × Bool × T_id_halves) :=
  bif b then
    (rec_code_source_id_2 (iadd .i64 depth 1) n l n2 n3).bind fun (b2, t, n4, n5, n6) =>
    some (n4, n5, n6, b2, t)
  else
    some (n, n2, n3, false, T_id_halves.nil)
theorem code_source_id_C40_2_runs (rec_code_source_id_2 : Int → Int → List Int → Int → Int → Option (Bool × T_id_halves × Int × Int × Int)) (hrec_code_source_id_2 : ∀ depth n l n2 n3 r_, rec_code_source_id_2 depth n l n2 n3 = some r_ → Runs Tryd.prog 121 [(.one (.ref 0 0)), (.one (.pv (.int .i64 depth)))] [[(.ref 1 0), (.pv (.int .i64 n))], [(.pv (.ints .u8 l false)), (.pv (.int .i64 n2)), (.pv (.int .i64 n3))]] [] (code_source_id_2_out depth n l n2 n3 r_)) (depth : Int) (kind : Int) (b : Bool) (n : Int) (l : List Int) (n2 : Int) (n3 : Int) (r_ : Int × Int × Int × Bool × T_id_halves) (h : code_source_id_C40_2 rec_code_source_id_2 depth kind b n l n2 n3 = some r_) : LRuns Tryd.prog (lEnv Tryd.prog cfg 121 2).nt 2 (.cond (.tmp 40) (condAt Tryd.prog 121 40).1 (condAt Tryd.prog 121 40).2) ⟨[(0, (.av (.one (.ref 0 0)))), (1, (.av (.one (.pv (.int .i64 depth))))), (4, (.av (.one (.ref 2 0)))), (5, (.av (.one (.ref 3 0)))), (6, (.av (.one (.ref 4 0)))), (7, (.av (.one (.pv (.int .u64 kind))))), (40, (.av (.one (.pv (.bool b)))))], [(0, [(.ref 1 0), (.pv (.int .i64 n))]), (1, [(.pv (.ints .u8 l false)), (.pv (.int .i64 n2)), (.pv (.int .i64 n3))]), (2, [(.pv (.bool false)), (.pv (T_id_halves.pv T_id_halves.nil))]), (3, [(.pv (.bool false)), (.pv (T_id_halves.pv T_id_halves.nil))]), (4, [(.pv (.bool false)), (.pv (T_id_halves.pv T_id_halves.nil))])], []⟩ (code_source_id_C40_2_ex depth kind b n l n2 n3 r_).1 (code_source_id_C40_2_ex depth kind b n l n2 n3 r_).2 := by
  unfold code_source_id_C40_2 at h
  rcases cond_of h with ⟨h1, h⟩ | ⟨h1, h⟩
  · obtain ⟨⟨b2, t, n4, n5, n6⟩, h2, h⟩ := bind_of h
    have h := some_of h
    subst h
    have t_ := tT h1 <| tR (hrec_code_source_id_2 (iadd .i64 depth 1) n l n2 n3 _ h2) <| tN
    exact piece_ok (C := cfg) (sc := t_.ev) (.k0 t_.pf (by kernel_rfl))
  · have h := some_of h
    subst h
    have t_ := tF h1 <| tN
    exact piece_ok (C := cfg) (sc := t_.ev) (.k0 t_.pf (by kernel_rfl))
/-! ### code_source_id_2 -/
noncomputable def code_source_id_2_b (N : Nat) (rec_code_source_id_2 : Int → Int → List Int → Int → Int → Option (Bool × T_id_halves × Int × Int × Int)) (depth : Int) (n : Int) (l : List Int) (n2 : Int) (n3 : Int) : Option (Bool × T_id_halves × Int × Int × Int) :=
  (id_Zero).bind fun _ =>
  (code_source_bit 2 n l n2 n3).bind fun (n4, n5, n6, n7) =>
  bif (decide ((n4 : Int) = 0)) then
    (code_source_bit 1 n5 l n6 n7).bind fun (n8, n9, n10, n11) =>
    bif (decide ((n8 : Int) = 1)) then
      (id_One).bind fun _ =>
      some (true, T_id_halves.nil, n9, n10, n11)
    else
      some (false, T_id_halves.nil, n9, n10, n11)
  else
    (code_source_id_C22 depth n4 (decide ((depth : Int) = 16)) n5 l n6 n7).bind fun n8 =>
    (code_source_ok n8 l n6 n7).bind fun (b, n9) =>
    bif b then
      (code_source_id_C30 rec_code_source_id_2 depth n4 (!(decide ((n4 : Int) = 1))) n9 l n6 n7).bind fun (n10, n11, n12, b2, t) =>
      (code_source_ok n10 l n11 n12).bind fun (b3, n13) =>
      bif b3 then
        (code_source_id_C40 rec_code_source_id_2 depth n4 (!(decide ((n4 : Int) = 2))) n13 l n11 n12 b2 t).bind fun (n14, n15, n16, b4, t2) =>
        (id_ID_IsZero b2 t).bind fun b5 =>
        bif (b5 == (decide ((n4 : Int) = 1))) then
          (id_ID_IsZero b4 t2).bind fun b6 =>
          bif (b6 == (decide ((n4 : Int) = 2))) then
            (id_ID_IsOne b2 t).bind fun _ =>
            bif b2 then
              (id_ID_IsOne b4 t2).bind fun _ =>
              (code_source_must (!b4) n14 l n15 n16).bind fun n17 =>
              (id_Pair N b2 t b4 t2).bind fun (b7, t3, n18) =>
              some (b7, t3, n17, n15, n16)
            else
              (code_source_must true n14 l n15 n16).bind fun n17 =>
              (id_Pair N b2 t b4 t2).bind fun (b7, t3, n18) =>
              some (b7, t3, n17, n15, n16)
          else
            (code_source_must false n14 l n15 n16).bind fun n17 =>
            (id_Pair N b2 t b4 t2).bind fun (b7, t3, n18) =>
            some (b7, t3, n17, n15, n16)
        else
          (code_source_must false n14 l n15 n16).bind fun n17 =>
          (id_Pair N b2 t b4 t2).bind fun (b6, t3, n18) =>
          some (b6, t3, n17, n15, n16)
      else
        (id_ID_IsZero b2 t).bind fun b4 =>
        bif (b4 == (decide ((n4 : Int) = 1))) then
          (id_ID_IsZero false T_id_halves.nil).bind fun b5 =>
          bif (b5 == (decide ((n4 : Int) = 2))) then
            (id_ID_IsOne b2 t).bind fun _ =>
            bif b2 then
              (id_ID_IsOne false T_id_halves.nil).bind fun _ =>
              (code_source_must true n13 l n11 n12).bind fun n14 =>
              (id_Pair N b2 t false T_id_halves.nil).bind fun (b6, t2, n15) =>
              some (b6, t2, n14, n11, n12)
            else
              (code_source_must true n13 l n11 n12).bind fun n14 =>
              (id_Pair N b2 t false T_id_halves.nil).bind fun (b6, t2, n15) =>
              some (b6, t2, n14, n11, n12)
          else
            (code_source_must false n13 l n11 n12).bind fun n14 =>
            (id_Pair N b2 t false T_id_halves.nil).bind fun (b6, t2, n15) =>
            some (b6, t2, n14, n11, n12)
        else
          (code_source_must false n13 l n11 n12).bind fun n14 =>
          (id_Pair N b2 t false T_id_halves.nil).bind fun (b5, t2, n15) =>
          some (b5, t2, n14, n11, n12)
    else
      (code_source_ok n9 l n6 n7).bind fun (b2, n10) =>
      bif b2 then
        (code_source_id_C40_2 rec_code_source_id_2 depth n4 (!(decide ((n4 : Int) = 2))) n10 l n6 n7).bind fun (n11, n12, n13, b3, t) =>
        (id_ID_IsZero false T_id_halves.nil).bind fun b4 =>
        bif (b4 == (decide ((n4 : Int) = 1))) then
          (id_ID_IsZero b3 t).bind fun b5 =>
          bif (b5 == (decide ((n4 : Int) = 2))) then
            (id_ID_IsOne false T_id_halves.nil).bind fun _ =>
            (code_source_must true n11 l n12 n13).bind fun n14 =>
            (id_Pair N false T_id_halves.nil b3 t).bind fun (b6, t2, n15) =>
            some (b6, t2, n14, n12, n13)
          else
            (code_source_must false n11 l n12 n13).bind fun n14 =>
            (id_Pair N false T_id_halves.nil b3 t).bind fun (b6, t2, n15) =>
            some (b6, t2, n14, n12, n13)
        else
          (code_source_must false n11 l n12 n13).bind fun n14 =>
          (id_Pair N false T_id_halves.nil b3 t).bind fun (b5, t2, n15) =>
          some (b5, t2, n14, n12, n13)
      else
        (id_ID_IsZero false T_id_halves.nil).bind fun b3 =>
        bif (b3 == (decide ((n4 : Int) = 1))) then
          bif (b3 == (decide ((n4 : Int) = 2))) then
            (id_ID_IsOne false T_id_halves.nil).bind fun _ =>
            (code_source_must true n10 l n6 n7).bind fun n11 =>
            (id_Pair N false T_id_halves.nil false T_id_halves.nil).bind fun (b4, t, n12) =>
            some (b4, t, n11, n6, n7)
          else
            (code_source_must false n10 l n6 n7).bind fun n11 =>
            (id_Pair N false T_id_halves.nil false T_id_halves.nil).bind fun (b4, t, n12) =>
            some (b4, t, n11, n6, n7)
        else
          (code_source_must false n10 l n6 n7).bind fun n11 =>
          (id_Pair N false T_id_halves.nil false T_id_halves.nil).bind fun (b4, t, n12) =>
          some (b4, t, n11, n6, n7)
theorem code_source_id_2_b_runs (N : Nat) (rec_code_source_id_2 : Int → Int → List Int → Int → Int → Option (Bool × T_id_halves × Int × Int × Int)) (hrec_code_source_id_2 : ∀ depth n l n2 n3 r_, rec_code_source_id_2 depth n l n2 n3 = some r_ → Runs Tryd.prog 121 [(.one (.ref 0 0)), (.one (.pv (.int .i64 depth)))] [[(.ref 1 0), (.pv (.int .i64 n))], [(.pv (.ints .u8 l false)), (.pv (.int .i64 n2)), (.pv (.int .i64 n3))]] [] (code_source_id_2_out depth n l n2 n3 r_)) (depth : Int) (n : Int) (l : List Int) (n2 : Int) (n3 : Int) (r_ : Bool × T_id_halves × Int × Int × Int) (h : code_source_id_2_b N rec_code_source_id_2 depth n l n2 n3 = some r_) : Runs Tryd.prog 121 [(.one (.ref 0 0)), (.one (.pv (.int .i64 depth)))] [[(.ref 1 0), (.pv (.int .i64 n))], [(.pv (.ints .u8 l false)), (.pv (.int .i64 n2)), (.pv (.int .i64 n3))]] [] (code_source_id_2_out depth n l n2 n3 r_) := by
  unfold code_source_id_2_b at h
  obtain ⟨_, h1, h⟩ := bind_of h
  obtain ⟨⟨n4, n5, n6, n7⟩, h2, h⟩ := bind_of h
  rcases cond_of h with ⟨h3, h⟩ | ⟨h3, h⟩
  · obtain ⟨⟨n8, n9, n10, n11⟩, h4, h⟩ := bind_of h
    rcases cond_of h with ⟨h5, h⟩ | ⟨h5, h⟩
    · obtain ⟨_, h6, h⟩ := bind_of h
      have h := some_of h
      subst h
      have t_ := tR (id_Zero_runs _ h1) <| tR (id_Zero_runs _ h1) <| tR (code_source_bit_runs 2 n l n2 n3 _ h2) <| tT h3 <| tR (code_source_bit_runs 1 n5 l n6 n7 _ h4) <| tT h5 <| tR (id_One_runs _ h6) <| tN
      exact runs_of (C := cfg) (objs := [[(.ref 1 0), (.pv (.int .i64 n))], [(.pv (.ints .u8 l false)), (.pv (.int .i64 n2)), (.pv (.int .i64 n3))]]) (sc := t_.ev) (.k0 t_.pf (by kernel_rfl))
    · have h := some_of h
      subst h
      have t_ := tR (id_Zero_runs _ h1) <| tR (id_Zero_runs _ h1) <| tR (code_source_bit_runs 2 n l n2 n3 _ h2) <| tT h3 <| tR (code_source_bit_runs 1 n5 l n6 n7 _ h4) <| tF h5 <| tR (id_Zero_runs _ h1) <| tN
      exact runs_of (C := cfg) (objs := [[(.ref 1 0), (.pv (.int .i64 n))], [(.pv (.ints .u8 l false)), (.pv (.int .i64 n2)), (.pv (.int .i64 n3))]]) (sc := t_.ev) (.k0 t_.pf (by kernel_rfl))
  · obtain ⟨n8, h4, h⟩ := bind_of h
    have q_4 := (LRuns.coe (s0 := ⟨[(0, (.av (.one (.ref 0 0)))), (1, (.av (.one (.pv (.int .i64 depth))))), (4, (.av (.one (.ref 2 0)))), (5, (.av (.one (.ref 3 0)))), (6, (.av (.one (.ref 4 0)))), (7, (.av (.one (.pv (.int .u64 n4))))), (22, (.av (.one (.pv (.bool (decide ((depth : Int) = 16)))))))], [(0, [(.ref 1 0), (.pv (.int .i64 n5))]), (1, [(.pv (.ints .u8 l false)), (.pv (.int .i64 n6)), (.pv (.int .i64 n7))]), (2, [(.pv (.bool false)), (.pv .nilp)]), (3, [(.pv (.bool false)), (.pv (T_id_halves.pv T_id_halves.nil))]), (4, [(.pv (.bool false)), (.pv (T_id_halves.pv T_id_halves.nil))])], []⟩) (code_source_id_C22_runs depth n4 (decide ((depth : Int) = 16)) n5 l n6 n7 _ h4) ⟨⟨⟨_, rfl, .eq rfl⟩, ⟨_, rfl, .eq rfl⟩, ⟨_, rfl, .eq rfl⟩, ⟨_, rfl, .eq rfl⟩, ⟨_, rfl, .eq rfl⟩, ⟨_, rfl, .eq rfl⟩, ⟨_, rfl, .eq rfl⟩, trivial⟩, ⟨⟨rfl, ⟨.eq rfl, .eq rfl, trivial⟩⟩, ⟨rfl, ⟨.eq rfl, .eq rfl, .eq rfl, trivial⟩⟩, ⟨rfl, ⟨.eq rfl, .eq rfl, trivial⟩⟩, ⟨rfl, ⟨.eq rfl, .eq rfl, trivial⟩⟩, ⟨rfl, ⟨.eq rfl, .eq rfl, trivial⟩⟩, trivial⟩, trivial⟩)
    obtain ⟨⟨b, n9⟩, h5, h⟩ := bind_of h
    rcases cond_of h with ⟨h6, h⟩ | ⟨h6, h⟩
    · obtain ⟨⟨n10, n11, n12, b2, t⟩, h7, h⟩ := bind_of h
      have q_7 := (code_source_id_C30_runs rec_code_source_id_2 hrec_code_source_id_2 depth n4 (!(decide ((n4 : Int) = 1))) n9 l n6 n7 _ h7)
      obtain ⟨⟨b3, n13⟩, h8, h⟩ := bind_of h
      rcases cond_of h with ⟨h9, h⟩ | ⟨h9, h⟩
      · obtain ⟨⟨n14, n15, n16, b4, t2⟩, h10, h⟩ := bind_of h
        have q_10 := (code_source_id_C40_runs rec_code_source_id_2 hrec_code_source_id_2 depth n4 (!(decide ((n4 : Int) = 2))) n13 l n11 n12 b2 t _ h10)
        obtain ⟨b5, h11, h⟩ := bind_of h
        rcases cond_of h with ⟨h12, h⟩ | ⟨h12, h⟩
        · obtain ⟨b6, h13, h⟩ := bind_of h
          rcases cond_of h with ⟨h14, h⟩ | ⟨h14, h⟩
          · obtain ⟨_, h15, h⟩ := bind_of h
            rcases cond_of h with ⟨h16, h⟩ | ⟨h16, h⟩
            · obtain ⟨_, h17, h⟩ := bind_of h
              obtain ⟨n17, h18, h⟩ := bind_of h
              obtain ⟨⟨b7, t3, n18⟩, h19, h⟩ := bind_of h
              have h := some_of h
              subst h
              have t_ := tR (id_Zero_runs _ h1) <| tR (id_Zero_runs _ h1) <| tR (code_source_bit_runs 2 n l n2 n3 _ h2) <| tF h3 <| tL q_4 <| tR (code_source_ok_runs n8 l n6 n7 _ h5) <| tT h6 <| tL q_7 <| tR (code_source_ok_runs n10 l n11 n12 _ h8) <| tT h9 <| tL q_10 <| tR (id_ID_IsZero_runs b2 t _ h11) <| tT h12 <| tR (id_ID_IsZero_runs b4 t2 _ h13) <| tT h14 <| tR (id_ID_IsOne_runs b2 t _ h15) <| tT h16 <| tR (id_ID_IsOne_runs b4 t2 _ h17) <| tR (code_source_must_runs (!b4) n14 l n15 n16 _ h18) <| tR (id_Pair_runs N b2 t b4 t2 _ h19) <| tN
              exact runs_of (C := cfg) (objs := [[(.ref 1 0), (.pv (.int .i64 n))], [(.pv (.ints .u8 l false)), (.pv (.int .i64 n2)), (.pv (.int .i64 n3))]]) (sc := t_.ev) (.k0 t_.pf (by kernel_rfl))
            · obtain ⟨n17, h17, h⟩ := bind_of h
              obtain ⟨⟨b7, t3, n18⟩, h18, h⟩ := bind_of h
              have h := some_of h
              subst h
              have t_ := tR (id_Zero_runs _ h1) <| tR (id_Zero_runs _ h1) <| tR (code_source_bit_runs 2 n l n2 n3 _ h2) <| tF h3 <| tL q_4 <| tR (code_source_ok_runs n8 l n6 n7 _ h5) <| tT h6 <| tL q_7 <| tR (code_source_ok_runs n10 l n11 n12 _ h8) <| tT h9 <| tL q_10 <| tR (id_ID_IsZero_runs b2 t _ h11) <| tT h12 <| tR (id_ID_IsZero_runs b4 t2 _ h13) <| tT h14 <| tR (id_ID_IsOne_runs b2 t _ h15) <| tF h16 <| tR (code_source_must_runs true n14 l n15 n16 _ h17) <| tR (id_Pair_runs N b2 t b4 t2 _ h18) <| tN
              exact runs_of (C := cfg) (objs := [[(.ref 1 0), (.pv (.int .i64 n))], [(.pv (.ints .u8 l false)), (.pv (.int .i64 n2)), (.pv (.int .i64 n3))]]) (sc := t_.ev) (.k0 t_.pf (by kernel_rfl))
          · obtain ⟨n17, h15, h⟩ := bind_of h
            obtain ⟨⟨b7, t3, n18⟩, h16, h⟩ := bind_of h
            have h := some_of h
            subst h
            have t_ := tR (id_Zero_runs _ h1) <| tR (id_Zero_runs _ h1) <| tR (code_source_bit_runs 2 n l n2 n3 _ h2) <| tF h3 <| tL q_4 <| tR (code_source_ok_runs n8 l n6 n7 _ h5) <| tT h6 <| tL q_7 <| tR (code_source_ok_runs n10 l n11 n12 _ h8) <| tT h9 <| tL q_10 <| tR (id_ID_IsZero_runs b2 t _ h11) <| tT h12 <| tR (id_ID_IsZero_runs b4 t2 _ h13) <| tF h14 <| tR (code_source_must_runs false n14 l n15 n16 _ h15) <| tR (id_Pair_runs N b2 t b4 t2 _ h16) <| tN
            exact runs_of (C := cfg) (objs := [[(.ref 1 0), (.pv (.int .i64 n))], [(.pv (.ints .u8 l false)), (.pv (.int .i64 n2)), (.pv (.int .i64 n3))]]) (sc := t_.ev) (.k0 t_.pf (by kernel_rfl))
        · obtain ⟨n17, h13, h⟩ := bind_of h
          obtain ⟨⟨b6, t3, n18⟩, h14, h⟩ := bind_of h
          have h := some_of h
          subst h
          have t_ := tR (id_Zero_runs _ h1) <| tR (id_Zero_runs _ h1) <| tR (code_source_bit_runs 2 n l n2 n3 _ h2) <| tF h3 <| tL q_4 <| tR (code_source_ok_runs n8 l n6 n7 _ h5) <| tT h6 <| tL q_7 <| tR (code_source_ok_runs n10 l n11 n12 _ h8) <| tT h9 <| tL q_10 <| tR (id_ID_IsZero_runs b2 t _ h11) <| tF h12 <| tF (rfl : false = false) <| tR (code_source_must_runs false n14 l n15 n16 _ h13) <| tR (id_Pair_runs N b2 t b4 t2 _ h14) <| tN
          exact runs_of (C := cfg) (objs := [[(.ref 1 0), (.pv (.int .i64 n))], [(.pv (.ints .u8 l false)), (.pv (.int .i64 n2)), (.pv (.int .i64 n3))]]) (sc := t_.ev) (.k0 t_.pf (by kernel_rfl))
      · obtain ⟨b4, h10, h⟩ := bind_of h
        rcases cond_of h with ⟨h11, h⟩ | ⟨h11, h⟩
        · obtain ⟨b5, h12, h⟩ := bind_of h
          rcases cond_of h with ⟨h13, h⟩ | ⟨h13, h⟩
          · obtain ⟨_, h14, h⟩ := bind_of h
            rcases cond_of h with ⟨h15, h⟩ | ⟨h15, h⟩
            · obtain ⟨_, h16, h⟩ := bind_of h
              obtain ⟨n14, h17, h⟩ := bind_of h
              obtain ⟨⟨b6, t2, n15⟩, h18, h⟩ := bind_of h
              have h := some_of h
              subst h
              have t_ := tR (id_Zero_runs _ h1) <| tR (id_Zero_runs _ h1) <| tR (code_source_bit_runs 2 n l n2 n3 _ h2) <| tF h3 <| tL q_4 <| tR (code_source_ok_runs n8 l n6 n7 _ h5) <| tT h6 <| tL q_7 <| tR (code_source_ok_runs n10 l n11 n12 _ h8) <| tF h9 <| tF (rfl : false = false) <| tR (id_ID_IsZero_runs b2 t _ h10) <| tT h11 <| tR (id_ID_IsZero_runs false T_id_halves.nil _ h12) <| tT h13 <| tR (id_ID_IsOne_runs b2 t _ h14) <| tT h15 <| tR (id_ID_IsOne_runs false T_id_halves.nil _ h16) <| tR (code_source_must_runs true n13 l n11 n12 _ h17) <| tR (id_Pair_runs N b2 t false T_id_halves.nil _ h18) <| tN
              exact runs_of (C := cfg) (objs := [[(.ref 1 0), (.pv (.int .i64 n))], [(.pv (.ints .u8 l false)), (.pv (.int .i64 n2)), (.pv (.int .i64 n3))]]) (sc := t_.ev) (.k0 t_.pf (by kernel_rfl))
            · obtain ⟨n14, h16, h⟩ := bind_of h
              obtain ⟨⟨b6, t2, n15⟩, h17, h⟩ := bind_of h
              have h := some_of h
              subst h
              have t_ := tR (id_Zero_runs _ h1) <| tR (id_Zero_runs _ h1) <| tR (code_source_bit_runs 2 n l n2 n3 _ h2) <| tF h3 <| tL q_4 <| tR (code_source_ok_runs n8 l n6 n7 _ h5) <| tT h6 <| tL q_7 <| tR (code_source_ok_runs n10 l n11 n12 _ h8) <| tF h9 <| tF (rfl : false = false) <| tR (id_ID_IsZero_runs b2 t _ h10) <| tT h11 <| tR (id_ID_IsZero_runs false T_id_halves.nil _ h12) <| tT h13 <| tR (id_ID_IsOne_runs b2 t _ h14) <| tF h15 <| tR (code_source_must_runs true n13 l n11 n12 _ h16) <| tR (id_Pair_runs N b2 t false T_id_halves.nil _ h17) <| tN
              exact runs_of (C := cfg) (objs := [[(.ref 1 0), (.pv (.int .i64 n))], [(.pv (.ints .u8 l false)), (.pv (.int .i64 n2)), (.pv (.int .i64 n3))]]) (sc := t_.ev) (.k0 t_.pf (by kernel_rfl))
          · obtain ⟨n14, h14, h⟩ := bind_of h
            obtain ⟨⟨b6, t2, n15⟩, h15, h⟩ := bind_of h
            have h := some_of h
            subst h
            have t_ := tR (id_Zero_runs _ h1) <| tR (id_Zero_runs _ h1) <| tR (code_source_bit_runs 2 n l n2 n3 _ h2) <| tF h3 <| tL q_4 <| tR (code_source_ok_runs n8 l n6 n7 _ h5) <| tT h6 <| tL q_7 <| tR (code_source_ok_runs n10 l n11 n12 _ h8) <| tF h9 <| tF (rfl : false = false) <| tR (id_ID_IsZero_runs b2 t _ h10) <| tT h11 <| tR (id_ID_IsZero_runs false T_id_halves.nil _ h12) <| tF h13 <| tR (code_source_must_runs false n13 l n11 n12 _ h14) <| tR (id_Pair_runs N b2 t false T_id_halves.nil _ h15) <| tN
            exact runs_of (C := cfg) (objs := [[(.ref 1 0), (.pv (.int .i64 n))], [(.pv (.ints .u8 l false)), (.pv (.int .i64 n2)), (.pv (.int .i64 n3))]]) (sc := t_.ev) (.k0 t_.pf (by kernel_rfl))
        · obtain ⟨n14, h12, h⟩ := bind_of h
          obtain ⟨⟨b5, t2, n15⟩, h13, h⟩ := bind_of h
          have h := some_of h
          subst h
          have t_ := tR (id_Zero_runs _ h1) <| tR (id_Zero_runs _ h1) <| tR (code_source_bit_runs 2 n l n2 n3 _ h2) <| tF h3 <| tL q_4 <| tR (code_source_ok_runs n8 l n6 n7 _ h5) <| tT h6 <| tL q_7 <| tR (code_source_ok_runs n10 l n11 n12 _ h8) <| tF h9 <| tF (rfl : false = false) <| tR (id_ID_IsZero_runs b2 t _ h10) <| tF h11 <| tF (rfl : false = false) <| tR (code_source_must_runs false n13 l n11 n12 _ h12) <| tR (id_Pair_runs N b2 t false T_id_halves.nil _ h13) <| tN
          exact runs_of (C := cfg) (objs := [[(.ref 1 0), (.pv (.int .i64 n))], [(.pv (.ints .u8 l false)), (.pv (.int .i64 n2)), (.pv (.int .i64 n3))]]) (sc := t_.ev) (.k0 t_.pf (by kernel_rfl))
    · obtain ⟨⟨b2, n10⟩, h7, h⟩ := bind_of h
      rcases cond_of h with ⟨h8, h⟩ | ⟨h8, h⟩
      · obtain ⟨⟨n11, n12, n13, b3, t⟩, h9, h⟩ := bind_of h
        have q_9 := (code_source_id_C40_2_runs rec_code_source_id_2 hrec_code_source_id_2 depth n4 (!(decide ((n4 : Int) = 2))) n10 l n6 n7 _ h9)
        obtain ⟨b4, h10, h⟩ := bind_of h
        rcases cond_of h with ⟨h11, h⟩ | ⟨h11, h⟩
        · obtain ⟨b5, h12, h⟩ := bind_of h
          rcases cond_of h with ⟨h13, h⟩ | ⟨h13, h⟩
          · obtain ⟨_, h14, h⟩ := bind_of h
            obtain ⟨n14, h15, h⟩ := bind_of h
            obtain ⟨⟨b6, t2, n15⟩, h16, h⟩ := bind_of h
            have h := some_of h
            subst h
            have t_ := tR (id_Zero_runs _ h1) <| tR (id_Zero_runs _ h1) <| tR (code_source_bit_runs 2 n l n2 n3 _ h2) <| tF h3 <| tL q_4 <| tR (code_source_ok_runs n8 l n6 n7 _ h5) <| tF h6 <| tF (rfl : false = false) <| tR (code_source_ok_runs n9 l n6 n7 _ h7) <| tT h8 <| tL q_9 <| tR (id_ID_IsZero_runs false T_id_halves.nil _ h10) <| tT h11 <| tR (id_ID_IsZero_runs b3 t _ h12) <| tT h13 <| tR (id_ID_IsOne_runs false T_id_halves.nil _ h14) <| tF (rfl : false = false) <| tR (code_source_must_runs true n11 l n12 n13 _ h15) <| tR (id_Pair_runs N false T_id_halves.nil b3 t _ h16) <| tN
            exact runs_of (C := cfg) (objs := [[(.ref 1 0), (.pv (.int .i64 n))], [(.pv (.ints .u8 l false)), (.pv (.int .i64 n2)), (.pv (.int .i64 n3))]]) (sc := t_.ev) (.k0 t_.pf (by kernel_rfl))
          · obtain ⟨n14, h14, h⟩ := bind_of h
            obtain ⟨⟨b6, t2, n15⟩, h15, h⟩ := bind_of h
            have h := some_of h
            subst h
            have t_ := tR (id_Zero_runs _ h1) <| tR (id_Zero_runs _ h1) <| tR (code_source_bit_runs 2 n l n2 n3 _ h2) <| tF h3 <| tL q_4 <| tR (code_source_ok_runs n8 l n6 n7 _ h5) <| tF h6 <| tF (rfl : false = false) <| tR (code_source_ok_runs n9 l n6 n7 _ h7) <| tT h8 <| tL q_9 <| tR (id_ID_IsZero_runs false T_id_halves.nil _ h10) <| tT h11 <| tR (id_ID_IsZero_runs b3 t _ h12) <| tF h13 <| tR (code_source_must_runs false n11 l n12 n13 _ h14) <| tR (id_Pair_runs N false T_id_halves.nil b3 t _ h15) <| tN
            exact runs_of (C := cfg) (objs := [[(.ref 1 0), (.pv (.int .i64 n))], [(.pv (.ints .u8 l false)), (.pv (.int .i64 n2)), (.pv (.int .i64 n3))]]) (sc := t_.ev) (.k0 t_.pf (by kernel_rfl))
        · obtain ⟨n14, h12, h⟩ := bind_of h
          obtain ⟨⟨b5, t2, n15⟩, h13, h⟩ := bind_of h
          have h := some_of h
          subst h
          have t_ := tR (id_Zero_runs _ h1) <| tR (id_Zero_runs _ h1) <| tR (code_source_bit_runs 2 n l n2 n3 _ h2) <| tF h3 <| tL q_4 <| tR (code_source_ok_runs n8 l n6 n7 _ h5) <| tF h6 <| tF (rfl : false = false) <| tR (code_source_ok_runs n9 l n6 n7 _ h7) <| tT h8 <| tL q_9 <| tR (id_ID_IsZero_runs false T_id_halves.nil _ h10) <| tF h11 <| tF (rfl : false = false) <| tR (code_source_must_runs false n11 l n12 n13 _ h12) <| tR (id_Pair_runs N false T_id_halves.nil b3 t _ h13) <| tN
          exact runs_of (C := cfg) (objs := [[(.ref 1 0), (.pv (.int .i64 n))], [(.pv (.ints .u8 l false)), (.pv (.int .i64 n2)), (.pv (.int .i64 n3))]]) (sc := t_.ev) (.k0 t_.pf (by kernel_rfl))
      · obtain ⟨b3, h9, h⟩ := bind_of h
        rcases cond_of h with ⟨h10, h⟩ | ⟨h10, h⟩
        · rcases cond_of h with ⟨h11, h⟩ | ⟨h11, h⟩
          · obtain ⟨_, h12, h⟩ := bind_of h
            obtain ⟨n11, h13, h⟩ := bind_of h
            obtain ⟨⟨b4, t, n12⟩, h14, h⟩ := bind_of h
            have h := some_of h
            subst h
            have t_ := tR (id_Zero_runs _ h1) <| tR (id_Zero_runs _ h1) <| tR (code_source_bit_runs 2 n l n2 n3 _ h2) <| tF h3 <| tL q_4 <| tR (code_source_ok_runs n8 l n6 n7 _ h5) <| tF h6 <| tF (rfl : false = false) <| tR (code_source_ok_runs n9 l n6 n7 _ h7) <| tF h8 <| tF (rfl : false = false) <| tR (id_ID_IsZero_runs false T_id_halves.nil _ h9) <| tT h10 <| tR (id_ID_IsZero_runs false T_id_halves.nil _ h9) <| tT h11 <| tR (id_ID_IsOne_runs false T_id_halves.nil _ h12) <| tF (rfl : false = false) <| tR (code_source_must_runs true n10 l n6 n7 _ h13) <| tR (id_Pair_runs N false T_id_halves.nil false T_id_halves.nil _ h14) <| tN
            exact runs_of (C := cfg) (objs := [[(.ref 1 0), (.pv (.int .i64 n))], [(.pv (.ints .u8 l false)), (.pv (.int .i64 n2)), (.pv (.int .i64 n3))]]) (sc := t_.ev) (.k0 t_.pf (by kernel_rfl))
          · obtain ⟨n11, h12, h⟩ := bind_of h
            obtain ⟨⟨b4, t, n12⟩, h13, h⟩ := bind_of h
            have h := some_of h
            subst h
            have t_ := tR (id_Zero_runs _ h1) <| tR (id_Zero_runs _ h1) <| tR (code_source_bit_runs 2 n l n2 n3 _ h2) <| tF h3 <| tL q_4 <| tR (code_source_ok_runs n8 l n6 n7 _ h5) <| tF h6 <| tF (rfl : false = false) <| tR (code_source_ok_runs n9 l n6 n7 _ h7) <| tF h8 <| tF (rfl : false = false) <| tR (id_ID_IsZero_runs false T_id_halves.nil _ h9) <| tT h10 <| tR (id_ID_IsZero_runs false T_id_halves.nil _ h9) <| tF h11 <| tR (code_source_must_runs false n10 l n6 n7 _ h12) <| tR (id_Pair_runs N false T_id_halves.nil false T_id_halves.nil _ h13) <| tN
            exact runs_of (C := cfg) (objs := [[(.ref 1 0), (.pv (.int .i64 n))], [(.pv (.ints .u8 l false)), (.pv (.int .i64 n2)), (.pv (.int .i64 n3))]]) (sc := t_.ev) (.k0 t_.pf (by kernel_rfl))
        · obtain ⟨n11, h11, h⟩ := bind_of h
          obtain ⟨⟨b4, t, n12⟩, h12, h⟩ := bind_of h
          have h := some_of h
          subst h
          have t_ := tR (id_Zero_runs _ h1) <| tR (id_Zero_runs _ h1) <| tR (code_source_bit_runs 2 n l n2 n3 _ h2) <| tF h3 <| tL q_4 <| tR (code_source_ok_runs n8 l n6 n7 _ h5) <| tF h6 <| tF (rfl : false = false) <| tR (code_source_ok_runs n9 l n6 n7 _ h7) <| tF h8 <| tF (rfl : false = false) <| tR (id_ID_IsZero_runs false T_id_halves.nil _ h9) <| tF h10 <| tF (rfl : false = false) <| tR (code_source_must_runs false n10 l n6 n7 _ h11) <| tR (id_Pair_runs N false T_id_halves.nil false T_id_halves.nil _ h12) <| tN
          exact runs_of (C := cfg) (objs := [[(.ref 1 0), (.pv (.int .i64 n))], [(.pv (.ints .u8 l false)), (.pv (.int .i64 n2)), (.pv (.int .i64 n3))]]) (sc := t_.ev) (.k0 t_.pf (by kernel_rfl))
noncomputable def code_source_id_2 : Nat → Int → Int → List Int → Int → Int → Option (Bool × T_id_halves × Int × Int × Int)
  | 0, _, _, _, _, _ => none
  | N + 1, depth, n, l, n2, n3 => code_source_id_2_b N (code_source_id_2 N) depth n l n2 n3
theorem code_source_id_2_runs : ∀ (N : Nat) (depth : Int) (n : Int) (l : List Int) (n2 : Int) (n3 : Int) (r_ : Bool × T_id_halves × Int × Int × Int), code_source_id_2 N depth n l n2 n3 = some r_ → Runs Tryd.prog 121 [(.one (.ref 0 0)), (.one (.pv (.int .i64 depth)))] [[(.ref 1 0), (.pv (.int .i64 n))], [(.pv (.ints .u8 l false)), (.pv (.int .i64 n2)), (.pv (.int .i64 n3))]] [] (code_source_id_2_out depth n l n2 n3 r_)
  | 0, _, _, _, _, _, _, h => by cases h
  | N + 1, depth, n, l, n2, n3, r_, h => code_source_id_2_b_runs N (code_source_id_2 N) (code_source_id_2_runs N) depth n l n2 n3 r_ h
/-! ### code_GetID -/
noncomputable def code_GetID (N : Nat) (l : List Int) (n : Int) (n2 : Int) : Option (Bool × T_id_halves × Int × Int × Int) :=
  (code_source_id_2 N 0 0 l n n2).bind fun (b, t, n3, n4, n5) =>
  bif (decide ((n3 : Int) = 0)) then
    some (b, t, 0, n4, n5)
  else
    (id_Zero).bind fun _ =>
    some (false, T_id_halves.nil, n3, n4, n5)
theorem code_GetID_runs (N : Nat) (l : List Int) (n : Int) (n2 : Int) (r_ : Bool × T_id_halves × Int × Int × Int) (h : code_GetID N l n n2 = some r_) : Runs Tryd.prog 72 [(.one (.ref 0 0))] [[(.pv (.ints .u8 l false)), (.pv (.int .i64 n)), (.pv (.int .i64 n2))]] [] (code_GetID_out l n n2 r_) := by
  unfold code_GetID at h
  obtain ⟨⟨b, t, n3, n4, n5⟩, h1, h⟩ := bind_of h
  rcases cond_of h with ⟨h2, h⟩ | ⟨h2, h⟩
  · have h := some_of h
    subst h
    have t_ := tR (code_source_id_2_runs N 0 0 l n n2 _ h1) <| tF (not_of2 h2) <| tN
    exact runs_of (C := cfg) (objs := [[(.pv (.ints .u8 l false)), (.pv (.int .i64 n)), (.pv (.int .i64 n2))]]) (sc := t_.ev) (.k0 t_.pf (by kernel_rfl))
  · obtain ⟨_, h3, h⟩ := bind_of h
    have h := some_of h
    subst h
    have t_ := tR (code_source_id_2_runs N 0 0 l n n2 _ h1) <| tT (not_of h2) <| tR (id_Zero_runs _ h3) <| tR (id_Zero_runs _ h3) <| tN
    exact runs_of (C := cfg) (objs := [[(.pv (.ints .u8 l false)), (.pv (.int .i64 n)), (.pv (.int .i64 n2))]]) (sc := t_.ev) (.k1 t_.pf (by kernel_rfl) (by kernel_rfl))
/-! ### code_GetEvent_out -/
def code_GetEvent_out (l : List Int) (n : Int) (n2 : Int) : Int × T_event_halves × Int × Int × Int → Res
  | (r1, r2, r3, r4, r5) => ([(.agg [(.pv (.int .u64 r1)), (.pv (T_event_halves.pv r2))]), (.one (.pv (.int .i64 r3)))], [[(.pv (.ints .u8 l false)), (.pv (.int .i64 r4)), (.pv (.int .i64 r5))]], [])
/-! ### code_source_event_2_out -/
def code_source_event_2_out (depth : Int) (n : Int) (l : List Int) (n2 : Int) (n3 : Int) : Int × T_event_halves × Int × Int × Int → Res
  | (r1, r2, r3, r4, r5) => ([(.agg [(.pv (.int .u64 r1)), (.pv (T_event_halves.pv r2))])], [[(.ref 1 0), (.pv (.int .i64 r3))], [(.pv (.ints .u8 l false)), (.pv (.int .i64 r4)), (.pv (.int .i64 r5))]], [])
/-! ### code_source_number_out -/
def code_source_number_out (n : Int) (l : List Int) (n2 : Int) (n3 : Int) : Int × Int × Int × Int → Res
  | (r1, r2, r3, r4) => ([(.one (.pv (.int .u64 r1)))], [[(.ref 1 0), (.pv (.int .i64 r2))], [(.pv (.ints .u8 l false)), (.pv (.int .i64 r3)), (.pv (.int .i64 r4))]], [])
/-! ### bits_Reader_Num_out -/
def bits_Reader_Num_out (l : List Int) (n : Int) (n2 : Int) : Int × Int × Int → Res
  | (r1, r2, r3) => ([(.one (.pv (.int .u64 r1)))], [[(.pv (.ints .u8 l false)), (.pv (.int .i64 r2)), (.pv (.int .i64 r3))]], [])
/-! ### bits_Reader_Num_S0 -/
def bits_Reader_Num_S0_st (was : Int) (l : List Int) : Int × Int × Int × Int → St
  | (b, base, n, n2) => ⟨[(0, (.av (.one (.ref 0 0)))), (3, (.av (.one (.pv (.int .i64 was))))), (4, (.av (.one (.pv (.int .i64 b))))), (5, (.av (.one (.pv (.int .u64 base)))))], [(0, [(.pv (.ints .u8 l false)), (.pv (.int .i64 n)), (.pv (.int .i64 n2))])], []⟩
def bits_Reader_Num_S0_ex (was : Int) (l : List Int) : Int × Int × Int → Ex × St
  | (r1, r2, r3) => (.ret, ⟨[(2, (.av (.one (.pv (.int .u64 r1)))))], [(0, [(.pv (.ints .u8 l false)), (.pv (.int .i64 r2)), (.pv (.int .i64 r3))])], []⟩)
noncomputable def bits_Reader_Num_S0_step (was : Int) (l : List Int) : Int × Int × Int × Int → Option ((Int × Int × Int × Int) ⊕ (Int × Int × Int))
  | (b, base, n, n2) =>
  (bits_Reader_Get 1 l n n2).bind fun (n3, n4, n5) =>
  bif (decide ((n3 : Int) = 1)) then
    bif decide ((0 : Int) ≤ b) then
    bif (decide (((iadd .i64 b 1) : Int) < 64)) then
      some (.inl ((iadd .i64 b 1), (iadd .u64 base (ishl .u64 1 b)), n4, n5))
    else
      (bits_Reader_Get 1 l n4 n5).bind fun (n6, n7, n8) =>
      bif (decide ((n6 : Int) = 1)) then
        (bits_Reader_fail l n7 n8).bind fun n9 =>
        (bits_Reader_Get (iadd .i64 b 1) l n7 n9).bind fun (n10, n11, n12) =>
        bif (decide ((n12 : Int) = 0)) then
          bif (decide (((isub .u64 18446744073709551615 (iadd .u64 base (ishl .u64 1 b))) : Int) < n10)) then
            (bits_Reader_fail l was n12).bind fun n13 =>
            some (.inr (0, was, n13))
          else
            some (.inr ((iadd .u64 (iadd .u64 base (ishl .u64 1 b)) n10), n11, n12))
        else
          (bits_Reader_fail l was n12).bind fun n13 =>
          some (.inr (0, was, n13))
      else
        (bits_Reader_Get (iadd .i64 b 1) l n7 n8).bind fun (n9, n10, n11) =>
        bif (decide ((n11 : Int) = 0)) then
          bif (decide (((isub .u64 18446744073709551615 (iadd .u64 base (ishl .u64 1 b))) : Int) < n9)) then
            (bits_Reader_fail l was n11).bind fun n12 =>
            some (.inr (0, was, n12))
          else
            some (.inr ((iadd .u64 (iadd .u64 base (ishl .u64 1 b)) n9), n10, n11))
        else
          (bits_Reader_fail l was n11).bind fun n12 =>
          some (.inr (0, was, n12))
    else none
  else
    (bits_Reader_Get b l n4 n5).bind fun (n6, n7, n8) =>
    bif (decide ((n8 : Int) = 0)) then
      bif (decide (((isub .u64 18446744073709551615 base) : Int) < n6)) then
        (bits_Reader_fail l was n8).bind fun n9 =>
        some (.inr (0, was, n9))
      else
        some (.inr ((iadd .u64 base n6), n7, n8))
    else
      (bits_Reader_fail l was n8).bind fun n9 =>
      some (.inr (0, was, n9))
theorem bits_Reader_Num_S0_ok (was : Int) (l : List Int) (s_ : Int × Int × Int × Int) (z_ : (Int × Int × Int × Int) ⊕ (Int × Int × Int)) (h : bits_Reader_Num_S0_step was l s_ = some z_) : RoundOkS Tryd.prog cfg 165 1 (scopeAt Tryd.prog 165 0) (bits_Reader_Num_S0_st was l) (bits_Reader_Num_S0_ex was l) s_ z_ := by
  rcases s_ with ⟨b, base, n, n2⟩
  obtain ⟨⟨n3, n4, n5⟩, h1, h⟩ := bind_of h
  rcases cond_of h with ⟨h2, h⟩ | ⟨h2, h⟩
  · obtain ⟨h3, h⟩ := need_of h
    rcases cond_of h with ⟨h4, h⟩ | ⟨h4, h⟩
    · have h := some_of h
      subst h
      have t_ := tR (bits_Reader_Get_runs 1 l n n2 _ h1) <| tT h2 <| tO h3 <| tT h4 <| tN
      exact ⟨t_.ev, bits_Reader_Num_S0_st was l ((iadd .i64 b 1), (iadd .u64 base (ishl .u64 1 b)), n4, n5), .k0 t_.pf (by kernel_rfl), .same (by kernel_rfl)⟩
    · obtain ⟨⟨n6, n7, n8⟩, h5, h⟩ := bind_of h
      rcases cond_of h with ⟨h6, h⟩ | ⟨h6, h⟩
      · obtain ⟨n9, h7, h⟩ := bind_of h
        obtain ⟨⟨n10, n11, n12⟩, h8, h⟩ := bind_of h
        have q_8 := (bits_Reader_Get_runs (iadd .i64 b 1) l n7 n9 _ h8)
        rcases cond_of h with ⟨h9, h⟩ | ⟨h9, h⟩
        · rcases cond_of h with ⟨h10, h⟩ | ⟨h10, h⟩
          · obtain ⟨n13, h11, h⟩ := bind_of h
            have h := some_of h
            subst h
            have t_ := tR (bits_Reader_Get_runs 1 l n n2 _ h1) <| tT h2 <| tO h3 <| tF h4 <| tR (bits_Reader_Get_runs 1 l n4 n5 _ h5) <| tT h6 <| tR (bits_Reader_fail_runs l n7 n8 _ h7) <| tR q_8 <| tF (not_of2 h9) <| tT h10 <| tR (bits_Reader_fail_runs l was n12 _ h11) <| tN
            exact ⟨t_.ev, (bits_Reader_Num_S0_ex was l (0, was, n13)).2, .k0 t_.pf (by kernel_rfl), .same (by kernel_rfl)⟩
          · have h := some_of h
            subst h
            have t_ := tR (bits_Reader_Get_runs 1 l n n2 _ h1) <| tT h2 <| tO h3 <| tF h4 <| tR (bits_Reader_Get_runs 1 l n4 n5 _ h5) <| tT h6 <| tR (bits_Reader_fail_runs l n7 n8 _ h7) <| tR q_8 <| tF (not_of2 h9) <| tF h10 <| tN
            exact ⟨t_.ev, (bits_Reader_Num_S0_ex was l ((iadd .u64 (iadd .u64 base (ishl .u64 1 b)) n10), n11, n12)).2, .k0 t_.pf (by kernel_rfl), .same (by kernel_rfl)⟩
        · obtain ⟨n13, h10, h⟩ := bind_of h
          have h := some_of h
          subst h
          have t_ := tR (bits_Reader_Get_runs 1 l n n2 _ h1) <| tT h2 <| tO h3 <| tF h4 <| tR (bits_Reader_Get_runs 1 l n4 n5 _ h5) <| tT h6 <| tR (bits_Reader_fail_runs l n7 n8 _ h7) <| tR q_8 <| tT (not_of h9) <| tT (rfl : true = true) <| tR (bits_Reader_fail_runs l was n12 _ h10) <| tN
          exact ⟨t_.ev, (bits_Reader_Num_S0_ex was l (0, was, n13)).2, .k0 t_.pf (by kernel_rfl), .same (by kernel_rfl)⟩
      · obtain ⟨⟨n9, n10, n11⟩, h7, h⟩ := bind_of h
        have q_7 := (bits_Reader_Get_runs (iadd .i64 b 1) l n7 n8 _ h7)
        rcases cond_of h with ⟨h8, h⟩ | ⟨h8, h⟩
        · rcases cond_of h with ⟨h9, h⟩ | ⟨h9, h⟩
          · obtain ⟨n12, h10, h⟩ := bind_of h
            have h := some_of h
            subst h
            have t_ := tR (bits_Reader_Get_runs 1 l n n2 _ h1) <| tT h2 <| tO h3 <| tF h4 <| tR (bits_Reader_Get_runs 1 l n4 n5 _ h5) <| tF h6 <| tR q_7 <| tF (not_of2 h8) <| tT h9 <| tR (bits_Reader_fail_runs l was n11 _ h10) <| tN
            exact ⟨t_.ev, (bits_Reader_Num_S0_ex was l (0, was, n12)).2, .k0 t_.pf (by kernel_rfl), .same (by kernel_rfl)⟩
          · have h := some_of h
            subst h
            have t_ := tR (bits_Reader_Get_runs 1 l n n2 _ h1) <| tT h2 <| tO h3 <| tF h4 <| tR (bits_Reader_Get_runs 1 l n4 n5 _ h5) <| tF h6 <| tR q_7 <| tF (not_of2 h8) <| tF h9 <| tN
            exact ⟨t_.ev, (bits_Reader_Num_S0_ex was l ((iadd .u64 (iadd .u64 base (ishl .u64 1 b)) n9), n10, n11)).2, .k0 t_.pf (by kernel_rfl), .same (by kernel_rfl)⟩
        · obtain ⟨n12, h9, h⟩ := bind_of h
          have h := some_of h
          subst h
          have t_ := tR (bits_Reader_Get_runs 1 l n n2 _ h1) <| tT h2 <| tO h3 <| tF h4 <| tR (bits_Reader_Get_runs 1 l n4 n5 _ h5) <| tF h6 <| tR q_7 <| tT (not_of h8) <| tT (rfl : true = true) <| tR (bits_Reader_fail_runs l was n11 _ h9) <| tN
          exact ⟨t_.ev, (bits_Reader_Num_S0_ex was l (0, was, n12)).2, .k0 t_.pf (by kernel_rfl), .same (by kernel_rfl)⟩
  · obtain ⟨⟨n6, n7, n8⟩, h3, h⟩ := bind_of h
    rcases cond_of h with ⟨h4, h⟩ | ⟨h4, h⟩
    · rcases cond_of h with ⟨h5, h⟩ | ⟨h5, h⟩
      · obtain ⟨n9, h6, h⟩ := bind_of h
        have h := some_of h
        subst h
        have t_ := tR (bits_Reader_Get_runs 1 l n n2 _ h1) <| tF h2 <| tR (bits_Reader_Get_runs b l n4 n5 _ h3) <| tF (not_of2 h4) <| tT h5 <| tR (bits_Reader_fail_runs l was n8 _ h6) <| tN
        exact ⟨t_.ev, (bits_Reader_Num_S0_ex was l (0, was, n9)).2, .k0 t_.pf (by kernel_rfl), .same (by kernel_rfl)⟩
      · have h := some_of h
        subst h
        have t_ := tR (bits_Reader_Get_runs 1 l n n2 _ h1) <| tF h2 <| tR (bits_Reader_Get_runs b l n4 n5 _ h3) <| tF (not_of2 h4) <| tF h5 <| tN
        exact ⟨t_.ev, (bits_Reader_Num_S0_ex was l ((iadd .u64 base n6), n7, n8)).2, .k0 t_.pf (by kernel_rfl), .same (by kernel_rfl)⟩
    · obtain ⟨n9, h5, h⟩ := bind_of h
      have h := some_of h
      subst h
      have t_ := tR (bits_Reader_Get_runs 1 l n n2 _ h1) <| tF h2 <| tR (bits_Reader_Get_runs b l n4 n5 _ h3) <| tT (not_of h4) <| tT (rfl : true = true) <| tR (bits_Reader_fail_runs l was n8 _ h5) <| tN
      exact ⟨t_.ev, (bits_Reader_Num_S0_ex was l (0, was, n9)).2, .k0 t_.pf (by kernel_rfl), .same (by kernel_rfl)⟩
theorem bits_Reader_Num_S0_runs (was : Int) (l : List Int) (s_ : Int × Int × Int × Int) (r_ : Int × Int × Int) (h : runL (bits_Reader_Num_S0_step was l) s_ = some r_) : LRuns Tryd.prog (lEnv Tryd.prog cfg 165 1).nt 1 (.scope (scopeAt Tryd.prog 165 0)) (bits_Reader_Num_S0_st was l s_) (bits_Reader_Num_S0_ex was l r_).1 (bits_Reader_Num_S0_ex was l r_).2 :=
  scope_run h (bits_Reader_Num_S0_ok was l) (by intro r_; rcases r_ with ⟨r1, r2, r3⟩ <;> simp [bits_Reader_Num_S0_ex])
/-! ### bits_Reader_Num -/
noncomputable def bits_Reader_Num (l : List Int) (n : Int) (n2 : Int) : Option (Int × Int × Int) :=
  (runL (bits_Reader_Num_S0_step n l) (2, 0, n, n2)).bind fun (n3, n4, n5) =>
  some (n3, n4, n5)
theorem bits_Reader_Num_runs (l : List Int) (n : Int) (n2 : Int) (r_ : Int × Int × Int) (h : bits_Reader_Num l n n2 = some r_) : Runs Tryd.prog 165 [(.one (.ref 0 0))] [[(.pv (.ints .u8 l false)), (.pv (.int .i64 n)), (.pv (.int .i64 n2))]] [] (bits_Reader_Num_out l n n2 r_) := by
  unfold bits_Reader_Num at h
  obtain ⟨⟨n3, n4, n5⟩, h1, h⟩ := bind_of h
  have h := some_of h
  subst h
  have t_ := tF (rfl : false = false) <| tL (bits_Reader_Num_S0_runs n l _ _ h1) <| tN
  exact runs_of (C := cfg) (objs := [[(.pv (.ints .u8 l false)), (.pv (.int .i64 n)), (.pv (.int .i64 n2))]]) (sc := t_.ev) (.k0 t_.pf (by kernel_rfl))
/-! ### code_source_number -/
noncomputable def code_source_number (n : Int) (l : List Int) (n2 : Int) (n3 : Int) : Option (Int × Int × Int × Int) :=
  (code_source_ok n l n2 n3).bind fun (b, n4) =>
  bif b then
    (bits_Reader_Num l n2 n3).bind fun (n5, n6, n7) =>
    (code_source_ok n4 l n6 n7).bind fun (b2, n8) =>
    bif b2 then
      bif (decide ((1048576 : Int) < n5)) then
        (code_source_fail 4 n8 l n6 n7).bind fun n9 =>
        some (n5, n9, n6, n7)
      else
        some (n5, n8, n6, n7)
    else
      some (n5, n8, n6, n7)
  else
    some (0, n4, n2, n3)
theorem code_source_number_runs (n : Int) (l : List Int) (n2 : Int) (n3 : Int) (r_ : Int × Int × Int × Int) (h : code_source_number n l n2 n3 = some r_) : Runs Tryd.prog 152 [(.one (.ref 0 0))] [[(.ref 1 0), (.pv (.int .i64 n))], [(.pv (.ints .u8 l false)), (.pv (.int .i64 n2)), (.pv (.int .i64 n3))]] [] (code_source_number_out n l n2 n3 r_) := by
  unfold code_source_number at h
  obtain ⟨⟨b, n4⟩, h1, h⟩ := bind_of h
  rcases cond_of h with ⟨h2, h⟩ | ⟨h2, h⟩
  · obtain ⟨⟨n5, n6, n7⟩, h3, h⟩ := bind_of h
    obtain ⟨⟨b2, n8⟩, h4, h⟩ := bind_of h
    rcases cond_of h with ⟨h5, h⟩ | ⟨h5, h⟩
    · rcases cond_of h with ⟨h6, h⟩ | ⟨h6, h⟩
      · obtain ⟨n9, h7, h⟩ := bind_of h
        have h := some_of h
        subst h
        have t_ := tR (code_source_ok_runs n l n2 n3 _ h1) <| tF (not_of2 h2) <| tR (bits_Reader_Num_runs l n2 n3 _ h3) <| tR (code_source_ok_runs n4 l n6 n7 _ h4) <| tT h5 <| tT h6 <| tR (code_source_fail_runs 4 n8 l n6 n7 _ h7) <| tN
        exact runs_of (C := cfg) (objs := [[(.ref 1 0), (.pv (.int .i64 n))], [(.pv (.ints .u8 l false)), (.pv (.int .i64 n2)), (.pv (.int .i64 n3))]]) (sc := t_.ev) (.k0 t_.pf (by kernel_rfl))
      · have h := some_of h
        subst h
        have t_ := tR (code_source_ok_runs n l n2 n3 _ h1) <| tF (not_of2 h2) <| tR (bits_Reader_Num_runs l n2 n3 _ h3) <| tR (code_source_ok_runs n4 l n6 n7 _ h4) <| tT h5 <| tF h6 <| tN
        exact runs_of (C := cfg) (objs := [[(.ref 1 0), (.pv (.int .i64 n))], [(.pv (.ints .u8 l false)), (.pv (.int .i64 n2)), (.pv (.int .i64 n3))]]) (sc := t_.ev) (.k0 t_.pf (by kernel_rfl))
    · have h := some_of h
      subst h
      have t_ := tR (code_source_ok_runs n l n2 n3 _ h1) <| tF (not_of2 h2) <| tR (bits_Reader_Num_runs l n2 n3 _ h3) <| tR (code_source_ok_runs n4 l n6 n7 _ h4) <| tF h5 <| tF (rfl : false = false) <| tN
      exact runs_of (C := cfg) (objs := [[(.ref 1 0), (.pv (.int .i64 n))], [(.pv (.ints .u8 l false)), (.pv (.int .i64 n2)), (.pv (.int .i64 n3))]]) (sc := t_.ev) (.k0 t_.pf (by kernel_rfl))
  · have h := some_of h
    subst h
    have t_ := tR (code_source_ok_runs n l n2 n3 _ h1) <| tT (not_of h2) <| tN
    exact runs_of (C := cfg) (objs := [[(.ref 1 0), (.pv (.int .i64 n))], [(.pv (.ints .u8 l false)), (.pv (.int .i64 n2)), (.pv (.int .i64 n3))]]) (sc := t_.ev) (.k0 t_.pf (by kernel_rfl))
/-! ### event_Leaf_out -/
def event_Leaf_out (n : Int) : Int × Int → Res
  | (r1, r2) => ([(.agg [(.pv (.int .u64 r1)), (.pv (T_event_halves.pv T_event_halves.nil))]), (.one (.pv (.int .i64 r2)))], [], [])
/-! ### event_Leaf -/
noncomputable def event_Leaf (n : Int) : Option (Int × Int) :=
  bif (decide ((1048576 : Int) < n)) then
    some (0, 4)
  else
    some (n, 0)
theorem event_Leaf_runs (n : Int) (r_ : Int × Int) (h : event_Leaf n = some r_) : Runs Tryd.prog 31 [(.one (.pv (.int .u64 n)))] [] [] (event_Leaf_out n r_) := by
  unfold event_Leaf at h
  rcases cond_of h with ⟨h1, h⟩ | ⟨h1, h⟩
  · have h := some_of h
    subst h
    have t_ := tT h1 <| tN
    have e_ : Runs Tryd.prog 31 [(.one (.pv (.int .u64 n)))] [] [] ([(.agg [(.pv (.int .u64 0)), (.pv .nilp)]), (.one (.pv (.int .i64 4)))], [], []) := runs_of (C := cfg) (objs := []) (sc := t_.ev) (.k0 t_.pf (by kernel_rfl))
    exact e_.out ⟨⟨.eq rfl, .eq rfl, trivial⟩, .eq rfl, trivial⟩ trivial trivial rfl
  · have h := some_of h
    subst h
    have t_ := tF h1 <| tN
    have e_ : Runs Tryd.prog 31 [(.one (.pv (.int .u64 n)))] [] [] ([(.agg [(.pv (.int .u64 n)), (.pv .nilp)]), (.one (.pv (.int .i64 0)))], [], []) := runs_of (C := cfg) (objs := []) (sc := t_.ev) (.k0 t_.pf (by kernel_rfl))
    exact e_.out ⟨⟨.eq rfl, .eq rfl, trivial⟩, .eq rfl, trivial⟩ trivial trivial rfl
/-! ### code_source_event_C24 -/
def code_source_event_C24_ex (depth : Int) (b : Bool) (n : Int) (l : List Int) (n2 : Int) (n3 : Int) : Int → Ex × St
  | r1 => (.normal, ⟨[(0, (.av (.one (.ref 0 0)))), (1, (.av (.one (.pv (.int .i64 depth))))), (4, (.av (.one (.ref 2 0))))], [(0, [(.ref 1 0), (.pv (.int .i64 r1))]), (1, [(.pv (.ints .u8 l false)), (.pv (.int .i64 n2)), (.pv (.int .i64 n3))]), (2, [(.pv (.int .u64 0)), (.pv (T_event_halves.pv T_event_halves.nil))])], []⟩)
noncomputable def code_source_event_C24 (depth : Int) (b : Bool) (n : Int) (l : List Int) (n2 : Int) (n3 : Int) : Option (Int) :=
  bif b then
    (code_source_fail 3 n l n2 n3).bind fun n4 =>
    some n4
  else
    some n
theorem code_source_event_C24_runs (depth : Int) (b : Bool) (n : Int) (l : List Int) (n2 : Int) (n3 : Int) (r_ : Int) (h : code_source_event_C24 depth b n l n2 n3 = some r_) : LRuns Tryd.prog (lEnv Tryd.prog cfg 124 2).nt 2 (.cond (.tmp 24) (condAt Tryd.prog 124 24).1 (condAt Tryd.prog 124 24).2) ⟨[(0, (.av (.one (.ref 0 0)))), (1, (.av (.one (.pv (.int .i64 depth))))), (4, (.av (.one (.ref 2 0)))), (24, (.av (.one (.pv (.bool b)))))], [(0, [(.ref 1 0), (.pv (.int .i64 n))]), (1, [(.pv (.ints .u8 l false)), (.pv (.int .i64 n2)), (.pv (.int .i64 n3))]), (2, [(.pv (.int .u64 0)), (.pv (T_event_halves.pv T_event_halves.nil))])], []⟩ (code_source_event_C24_ex depth b n l n2 n3 r_).1 (code_source_event_C24_ex depth b n l n2 n3 r_).2 := by
  unfold code_source_event_C24 at h
  rcases cond_of h with ⟨h1, h⟩ | ⟨h1, h⟩
  · obtain ⟨n4, h2, h⟩ := bind_of h
    have h := some_of h
    subst h
    have t_ := tT h1 <| tR (code_source_fail_runs 3 n l n2 n3 _ h2) <| tN
    exact piece_ok (C := cfg) (sc := t_.ev) (.k0 t_.pf (by kernel_rfl))
  · have h := some_of h
    subst h
    have t_ := tF h1 <| tN
    exact piece_ok (C := cfg) (sc := t_.ev) (.k0 t_.pf (by kernel_rfl))
/-! ### code_source_event_C37 -/
def code_source_event_C37_ex (depth : Int) (left : Bool) (right : Bool) (b : Bool) (n : Int) (l : List Int) (n2 : Int) (n3 : Int) : Bool × Bool × Int × Int × Int → Ex × St
  | (r1, r2, r3, r4, r5) => (.normal, ⟨[(0, (.av (.one (.ref 0 0)))), (1, (.av (.one (.pv (.int .i64 depth))))), (4, (.av (.one (.ref 2 0)))), (7, (.av (.one (.ref 3 0)))), (8, (.av (.one (.ref 4 0)))), (11, (.av (.one (.pv (.bool r1))))), (12, (.av (.one (.pv (.bool r2)))))], [(0, [(.ref 1 0), (.pv (.int .i64 r3))]), (1, [(.pv (.ints .u8 l false)), (.pv (.int .i64 r4)), (.pv (.int .i64 r5))]), (2, [(.pv (.int .u64 0)), (.pv (T_event_halves.pv T_event_halves.nil))]), (3, [(.pv (.int .u64 0)), (.pv (T_event_halves.pv T_event_halves.nil))]), (4, [(.pv (.int .u64 0)), (.pv (T_event_halves.pv T_event_halves.nil))])], []⟩)
noncomputable def code_source_event_C37 (depth : Int) (left : Bool) (right : Bool) (b : Bool) (n : Int) (l : List Int) (n2 : Int) (n3 : Int) : Option (Bool × Bool × Int × Int × Int) :=
  bif b then
    (code_source_bit 1 n l n2 n3).bind fun (n4, n5, n6, n7) =>
    some ((!(decide ((n4 : Int) = 0))), (decide ((n4 : Int) = 0)), n5, n6, n7)
  else
    some (left, right, n, n2, n3)
theorem code_source_event_C37_runs (depth : Int) (left : Bool) (right : Bool) (b : Bool) (n : Int) (l : List Int) (n2 : Int) (n3 : Int) (r_ : Bool × Bool × Int × Int × Int) (h : code_source_event_C37 depth left right b n l n2 n3 = some r_) : LRuns Tryd.prog (lEnv Tryd.prog cfg 124 2).nt 2 (.cond (.tmp 37) (condAt Tryd.prog 124 37).1 (condAt Tryd.prog 124 37).2) ⟨[(0, (.av (.one (.ref 0 0)))), (1, (.av (.one (.pv (.int .i64 depth))))), (4, (.av (.one (.ref 2 0)))), (7, (.av (.one (.ref 3 0)))), (8, (.av (.one (.ref 4 0)))), (11, (.av (.one (.pv (.bool left))))), (12, (.av (.one (.pv (.bool right))))), (37, (.av (.one (.pv (.bool b)))))], [(0, [(.ref 1 0), (.pv (.int .i64 n))]), (1, [(.pv (.ints .u8 l false)), (.pv (.int .i64 n2)), (.pv (.int .i64 n3))]), (2, [(.pv (.int .u64 0)), (.pv (T_event_halves.pv T_event_halves.nil))]), (3, [(.pv (.int .u64 0)), (.pv (T_event_halves.pv T_event_halves.nil))]), (4, [(.pv (.int .u64 0)), (.pv (T_event_halves.pv T_event_halves.nil))])], []⟩ (code_source_event_C37_ex depth left right b n l n2 n3 r_).1 (code_source_event_C37_ex depth left right b n l n2 n3 r_).2 := by
  unfold code_source_event_C37 at h
  rcases cond_of h with ⟨h1, h⟩ | ⟨h1, h⟩
  · obtain ⟨⟨n4, n5, n6, n7⟩, h2, h⟩ := bind_of h
    have h := some_of h
    subst h
    have t_ := tT h1 <| tR (code_source_bit_runs 1 n l n2 n3 _ h2) <| tN
    exact piece_ok (C := cfg) (sc := t_.ev) (.k0 t_.pf (by kernel_rfl))
  · have h := some_of h
    subst h
    have t_ := tF h1 <| tN
    exact piece_ok (C := cfg) (sc := t_.ev) (.k0 t_.pf (by kernel_rfl))
/-! ### code_source_event_C34 -/
def code_source_event_C34_ex (depth : Int) (left : Bool) (right : Bool) (b : Bool) (n : Int) (l : List Int) (n2 : Int) (n3 : Int) : Int × Bool × Bool × Int × Int × Int → Ex × St
  | (r1, r2, r3, r4, r5, r6) => (.normal, ⟨[(0, (.av (.one (.ref 0 0)))), (1, (.av (.one (.pv (.int .i64 depth))))), (4, (.av (.one (.ref 2 0)))), (7, (.av (.one (.ref 3 0)))), (8, (.av (.one (.ref 4 0)))), (9, (.av (.one (.pv (.int .u64 r1))))), (11, (.av (.one (.pv (.bool r2))))), (12, (.av (.one (.pv (.bool r3)))))], [(0, [(.ref 1 0), (.pv (.int .i64 r4))]), (1, [(.pv (.ints .u8 l false)), (.pv (.int .i64 r5)), (.pv (.int .i64 r6))]), (2, [(.pv (.int .u64 0)), (.pv (T_event_halves.pv T_event_halves.nil))]), (3, [(.pv (.int .u64 0)), (.pv (T_event_halves.pv T_event_halves.nil))]), (4, [(.pv (.int .u64 0)), (.pv (T_event_halves.pv T_event_halves.nil))])], []⟩)
noncomputable def code_source_event_C34 (depth : Int) (left : Bool) (right : Bool) (b : Bool) (n : Int) (l : List Int) (n2 : Int) (n3 : Int) : Option (Int × Bool × Bool × Int × Int × Int) :=
  bif b then
    (code_source_bit 1 n l n2 n3).bind fun (n4, n5, n6, n7) =>
    (code_source_event_C37 depth left right (decide ((n4 : Int) = 0)) n5 l n6 n7).bind fun (b2, b3, n8, n9, n10) =>
    (code_source_number n8 l n9 n10).bind fun (n11, n12, n13, n14) =>
    (code_source_must (decide ((0 : Int) < n11)) n12 l n13 n14).bind fun n15 =>
    some (n11, b2, b3, n15, n13, n14)
  else
    some (0, left, right, n, n2, n3)
theorem code_source_event_C34_runs (depth : Int) (left : Bool) (right : Bool) (b : Bool) (n : Int) (l : List Int) (n2 : Int) (n3 : Int) (r_ : Int × Bool × Bool × Int × Int × Int) (h : code_source_event_C34 depth left right b n l n2 n3 = some r_) : LRuns Tryd.prog (lEnv Tryd.prog cfg 124 2).nt 2 (.cond (.tmp 34) (condAt Tryd.prog 124 34).1 (condAt Tryd.prog 124 34).2) ⟨[(0, (.av (.one (.ref 0 0)))), (1, (.av (.one (.pv (.int .i64 depth))))), (4, (.av (.one (.ref 2 0)))), (7, (.av (.one (.ref 3 0)))), (8, (.av (.one (.ref 4 0)))), (9, (.av (.one (.pv (.int .u64 0))))), (11, (.av (.one (.pv (.bool left))))), (12, (.av (.one (.pv (.bool right))))), (34, (.av (.one (.pv (.bool b)))))], [(0, [(.ref 1 0), (.pv (.int .i64 n))]), (1, [(.pv (.ints .u8 l false)), (.pv (.int .i64 n2)), (.pv (.int .i64 n3))]), (2, [(.pv (.int .u64 0)), (.pv (T_event_halves.pv T_event_halves.nil))]), (3, [(.pv (.int .u64 0)), (.pv (T_event_halves.pv T_event_halves.nil))]), (4, [(.pv (.int .u64 0)), (.pv (T_event_halves.pv T_event_halves.nil))])], []⟩ (code_source_event_C34_ex depth left right b n l n2 n3 r_).1 (code_source_event_C34_ex depth left right b n l n2 n3 r_).2 := by
  unfold code_source_event_C34 at h
  rcases cond_of h with ⟨h1, h⟩ | ⟨h1, h⟩
  · obtain ⟨⟨n4, n5, n6, n7⟩, h2, h⟩ := bind_of h
    obtain ⟨⟨b2, b3, n8, n9, n10⟩, h3, h⟩ := bind_of h
    obtain ⟨⟨n11, n12, n13, n14⟩, h4, h⟩ := bind_of h
    obtain ⟨n15, h5, h⟩ := bind_of h
    have h := some_of h
    subst h
    have t_ := tT h1 <| tR (code_source_bit_runs 1 n l n2 n3 _ h2) <| tL (code_source_event_C37_runs depth left right (decide ((n4 : Int) = 0)) n5 l n6 n7 _ h3) <| tR (code_source_number_runs n8 l n9 n10 _ h4) <| tR (code_source_must_runs (decide ((0 : Int) < n11)) n12 l n13 n14 _ h5) <| tN
    exact piece_ok (C := cfg) (sc := t_.ev) (.k0 t_.pf (by kernel_rfl))
  · have h := some_of h
    subst h
    have t_ := tF h1 <| tN
    exact piece_ok (C := cfg) (sc := t_.ev) (.k0 t_.pf (by kernel_rfl))
/-! ### code_source_node_out -/
def code_source_node_out (base : Int) (l : Int) (l2 : T_event_halves) (r : Int) (r2 : T_event_halves) (n : Int) (l3 : List Int) (n2 : Int) (n3 : Int) : Int × T_event_halves × Int → Res
  | (r1, r2, r3) => ([(.agg [(.pv (.int .u64 r1)), (.pv (T_event_halves.pv r2))])], [[(.ref 1 0), (.pv (.int .i64 r3))], [(.pv (.ints .u8 l3 false)), (.pv (.int .i64 n2)), (.pv (.int .i64 n3))]], [])
/-! ### event_Node_out -/
def event_Node_out (n : Int) (l : Int) (l2 : T_event_halves) (r : Int) (r2 : T_event_halves) : Int × T_event_halves × Int → Res
  | (r1, r2, r3) => ([(.agg [(.pv (.int .u64 r1)), (.pv (T_event_halves.pv r2))]), (.one (.pv (.int .i64 r3)))], [], [])
/-! ### event_node_out -/
def event_node_out (n : Int) (l : Int) (l2 : T_event_halves) (r : Int) (r2 : T_event_halves) : Int × T_event_halves → Res
  | (r1, r2) => ([(.agg [(.pv (.int .u64 r1)), (.pv (T_event_halves.pv r2))])], [], [])
/-! ### event_node -/
noncomputable def event_node (n : Int) (l : Int) (l2 : T_event_halves) (r : Int) (r2 : T_event_halves) : Option (Int × T_event_halves) :=
  match l2 with
  | .nil =>
    match r2 with
    | .nil =>
      bif (decide ((l : Int) = r)) then
        some ((iadd .u64 n l), T_event_halves.nil)
      else
        some ((iadd .u64 n (if (r : Int) < l then r else l)), (T_event_halves.mk (isub .u64 l (if (r : Int) < l then r else l)) l2 (isub .u64 r (if (r : Int) < l then r else l)) r2))
    | .mk n2 t n3 t2 =>
      some ((iadd .u64 n (if (r : Int) < l then r else l)), (T_event_halves.mk (isub .u64 l (if (r : Int) < l then r else l)) l2 (isub .u64 r (if (r : Int) < l then r else l)) r2))
  | .mk n2 t n3 t2 =>
    some ((iadd .u64 n (if (r : Int) < l then r else l)), (T_event_halves.mk (isub .u64 l (if (r : Int) < l then r else l)) l2 (isub .u64 r (if (r : Int) < l then r else l)) r2))
theorem event_node_runs (n : Int) (l : Int) (l2 : T_event_halves) (r : Int) (r2 : T_event_halves) (r_ : Int × T_event_halves) (h : event_node n l l2 r r2 = some r_) : Runs Tryd.prog 116 [(.one (.pv (.int .u64 n))), (.agg [(.pv (.int .u64 l)), (.pv (T_event_halves.pv l2))]), (.agg [(.pv (.int .u64 r)), (.pv (T_event_halves.pv r2))])] [] [] (event_node_out n l l2 r r2 r_) := by
  unfold event_node at h
  cases l2 with
  | nil =>
    cases r2 with
    | nil =>
      rcases cond_of h with ⟨h1, h⟩ | ⟨h1, h⟩
      · have h := some_of h
        subst h
        have t_ := tT (rfl : true = true) <| tT (rfl : true = true) <| tT h1 <| tN
        have e_ : Runs Tryd.prog 116 [(.one (.pv (.int .u64 n))), (.agg [(.pv (.int .u64 l)), (.pv (T_event_halves.pv T_event_halves.nil))]), (.agg [(.pv (.int .u64 r)), (.pv (T_event_halves.pv T_event_halves.nil))])] [] [] ([(.agg [(.pv (.int .u64 (iadd .u64 n l))), (.pv .nilp)])], [], []) := runs_of (C := cfg) (objs := []) (sc := t_.ev) (.k0 t_.pf (by kernel_rfl))
        exact e_.out ⟨⟨.eq rfl, .eq rfl, trivial⟩, trivial⟩ trivial trivial rfl
      · have h := some_of h
        subst h
        have t_ := tT (rfl : true = true) <| tT (rfl : true = true) <| tF h1 <| tN
        have e_ : Runs Tryd.prog 116 [(.one (.pv (.int .u64 n))), (.agg [(.pv (.int .u64 l)), (.pv (T_event_halves.pv T_event_halves.nil))]), (.agg [(.pv (.int .u64 r)), (.pv (T_event_halves.pv T_event_halves.nil))])] [] [] ([(.agg [(.pv (.int .u64 (iadd .u64 n (if (r : Int) < l then r else l)))), (.pv (.imm [(.int .u64 (isub .u64 l (if (r : Int) < l then r else l))), (T_event_halves.pv T_event_halves.nil), (.int .u64 (isub .u64 r (if (r : Int) < l then r else l))), (T_event_halves.pv T_event_halves.nil)] 0))])], [], []) := runs_of (C := cfg) (objs := []) (sc := t_.ev) (.k0 t_.pf (by kernel_rfl))
        exact e_.out ⟨⟨.eq rfl, .eq rfl, trivial⟩, trivial⟩ trivial trivial rfl
    | mk n2 t n3 t2 =>
      have h := some_of h
      subst h
      have t_ := tT (rfl : true = true) <| tF (rfl : false = false) <| tF (rfl : false = false) <| tN
      have e_ : Runs Tryd.prog 116 [(.one (.pv (.int .u64 n))), (.agg [(.pv (.int .u64 l)), (.pv (T_event_halves.pv T_event_halves.nil))]), (.agg [(.pv (.int .u64 r)), (.pv (T_event_halves.pv (T_event_halves.mk n2 t n3 t2)))])] [] [] ([(.agg [(.pv (.int .u64 (iadd .u64 n (if (r : Int) < l then r else l)))), (.pv (.imm [(.int .u64 (isub .u64 l (if (r : Int) < l then r else l))), (T_event_halves.pv T_event_halves.nil), (.int .u64 (isub .u64 r (if (r : Int) < l then r else l))), (T_event_halves.pv (T_event_halves.mk n2 t n3 t2))] 0))])], [], []) := runs_of (C := cfg) (objs := []) (sc := t_.ev) (.k0 t_.pf (by kernel_rfl))
      exact e_.out ⟨⟨.eq rfl, .eq rfl, trivial⟩, trivial⟩ trivial trivial rfl
  | mk n2 t n3 t2 =>
    have h := some_of h
    subst h
    have t_ := tF (rfl : false = false) <| tF (rfl : false = false) <| tF (rfl : false = false) <| tN
    have e_ : Runs Tryd.prog 116 [(.one (.pv (.int .u64 n))), (.agg [(.pv (.int .u64 l)), (.pv (T_event_halves.pv (T_event_halves.mk n2 t n3 t2)))]), (.agg [(.pv (.int .u64 r)), (.pv (T_event_halves.pv r2))])] [] [] ([(.agg [(.pv (.int .u64 (iadd .u64 n (if (r : Int) < l then r else l)))), (.pv (.imm [(.int .u64 (isub .u64 l (if (r : Int) < l then r else l))), (T_event_halves.pv (T_event_halves.mk n2 t n3 t2)), (.int .u64 (isub .u64 r (if (r : Int) < l then r else l))), (T_event_halves.pv r2)] 0))])], [], []) := runs_of (C := cfg) (objs := []) (sc := t_.ev) (.k0 t_.pf (by kernel_rfl))
    exact e_.out ⟨⟨.eq rfl, .eq rfl, trivial⟩, trivial⟩ trivial trivial rfl
/-! ### event_Event_right_out -/
def event_Event_right_out (e : Int) (e2 : T_event_halves) : Int → Res
  | r1 => ([(.one (.pv (.int .i64 r1)))], [], [])
/-! ### event_Event_Depth_out -/
def event_Event_Depth_out (e : Int) (e2 : T_event_halves) : Int → Res
  | r1 => ([(.one (.pv (.int .i64 r1)))], [], [])
/-! ### event_Event_Depth -/
noncomputable def event_Event_Depth_b (rec_event_Event_Depth : Int → T_event_halves → Option (Int)) (e : Int) (e2 : T_event_halves) : Option (Int) :=
  match e2 with
  | .nil =>
    some 0
  | .mk n t n2 t2 =>
    (rec_event_Event_Depth n t).bind fun n3 =>
    (rec_event_Event_Depth n2 t2).bind fun n4 =>
    some (iadd .i64 1 (if (n3 : Int) < n4 then n4 else n3))
theorem event_Event_Depth_b_runs (rec_event_Event_Depth : Int → T_event_halves → Option (Int)) (hrec_event_Event_Depth : ∀ e e2 r_, rec_event_Event_Depth e e2 = some r_ → Runs Tryd.prog 37 [(.agg [(.pv (.int .u64 e)), (.pv (T_event_halves.pv e2))])] [] [] (event_Event_Depth_out e e2 r_)) (e : Int) (e2 : T_event_halves) (r_ : Int) (h : event_Event_Depth_b rec_event_Event_Depth e e2 = some r_) : Runs Tryd.prog 37 [(.agg [(.pv (.int .u64 e)), (.pv (T_event_halves.pv e2))])] [] [] (event_Event_Depth_out e e2 r_) := by
  unfold event_Event_Depth_b at h
  cases e2 with
  | nil =>
    have h := some_of h
    subst h
    have t_ := tT (rfl : true = true) <| tN
    exact runs_of (C := cfg) (objs := []) (sc := t_.ev) (.k0 t_.pf (by kernel_rfl))
  | mk n t n2 t2 =>
    obtain ⟨n3, h1, h⟩ := bind_of h
    obtain ⟨n4, h2, h⟩ := bind_of h
    have h := some_of h
    subst h
    have t_ := tF (rfl : false = false) <| tR (hrec_event_Event_Depth n t _ h1) <| tR (hrec_event_Event_Depth n t _ h1) <| tR (hrec_event_Event_Depth n2 t2 _ h2) <| tN
    exact runs_of (C := cfg) (objs := []) (sc := t_.ev) (.k1 t_.pf (by kernel_rfl) (by kernel_rfl))
noncomputable def event_Event_Depth : Nat → Int → T_event_halves → Option (Int)
  | 0, _, _ => none
  | N + 1, e, e2 => event_Event_Depth_b (event_Event_Depth N) e e2
theorem event_Event_Depth_runs : ∀ (N : Nat) (e : Int) (e2 : T_event_halves) (r_ : Int), event_Event_Depth N e e2 = some r_ → Runs Tryd.prog 37 [(.agg [(.pv (.int .u64 e)), (.pv (T_event_halves.pv e2))])] [] [] (event_Event_Depth_out e e2 r_)
  | 0, _, _, _, h => by cases h
  | N + 1, e, e2, r_, h => event_Event_Depth_b_runs (event_Event_Depth N) (event_Event_Depth_runs N) e e2 r_ h
/-! ### event_Event_Max_out -/
def event_Event_Max_out (e : Int) (e2 : T_event_halves) : Int → Res
  | r1 => ([(.one (.pv (.int .u64 r1)))], [], [])
/-! ### event_Event_Max -/
noncomputable def event_Event_Max_b (rec_event_Event_Max : Int → T_event_halves → Option (Int)) (e : Int) (e2 : T_event_halves) : Option (Int) :=
  match e2 with
  | .nil =>
    some e
  | .mk n t n2 t2 =>
    (rec_event_Event_Max n t).bind fun n3 =>
    (rec_event_Event_Max n2 t2).bind fun n4 =>
    some (iadd .u64 e (if (n3 : Int) < n4 then n4 else n3))
theorem event_Event_Max_b_runs (rec_event_Event_Max : Int → T_event_halves → Option (Int)) (hrec_event_Event_Max : ∀ e e2 r_, rec_event_Event_Max e e2 = some r_ → Runs Tryd.prog 30 [(.agg [(.pv (.int .u64 e)), (.pv (T_event_halves.pv e2))])] [] [] (event_Event_Max_out e e2 r_)) (e : Int) (e2 : T_event_halves) (r_ : Int) (h : event_Event_Max_b rec_event_Event_Max e e2 = some r_) : Runs Tryd.prog 30 [(.agg [(.pv (.int .u64 e)), (.pv (T_event_halves.pv e2))])] [] [] (event_Event_Max_out e e2 r_) := by
  unfold event_Event_Max_b at h
  cases e2 with
  | nil =>
    have h := some_of h
    subst h
    have t_ := tT (rfl : true = true) <| tN
    exact runs_of (C := cfg) (objs := []) (sc := t_.ev) (.k0 t_.pf (by kernel_rfl))
  | mk n t n2 t2 =>
    obtain ⟨n3, h1, h⟩ := bind_of h
    obtain ⟨n4, h2, h⟩ := bind_of h
    have h := some_of h
    subst h
    have t_ := tF (rfl : false = false) <| tR (hrec_event_Event_Max n t _ h1) <| tR (hrec_event_Event_Max n t _ h1) <| tR (hrec_event_Event_Max n t _ h1) <| tR (hrec_event_Event_Max n2 t2 _ h2) <| tR (hrec_event_Event_Max n t _ h1) <| tR (hrec_event_Event_Max n2 t2 _ h2) <| tN
    exact runs_of (C := cfg) (objs := []) (sc := t_.ev) (.k1 t_.pf (by kernel_rfl) (by kernel_rfl))
noncomputable def event_Event_Max : Nat → Int → T_event_halves → Option (Int)
  | 0, _, _ => none
  | N + 1, e, e2 => event_Event_Max_b (event_Event_Max N) e e2
theorem event_Event_Max_runs : ∀ (N : Nat) (e : Int) (e2 : T_event_halves) (r_ : Int), event_Event_Max N e e2 = some r_ → Runs Tryd.prog 30 [(.agg [(.pv (.int .u64 e)), (.pv (T_event_halves.pv e2))])] [] [] (event_Event_Max_out e e2 r_)
  | 0, _, _, _, h => by cases h
  | N + 1, e, e2, r_, h => event_Event_Max_b_runs (event_Event_Max N) (event_Event_Max_runs N) e e2 r_ h
/-! ### event_Event_right -/
noncomputable def event_Event_right (N : Nat) (e : Int) (e2 : T_event_halves) : Option (Int) :=
  (event_Event_Depth N e e2).bind fun n =>
  bif (decide ((16 : Int) < n)) then
    some 3
  else
    (event_Event_Max N e e2).bind fun n2 =>
    bif (decide ((1048576 : Int) < n2)) then
      some 4
    else
      some 0
theorem event_Event_right_runs (N : Nat) (e : Int) (e2 : T_event_halves) (r_ : Int) (h : event_Event_right N e e2 = some r_) : Runs Tryd.prog 114 [(.agg [(.pv (.int .u64 e)), (.pv (T_event_halves.pv e2))])] [] [] (event_Event_right_out e e2 r_) := by
  unfold event_Event_right at h
  obtain ⟨n, h1, h⟩ := bind_of h
  rcases cond_of h with ⟨h2, h⟩ | ⟨h2, h⟩
  · have h := some_of h
    subst h
    have t_ := tR (event_Event_Depth_runs N e e2 _ h1) <| tT h2 <| tN
    exact runs_of (C := cfg) (objs := []) (sc := t_.ev) (.k0 t_.pf (by kernel_rfl))
  · obtain ⟨n2, h3, h⟩ := bind_of h
    rcases cond_of h with ⟨h4, h⟩ | ⟨h4, h⟩
    · have h := some_of h
      subst h
      have t_ := tR (event_Event_Depth_runs N e e2 _ h1) <| tF h2 <| tR (event_Event_Max_runs N e e2 _ h3) <| tT h4 <| tN
      exact runs_of (C := cfg) (objs := []) (sc := t_.ev) (.k0 t_.pf (by kernel_rfl))
    · have h := some_of h
      subst h
      have t_ := tR (event_Event_Depth_runs N e e2 _ h1) <| tF h2 <| tR (event_Event_Max_runs N e e2 _ h3) <| tF h4 <| tN
      exact runs_of (C := cfg) (objs := []) (sc := t_.ev) (.k0 t_.pf (by kernel_rfl))
/-! ### event_Node -/
noncomputable def event_Node (N : Nat) (n : Int) (l : Int) (l2 : T_event_halves) (r : Int) (r2 : T_event_halves) : Option (Int × T_event_halves × Int) :=
  (event_node (if (2097152 : Int) < n then 2097152 else n) l l2 r r2).bind fun (n2, t) =>
  (event_Event_right N n2 t).bind fun n3 =>
  bif (decide ((n3 : Int) = 0)) then
    some (n2, t, 0)
  else
    some (0, T_event_halves.nil, n3)
theorem event_Node_runs (N : Nat) (n : Int) (l : Int) (l2 : T_event_halves) (r : Int) (r2 : T_event_halves) (r_ : Int × T_event_halves × Int) (h : event_Node N n l l2 r r2 = some r_) : Runs Tryd.prog 54 [(.one (.pv (.int .u64 n))), (.agg [(.pv (.int .u64 l)), (.pv (T_event_halves.pv l2))]), (.agg [(.pv (.int .u64 r)), (.pv (T_event_halves.pv r2))])] [] [] (event_Node_out n l l2 r r2 r_) := by
  unfold event_Node at h
  obtain ⟨⟨n2, t⟩, h1, h⟩ := bind_of h
  have q_1 := (event_node_runs (if (2097152 : Int) < n then 2097152 else n) l l2 r r2 _ h1)
  obtain ⟨n3, h2, h⟩ := bind_of h
  rcases cond_of h with ⟨h3, h⟩ | ⟨h3, h⟩
  · have h := some_of h
    subst h
    have t_ := tR q_1 <| tR (event_Event_right_runs N n2 t _ h2) <| tF (not_of2 h3) <| tN
    exact runs_of (C := cfg) (objs := []) (sc := t_.ev) (.k0 t_.pf (by kernel_rfl))
  · have h := some_of h
    subst h
    have t_ := tR q_1 <| tR (event_Event_right_runs N n2 t _ h2) <| tT (not_of h3) <| tN
    have e_ : Runs Tryd.prog 54 [(.one (.pv (.int .u64 n))), (.agg [(.pv (.int .u64 l)), (.pv (T_event_halves.pv l2))]), (.agg [(.pv (.int .u64 r)), (.pv (T_event_halves.pv r2))])] [] [] ([(.agg [(.pv (.int .u64 0)), (.pv .nilp)]), (.one (.pv (.int .i64 n3)))], [], []) := runs_of (C := cfg) (objs := []) (sc := t_.ev) (.k0 t_.pf (by kernel_rfl))
    exact e_.out ⟨⟨.eq rfl, .eq rfl, trivial⟩, .eq rfl, trivial⟩ trivial trivial rfl
/-! ### code_source_node -/
noncomputable def code_source_node (N : Nat) (base : Int) (l : Int) (l2 : T_event_halves) (r : Int) (r2 : T_event_halves) (n : Int) (l3 : List Int) (n2 : Int) (n3 : Int) : Option (Int × T_event_halves × Int) :=
  (event_Node N base l l2 r r2).bind fun (n4, t, n5) =>
  bif (decide ((n5 : Int) = 0)) then
    some (n4, t, n)
  else
    (code_source_fail n5 n l3 n2 n3).bind fun n6 =>
    some (n4, t, n6)
theorem code_source_node_runs (N : Nat) (base : Int) (l : Int) (l2 : T_event_halves) (r : Int) (r2 : T_event_halves) (n : Int) (l3 : List Int) (n2 : Int) (n3 : Int) (r_ : Int × T_event_halves × Int) (h : code_source_node N base l l2 r r2 n l3 n2 n3 = some r_) : Runs Tryd.prog 154 [(.one (.ref 0 0)), (.one (.pv (.int .u64 base))), (.agg [(.pv (.int .u64 l)), (.pv (T_event_halves.pv l2))]), (.agg [(.pv (.int .u64 r)), (.pv (T_event_halves.pv r2))])] [[(.ref 1 0), (.pv (.int .i64 n))], [(.pv (.ints .u8 l3 false)), (.pv (.int .i64 n2)), (.pv (.int .i64 n3))]] [] (code_source_node_out base l l2 r r2 n l3 n2 n3 r_) := by
  unfold code_source_node at h
  obtain ⟨⟨n4, t, n5⟩, h1, h⟩ := bind_of h
  rcases cond_of h with ⟨h2, h⟩ | ⟨h2, h⟩
  · have h := some_of h
    subst h
    have t_ := tR (event_Node_runs N base l l2 r r2 _ h1) <| tF (not_of2 h2) <| tN
    exact runs_of (C := cfg) (objs := [[(.ref 1 0), (.pv (.int .i64 n))], [(.pv (.ints .u8 l3 false)), (.pv (.int .i64 n2)), (.pv (.int .i64 n3))]]) (sc := t_.ev) (.k0 t_.pf (by kernel_rfl))
  · obtain ⟨n6, h3, h⟩ := bind_of h
    have h := some_of h
    subst h
    have t_ := tR (event_Node_runs N base l l2 r r2 _ h1) <| tT (not_of h2) <| tR (code_source_fail_runs n5 n l3 n2 n3 _ h3) <| tN
    exact runs_of (C := cfg) (objs := [[(.ref 1 0), (.pv (.int .i64 n))], [(.pv (.ints .u8 l3 false)), (.pv (.int .i64 n2)), (.pv (.int .i64 n3))]]) (sc := t_.ev) (.k0 t_.pf (by kernel_rfl))
/-! ### code_source_event_C53 -/
def code_source_event_C53_ex (depth : Int) (base : Int) (left : Bool) (right : Bool) (b : Bool) (n : Int) (l : List Int) (n2 : Int) (n3 : Int) : Int × Int × Int × Int × T_event_halves → Ex × St
  | (r1, r2, r3, r4, r5) => (.normal, ⟨[(0, (.av (.one (.ref 0 0)))), (1, (.av (.one (.pv (.int .i64 depth))))), (4, (.av (.one (.ref 2 0)))), (7, (.av (.one (.ref 3 0)))), (8, (.av (.one (.ref 4 0)))), (9, (.av (.one (.pv (.int .u64 base))))), (11, (.av (.one (.pv (.bool left))))), (12, (.av (.one (.pv (.bool right)))))], [(0, [(.ref 1 0), (.pv (.int .i64 r1))]), (1, [(.pv (.ints .u8 l false)), (.pv (.int .i64 r2)), (.pv (.int .i64 r3))]), (2, [(.pv (.int .u64 0)), (.pv (T_event_halves.pv T_event_halves.nil))]), (3, [(.pv (.int .u64 r4)), (.pv (T_event_halves.pv r5))]), (4, [(.pv (.int .u64 0)), (.pv (T_event_halves.pv T_event_halves.nil))])], []⟩)
noncomputable def code_source_event_C53 (rec_code_source_event_2 : Int → Int → List Int → Int → Int → Option (Int × T_event_halves × Int × Int × Int)) (depth : Int) (base : Int) (left : Bool) (right : Bool) (b : Bool) (n : Int) (l : List Int) (n2 : Int) (n3 : Int) : Option (Int × Int × Int × Int × T_event_halves) :=
  bif b then
    (rec_code_source_event_2 (iadd .i64 depth 1) n l n2 n3).bind fun (n4, t, n5, n6, n7) =>
    some (n5, n6, n7, n4, t)
  else
    some (n, n2, n3, 0, T_event_halves.nil)
theorem code_source_event_C53_runs (rec_code_source_event_2 : Int → Int → List Int → Int → Int → Option (Int × T_event_halves × Int × Int × Int)) (hrec_code_source_event_2 : ∀ depth n l n2 n3 r_, rec_code_source_event_2 depth n l n2 n3 = some r_ → Runs Tryd.prog 124 [(.one (.ref 0 0)), (.one (.pv (.int .i64 depth)))] [[(.ref 1 0), (.pv (.int .i64 n))], [(.pv (.ints .u8 l false)), (.pv (.int .i64 n2)), (.pv (.int .i64 n3))]] [] (code_source_event_2_out depth n l n2 n3 r_)) (depth : Int) (base : Int) (left : Bool) (right : Bool) (b : Bool) (n : Int) (l : List Int) (n2 : Int) (n3 : Int) (r_ : Int × Int × Int × Int × T_event_halves) (h : code_source_event_C53 rec_code_source_event_2 depth base left right b n l n2 n3 = some r_) : LRuns Tryd.prog (lEnv Tryd.prog cfg 124 2).nt 2 (.cond (.tmp 53) (condAt Tryd.prog 124 53).1 (condAt Tryd.prog 124 53).2) ⟨[(0, (.av (.one (.ref 0 0)))), (1, (.av (.one (.pv (.int .i64 depth))))), (4, (.av (.one (.ref 2 0)))), (7, (.av (.one (.ref 3 0)))), (8, (.av (.one (.ref 4 0)))), (9, (.av (.one (.pv (.int .u64 base))))), (11, (.av (.one (.pv (.bool left))))), (12, (.av (.one (.pv (.bool right))))), (53, (.av (.one (.pv (.bool b)))))], [(0, [(.ref 1 0), (.pv (.int .i64 n))]), (1, [(.pv (.ints .u8 l false)), (.pv (.int .i64 n2)), (.pv (.int .i64 n3))]), (2, [(.pv (.int .u64 0)), (.pv (T_event_halves.pv T_event_halves.nil))]), (3, [(.pv (.int .u64 0)), (.pv (T_event_halves.pv T_event_halves.nil))]), (4, [(.pv (.int .u64 0)), (.pv (T_event_halves.pv T_event_halves.nil))])], []⟩ (code_source_event_C53_ex depth base left right b n l n2 n3 r_).1 (code_source_event_C53_ex depth base left right b n l n2 n3 r_).2 := by
  unfold code_source_event_C53 at h
  rcases cond_of h with ⟨h1, h⟩ | ⟨h1, h⟩
  · obtain ⟨⟨n4, t, n5, n6, n7⟩, h2, h⟩ := bind_of h
    have h := some_of h
    subst h
    have t_ := tT h1 <| tR (hrec_code_source_event_2 (iadd .i64 depth 1) n l n2 n3 _ h2) <| tN
    exact piece_ok (C := cfg) (sc := t_.ev) (.k0 t_.pf (by kernel_rfl))
  · have h := some_of h
    subst h
    have t_ := tF h1 <| tN
    exact piece_ok (C := cfg) (sc := t_.ev) (.k0 t_.pf (by kernel_rfl))
/-! ### code_source_event_C62 -/
def code_source_event_C62_ex (depth : Int) (base : Int) (left : Bool) (right : Bool) (b : Bool) (n : Int) (l : List Int) (n2 : Int) (n3 : Int) (n4 : Int) (t : T_event_halves) : Int × Int × Int × Int × T_event_halves → Ex × St
  | (r1, r2, r3, r4, r5) => (.normal, ⟨[(0, (.av (.one (.ref 0 0)))), (4, (.av (.one (.ref 2 0)))), (7, (.av (.one (.ref 3 0)))), (8, (.av (.one (.ref 4 0)))), (9, (.av (.one (.pv (.int .u64 base))))), (11, (.av (.one (.pv (.bool left))))), (12, (.av (.one (.pv (.bool right)))))], [(0, [(.ref 1 0), (.pv (.int .i64 r1))]), (1, [(.pv (.ints .u8 l false)), (.pv (.int .i64 r2)), (.pv (.int .i64 r3))]), (2, [(.pv (.int .u64 0)), (.pv (T_event_halves.pv T_event_halves.nil))]), (3, [(.pv (.int .u64 n4)), (.pv (T_event_halves.pv t))]), (4, [(.pv (.int .u64 r4)), (.pv (T_event_halves.pv r5))])], []⟩)
noncomputable def code_source_event_C62 (rec_code_source_event_2 : Int → Int → List Int → Int → Int → Option (Int × T_event_halves × Int × Int × Int)) (depth : Int) (base : Int) (left : Bool) (right : Bool) (b : Bool) (n : Int) (l : List Int) (n2 : Int) (n3 : Int) (n4 : Int) (t : T_event_halves) : Option (Int × Int × Int × Int × T_event_halves) :=
  bif b then
    (rec_code_source_event_2 (iadd .i64 depth 1) n l n2 n3).bind fun (n5, t2, n6, n7, n8) =>
    some (n6, n7, n8, n5, t2)
  else
    some (n, n2, n3, 0, T_event_halves.nil)
theorem code_source_event_C62_runs (rec_code_source_event_2 : Int → Int → List Int → Int → Int → Option (Int × T_event_halves × Int × Int × Int)) (hrec_code_source_event_2 : ∀ depth n l n2 n3 r_, rec_code_source_event_2 depth n l n2 n3 = some r_ → Runs Tryd.prog 124 [(.one (.ref 0 0)), (.one (.pv (.int .i64 depth)))] [[(.ref 1 0), (.pv (.int .i64 n))], [(.pv (.ints .u8 l false)), (.pv (.int .i64 n2)), (.pv (.int .i64 n3))]] [] (code_source_event_2_out depth n l n2 n3 r_)) (depth : Int) (base : Int) (left : Bool) (right : Bool) (b : Bool) (n : Int) (l : List Int) (n2 : Int) (n3 : Int) (n4 : Int) (t : T_event_halves) (r_ : Int × Int × Int × Int × T_event_halves) (h : code_source_event_C62 rec_code_source_event_2 depth base left right b n l n2 n3 n4 t = some r_) : LRuns Tryd.prog (lEnv Tryd.prog cfg 124 2).nt 2 (.cond (.tmp 62) (condAt Tryd.prog 124 62).1 (condAt Tryd.prog 124 62).2) ⟨[(0, (.av (.one (.ref 0 0)))), (1, (.av (.one (.pv (.int .i64 depth))))), (4, (.av (.one (.ref 2 0)))), (7, (.av (.one (.ref 3 0)))), (8, (.av (.one (.ref 4 0)))), (9, (.av (.one (.pv (.int .u64 base))))), (11, (.av (.one (.pv (.bool left))))), (12, (.av (.one (.pv (.bool right))))), (62, (.av (.one (.pv (.bool b)))))], [(0, [(.ref 1 0), (.pv (.int .i64 n))]), (1, [(.pv (.ints .u8 l false)), (.pv (.int .i64 n2)), (.pv (.int .i64 n3))]), (2, [(.pv (.int .u64 0)), (.pv (T_event_halves.pv T_event_halves.nil))]), (3, [(.pv (.int .u64 n4)), (.pv (T_event_halves.pv t))]), (4, [(.pv (.int .u64 0)), (.pv (T_event_halves.pv T_event_halves.nil))])], []⟩ (code_source_event_C62_ex depth base left right b n l n2 n3 n4 t r_).1 (code_source_event_C62_ex depth base left right b n l n2 n3 n4 t r_).2 := by
  unfold code_source_event_C62 at h
  rcases cond_of h with ⟨h1, h⟩ | ⟨h1, h⟩
  · obtain ⟨⟨n5, t2, n6, n7, n8⟩, h2, h⟩ := bind_of h
    have h := some_of h
    subst h
    have t_ := tT h1 <| tR (hrec_code_source_event_2 (iadd .i64 depth 1) n l n2 n3 _ h2) <| tN
    exact piece_ok (C := cfg) (sc := t_.ev) (.k0 t_.pf (by kernel_rfl))
  · have h := some_of h
    subst h
    have t_ := tF h1 <| tN
    exact piece_ok (C := cfg) (sc := t_.ev) (.k0 t_.pf (by kernel_rfl))
/-! ### code_source_event_C62_2 -/
def code_source_event_C62_2_ex (depth : Int) (base : Int) (left : Bool) (right : Bool) (b : Bool) (n : Int) (l : List Int) (n2 : Int) (n3 : Int) : Int × Int × Int × Int × T_event_halves → Ex × St
  | (r1, r2, r3, r4, r5) => (.normal, ⟨[(0, (.av (.one (.ref 0 0)))), (4, (.av (.one (.ref 2 0)))), (7, (.av (.one (.ref 3 0)))), (8, (.av (.one (.ref 4 0)))), (9, (.av (.one (.pv (.int .u64 base))))), (11, (.av (.one (.pv (.bool left))))), (12, (.av (.one (.pv (.bool right)))))], [(0, [(.ref 1 0), (.pv (.int .i64 r1))]), (1, [(.pv (.ints .u8 l false)), (.pv (.int .i64 r2)), (.pv (.int .i64 r3))]), (2, [(.pv (.int .u64 0)), (.pv (T_event_halves.pv T_event_halves.nil))]), (3, [(.pv (.int .u64 0)), (.pv (T_event_halves.pv T_event_halves.nil))]), (4, [(.pv (.int .u64 r4)), (.pv (T_event_halves.pv r5))])], []⟩)
noncomputable def code_source_event_C62_2 (rec_code_source_event_2 : Int → Int → List Int → Int → Int → Option (Int × T_event_halves × Int × Int × Int)) (depth : Int) (base : Int) (left : Bool) (right : Bool) (b : Bool) (n : Int) (l : List Int) (n2 : Int) (n3 : Int) : Option (Int × Int × Int × Int × T_event_halves) :=
  bif b then
    (rec_code_source_event_2 (iadd .i64 depth 1) n l n2 n3).bind fun (n4, t, n5, n6, n7) =>
    some (n5, n6, n7, n4, t)
  else
    some (n, n2, n3, 0, T_event_halves.nil)
theorem code_source_event_C62_2_runs (rec_code_source_event_2 : Int → Int → List Int → Int → Int → Option (Int × T_event_halves × Int × Int × Int)) (hrec_code_source_event_2 : ∀ depth n l n2 n3 r_, rec_code_source_event_2 depth n l n2 n3 = some r_ → Runs Tryd.prog 124 [(.one (.ref 0 0)), (.one (.pv (.int .i64 depth)))] [[(.ref 1 0), (.pv (.int .i64 n))], [(.pv (.ints .u8 l false)), (.pv (.int .i64 n2)), (.pv (.int .i64 n3))]] [] (code_source_event_2_out depth n l n2 n3 r_)) (depth : Int) (base : Int) (left : Bool) (right : Bool) (b : Bool) (n : Int) (l : List Int) (n2 : Int) (n3 : Int) (r_ : Int × Int × Int × Int × T_event_halves) (h : code_source_event_C62_2 rec_code_source_event_2 depth base left right b n l n2 n3 = some r_) : LRuns Tryd.prog (lEnv Tryd.prog cfg 124 2).nt 2 (.cond (.tmp 62) (condAt Tryd.prog 124 62).1 (condAt Tryd.prog 124 62).2) ⟨[(0, (.av (.one (.ref 0 0)))), (1, (.av (.one (.pv (.int .i64 depth))))), (4, (.av (.one (.ref 2 0)))), (7, (.av (.one (.ref 3 0)))), (8, (.av (.one (.ref 4 0)))), (9, (.av (.one (.pv (.int .u64 base))))), (11, (.av (.one (.pv (.bool left))))), (12, (.av (.one (.pv (.bool right))))), (62, (.av (.one (.pv (.bool b)))))], [(0, [(.ref 1 0), (.pv (.int .i64 n))]), (1, [(.pv (.ints .u8 l false)), (.pv (.int .i64 n2)), (.pv (.int .i64 n3))]), (2, [(.pv (.int .u64 0)), (.pv (T_event_halves.pv T_event_halves.nil))]), (3, [(.pv (.int .u64 0)), (.pv (T_event_halves.pv T_event_halves.nil))]), (4, [(.pv (.int .u64 0)), (.pv (T_event_halves.pv T_event_halves.nil))])], []⟩ (code_source_event_C62_2_ex depth base left right b n l n2 n3 r_).1 (code_source_event_C62_2_ex depth base left right b n l n2 n3 r_).2 := by
  unfold code_source_event_C62_2 at h
  rcases cond_of h with ⟨h1, h⟩ | ⟨h1, h⟩
  · obtain ⟨⟨n4, t, n5, n6, n7⟩, h2, h⟩ := bind_of h
    have h := some_of h
    subst h
    have t_ := tT h1 <| tR (hrec_code_source_event_2 (iadd .i64 depth 1) n l n2 n3 _ h2) <| tN
    exact piece_ok (C := cfg) (sc := t_.ev) (.k0 t_.pf (by kernel_rfl))
  · have h := some_of h
    subst h
    have t_ := tF h1 <| tN
    exact piece_ok (C := cfg) (sc := t_.ev) (.k0 t_.pf (by kernel_rfl))

end Go.Proofs.YtjjakdmcnkldoaaDoor
