/- What functions compute, and that they do. -/
import Derived.Test.YtjjakdmcnkldoaaA5
set_option linter.unusedVariables false
set_option linter.unusedSimpArgs false
namespace Go.Proofs.Ytjjakdmcnkldoaa
open Go.Ev

/-! ### code_GetEvent -/
noncomputable def code_GetEvent (N : Nat) (l : List Int) (n : Int) (n2 : Int) : Option (Int × T_event_halves × Int × Int × Int) :=
  (code_source_event_2 N 0 0 l n n2).bind fun (n3, t, n4, n5, n6) =>
  bif (decide ((n4 : Int) = 0)) then
    some (n3, t, 0, n5, n6)
  else
    some (0, T_event_halves.nil, n4, n5, n6)
theorem code_GetEvent_runs (N : Nat) (l : List Int) (n : Int) (n2 : Int) (r_ : Int × T_event_halves × Int × Int × Int) (h : code_GetEvent N l n n2 = some r_) : Runs Try.prog 21 [(.one (.ref 0 0))] [[(.pv (.ints .u8 l false)), (.pv (.int .i64 n)), (.pv (.int .i64 n2))]] [] (code_GetEvent_out l n n2 r_) := by
  unfold code_GetEvent at h
  obtain ⟨⟨n3, t, n4, n5, n6⟩, h1, h⟩ := bind_of h
  rcases cond_of h with ⟨h2, h⟩ | ⟨h2, h⟩
  · have h := some_of h
    subst h
    exact runs_of (C := cfg) (objs := [[(.pv (.ints .u8 l false)), (.pv (.int .i64 n)), (.pv (.int .i64 n2))]]) (sc := [.res (code_source_event_2_out 0 0 l n n2 (n3, t, n4, n5, n6)), .br false]) (.k0 (an_ (code_source_event_2_runs N 0 0 l n n2 _ h1) (an_ (not_of2 h2) trivial)) (by kernel_rfl))
  · have h := some_of h
    subst h
    have e_ : Runs Try.prog 21 [(.one (.ref 0 0))] [[(.pv (.ints .u8 l false)), (.pv (.int .i64 n)), (.pv (.int .i64 n2))]] [] ([(.agg [(.pv (.int .u64 0)), (.pv .nilp)]), (.one (.pv (.int .i64 n4)))], [[(.pv (.ints .u8 l false)), (.pv (.int .i64 n5)), (.pv (.int .i64 n6))]], []) := runs_of (C := cfg) (objs := [[(.pv (.ints .u8 l false)), (.pv (.int .i64 n)), (.pv (.int .i64 n2))]]) (sc := [.res (code_source_event_2_out 0 0 l n n2 (n3, t, n4, n5, n6)), .br true]) (.k1 (an_ (code_source_event_2_runs N 0 0 l n n2 _ h1) (an_ (not_of h2) trivial)) (by kernel_rfl) (by kernel_rfl))
    exact e_.out ⟨⟨.eq rfl, .eq rfl, trivial⟩, .eq rfl, trivial⟩ ⟨⟨.eq rfl, .eq rfl, .eq rfl, trivial⟩, trivial⟩ trivial rfl
/-! ### code_GetID_out -/
def code_GetID_out (l : List Int) (n : Int) (n2 : Int) : Bool × T_id_halves × Int × Int × Int → Res
  | (r1, r2, r3, r4, r5) => ([(.agg [(.pv (.bool r1)), (.pv (T_id_halves.pv r2))]), (.one (.pv (.int .i64 r3)))], [[(.pv (.ints .u8 l false)), (.pv (.int .i64 r4)), (.pv (.int .i64 r5))]], [])
/-! ### code_source_id_2_out -/
def code_source_id_2_out (depth : Int) (n : Int) (l : List Int) (n2 : Int) (n3 : Int) : Bool × T_id_halves × Int × Int × Int → Res
  | (r1, r2, r3, r4, r5) => ([(.agg [(.pv (.bool r1)), (.pv (T_id_halves.pv r2))])], [[(.ref 1 0), (.pv (.int .i64 r3))], [(.pv (.ints .u8 l false)), (.pv (.int .i64 r4)), (.pv (.int .i64 r5))]], [])
/-! ### code_source_id_C22 -/
def code_source_id_C22_ex (depth : Int) (kind : Int) (b : Bool) (n : Int) (l : List Int) (n2 : Int) (n3 : Int) : Int → Ex × St
  | r1 => (.normal, ⟨[(0, (.av (.one (.ref 0 0)))), (1, (.av (.one (.pv (.int .i64 depth))))), (4, (.av (.one (.ref 2 0)))), (5, (.av (.one (.ref 3 0)))), (6, (.av (.one (.ref 4 0)))), (7, (.av (.one (.pv (.int .u64 kind)))))], [(0, [(.ref 1 0), (.pv (.int .i64 r1))]), (1, [(.pv (.ints .u8 l false)), (.pv (.int .i64 n2)), (.pv (.int .i64 n3))]), (2, [(.pv (.bool false)), (.pv (T_id_halves.pv T_id_halves.nil))]), (3, [(.pv (.bool false)), (.pv (T_id_halves.pv T_id_halves.nil))]), (4, [(.pv (.bool false)), (.pv (T_id_halves.pv T_id_halves.nil))])], []⟩)
noncomputable def code_source_id_C22 (depth : Int) (kind : Int) (b : Bool) (n : Int) (l : List Int) (n2 : Int) (n3 : Int) : Option (Int) :=
  bif b then
    (code_source_fail 3 n l n2 n3).bind fun n4 =>
    some n4
  else
    some n
theorem code_source_id_C22_runs (depth : Int) (kind : Int) (b : Bool) (n : Int) (l : List Int) (n2 : Int) (n3 : Int) (r_ : Int) (h : code_source_id_C22 depth kind b n l n2 n3 = some r_) : LRuns Try.prog (lEnv Try.prog cfg 52 2).nt 2 (.cond (.tmp 22) (condAt Try.prog 52 22).1 (condAt Try.prog 52 22).2) ⟨[(0, (.av (.one (.ref 0 0)))), (1, (.av (.one (.pv (.int .i64 depth))))), (4, (.av (.one (.ref 2 0)))), (5, (.av (.one (.ref 3 0)))), (6, (.av (.one (.ref 4 0)))), (7, (.av (.one (.pv (.int .u64 kind))))), (22, (.av (.one (.pv (.bool b)))))], [(0, [(.ref 1 0), (.pv (.int .i64 n))]), (1, [(.pv (.ints .u8 l false)), (.pv (.int .i64 n2)), (.pv (.int .i64 n3))]), (2, [(.pv (.bool false)), (.pv (T_id_halves.pv T_id_halves.nil))]), (3, [(.pv (.bool false)), (.pv (T_id_halves.pv T_id_halves.nil))]), (4, [(.pv (.bool false)), (.pv (T_id_halves.pv T_id_halves.nil))])], []⟩ (code_source_id_C22_ex depth kind b n l n2 n3 r_).1 (code_source_id_C22_ex depth kind b n l n2 n3 r_).2 := by
  unfold code_source_id_C22 at h
  rcases cond_of h with ⟨h1, h⟩ | ⟨h1, h⟩
  · obtain ⟨n4, h2, h⟩ := bind_of h
    have h := some_of h
    subst h
    exact piece_ok (C := cfg) (sc := [.br true, .res (code_source_fail_out 3 n l n2 n3 n4)]) (.k0 (an_ h1 (an_ (code_source_fail_runs 3 n l n2 n3 _ h2) trivial)) (by kernel_rfl))
  · have h := some_of h
    subst h
    exact piece_ok (C := cfg) (sc := [.br false]) (.k0 (an_ h1 trivial) (by kernel_rfl))
/-! ### code_source_id_C30 -/
def code_source_id_C30_ex (depth : Int) (kind : Int) (b : Bool) (n : Int) (l : List Int) (n2 : Int) (n3 : Int) : Int × Int × Int × Bool × T_id_halves → Ex × St
  | (r1, r2, r3, r4, r5) => (.normal, ⟨[(0, (.av (.one (.ref 0 0)))), (1, (.av (.one (.pv (.int .i64 depth))))), (4, (.av (.one (.ref 2 0)))), (5, (.av (.one (.ref 3 0)))), (6, (.av (.one (.ref 4 0)))), (7, (.av (.one (.pv (.int .u64 kind)))))], [(0, [(.ref 1 0), (.pv (.int .i64 r1))]), (1, [(.pv (.ints .u8 l false)), (.pv (.int .i64 r2)), (.pv (.int .i64 r3))]), (2, [(.pv (.bool false)), (.pv (T_id_halves.pv T_id_halves.nil))]), (3, [(.pv (.bool r4)), (.pv (T_id_halves.pv r5))]), (4, [(.pv (.bool false)), (.pv (T_id_halves.pv T_id_halves.nil))])], []⟩)
noncomputable def code_source_id_C30 (rec_code_source_id_2 : Int → Int → List Int → Int → Int → Option (Bool × T_id_halves × Int × Int × Int)) (depth : Int) (kind : Int) (b : Bool) (n : Int) (l : List Int) (n2 : Int) (n3 : Int) : Option (Int × Int × Int × Bool × T_id_halves) :=
  bif b then
    (rec_code_source_id_2 (iadd .i64 depth 1) n l n2 n3).bind fun (b2, t, n4, n5, n6) =>
    some (n4, n5, n6, b2, t)
  else
    some (n, n2, n3, false, T_id_halves.nil)
theorem code_source_id_C30_runs (rec_code_source_id_2 : Int → Int → List Int → Int → Int → Option (Bool × T_id_halves × Int × Int × Int)) (hrec_code_source_id_2 : ∀ depth n l n2 n3 r_, rec_code_source_id_2 depth n l n2 n3 = some r_ → Runs Try.prog 52 [(.one (.ref 0 0)), (.one (.pv (.int .i64 depth)))] [[(.ref 1 0), (.pv (.int .i64 n))], [(.pv (.ints .u8 l false)), (.pv (.int .i64 n2)), (.pv (.int .i64 n3))]] [] (code_source_id_2_out depth n l n2 n3 r_)) (depth : Int) (kind : Int) (b : Bool) (n : Int) (l : List Int) (n2 : Int) (n3 : Int) (r_ : Int × Int × Int × Bool × T_id_halves) (h : code_source_id_C30 rec_code_source_id_2 depth kind b n l n2 n3 = some r_) : LRuns Try.prog (lEnv Try.prog cfg 52 2).nt 2 (.cond (.tmp 30) (condAt Try.prog 52 30).1 (condAt Try.prog 52 30).2) ⟨[(0, (.av (.one (.ref 0 0)))), (1, (.av (.one (.pv (.int .i64 depth))))), (4, (.av (.one (.ref 2 0)))), (5, (.av (.one (.ref 3 0)))), (6, (.av (.one (.ref 4 0)))), (7, (.av (.one (.pv (.int .u64 kind))))), (30, (.av (.one (.pv (.bool b)))))], [(0, [(.ref 1 0), (.pv (.int .i64 n))]), (1, [(.pv (.ints .u8 l false)), (.pv (.int .i64 n2)), (.pv (.int .i64 n3))]), (2, [(.pv (.bool false)), (.pv (T_id_halves.pv T_id_halves.nil))]), (3, [(.pv (.bool false)), (.pv (T_id_halves.pv T_id_halves.nil))]), (4, [(.pv (.bool false)), (.pv (T_id_halves.pv T_id_halves.nil))])], []⟩ (code_source_id_C30_ex depth kind b n l n2 n3 r_).1 (code_source_id_C30_ex depth kind b n l n2 n3 r_).2 := by
  unfold code_source_id_C30 at h
  rcases cond_of h with ⟨h1, h⟩ | ⟨h1, h⟩
  · obtain ⟨⟨b2, t, n4, n5, n6⟩, h2, h⟩ := bind_of h
    have h := some_of h
    subst h
    exact piece_ok (C := cfg) (sc := [.br true, .res (code_source_id_2_out (iadd .i64 depth 1) n l n2 n3 (b2, t, n4, n5, n6))]) (.k0 (an_ h1 (an_ (hrec_code_source_id_2 (iadd .i64 depth 1) n l n2 n3 _ h2) trivial)) (by kernel_rfl))
  · have h := some_of h
    subst h
    exact piece_ok (C := cfg) (sc := [.br false]) (.k0 (an_ h1 trivial) (by kernel_rfl))
/-! ### code_source_id_C40 -/
def code_source_id_C40_ex (depth : Int) (kind : Int) (b : Bool) (n : Int) (l : List Int) (n2 : Int) (n3 : Int) (b2 : Bool) (t : T_id_halves) : Int × Int × Int × Bool × T_id_halves → Ex × St
  | (r1, r2, r3, r4, r5) => (.normal, ⟨[(0, (.av (.one (.ref 0 0)))), (4, (.av (.one (.ref 2 0)))), (5, (.av (.one (.ref 3 0)))), (6, (.av (.one (.ref 4 0)))), (7, (.av (.one (.pv (.int .u64 kind)))))], [(0, [(.ref 1 0), (.pv (.int .i64 r1))]), (1, [(.pv (.ints .u8 l false)), (.pv (.int .i64 r2)), (.pv (.int .i64 r3))]), (2, [(.pv (.bool false)), (.pv (T_id_halves.pv T_id_halves.nil))]), (3, [(.pv (.bool b2)), (.pv (T_id_halves.pv t))]), (4, [(.pv (.bool r4)), (.pv (T_id_halves.pv r5))])], []⟩)
noncomputable def code_source_id_C40 (rec_code_source_id_2 : Int → Int → List Int → Int → Int → Option (Bool × T_id_halves × Int × Int × Int)) (depth : Int) (kind : Int) (b : Bool) (n : Int) (l : List Int) (n2 : Int) (n3 : Int) (b2 : Bool) (t : T_id_halves) : Option (Int × Int × Int × Bool × T_id_halves) :=
  bif b then
    (rec_code_source_id_2 (iadd .i64 depth 1) n l n2 n3).bind fun (b3, t2, n4, n5, n6) =>
    some (n4, n5, n6, b3, t2)
  else
    some (n, n2, n3, false, T_id_halves.nil)
theorem code_source_id_C40_runs (rec_code_source_id_2 : Int → Int → List Int → Int → Int → Option (Bool × T_id_halves × Int × Int × Int)) (hrec_code_source_id_2 : ∀ depth n l n2 n3 r_, rec_code_source_id_2 depth n l n2 n3 = some r_ → Runs Try.prog 52 [(.one (.ref 0 0)), (.one (.pv (.int .i64 depth)))] [[(.ref 1 0), (.pv (.int .i64 n))], [(.pv (.ints .u8 l false)), (.pv (.int .i64 n2)), (.pv (.int .i64 n3))]] [] (code_source_id_2_out depth n l n2 n3 r_)) (depth : Int) (kind : Int) (b : Bool) (n : Int) (l : List Int) (n2 : Int) (n3 : Int) (b2 : Bool) (t : T_id_halves) (r_ : Int × Int × Int × Bool × T_id_halves) (h : code_source_id_C40 rec_code_source_id_2 depth kind b n l n2 n3 b2 t = some r_) : LRuns Try.prog (lEnv Try.prog cfg 52 2).nt 2 (.cond (.tmp 40) (condAt Try.prog 52 40).1 (condAt Try.prog 52 40).2) ⟨[(0, (.av (.one (.ref 0 0)))), (1, (.av (.one (.pv (.int .i64 depth))))), (4, (.av (.one (.ref 2 0)))), (5, (.av (.one (.ref 3 0)))), (6, (.av (.one (.ref 4 0)))), (7, (.av (.one (.pv (.int .u64 kind))))), (40, (.av (.one (.pv (.bool b)))))], [(0, [(.ref 1 0), (.pv (.int .i64 n))]), (1, [(.pv (.ints .u8 l false)), (.pv (.int .i64 n2)), (.pv (.int .i64 n3))]), (2, [(.pv (.bool false)), (.pv (T_id_halves.pv T_id_halves.nil))]), (3, [(.pv (.bool b2)), (.pv (T_id_halves.pv t))]), (4, [(.pv (.bool false)), (.pv (T_id_halves.pv T_id_halves.nil))])], []⟩ (code_source_id_C40_ex depth kind b n l n2 n3 b2 t r_).1 (code_source_id_C40_ex depth kind b n l n2 n3 b2 t r_).2 := by
  unfold code_source_id_C40 at h
  rcases cond_of h with ⟨h1, h⟩ | ⟨h1, h⟩
  · obtain ⟨⟨b3, t2, n4, n5, n6⟩, h2, h⟩ := bind_of h
    have h := some_of h
    subst h
    exact piece_ok (C := cfg) (sc := [.br true, .res (code_source_id_2_out (iadd .i64 depth 1) n l n2 n3 (b3, t2, n4, n5, n6))]) (.k0 (an_ h1 (an_ (hrec_code_source_id_2 (iadd .i64 depth 1) n l n2 n3 _ h2) trivial)) (by kernel_rfl))
  · have h := some_of h
    subst h
    exact piece_ok (C := cfg) (sc := [.br false]) (.k0 (an_ h1 trivial) (by kernel_rfl))
/-! ### code_source_id_C40_2 -/
def code_source_id_C40_2_ex (depth : Int) (kind : Int) (b : Bool) (n : Int) (l : List Int) (n2 : Int) (n3 : Int) : Int × Int × Int × Bool × T_id_halves → Ex × St
  | (r1, r2, r3, r4, r5) => (.normal, ⟨[(0, (.av (.one (.ref 0 0)))), (4, (.av (.one (.ref 2 0)))), (5, (.av (.one (.ref 3 0)))), (6, (.av (.one (.ref 4 0)))), (7, (.av (.one (.pv (.int .u64 kind)))))], [(0, [(.ref 1 0), (.pv (.int .i64 r1))]), (1, [(.pv (.ints .u8 l false)), (.pv (.int .i64 r2)), (.pv (.int .i64 r3))]), (2, [(.pv (.bool false)), (.pv (T_id_halves.pv T_id_halves.nil))]), (3, [(.pv (.bool false)), (.pv (T_id_halves.pv T_id_halves.nil))]), (4, [(.pv (.bool r4)), (.pv (T_id_halves.pv r5))])], []⟩)
noncomputable def code_source_id_C40_2 (rec_code_source_id_2 : Int → Int → List Int → Int → Int → Option (Bool × T_id_halves × Int × Int × Int)) (depth : Int) (kind : Int) (b : Bool) (n : Int) (l : List Int) (n2 : Int) (n3 : Int) : Option (Int × Int × Int × Bool × T_id_halves) :=
  bif b then
    (rec_code_source_id_2 (iadd .i64 depth 1) n l n2 n3).bind fun (b2, t, n4, n5, n6) =>
    some (n4, n5, n6, b2, t)
  else
    some (n, n2, n3, false, T_id_halves.nil)
theorem code_source_id_C40_2_runs (rec_code_source_id_2 : Int → Int → List Int → Int → Int → Option (Bool × T_id_halves × Int × Int × Int)) (hrec_code_source_id_2 : ∀ depth n l n2 n3 r_, rec_code_source_id_2 depth n l n2 n3 = some r_ → Runs Try.prog 52 [(.one (.ref 0 0)), (.one (.pv (.int .i64 depth)))] [[(.ref 1 0), (.pv (.int .i64 n))], [(.pv (.ints .u8 l false)), (.pv (.int .i64 n2)), (.pv (.int .i64 n3))]] [] (code_source_id_2_out depth n l n2 n3 r_)) (depth : Int) (kind : Int) (b : Bool) (n : Int) (l : List Int) (n2 : Int) (n3 : Int) (r_ : Int × Int × Int × Bool × T_id_halves) (h : code_source_id_C40_2 rec_code_source_id_2 depth kind b n l n2 n3 = some r_) : LRuns Try.prog (lEnv Try.prog cfg 52 2).nt 2 (.cond (.tmp 40) (condAt Try.prog 52 40).1 (condAt Try.prog 52 40).2) ⟨[(0, (.av (.one (.ref 0 0)))), (1, (.av (.one (.pv (.int .i64 depth))))), (4, (.av (.one (.ref 2 0)))), (5, (.av (.one (.ref 3 0)))), (6, (.av (.one (.ref 4 0)))), (7, (.av (.one (.pv (.int .u64 kind))))), (40, (.av (.one (.pv (.bool b)))))], [(0, [(.ref 1 0), (.pv (.int .i64 n))]), (1, [(.pv (.ints .u8 l false)), (.pv (.int .i64 n2)), (.pv (.int .i64 n3))]), (2, [(.pv (.bool false)), (.pv (T_id_halves.pv T_id_halves.nil))]), (3, [(.pv (.bool false)), (.pv (T_id_halves.pv T_id_halves.nil))]), (4, [(.pv (.bool false)), (.pv (T_id_halves.pv T_id_halves.nil))])], []⟩ (code_source_id_C40_2_ex depth kind b n l n2 n3 r_).1 (code_source_id_C40_2_ex depth kind b n l n2 n3 r_).2 := by
  unfold code_source_id_C40_2 at h
  rcases cond_of h with ⟨h1, h⟩ | ⟨h1, h⟩
  · obtain ⟨⟨b2, t, n4, n5, n6⟩, h2, h⟩ := bind_of h
    have h := some_of h
    subst h
    exact piece_ok (C := cfg) (sc := [.br true, .res (code_source_id_2_out (iadd .i64 depth 1) n l n2 n3 (b2, t, n4, n5, n6))]) (.k0 (an_ h1 (an_ (hrec_code_source_id_2 (iadd .i64 depth 1) n l n2 n3 _ h2) trivial)) (by kernel_rfl))
  · have h := some_of h
    subst h
    exact piece_ok (C := cfg) (sc := [.br false]) (.k0 (an_ h1 trivial) (by kernel_rfl))
/-! ### code_source_id_2 -/
noncomputable def code_source_id_2_b (N : Nat) (rec_code_source_id_2 : Int → Int → List Int → Int → Int → Option (Bool × T_id_halves × Int × Int × Int)) (depth : Int) (n : Int) (l : List Int) (n2 : Int) (n3 : Int) : Option (Bool × T_id_halves × Int × Int × Int) :=
  (id_Zero).bind fun _ =>
  (code_source_bit 2 n l n2 n3).bind fun (n4, n5, n6, n7) =>
  bif (decide ((n4 : Int) = 0)) then
    (code_source_bit 1 n5 l n6 n7).bind fun (n8, n9, n10, n11) =>
    bif (decide ((n8 : Int) = 1)) then
      (id_One).bind fun _ =>
      some (true, T_id_halves.nil, n9, n10, n11)
    else
      some (false, T_id_halves.nil, n9, n10, n11)
  else
    (code_source_id_C22 depth n4 (decide ((depth : Int) = 16)) n5 l n6 n7).bind fun n8 =>
    (code_source_ok n8 l n6 n7).bind fun (b, n9) =>
    bif b then
      (code_source_id_C30 rec_code_source_id_2 depth n4 (!(decide ((n4 : Int) = 1))) n9 l n6 n7).bind fun (n10, n11, n12, b2, t) =>
      (code_source_ok n10 l n11 n12).bind fun (b3, n13) =>
      bif b3 then
        (code_source_id_C40 rec_code_source_id_2 depth n4 (!(decide ((n4 : Int) = 2))) n13 l n11 n12 b2 t).bind fun (n14, n15, n16, b4, t2) =>
        (id_ID_IsZero b2 t).bind fun b5 =>
        bif (b5 == (decide ((n4 : Int) = 1))) then
          (id_ID_IsZero b4 t2).bind fun b6 =>
          bif (b6 == (decide ((n4 : Int) = 2))) then
            (id_ID_IsOne b2 t).bind fun _ =>
            bif b2 then
              (id_ID_IsOne b4 t2).bind fun _ =>
              (code_source_must (!b4) n14 l n15 n16).bind fun n17 =>
              (id_Pair N b2 t b4 t2).bind fun (b7, t3, n18) =>
              some (b7, t3, n17, n15, n16)
            else
              (code_source_must true n14 l n15 n16).bind fun n17 =>
              (id_Pair N b2 t b4 t2).bind fun (b7, t3, n18) =>
              some (b7, t3, n17, n15, n16)
          else
            (code_source_must false n14 l n15 n16).bind fun n17 =>
            (id_Pair N b2 t b4 t2).bind fun (b7, t3, n18) =>
            some (b7, t3, n17, n15, n16)
        else
          (code_source_must false n14 l n15 n16).bind fun n17 =>
          (id_Pair N b2 t b4 t2).bind fun (b6, t3, n18) =>
          some (b6, t3, n17, n15, n16)
      else
        (id_ID_IsZero b2 t).bind fun b4 =>
        bif (b4 == (decide ((n4 : Int) = 1))) then
          (id_ID_IsZero false T_id_halves.nil).bind fun b5 =>
          bif (b5 == (decide ((n4 : Int) = 2))) then
            (id_ID_IsOne b2 t).bind fun _ =>
            bif b2 then
              (id_ID_IsOne false T_id_halves.nil).bind fun _ =>
              (code_source_must true n13 l n11 n12).bind fun n14 =>
              (id_Pair N b2 t false T_id_halves.nil).bind fun (b6, t2, n15) =>
              some (b6, t2, n14, n11, n12)
            else
              (code_source_must true n13 l n11 n12).bind fun n14 =>
              (id_Pair N b2 t false T_id_halves.nil).bind fun (b6, t2, n15) =>
              some (b6, t2, n14, n11, n12)
          else
            (code_source_must false n13 l n11 n12).bind fun n14 =>
            (id_Pair N b2 t false T_id_halves.nil).bind fun (b6, t2, n15) =>
            some (b6, t2, n14, n11, n12)
        else
          (code_source_must false n13 l n11 n12).bind fun n14 =>
          (id_Pair N b2 t false T_id_halves.nil).bind fun (b5, t2, n15) =>
          some (b5, t2, n14, n11, n12)
    else
      (code_source_ok n9 l n6 n7).bind fun (b2, n10) =>
      bif b2 then
        (code_source_id_C40_2 rec_code_source_id_2 depth n4 (!(decide ((n4 : Int) = 2))) n10 l n6 n7).bind fun (n11, n12, n13, b3, t) =>
        (id_ID_IsZero false T_id_halves.nil).bind fun b4 =>
        bif (b4 == (decide ((n4 : Int) = 1))) then
          (id_ID_IsZero b3 t).bind fun b5 =>
          bif (b5 == (decide ((n4 : Int) = 2))) then
            (id_ID_IsOne false T_id_halves.nil).bind fun _ =>
            (code_source_must true n11 l n12 n13).bind fun n14 =>
            (id_Pair N false T_id_halves.nil b3 t).bind fun (b6, t2, n15) =>
            some (b6, t2, n14, n12, n13)
          else
            (code_source_must false n11 l n12 n13).bind fun n14 =>
            (id_Pair N false T_id_halves.nil b3 t).bind fun (b6, t2, n15) =>
            some (b6, t2, n14, n12, n13)
        else
          (code_source_must false n11 l n12 n13).bind fun n14 =>
          (id_Pair N false T_id_halves.nil b3 t).bind fun (b5, t2, n15) =>
          some (b5, t2, n14, n12, n13)
      else
        (id_ID_IsZero false T_id_halves.nil).bind fun b3 =>
        bif (b3 == (decide ((n4 : Int) = 1))) then
          bif (b3 == (decide ((n4 : Int) = 2))) then
            (id_ID_IsOne false T_id_halves.nil).bind fun _ =>
            (code_source_must true n10 l n6 n7).bind fun n11 =>
            (id_Pair N false T_id_halves.nil false T_id_halves.nil).bind fun (b4, t, n12) =>
            some (b4, t, n11, n6, n7)
          else
            (code_source_must false n10 l n6 n7).bind fun n11 =>
            (id_Pair N false T_id_halves.nil false T_id_halves.nil).bind fun (b4, t, n12) =>
            some (b4, t, n11, n6, n7)
        else
          (code_source_must false n10 l n6 n7).bind fun n11 =>
          (id_Pair N false T_id_halves.nil false T_id_halves.nil).bind fun (b4, t, n12) =>
          some (b4, t, n11, n6, n7)
theorem code_source_id_2_b_runs (N : Nat) (rec_code_source_id_2 : Int → Int → List Int → Int → Int → Option (Bool × T_id_halves × Int × Int × Int)) (hrec_code_source_id_2 : ∀ depth n l n2 n3 r_, rec_code_source_id_2 depth n l n2 n3 = some r_ → Runs Try.prog 52 [(.one (.ref 0 0)), (.one (.pv (.int .i64 depth)))] [[(.ref 1 0), (.pv (.int .i64 n))], [(.pv (.ints .u8 l false)), (.pv (.int .i64 n2)), (.pv (.int .i64 n3))]] [] (code_source_id_2_out depth n l n2 n3 r_)) (depth : Int) (n : Int) (l : List Int) (n2 : Int) (n3 : Int) (r_ : Bool × T_id_halves × Int × Int × Int) (h : code_source_id_2_b N rec_code_source_id_2 depth n l n2 n3 = some r_) : Runs Try.prog 52 [(.one (.ref 0 0)), (.one (.pv (.int .i64 depth)))] [[(.ref 1 0), (.pv (.int .i64 n))], [(.pv (.ints .u8 l false)), (.pv (.int .i64 n2)), (.pv (.int .i64 n3))]] [] (code_source_id_2_out depth n l n2 n3 r_) := by
  unfold code_source_id_2_b at h
  obtain ⟨_, h1, h⟩ := bind_of h
  obtain ⟨⟨n4, n5, n6, n7⟩, h2, h⟩ := bind_of h
  rcases cond_of h with ⟨h3, h⟩ | ⟨h3, h⟩
  · obtain ⟨⟨n8, n9, n10, n11⟩, h4, h⟩ := bind_of h
    rcases cond_of h with ⟨h5, h⟩ | ⟨h5, h⟩
    · obtain ⟨_, h6, h⟩ := bind_of h
      have h := some_of h
      subst h
      exact runs_of (C := cfg) (objs := [[(.ref 1 0), (.pv (.int .i64 n))], [(.pv (.ints .u8 l false)), (.pv (.int .i64 n2)), (.pv (.int .i64 n3))]]) (sc := [.res (id_Zero_out ()), .res (id_Zero_out ()), .res (code_source_bit_out 2 n l n2 n3 (n4, n5, n6, n7)), .br true, .res (code_source_bit_out 1 n5 l n6 n7 (n8, n9, n10, n11)), .br true, .res (id_One_out ())]) (.k0 (an_ (id_Zero_runs _ h1) (an_ (id_Zero_runs _ h1) (an_ (code_source_bit_runs 2 n l n2 n3 _ h2) (an_ h3 (an_ (code_source_bit_runs 1 n5 l n6 n7 _ h4) (an_ h5 (an_ (id_One_runs _ h6) trivial))))))) (by kernel_rfl))
    · have h := some_of h
      subst h
      exact runs_of (C := cfg) (objs := [[(.ref 1 0), (.pv (.int .i64 n))], [(.pv (.ints .u8 l false)), (.pv (.int .i64 n2)), (.pv (.int .i64 n3))]]) (sc := [.res (id_Zero_out ()), .res (id_Zero_out ()), .res (code_source_bit_out 2 n l n2 n3 (n4, n5, n6, n7)), .br true, .res (code_source_bit_out 1 n5 l n6 n7 (n8, n9, n10, n11)), .br false, .res (id_Zero_out ())]) (.k0 (an_ (id_Zero_runs _ h1) (an_ (id_Zero_runs _ h1) (an_ (code_source_bit_runs 2 n l n2 n3 _ h2) (an_ h3 (an_ (code_source_bit_runs 1 n5 l n6 n7 _ h4) (an_ h5 (an_ (id_Zero_runs _ h1) trivial))))))) (by kernel_rfl))
  · obtain ⟨n8, h4, h⟩ := bind_of h
    obtain ⟨⟨b, n9⟩, h5, h⟩ := bind_of h
    rcases cond_of h with ⟨h6, h⟩ | ⟨h6, h⟩
    · obtain ⟨⟨n10, n11, n12, b2, t⟩, h7, h⟩ := bind_of h
      obtain ⟨⟨b3, n13⟩, h8, h⟩ := bind_of h
      rcases cond_of h with ⟨h9, h⟩ | ⟨h9, h⟩
      · obtain ⟨⟨n14, n15, n16, b4, t2⟩, h10, h⟩ := bind_of h
        obtain ⟨b5, h11, h⟩ := bind_of h
        rcases cond_of h with ⟨h12, h⟩ | ⟨h12, h⟩
        · obtain ⟨b6, h13, h⟩ := bind_of h
          rcases cond_of h with ⟨h14, h⟩ | ⟨h14, h⟩
          · obtain ⟨_, h15, h⟩ := bind_of h
            rcases cond_of h with ⟨h16, h⟩ | ⟨h16, h⟩
            · obtain ⟨_, h17, h⟩ := bind_of h
              obtain ⟨n17, h18, h⟩ := bind_of h
              obtain ⟨⟨b7, t3, n18⟩, h19, h⟩ := bind_of h
              have h := some_of h
              subst h
              exact runs_of (C := cfg) (objs := [[(.ref 1 0), (.pv (.int .i64 n))], [(.pv (.ints .u8 l false)), (.pv (.int .i64 n2)), (.pv (.int .i64 n3))]]) (sc := [.res (id_Zero_out ()), .res (id_Zero_out ()), .res (code_source_bit_out 2 n l n2 n3 (n4, n5, n6, n7)), .br false, .lp (code_source_id_C22_ex depth n4 (decide ((depth : Int) = 16)) n5 l n6 n7 n8).1 (code_source_id_C22_ex depth n4 (decide ((depth : Int) = 16)) n5 l n6 n7 n8).2, .res (code_source_ok_out n8 l n6 n7 (b, n9)), .br true, .lp (code_source_id_C30_ex depth n4 (!(decide ((n4 : Int) = 1))) n9 l n6 n7 (n10, n11, n12, b2, t)).1 (code_source_id_C30_ex depth n4 (!(decide ((n4 : Int) = 1))) n9 l n6 n7 (n10, n11, n12, b2, t)).2, .res (code_source_ok_out n10 l n11 n12 (b3, n13)), .br true, .lp (code_source_id_C40_ex depth n4 (!(decide ((n4 : Int) = 2))) n13 l n11 n12 b2 t (n14, n15, n16, b4, t2)).1 (code_source_id_C40_ex depth n4 (!(decide ((n4 : Int) = 2))) n13 l n11 n12 b2 t (n14, n15, n16, b4, t2)).2, .res (id_ID_IsZero_out b2 t b5), .br true, .res (id_ID_IsZero_out b4 t2 b6), .br true, .res (id_ID_IsOne_out b2 t ()), .br true, .res (id_ID_IsOne_out b4 t2 ()), .res (code_source_must_out (!b4) n14 l n15 n16 n17), .res (id_Pair_out b2 t b4 t2 (b7, t3, n18))]) (.k0 (an_ (id_Zero_runs _ h1) (an_ (id_Zero_runs _ h1) (an_ (code_source_bit_runs 2 n l n2 n3 _ h2) (an_ h3 (an_ (LRuns.coe (s0 := ⟨[(0, (.av (.one (.ref 0 0)))), (1, (.av (.one (.pv (.int .i64 depth))))), (4, (.av (.one (.ref 2 0)))), (5, (.av (.one (.ref 3 0)))), (6, (.av (.one (.ref 4 0)))), (7, (.av (.one (.pv (.int .u64 n4))))), (22, (.av (.one (.pv (.bool (decide ((depth : Int) = 16)))))))], [(0, [(.ref 1 0), (.pv (.int .i64 n5))]), (1, [(.pv (.ints .u8 l false)), (.pv (.int .i64 n6)), (.pv (.int .i64 n7))]), (2, [(.pv (.bool false)), (.pv .nilp)]), (3, [(.pv (.bool false)), (.pv (T_id_halves.pv T_id_halves.nil))]), (4, [(.pv (.bool false)), (.pv (T_id_halves.pv T_id_halves.nil))])], []⟩) (code_source_id_C22_runs depth n4 (decide ((depth : Int) = 16)) n5 l n6 n7 _ h4) ⟨⟨⟨_, rfl, .eq rfl⟩, ⟨_, rfl, .eq rfl⟩, ⟨_, rfl, .eq rfl⟩, ⟨_, rfl, .eq rfl⟩, ⟨_, rfl, .eq rfl⟩, ⟨_, rfl, .eq rfl⟩, ⟨_, rfl, .eq rfl⟩, trivial⟩, ⟨⟨rfl, ⟨.eq rfl, .eq rfl, trivial⟩⟩, ⟨rfl, ⟨.eq rfl, .eq rfl, .eq rfl, trivial⟩⟩, ⟨rfl, ⟨.eq rfl, .eq rfl, trivial⟩⟩, ⟨rfl, ⟨.eq rfl, .eq rfl, trivial⟩⟩, ⟨rfl, ⟨.eq rfl, .eq rfl, trivial⟩⟩, trivial⟩, trivial⟩) (an_ (code_source_ok_runs n8 l n6 n7 _ h5) (an_ h6 (an_ (code_source_id_C30_runs rec_code_source_id_2 hrec_code_source_id_2 depth n4 (!(decide ((n4 : Int) = 1))) n9 l n6 n7 _ h7) (an_ (code_source_ok_runs n10 l n11 n12 _ h8) (an_ h9 (an_ (code_source_id_C40_runs rec_code_source_id_2 hrec_code_source_id_2 depth n4 (!(decide ((n4 : Int) = 2))) n13 l n11 n12 b2 t _ h10) (an_ (id_ID_IsZero_runs b2 t _ h11) (an_ h12 (an_ (id_ID_IsZero_runs b4 t2 _ h13) (an_ h14 (an_ (id_ID_IsOne_runs b2 t _ h15) (an_ h16 (an_ (id_ID_IsOne_runs b4 t2 _ h17) (an_ (code_source_must_runs (!b4) n14 l n15 n16 _ h18) (an_ (id_Pair_runs N b2 t b4 t2 _ h19) trivial)))))))))))))))))))) (by kernel_rfl))
            · obtain ⟨n17, h17, h⟩ := bind_of h
              obtain ⟨⟨b7, t3, n18⟩, h18, h⟩ := bind_of h
              have h := some_of h
              subst h
              exact runs_of (C := cfg) (objs := [[(.ref 1 0), (.pv (.int .i64 n))], [(.pv (.ints .u8 l false)), (.pv (.int .i64 n2)), (.pv (.int .i64 n3))]]) (sc := [.res (id_Zero_out ()), .res (id_Zero_out ()), .res (code_source_bit_out 2 n l n2 n3 (n4, n5, n6, n7)), .br false, .lp (code_source_id_C22_ex depth n4 (decide ((depth : Int) = 16)) n5 l n6 n7 n8).1 (code_source_id_C22_ex depth n4 (decide ((depth : Int) = 16)) n5 l n6 n7 n8).2, .res (code_source_ok_out n8 l n6 n7 (b, n9)), .br true, .lp (code_source_id_C30_ex depth n4 (!(decide ((n4 : Int) = 1))) n9 l n6 n7 (n10, n11, n12, b2, t)).1 (code_source_id_C30_ex depth n4 (!(decide ((n4 : Int) = 1))) n9 l n6 n7 (n10, n11, n12, b2, t)).2, .res (code_source_ok_out n10 l n11 n12 (b3, n13)), .br true, .lp (code_source_id_C40_ex depth n4 (!(decide ((n4 : Int) = 2))) n13 l n11 n12 b2 t (n14, n15, n16, b4, t2)).1 (code_source_id_C40_ex depth n4 (!(decide ((n4 : Int) = 2))) n13 l n11 n12 b2 t (n14, n15, n16, b4, t2)).2, .res (id_ID_IsZero_out b2 t b5), .br true, .res (id_ID_IsZero_out b4 t2 b6), .br true, .res (id_ID_IsOne_out b2 t ()), .br false, .res (code_source_must_out true n14 l n15 n16 n17), .res (id_Pair_out b2 t b4 t2 (b7, t3, n18))]) (.k0 (an_ (id_Zero_runs _ h1) (an_ (id_Zero_runs _ h1) (an_ (code_source_bit_runs 2 n l n2 n3 _ h2) (an_ h3 (an_ (LRuns.coe (s0 := ⟨[(0, (.av (.one (.ref 0 0)))), (1, (.av (.one (.pv (.int .i64 depth))))), (4, (.av (.one (.ref 2 0)))), (5, (.av (.one (.ref 3 0)))), (6, (.av (.one (.ref 4 0)))), (7, (.av (.one (.pv (.int .u64 n4))))), (22, (.av (.one (.pv (.bool (decide ((depth : Int) = 16)))))))], [(0, [(.ref 1 0), (.pv (.int .i64 n5))]), (1, [(.pv (.ints .u8 l false)), (.pv (.int .i64 n6)), (.pv (.int .i64 n7))]), (2, [(.pv (.bool false)), (.pv .nilp)]), (3, [(.pv (.bool false)), (.pv (T_id_halves.pv T_id_halves.nil))]), (4, [(.pv (.bool false)), (.pv (T_id_halves.pv T_id_halves.nil))])], []⟩) (code_source_id_C22_runs depth n4 (decide ((depth : Int) = 16)) n5 l n6 n7 _ h4) ⟨⟨⟨_, rfl, .eq rfl⟩, ⟨_, rfl, .eq rfl⟩, ⟨_, rfl, .eq rfl⟩, ⟨_, rfl, .eq rfl⟩, ⟨_, rfl, .eq rfl⟩, ⟨_, rfl, .eq rfl⟩, ⟨_, rfl, .eq rfl⟩, trivial⟩, ⟨⟨rfl, ⟨.eq rfl, .eq rfl, trivial⟩⟩, ⟨rfl, ⟨.eq rfl, .eq rfl, .eq rfl, trivial⟩⟩, ⟨rfl, ⟨.eq rfl, .eq rfl, trivial⟩⟩, ⟨rfl, ⟨.eq rfl, .eq rfl, trivial⟩⟩, ⟨rfl, ⟨.eq rfl, .eq rfl, trivial⟩⟩, trivial⟩, trivial⟩) (an_ (code_source_ok_runs n8 l n6 n7 _ h5) (an_ h6 (an_ (code_source_id_C30_runs rec_code_source_id_2 hrec_code_source_id_2 depth n4 (!(decide ((n4 : Int) = 1))) n9 l n6 n7 _ h7) (an_ (code_source_ok_runs n10 l n11 n12 _ h8) (an_ h9 (an_ (code_source_id_C40_runs rec_code_source_id_2 hrec_code_source_id_2 depth n4 (!(decide ((n4 : Int) = 2))) n13 l n11 n12 b2 t _ h10) (an_ (id_ID_IsZero_runs b2 t _ h11) (an_ h12 (an_ (id_ID_IsZero_runs b4 t2 _ h13) (an_ h14 (an_ (id_ID_IsOne_runs b2 t _ h15) (an_ h16 (an_ (code_source_must_runs true n14 l n15 n16 _ h17) (an_ (id_Pair_runs N b2 t b4 t2 _ h18) trivial))))))))))))))))))) (by kernel_rfl))
          · obtain ⟨n17, h15, h⟩ := bind_of h
            obtain ⟨⟨b7, t3, n18⟩, h16, h⟩ := bind_of h
            have h := some_of h
            subst h
            exact runs_of (C := cfg) (objs := [[(.ref 1 0), (.pv (.int .i64 n))], [(.pv (.ints .u8 l false)), (.pv (.int .i64 n2)), (.pv (.int .i64 n3))]]) (sc := [.res (id_Zero_out ()), .res (id_Zero_out ()), .res (code_source_bit_out 2 n l n2 n3 (n4, n5, n6, n7)), .br false, .lp (code_source_id_C22_ex depth n4 (decide ((depth : Int) = 16)) n5 l n6 n7 n8).1 (code_source_id_C22_ex depth n4 (decide ((depth : Int) = 16)) n5 l n6 n7 n8).2, .res (code_source_ok_out n8 l n6 n7 (b, n9)), .br true, .lp (code_source_id_C30_ex depth n4 (!(decide ((n4 : Int) = 1))) n9 l n6 n7 (n10, n11, n12, b2, t)).1 (code_source_id_C30_ex depth n4 (!(decide ((n4 : Int) = 1))) n9 l n6 n7 (n10, n11, n12, b2, t)).2, .res (code_source_ok_out n10 l n11 n12 (b3, n13)), .br true, .lp (code_source_id_C40_ex depth n4 (!(decide ((n4 : Int) = 2))) n13 l n11 n12 b2 t (n14, n15, n16, b4, t2)).1 (code_source_id_C40_ex depth n4 (!(decide ((n4 : Int) = 2))) n13 l n11 n12 b2 t (n14, n15, n16, b4, t2)).2, .res (id_ID_IsZero_out b2 t b5), .br true, .res (id_ID_IsZero_out b4 t2 b6), .br false, .res (code_source_must_out false n14 l n15 n16 n17), .res (id_Pair_out b2 t b4 t2 (b7, t3, n18))]) (.k0 (an_ (id_Zero_runs _ h1) (an_ (id_Zero_runs _ h1) (an_ (code_source_bit_runs 2 n l n2 n3 _ h2) (an_ h3 (an_ (LRuns.coe (s0 := ⟨[(0, (.av (.one (.ref 0 0)))), (1, (.av (.one (.pv (.int .i64 depth))))), (4, (.av (.one (.ref 2 0)))), (5, (.av (.one (.ref 3 0)))), (6, (.av (.one (.ref 4 0)))), (7, (.av (.one (.pv (.int .u64 n4))))), (22, (.av (.one (.pv (.bool (decide ((depth : Int) = 16)))))))], [(0, [(.ref 1 0), (.pv (.int .i64 n5))]), (1, [(.pv (.ints .u8 l false)), (.pv (.int .i64 n6)), (.pv (.int .i64 n7))]), (2, [(.pv (.bool false)), (.pv .nilp)]), (3, [(.pv (.bool false)), (.pv (T_id_halves.pv T_id_halves.nil))]), (4, [(.pv (.bool false)), (.pv (T_id_halves.pv T_id_halves.nil))])], []⟩) (code_source_id_C22_runs depth n4 (decide ((depth : Int) = 16)) n5 l n6 n7 _ h4) ⟨⟨⟨_, rfl, .eq rfl⟩, ⟨_, rfl, .eq rfl⟩, ⟨_, rfl, .eq rfl⟩, ⟨_, rfl, .eq rfl⟩, ⟨_, rfl, .eq rfl⟩, ⟨_, rfl, .eq rfl⟩, ⟨_, rfl, .eq rfl⟩, trivial⟩, ⟨⟨rfl, ⟨.eq rfl, .eq rfl, trivial⟩⟩, ⟨rfl, ⟨.eq rfl, .eq rfl, .eq rfl, trivial⟩⟩, ⟨rfl, ⟨.eq rfl, .eq rfl, trivial⟩⟩, ⟨rfl, ⟨.eq rfl, .eq rfl, trivial⟩⟩, ⟨rfl, ⟨.eq rfl, .eq rfl, trivial⟩⟩, trivial⟩, trivial⟩) (an_ (code_source_ok_runs n8 l n6 n7 _ h5) (an_ h6 (an_ (code_source_id_C30_runs rec_code_source_id_2 hrec_code_source_id_2 depth n4 (!(decide ((n4 : Int) = 1))) n9 l n6 n7 _ h7) (an_ (code_source_ok_runs n10 l n11 n12 _ h8) (an_ h9 (an_ (code_source_id_C40_runs rec_code_source_id_2 hrec_code_source_id_2 depth n4 (!(decide ((n4 : Int) = 2))) n13 l n11 n12 b2 t _ h10) (an_ (id_ID_IsZero_runs b2 t _ h11) (an_ h12 (an_ (id_ID_IsZero_runs b4 t2 _ h13) (an_ h14 (an_ (code_source_must_runs false n14 l n15 n16 _ h15) (an_ (id_Pair_runs N b2 t b4 t2 _ h16) trivial))))))))))))))))) (by kernel_rfl))
        · obtain ⟨n17, h13, h⟩ := bind_of h
          obtain ⟨⟨b6, t3, n18⟩, h14, h⟩ := bind_of h
          have h := some_of h
          subst h
          exact runs_of (C := cfg) (objs := [[(.ref 1 0), (.pv (.int .i64 n))], [(.pv (.ints .u8 l false)), (.pv (.int .i64 n2)), (.pv (.int .i64 n3))]]) (sc := [.res (id_Zero_out ()), .res (id_Zero_out ()), .res (code_source_bit_out 2 n l n2 n3 (n4, n5, n6, n7)), .br false, .lp (code_source_id_C22_ex depth n4 (decide ((depth : Int) = 16)) n5 l n6 n7 n8).1 (code_source_id_C22_ex depth n4 (decide ((depth : Int) = 16)) n5 l n6 n7 n8).2, .res (code_source_ok_out n8 l n6 n7 (b, n9)), .br true, .lp (code_source_id_C30_ex depth n4 (!(decide ((n4 : Int) = 1))) n9 l n6 n7 (n10, n11, n12, b2, t)).1 (code_source_id_C30_ex depth n4 (!(decide ((n4 : Int) = 1))) n9 l n6 n7 (n10, n11, n12, b2, t)).2, .res (code_source_ok_out n10 l n11 n12 (b3, n13)), .br true, .lp (code_source_id_C40_ex depth n4 (!(decide ((n4 : Int) = 2))) n13 l n11 n12 b2 t (n14, n15, n16, b4, t2)).1 (code_source_id_C40_ex depth n4 (!(decide ((n4 : Int) = 2))) n13 l n11 n12 b2 t (n14, n15, n16, b4, t2)).2, .res (id_ID_IsZero_out b2 t b5), .br false, .br false, .res (code_source_must_out false n14 l n15 n16 n17), .res (id_Pair_out b2 t b4 t2 (b6, t3, n18))]) (.k0 (an_ (id_Zero_runs _ h1) (an_ (id_Zero_runs _ h1) (an_ (code_source_bit_runs 2 n l n2 n3 _ h2) (an_ h3 (an_ (LRuns.coe (s0 := ⟨[(0, (.av (.one (.ref 0 0)))), (1, (.av (.one (.pv (.int .i64 depth))))), (4, (.av (.one (.ref 2 0)))), (5, (.av (.one (.ref 3 0)))), (6, (.av (.one (.ref 4 0)))), (7, (.av (.one (.pv (.int .u64 n4))))), (22, (.av (.one (.pv (.bool (decide ((depth : Int) = 16)))))))], [(0, [(.ref 1 0), (.pv (.int .i64 n5))]), (1, [(.pv (.ints .u8 l false)), (.pv (.int .i64 n6)), (.pv (.int .i64 n7))]), (2, [(.pv (.bool false)), (.pv .nilp)]), (3, [(.pv (.bool false)), (.pv (T_id_halves.pv T_id_halves.nil))]), (4, [(.pv (.bool false)), (.pv (T_id_halves.pv T_id_halves.nil))])], []⟩) (code_source_id_C22_runs depth n4 (decide ((depth : Int) = 16)) n5 l n6 n7 _ h4) ⟨⟨⟨_, rfl, .eq rfl⟩, ⟨_, rfl, .eq rfl⟩, ⟨_, rfl, .eq rfl⟩, ⟨_, rfl, .eq rfl⟩, ⟨_, rfl, .eq rfl⟩, ⟨_, rfl, .eq rfl⟩, ⟨_, rfl, .eq rfl⟩, trivial⟩, ⟨⟨rfl, ⟨.eq rfl, .eq rfl, trivial⟩⟩, ⟨rfl, ⟨.eq rfl, .eq rfl, .eq rfl, trivial⟩⟩, ⟨rfl, ⟨.eq rfl, .eq rfl, trivial⟩⟩, ⟨rfl, ⟨.eq rfl, .eq rfl, trivial⟩⟩, ⟨rfl, ⟨.eq rfl, .eq rfl, trivial⟩⟩, trivial⟩, trivial⟩) (an_ (code_source_ok_runs n8 l n6 n7 _ h5) (an_ h6 (an_ (code_source_id_C30_runs rec_code_source_id_2 hrec_code_source_id_2 depth n4 (!(decide ((n4 : Int) = 1))) n9 l n6 n7 _ h7) (an_ (code_source_ok_runs n10 l n11 n12 _ h8) (an_ h9 (an_ (code_source_id_C40_runs rec_code_source_id_2 hrec_code_source_id_2 depth n4 (!(decide ((n4 : Int) = 2))) n13 l n11 n12 b2 t _ h10) (an_ (id_ID_IsZero_runs b2 t _ h11) (an_ h12 (an_ (rfl : false = false) (an_ (code_source_must_runs false n14 l n15 n16 _ h13) (an_ (id_Pair_runs N b2 t b4 t2 _ h14) trivial)))))))))))))))) (by kernel_rfl))
      · obtain ⟨b4, h10, h⟩ := bind_of h
        rcases cond_of h with ⟨h11, h⟩ | ⟨h11, h⟩
        · obtain ⟨b5, h12, h⟩ := bind_of h
          rcases cond_of h with ⟨h13, h⟩ | ⟨h13, h⟩
          · obtain ⟨_, h14, h⟩ := bind_of h
            rcases cond_of h with ⟨h15, h⟩ | ⟨h15, h⟩
            · obtain ⟨_, h16, h⟩ := bind_of h
              obtain ⟨n14, h17, h⟩ := bind_of h
              obtain ⟨⟨b6, t2, n15⟩, h18, h⟩ := bind_of h
              have h := some_of h
              subst h
              exact runs_of (C := cfg) (objs := [[(.ref 1 0), (.pv (.int .i64 n))], [(.pv (.ints .u8 l false)), (.pv (.int .i64 n2)), (.pv (.int .i64 n3))]]) (sc := [.res (id_Zero_out ()), .res (id_Zero_out ()), .res (code_source_bit_out 2 n l n2 n3 (n4, n5, n6, n7)), .br false, .lp (code_source_id_C22_ex depth n4 (decide ((depth : Int) = 16)) n5 l n6 n7 n8).1 (code_source_id_C22_ex depth n4 (decide ((depth : Int) = 16)) n5 l n6 n7 n8).2, .res (code_source_ok_out n8 l n6 n7 (b, n9)), .br true, .lp (code_source_id_C30_ex depth n4 (!(decide ((n4 : Int) = 1))) n9 l n6 n7 (n10, n11, n12, b2, t)).1 (code_source_id_C30_ex depth n4 (!(decide ((n4 : Int) = 1))) n9 l n6 n7 (n10, n11, n12, b2, t)).2, .res (code_source_ok_out n10 l n11 n12 (b3, n13)), .br false, .br false, .res (id_ID_IsZero_out b2 t b4), .br true, .res (id_ID_IsZero_out false T_id_halves.nil b5), .br true, .res (id_ID_IsOne_out b2 t ()), .br true, .res (id_ID_IsOne_out false T_id_halves.nil ()), .res (code_source_must_out true n13 l n11 n12 n14), .res (id_Pair_out b2 t false T_id_halves.nil (b6, t2, n15))]) (.k0 (an_ (id_Zero_runs _ h1) (an_ (id_Zero_runs _ h1) (an_ (code_source_bit_runs 2 n l n2 n3 _ h2) (an_ h3 (an_ (LRuns.coe (s0 := ⟨[(0, (.av (.one (.ref 0 0)))), (1, (.av (.one (.pv (.int .i64 depth))))), (4, (.av (.one (.ref 2 0)))), (5, (.av (.one (.ref 3 0)))), (6, (.av (.one (.ref 4 0)))), (7, (.av (.one (.pv (.int .u64 n4))))), (22, (.av (.one (.pv (.bool (decide ((depth : Int) = 16)))))))], [(0, [(.ref 1 0), (.pv (.int .i64 n5))]), (1, [(.pv (.ints .u8 l false)), (.pv (.int .i64 n6)), (.pv (.int .i64 n7))]), (2, [(.pv (.bool false)), (.pv .nilp)]), (3, [(.pv (.bool false)), (.pv (T_id_halves.pv T_id_halves.nil))]), (4, [(.pv (.bool false)), (.pv (T_id_halves.pv T_id_halves.nil))])], []⟩) (code_source_id_C22_runs depth n4 (decide ((depth : Int) = 16)) n5 l n6 n7 _ h4) ⟨⟨⟨_, rfl, .eq rfl⟩, ⟨_, rfl, .eq rfl⟩, ⟨_, rfl, .eq rfl⟩, ⟨_, rfl, .eq rfl⟩, ⟨_, rfl, .eq rfl⟩, ⟨_, rfl, .eq rfl⟩, ⟨_, rfl, .eq rfl⟩, trivial⟩, ⟨⟨rfl, ⟨.eq rfl, .eq rfl, trivial⟩⟩, ⟨rfl, ⟨.eq rfl, .eq rfl, .eq rfl, trivial⟩⟩, ⟨rfl, ⟨.eq rfl, .eq rfl, trivial⟩⟩, ⟨rfl, ⟨.eq rfl, .eq rfl, trivial⟩⟩, ⟨rfl, ⟨.eq rfl, .eq rfl, trivial⟩⟩, trivial⟩, trivial⟩) (an_ (code_source_ok_runs n8 l n6 n7 _ h5) (an_ h6 (an_ (code_source_id_C30_runs rec_code_source_id_2 hrec_code_source_id_2 depth n4 (!(decide ((n4 : Int) = 1))) n9 l n6 n7 _ h7) (an_ (code_source_ok_runs n10 l n11 n12 _ h8) (an_ h9 (an_ (rfl : false = false) (an_ (id_ID_IsZero_runs b2 t _ h10) (an_ h11 (an_ (id_ID_IsZero_runs false T_id_halves.nil _ h12) (an_ h13 (an_ (id_ID_IsOne_runs b2 t _ h14) (an_ h15 (an_ (id_ID_IsOne_runs false T_id_halves.nil _ h16) (an_ (code_source_must_runs true n13 l n11 n12 _ h17) (an_ (id_Pair_runs N b2 t false T_id_halves.nil _ h18) trivial)))))))))))))))))))) (by kernel_rfl))
            · obtain ⟨n14, h16, h⟩ := bind_of h
              obtain ⟨⟨b6, t2, n15⟩, h17, h⟩ := bind_of h
              have h := some_of h
              subst h
              exact runs_of (C := cfg) (objs := [[(.ref 1 0), (.pv (.int .i64 n))], [(.pv (.ints .u8 l false)), (.pv (.int .i64 n2)), (.pv (.int .i64 n3))]]) (sc := [.res (id_Zero_out ()), .res (id_Zero_out ()), .res (code_source_bit_out 2 n l n2 n3 (n4, n5, n6, n7)), .br false, .lp (code_source_id_C22_ex depth n4 (decide ((depth : Int) = 16)) n5 l n6 n7 n8).1 (code_source_id_C22_ex depth n4 (decide ((depth : Int) = 16)) n5 l n6 n7 n8).2, .res (code_source_ok_out n8 l n6 n7 (b, n9)), .br true, .lp (code_source_id_C30_ex depth n4 (!(decide ((n4 : Int) = 1))) n9 l n6 n7 (n10, n11, n12, b2, t)).1 (code_source_id_C30_ex depth n4 (!(decide ((n4 : Int) = 1))) n9 l n6 n7 (n10, n11, n12, b2, t)).2, .res (code_source_ok_out n10 l n11 n12 (b3, n13)), .br false, .br false, .res (id_ID_IsZero_out b2 t b4), .br true, .res (id_ID_IsZero_out false T_id_halves.nil b5), .br true, .res (id_ID_IsOne_out b2 t ()), .br false, .res (code_source_must_out true n13 l n11 n12 n14), .res (id_Pair_out b2 t false T_id_halves.nil (b6, t2, n15))]) (.k0 (an_ (id_Zero_runs _ h1) (an_ (id_Zero_runs _ h1) (an_ (code_source_bit_runs 2 n l n2 n3 _ h2) (an_ h3 (an_ (LRuns.coe (s0 := ⟨[(0, (.av (.one (.ref 0 0)))), (1, (.av (.one (.pv (.int .i64 depth))))), (4, (.av (.one (.ref 2 0)))), (5, (.av (.one (.ref 3 0)))), (6, (.av (.one (.ref 4 0)))), (7, (.av (.one (.pv (.int .u64 n4))))), (22, (.av (.one (.pv (.bool (decide ((depth : Int) = 16)))))))], [(0, [(.ref 1 0), (.pv (.int .i64 n5))]), (1, [(.pv (.ints .u8 l false)), (.pv (.int .i64 n6)), (.pv (.int .i64 n7))]), (2, [(.pv (.bool false)), (.pv .nilp)]), (3, [(.pv (.bool false)), (.pv (T_id_halves.pv T_id_halves.nil))]), (4, [(.pv (.bool false)), (.pv (T_id_halves.pv T_id_halves.nil))])], []⟩) (code_source_id_C22_runs depth n4 (decide ((depth : Int) = 16)) n5 l n6 n7 _ h4) ⟨⟨⟨_, rfl, .eq rfl⟩, ⟨_, rfl, .eq rfl⟩, ⟨_, rfl, .eq rfl⟩, ⟨_, rfl, .eq rfl⟩, ⟨_, rfl, .eq rfl⟩, ⟨_, rfl, .eq rfl⟩, ⟨_, rfl, .eq rfl⟩, trivial⟩, ⟨⟨rfl, ⟨.eq rfl, .eq rfl, trivial⟩⟩, ⟨rfl, ⟨.eq rfl, .eq rfl, .eq rfl, trivial⟩⟩, ⟨rfl, ⟨.eq rfl, .eq rfl, trivial⟩⟩, ⟨rfl, ⟨.eq rfl, .eq rfl, trivial⟩⟩, ⟨rfl, ⟨.eq rfl, .eq rfl, trivial⟩⟩, trivial⟩, trivial⟩) (an_ (code_source_ok_runs n8 l n6 n7 _ h5) (an_ h6 (an_ (code_source_id_C30_runs rec_code_source_id_2 hrec_code_source_id_2 depth n4 (!(decide ((n4 : Int) = 1))) n9 l n6 n7 _ h7) (an_ (code_source_ok_runs n10 l n11 n12 _ h8) (an_ h9 (an_ (rfl : false = false) (an_ (id_ID_IsZero_runs b2 t _ h10) (an_ h11 (an_ (id_ID_IsZero_runs false T_id_halves.nil _ h12) (an_ h13 (an_ (id_ID_IsOne_runs b2 t _ h14) (an_ h15 (an_ (code_source_must_runs true n13 l n11 n12 _ h16) (an_ (id_Pair_runs N b2 t false T_id_halves.nil _ h17) trivial))))))))))))))))))) (by kernel_rfl))
          · obtain ⟨n14, h14, h⟩ := bind_of h
            obtain ⟨⟨b6, t2, n15⟩, h15, h⟩ := bind_of h
            have h := some_of h
            subst h
            exact runs_of (C := cfg) (objs := [[(.ref 1 0), (.pv (.int .i64 n))], [(.pv (.ints .u8 l false)), (.pv (.int .i64 n2)), (.pv (.int .i64 n3))]]) (sc := [.res (id_Zero_out ()), .res (id_Zero_out ()), .res (code_source_bit_out 2 n l n2 n3 (n4, n5, n6, n7)), .br false, .lp (code_source_id_C22_ex depth n4 (decide ((depth : Int) = 16)) n5 l n6 n7 n8).1 (code_source_id_C22_ex depth n4 (decide ((depth : Int) = 16)) n5 l n6 n7 n8).2, .res (code_source_ok_out n8 l n6 n7 (b, n9)), .br true, .lp (code_source_id_C30_ex depth n4 (!(decide ((n4 : Int) = 1))) n9 l n6 n7 (n10, n11, n12, b2, t)).1 (code_source_id_C30_ex depth n4 (!(decide ((n4 : Int) = 1))) n9 l n6 n7 (n10, n11, n12, b2, t)).2, .res (code_source_ok_out n10 l n11 n12 (b3, n13)), .br false, .br false, .res (id_ID_IsZero_out b2 t b4), .br true, .res (id_ID_IsZero_out false T_id_halves.nil b5), .br false, .res (code_source_must_out false n13 l n11 n12 n14), .res (id_Pair_out b2 t false T_id_halves.nil (b6, t2, n15))]) (.k0 (an_ (id_Zero_runs _ h1) (an_ (id_Zero_runs _ h1) (an_ (code_source_bit_runs 2 n l n2 n3 _ h2) (an_ h3 (an_ (LRuns.coe (s0 := ⟨[(0, (.av (.one (.ref 0 0)))), (1, (.av (.one (.pv (.int .i64 depth))))), (4, (.av (.one (.ref 2 0)))), (5, (.av (.one (.ref 3 0)))), (6, (.av (.one (.ref 4 0)))), (7, (.av (.one (.pv (.int .u64 n4))))), (22, (.av (.one (.pv (.bool (decide ((depth : Int) = 16)))))))], [(0, [(.ref 1 0), (.pv (.int .i64 n5))]), (1, [(.pv (.ints .u8 l false)), (.pv (.int .i64 n6)), (.pv (.int .i64 n7))]), (2, [(.pv (.bool false)), (.pv .nilp)]), (3, [(.pv (.bool false)), (.pv (T_id_halves.pv T_id_halves.nil))]), (4, [(.pv (.bool false)), (.pv (T_id_halves.pv T_id_halves.nil))])], []⟩) (code_source_id_C22_runs depth n4 (decide ((depth : Int) = 16)) n5 l n6 n7 _ h4) ⟨⟨⟨_, rfl, .eq rfl⟩, ⟨_, rfl, .eq rfl⟩, ⟨_, rfl, .eq rfl⟩, ⟨_, rfl, .eq rfl⟩, ⟨_, rfl, .eq rfl⟩, ⟨_, rfl, .eq rfl⟩, ⟨_, rfl, .eq rfl⟩, trivial⟩, ⟨⟨rfl, ⟨.eq rfl, .eq rfl, trivial⟩⟩, ⟨rfl, ⟨.eq rfl, .eq rfl, .eq rfl, trivial⟩⟩, ⟨rfl, ⟨.eq rfl, .eq rfl, trivial⟩⟩, ⟨rfl, ⟨.eq rfl, .eq rfl, trivial⟩⟩, ⟨rfl, ⟨.eq rfl, .eq rfl, trivial⟩⟩, trivial⟩, trivial⟩) (an_ (code_source_ok_runs n8 l n6 n7 _ h5) (an_ h6 (an_ (code_source_id_C30_runs rec_code_source_id_2 hrec_code_source_id_2 depth n4 (!(decide ((n4 : Int) = 1))) n9 l n6 n7 _ h7) (an_ (code_source_ok_runs n10 l n11 n12 _ h8) (an_ h9 (an_ (rfl : false = false) (an_ (id_ID_IsZero_runs b2 t _ h10) (an_ h11 (an_ (id_ID_IsZero_runs false T_id_halves.nil _ h12) (an_ h13 (an_ (code_source_must_runs false n13 l n11 n12 _ h14) (an_ (id_Pair_runs N b2 t false T_id_halves.nil _ h15) trivial))))))))))))))))) (by kernel_rfl))
        · obtain ⟨n14, h12, h⟩ := bind_of h
          obtain ⟨⟨b5, t2, n15⟩, h13, h⟩ := bind_of h
          have h := some_of h
          subst h
          exact runs_of (C := cfg) (objs := [[(.ref 1 0), (.pv (.int .i64 n))], [(.pv (.ints .u8 l false)), (.pv (.int .i64 n2)), (.pv (.int .i64 n3))]]) (sc := [.res (id_Zero_out ()), .res (id_Zero_out ()), .res (code_source_bit_out 2 n l n2 n3 (n4, n5, n6, n7)), .br false, .lp (code_source_id_C22_ex depth n4 (decide ((depth : Int) = 16)) n5 l n6 n7 n8).1 (code_source_id_C22_ex depth n4 (decide ((depth : Int) = 16)) n5 l n6 n7 n8).2, .res (code_source_ok_out n8 l n6 n7 (b, n9)), .br true, .lp (code_source_id_C30_ex depth n4 (!(decide ((n4 : Int) = 1))) n9 l n6 n7 (n10, n11, n12, b2, t)).1 (code_source_id_C30_ex depth n4 (!(decide ((n4 : Int) = 1))) n9 l n6 n7 (n10, n11, n12, b2, t)).2, .res (code_source_ok_out n10 l n11 n12 (b3, n13)), .br false, .br false, .res (id_ID_IsZero_out b2 t b4), .br false, .br false, .res (code_source_must_out false n13 l n11 n12 n14), .res (id_Pair_out b2 t false T_id_halves.nil (b5, t2, n15))]) (.k0 (an_ (id_Zero_runs _ h1) (an_ (id_Zero_runs _ h1) (an_ (code_source_bit_runs 2 n l n2 n3 _ h2) (an_ h3 (an_ (LRuns.coe (s0 := ⟨[(0, (.av (.one (.ref 0 0)))), (1, (.av (.one (.pv (.int .i64 depth))))), (4, (.av (.one (.ref 2 0)))), (5, (.av (.one (.ref 3 0)))), (6, (.av (.one (.ref 4 0)))), (7, (.av (.one (.pv (.int .u64 n4))))), (22, (.av (.one (.pv (.bool (decide ((depth : Int) = 16)))))))], [(0, [(.ref 1 0), (.pv (.int .i64 n5))]), (1, [(.pv (.ints .u8 l false)), (.pv (.int .i64 n6)), (.pv (.int .i64 n7))]), (2, [(.pv (.bool false)), (.pv .nilp)]), (3, [(.pv (.bool false)), (.pv (T_id_halves.pv T_id_halves.nil))]), (4, [(.pv (.bool false)), (.pv (T_id_halves.pv T_id_halves.nil))])], []⟩) (code_source_id_C22_runs depth n4 (decide ((depth : Int) = 16)) n5 l n6 n7 _ h4) ⟨⟨⟨_, rfl, .eq rfl⟩, ⟨_, rfl, .eq rfl⟩, ⟨_, rfl, .eq rfl⟩, ⟨_, rfl, .eq rfl⟩, ⟨_, rfl, .eq rfl⟩, ⟨_, rfl, .eq rfl⟩, ⟨_, rfl, .eq rfl⟩, trivial⟩, ⟨⟨rfl, ⟨.eq rfl, .eq rfl, trivial⟩⟩, ⟨rfl, ⟨.eq rfl, .eq rfl, .eq rfl, trivial⟩⟩, ⟨rfl, ⟨.eq rfl, .eq rfl, trivial⟩⟩, ⟨rfl, ⟨.eq rfl, .eq rfl, trivial⟩⟩, ⟨rfl, ⟨.eq rfl, .eq rfl, trivial⟩⟩, trivial⟩, trivial⟩) (an_ (code_source_ok_runs n8 l n6 n7 _ h5) (an_ h6 (an_ (code_source_id_C30_runs rec_code_source_id_2 hrec_code_source_id_2 depth n4 (!(decide ((n4 : Int) = 1))) n9 l n6 n7 _ h7) (an_ (code_source_ok_runs n10 l n11 n12 _ h8) (an_ h9 (an_ (rfl : false = false) (an_ (id_ID_IsZero_runs b2 t _ h10) (an_ h11 (an_ (rfl : false = false) (an_ (code_source_must_runs false n13 l n11 n12 _ h12) (an_ (id_Pair_runs N b2 t false T_id_halves.nil _ h13) trivial)))))))))))))))) (by kernel_rfl))
    · obtain ⟨⟨b2, n10⟩, h7, h⟩ := bind_of h
      rcases cond_of h with ⟨h8, h⟩ | ⟨h8, h⟩
      · obtain ⟨⟨n11, n12, n13, b3, t⟩, h9, h⟩ := bind_of h
        obtain ⟨b4, h10, h⟩ := bind_of h
        rcases cond_of h with ⟨h11, h⟩ | ⟨h11, h⟩
        · obtain ⟨b5, h12, h⟩ := bind_of h
          rcases cond_of h with ⟨h13, h⟩ | ⟨h13, h⟩
          · obtain ⟨_, h14, h⟩ := bind_of h
            obtain ⟨n14, h15, h⟩ := bind_of h
            obtain ⟨⟨b6, t2, n15⟩, h16, h⟩ := bind_of h
            have h := some_of h
            subst h
            exact runs_of (C := cfg) (objs := [[(.ref 1 0), (.pv (.int .i64 n))], [(.pv (.ints .u8 l false)), (.pv (.int .i64 n2)), (.pv (.int .i64 n3))]]) (sc := [.res (id_Zero_out ()), .res (id_Zero_out ()), .res (code_source_bit_out 2 n l n2 n3 (n4, n5, n6, n7)), .br false, .lp (code_source_id_C22_ex depth n4 (decide ((depth : Int) = 16)) n5 l n6 n7 n8).1 (code_source_id_C22_ex depth n4 (decide ((depth : Int) = 16)) n5 l n6 n7 n8).2, .res (code_source_ok_out n8 l n6 n7 (b, n9)), .br false, .br false, .res (code_source_ok_out n9 l n6 n7 (b2, n10)), .br true, .lp (code_source_id_C40_2_ex depth n4 (!(decide ((n4 : Int) = 2))) n10 l n6 n7 (n11, n12, n13, b3, t)).1 (code_source_id_C40_2_ex depth n4 (!(decide ((n4 : Int) = 2))) n10 l n6 n7 (n11, n12, n13, b3, t)).2, .res (id_ID_IsZero_out false T_id_halves.nil b4), .br true, .res (id_ID_IsZero_out b3 t b5), .br true, .res (id_ID_IsOne_out false T_id_halves.nil ()), .br false, .res (code_source_must_out true n11 l n12 n13 n14), .res (id_Pair_out false T_id_halves.nil b3 t (b6, t2, n15))]) (.k0 (an_ (id_Zero_runs _ h1) (an_ (id_Zero_runs _ h1) (an_ (code_source_bit_runs 2 n l n2 n3 _ h2) (an_ h3 (an_ (LRuns.coe (s0 := ⟨[(0, (.av (.one (.ref 0 0)))), (1, (.av (.one (.pv (.int .i64 depth))))), (4, (.av (.one (.ref 2 0)))), (5, (.av (.one (.ref 3 0)))), (6, (.av (.one (.ref 4 0)))), (7, (.av (.one (.pv (.int .u64 n4))))), (22, (.av (.one (.pv (.bool (decide ((depth : Int) = 16)))))))], [(0, [(.ref 1 0), (.pv (.int .i64 n5))]), (1, [(.pv (.ints .u8 l false)), (.pv (.int .i64 n6)), (.pv (.int .i64 n7))]), (2, [(.pv (.bool false)), (.pv .nilp)]), (3, [(.pv (.bool false)), (.pv (T_id_halves.pv T_id_halves.nil))]), (4, [(.pv (.bool false)), (.pv (T_id_halves.pv T_id_halves.nil))])], []⟩) (code_source_id_C22_runs depth n4 (decide ((depth : Int) = 16)) n5 l n6 n7 _ h4) ⟨⟨⟨_, rfl, .eq rfl⟩, ⟨_, rfl, .eq rfl⟩, ⟨_, rfl, .eq rfl⟩, ⟨_, rfl, .eq rfl⟩, ⟨_, rfl, .eq rfl⟩, ⟨_, rfl, .eq rfl⟩, ⟨_, rfl, .eq rfl⟩, trivial⟩, ⟨⟨rfl, ⟨.eq rfl, .eq rfl, trivial⟩⟩, ⟨rfl, ⟨.eq rfl, .eq rfl, .eq rfl, trivial⟩⟩, ⟨rfl, ⟨.eq rfl, .eq rfl, trivial⟩⟩, ⟨rfl, ⟨.eq rfl, .eq rfl, trivial⟩⟩, ⟨rfl, ⟨.eq rfl, .eq rfl, trivial⟩⟩, trivial⟩, trivial⟩) (an_ (code_source_ok_runs n8 l n6 n7 _ h5) (an_ h6 (an_ (rfl : false = false) (an_ (code_source_ok_runs n9 l n6 n7 _ h7) (an_ h8 (an_ (code_source_id_C40_2_runs rec_code_source_id_2 hrec_code_source_id_2 depth n4 (!(decide ((n4 : Int) = 2))) n10 l n6 n7 _ h9) (an_ (id_ID_IsZero_runs false T_id_halves.nil _ h10) (an_ h11 (an_ (id_ID_IsZero_runs b3 t _ h12) (an_ h13 (an_ (id_ID_IsOne_runs false T_id_halves.nil _ h14) (an_ (rfl : false = false) (an_ (code_source_must_runs true n11 l n12 n13 _ h15) (an_ (id_Pair_runs N false T_id_halves.nil b3 t _ h16) trivial))))))))))))))))))) (by kernel_rfl))
          · obtain ⟨n14, h14, h⟩ := bind_of h
            obtain ⟨⟨b6, t2, n15⟩, h15, h⟩ := bind_of h
            have h := some_of h
            subst h
            exact runs_of (C := cfg) (objs := [[(.ref 1 0), (.pv (.int .i64 n))], [(.pv (.ints .u8 l false)), (.pv (.int .i64 n2)), (.pv (.int .i64 n3))]]) (sc := [.res (id_Zero_out ()), .res (id_Zero_out ()), .res (code_source_bit_out 2 n l n2 n3 (n4, n5, n6, n7)), .br false, .lp (code_source_id_C22_ex depth n4 (decide ((depth : Int) = 16)) n5 l n6 n7 n8).1 (code_source_id_C22_ex depth n4 (decide ((depth : Int) = 16)) n5 l n6 n7 n8).2, .res (code_source_ok_out n8 l n6 n7 (b, n9)), .br false, .br false, .res (code_source_ok_out n9 l n6 n7 (b2, n10)), .br true, .lp (code_source_id_C40_2_ex depth n4 (!(decide ((n4 : Int) = 2))) n10 l n6 n7 (n11, n12, n13, b3, t)).1 (code_source_id_C40_2_ex depth n4 (!(decide ((n4 : Int) = 2))) n10 l n6 n7 (n11, n12, n13, b3, t)).2, .res (id_ID_IsZero_out false T_id_halves.nil b4), .br true, .res (id_ID_IsZero_out b3 t b5), .br false, .res (code_source_must_out false n11 l n12 n13 n14), .res (id_Pair_out false T_id_halves.nil b3 t (b6, t2, n15))]) (.k0 (an_ (id_Zero_runs _ h1) (an_ (id_Zero_runs _ h1) (an_ (code_source_bit_runs 2 n l n2 n3 _ h2) (an_ h3 (an_ (LRuns.coe (s0 := ⟨[(0, (.av (.one (.ref 0 0)))), (1, (.av (.one (.pv (.int .i64 depth))))), (4, (.av (.one (.ref 2 0)))), (5, (.av (.one (.ref 3 0)))), (6, (.av (.one (.ref 4 0)))), (7, (.av (.one (.pv (.int .u64 n4))))), (22, (.av (.one (.pv (.bool (decide ((depth : Int) = 16)))))))], [(0, [(.ref 1 0), (.pv (.int .i64 n5))]), (1, [(.pv (.ints .u8 l false)), (.pv (.int .i64 n6)), (.pv (.int .i64 n7))]), (2, [(.pv (.bool false)), (.pv .nilp)]), (3, [(.pv (.bool false)), (.pv (T_id_halves.pv T_id_halves.nil))]), (4, [(.pv (.bool false)), (.pv (T_id_halves.pv T_id_halves.nil))])], []⟩) (code_source_id_C22_runs depth n4 (decide ((depth : Int) = 16)) n5 l n6 n7 _ h4) ⟨⟨⟨_, rfl, .eq rfl⟩, ⟨_, rfl, .eq rfl⟩, ⟨_, rfl, .eq rfl⟩, ⟨_, rfl, .eq rfl⟩, ⟨_, rfl, .eq rfl⟩, ⟨_, rfl, .eq rfl⟩, ⟨_, rfl, .eq rfl⟩, trivial⟩, ⟨⟨rfl, ⟨.eq rfl, .eq rfl, trivial⟩⟩, ⟨rfl, ⟨.eq rfl, .eq rfl, .eq rfl, trivial⟩⟩, ⟨rfl, ⟨.eq rfl, .eq rfl, trivial⟩⟩, ⟨rfl, ⟨.eq rfl, .eq rfl, trivial⟩⟩, ⟨rfl, ⟨.eq rfl, .eq rfl, trivial⟩⟩, trivial⟩, trivial⟩) (an_ (code_source_ok_runs n8 l n6 n7 _ h5) (an_ h6 (an_ (rfl : false = false) (an_ (code_source_ok_runs n9 l n6 n7 _ h7) (an_ h8 (an_ (code_source_id_C40_2_runs rec_code_source_id_2 hrec_code_source_id_2 depth n4 (!(decide ((n4 : Int) = 2))) n10 l n6 n7 _ h9) (an_ (id_ID_IsZero_runs false T_id_halves.nil _ h10) (an_ h11 (an_ (id_ID_IsZero_runs b3 t _ h12) (an_ h13 (an_ (code_source_must_runs false n11 l n12 n13 _ h14) (an_ (id_Pair_runs N false T_id_halves.nil b3 t _ h15) trivial))))))))))))))))) (by kernel_rfl))
        · obtain ⟨n14, h12, h⟩ := bind_of h
          obtain ⟨⟨b5, t2, n15⟩, h13, h⟩ := bind_of h
          have h := some_of h
          subst h
          exact runs_of (C := cfg) (objs := [[(.ref 1 0), (.pv (.int .i64 n))], [(.pv (.ints .u8 l false)), (.pv (.int .i64 n2)), (.pv (.int .i64 n3))]]) (sc := [.res (id_Zero_out ()), .res (id_Zero_out ()), .res (code_source_bit_out 2 n l n2 n3 (n4, n5, n6, n7)), .br false, .lp (code_source_id_C22_ex depth n4 (decide ((depth : Int) = 16)) n5 l n6 n7 n8).1 (code_source_id_C22_ex depth n4 (decide ((depth : Int) = 16)) n5 l n6 n7 n8).2, .res (code_source_ok_out n8 l n6 n7 (b, n9)), .br false, .br false, .res (code_source_ok_out n9 l n6 n7 (b2, n10)), .br true, .lp (code_source_id_C40_2_ex depth n4 (!(decide ((n4 : Int) = 2))) n10 l n6 n7 (n11, n12, n13, b3, t)).1 (code_source_id_C40_2_ex depth n4 (!(decide ((n4 : Int) = 2))) n10 l n6 n7 (n11, n12, n13, b3, t)).2, .res (id_ID_IsZero_out false T_id_halves.nil b4), .br false, .br false, .res (code_source_must_out false n11 l n12 n13 n14), .res (id_Pair_out false T_id_halves.nil b3 t (b5, t2, n15))]) (.k0 (an_ (id_Zero_runs _ h1) (an_ (id_Zero_runs _ h1) (an_ (code_source_bit_runs 2 n l n2 n3 _ h2) (an_ h3 (an_ (LRuns.coe (s0 := ⟨[(0, (.av (.one (.ref 0 0)))), (1, (.av (.one (.pv (.int .i64 depth))))), (4, (.av (.one (.ref 2 0)))), (5, (.av (.one (.ref 3 0)))), (6, (.av (.one (.ref 4 0)))), (7, (.av (.one (.pv (.int .u64 n4))))), (22, (.av (.one (.pv (.bool (decide ((depth : Int) = 16)))))))], [(0, [(.ref 1 0), (.pv (.int .i64 n5))]), (1, [(.pv (.ints .u8 l false)), (.pv (.int .i64 n6)), (.pv (.int .i64 n7))]), (2, [(.pv (.bool false)), (.pv .nilp)]), (3, [(.pv (.bool false)), (.pv (T_id_halves.pv T_id_halves.nil))]), (4, [(.pv (.bool false)), (.pv (T_id_halves.pv T_id_halves.nil))])], []⟩) (code_source_id_C22_runs depth n4 (decide ((depth : Int) = 16)) n5 l n6 n7 _ h4) ⟨⟨⟨_, rfl, .eq rfl⟩, ⟨_, rfl, .eq rfl⟩, ⟨_, rfl, .eq rfl⟩, ⟨_, rfl, .eq rfl⟩, ⟨_, rfl, .eq rfl⟩, ⟨_, rfl, .eq rfl⟩, ⟨_, rfl, .eq rfl⟩, trivial⟩, ⟨⟨rfl, ⟨.eq rfl, .eq rfl, trivial⟩⟩, ⟨rfl, ⟨.eq rfl, .eq rfl, .eq rfl, trivial⟩⟩, ⟨rfl, ⟨.eq rfl, .eq rfl, trivial⟩⟩, ⟨rfl, ⟨.eq rfl, .eq rfl, trivial⟩⟩, ⟨rfl, ⟨.eq rfl, .eq rfl, trivial⟩⟩, trivial⟩, trivial⟩) (an_ (code_source_ok_runs n8 l n6 n7 _ h5) (an_ h6 (an_ (rfl : false = false) (an_ (code_source_ok_runs n9 l n6 n7 _ h7) (an_ h8 (an_ (code_source_id_C40_2_runs rec_code_source_id_2 hrec_code_source_id_2 depth n4 (!(decide ((n4 : Int) = 2))) n10 l n6 n7 _ h9) (an_ (id_ID_IsZero_runs false T_id_halves.nil _ h10) (an_ h11 (an_ (rfl : false = false) (an_ (code_source_must_runs false n11 l n12 n13 _ h12) (an_ (id_Pair_runs N false T_id_halves.nil b3 t _ h13) trivial)))))))))))))))) (by kernel_rfl))
      · obtain ⟨b3, h9, h⟩ := bind_of h
        rcases cond_of h with ⟨h10, h⟩ | ⟨h10, h⟩
        · rcases cond_of h with ⟨h11, h⟩ | ⟨h11, h⟩
          · obtain ⟨_, h12, h⟩ := bind_of h
            obtain ⟨n11, h13, h⟩ := bind_of h
            obtain ⟨⟨b4, t, n12⟩, h14, h⟩ := bind_of h
            have h := some_of h
            subst h
            exact runs_of (C := cfg) (objs := [[(.ref 1 0), (.pv (.int .i64 n))], [(.pv (.ints .u8 l false)), (.pv (.int .i64 n2)), (.pv (.int .i64 n3))]]) (sc := [.res (id_Zero_out ()), .res (id_Zero_out ()), .res (code_source_bit_out 2 n l n2 n3 (n4, n5, n6, n7)), .br false, .lp (code_source_id_C22_ex depth n4 (decide ((depth : Int) = 16)) n5 l n6 n7 n8).1 (code_source_id_C22_ex depth n4 (decide ((depth : Int) = 16)) n5 l n6 n7 n8).2, .res (code_source_ok_out n8 l n6 n7 (b, n9)), .br false, .br false, .res (code_source_ok_out n9 l n6 n7 (b2, n10)), .br false, .br false, .res (id_ID_IsZero_out false T_id_halves.nil b3), .br true, .res (id_ID_IsZero_out false T_id_halves.nil b3), .br true, .res (id_ID_IsOne_out false T_id_halves.nil ()), .br false, .res (code_source_must_out true n10 l n6 n7 n11), .res (id_Pair_out false T_id_halves.nil false T_id_halves.nil (b4, t, n12))]) (.k0 (an_ (id_Zero_runs _ h1) (an_ (id_Zero_runs _ h1) (an_ (code_source_bit_runs 2 n l n2 n3 _ h2) (an_ h3 (an_ (LRuns.coe (s0 := ⟨[(0, (.av (.one (.ref 0 0)))), (1, (.av (.one (.pv (.int .i64 depth))))), (4, (.av (.one (.ref 2 0)))), (5, (.av (.one (.ref 3 0)))), (6, (.av (.one (.ref 4 0)))), (7, (.av (.one (.pv (.int .u64 n4))))), (22, (.av (.one (.pv (.bool (decide ((depth : Int) = 16)))))))], [(0, [(.ref 1 0), (.pv (.int .i64 n5))]), (1, [(.pv (.ints .u8 l false)), (.pv (.int .i64 n6)), (.pv (.int .i64 n7))]), (2, [(.pv (.bool false)), (.pv .nilp)]), (3, [(.pv (.bool false)), (.pv (T_id_halves.pv T_id_halves.nil))]), (4, [(.pv (.bool false)), (.pv (T_id_halves.pv T_id_halves.nil))])], []⟩) (code_source_id_C22_runs depth n4 (decide ((depth : Int) = 16)) n5 l n6 n7 _ h4) ⟨⟨⟨_, rfl, .eq rfl⟩, ⟨_, rfl, .eq rfl⟩, ⟨_, rfl, .eq rfl⟩, ⟨_, rfl, .eq rfl⟩, ⟨_, rfl, .eq rfl⟩, ⟨_, rfl, .eq rfl⟩, ⟨_, rfl, .eq rfl⟩, trivial⟩, ⟨⟨rfl, ⟨.eq rfl, .eq rfl, trivial⟩⟩, ⟨rfl, ⟨.eq rfl, .eq rfl, .eq rfl, trivial⟩⟩, ⟨rfl, ⟨.eq rfl, .eq rfl, trivial⟩⟩, ⟨rfl, ⟨.eq rfl, .eq rfl, trivial⟩⟩, ⟨rfl, ⟨.eq rfl, .eq rfl, trivial⟩⟩, trivial⟩, trivial⟩) (an_ (code_source_ok_runs n8 l n6 n7 _ h5) (an_ h6 (an_ (rfl : false = false) (an_ (code_source_ok_runs n9 l n6 n7 _ h7) (an_ h8 (an_ (rfl : false = false) (an_ (id_ID_IsZero_runs false T_id_halves.nil _ h9) (an_ h10 (an_ (id_ID_IsZero_runs false T_id_halves.nil _ h9) (an_ h11 (an_ (id_ID_IsOne_runs false T_id_halves.nil _ h12) (an_ (rfl : false = false) (an_ (code_source_must_runs true n10 l n6 n7 _ h13) (an_ (id_Pair_runs N false T_id_halves.nil false T_id_halves.nil _ h14) trivial))))))))))))))))))) (by kernel_rfl))
          · obtain ⟨n11, h12, h⟩ := bind_of h
            obtain ⟨⟨b4, t, n12⟩, h13, h⟩ := bind_of h
            have h := some_of h
            subst h
            exact runs_of (C := cfg) (objs := [[(.ref 1 0), (.pv (.int .i64 n))], [(.pv (.ints .u8 l false)), (.pv (.int .i64 n2)), (.pv (.int .i64 n3))]]) (sc := [.res (id_Zero_out ()), .res (id_Zero_out ()), .res (code_source_bit_out 2 n l n2 n3 (n4, n5, n6, n7)), .br false, .lp (code_source_id_C22_ex depth n4 (decide ((depth : Int) = 16)) n5 l n6 n7 n8).1 (code_source_id_C22_ex depth n4 (decide ((depth : Int) = 16)) n5 l n6 n7 n8).2, .res (code_source_ok_out n8 l n6 n7 (b, n9)), .br false, .br false, .res (code_source_ok_out n9 l n6 n7 (b2, n10)), .br false, .br false, .res (id_ID_IsZero_out false T_id_halves.nil b3), .br true, .res (id_ID_IsZero_out false T_id_halves.nil b3), .br false, .res (code_source_must_out false n10 l n6 n7 n11), .res (id_Pair_out false T_id_halves.nil false T_id_halves.nil (b4, t, n12))]) (.k0 (an_ (id_Zero_runs _ h1) (an_ (id_Zero_runs _ h1) (an_ (code_source_bit_runs 2 n l n2 n3 _ h2) (an_ h3 (an_ (LRuns.coe (s0 := ⟨[(0, (.av (.one (.ref 0 0)))), (1, (.av (.one (.pv (.int .i64 depth))))), (4, (.av (.one (.ref 2 0)))), (5, (.av (.one (.ref 3 0)))), (6, (.av (.one (.ref 4 0)))), (7, (.av (.one (.pv (.int .u64 n4))))), (22, (.av (.one (.pv (.bool (decide ((depth : Int) = 16)))))))], [(0, [(.ref 1 0), (.pv (.int .i64 n5))]), (1, [(.pv (.ints .u8 l false)), (.pv (.int .i64 n6)), (.pv (.int .i64 n7))]), (2, [(.pv (.bool false)), (.pv .nilp)]), (3, [(.pv (.bool false)), (.pv (T_id_halves.pv T_id_halves.nil))]), (4, [(.pv (.bool false)), (.pv (T_id_halves.pv T_id_halves.nil))])], []⟩) (code_source_id_C22_runs depth n4 (decide ((depth : Int) = 16)) n5 l n6 n7 _ h4) ⟨⟨⟨_, rfl, .eq rfl⟩, ⟨_, rfl, .eq rfl⟩, ⟨_, rfl, .eq rfl⟩, ⟨_, rfl, .eq rfl⟩, ⟨_, rfl, .eq rfl⟩, ⟨_, rfl, .eq rfl⟩, ⟨_, rfl, .eq rfl⟩, trivial⟩, ⟨⟨rfl, ⟨.eq rfl, .eq rfl, trivial⟩⟩, ⟨rfl, ⟨.eq rfl, .eq rfl, .eq rfl, trivial⟩⟩, ⟨rfl, ⟨.eq rfl, .eq rfl, trivial⟩⟩, ⟨rfl, ⟨.eq rfl, .eq rfl, trivial⟩⟩, ⟨rfl, ⟨.eq rfl, .eq rfl, trivial⟩⟩, trivial⟩, trivial⟩) (an_ (code_source_ok_runs n8 l n6 n7 _ h5) (an_ h6 (an_ (rfl : false = false) (an_ (code_source_ok_runs n9 l n6 n7 _ h7) (an_ h8 (an_ (rfl : false = false) (an_ (id_ID_IsZero_runs false T_id_halves.nil _ h9) (an_ h10 (an_ (id_ID_IsZero_runs false T_id_halves.nil _ h9) (an_ h11 (an_ (code_source_must_runs false n10 l n6 n7 _ h12) (an_ (id_Pair_runs N false T_id_halves.nil false T_id_halves.nil _ h13) trivial))))))))))))))))) (by kernel_rfl))
        · obtain ⟨n11, h11, h⟩ := bind_of h
          obtain ⟨⟨b4, t, n12⟩, h12, h⟩ := bind_of h
          have h := some_of h
          subst h
          exact runs_of (C := cfg) (objs := [[(.ref 1 0), (.pv (.int .i64 n))], [(.pv (.ints .u8 l false)), (.pv (.int .i64 n2)), (.pv (.int .i64 n3))]]) (sc := [.res (id_Zero_out ()), .res (id_Zero_out ()), .res (code_source_bit_out 2 n l n2 n3 (n4, n5, n6, n7)), .br false, .lp (code_source_id_C22_ex depth n4 (decide ((depth : Int) = 16)) n5 l n6 n7 n8).1 (code_source_id_C22_ex depth n4 (decide ((depth : Int) = 16)) n5 l n6 n7 n8).2, .res (code_source_ok_out n8 l n6 n7 (b, n9)), .br false, .br false, .res (code_source_ok_out n9 l n6 n7 (b2, n10)), .br false, .br false, .res (id_ID_IsZero_out false T_id_halves.nil b3), .br false, .br false, .res (code_source_must_out false n10 l n6 n7 n11), .res (id_Pair_out false T_id_halves.nil false T_id_halves.nil (b4, t, n12))]) (.k0 (an_ (id_Zero_runs _ h1) (an_ (id_Zero_runs _ h1) (an_ (code_source_bit_runs 2 n l n2 n3 _ h2) (an_ h3 (an_ (LRuns.coe (s0 := ⟨[(0, (.av (.one (.ref 0 0)))), (1, (.av (.one (.pv (.int .i64 depth))))), (4, (.av (.one (.ref 2 0)))), (5, (.av (.one (.ref 3 0)))), (6, (.av (.one (.ref 4 0)))), (7, (.av (.one (.pv (.int .u64 n4))))), (22, (.av (.one (.pv (.bool (decide ((depth : Int) = 16)))))))], [(0, [(.ref 1 0), (.pv (.int .i64 n5))]), (1, [(.pv (.ints .u8 l false)), (.pv (.int .i64 n6)), (.pv (.int .i64 n7))]), (2, [(.pv (.bool false)), (.pv .nilp)]), (3, [(.pv (.bool false)), (.pv (T_id_halves.pv T_id_halves.nil))]), (4, [(.pv (.bool false)), (.pv (T_id_halves.pv T_id_halves.nil))])], []⟩) (code_source_id_C22_runs depth n4 (decide ((depth : Int) = 16)) n5 l n6 n7 _ h4) ⟨⟨⟨_, rfl, .eq rfl⟩, ⟨_, rfl, .eq rfl⟩, ⟨_, rfl, .eq rfl⟩, ⟨_, rfl, .eq rfl⟩, ⟨_, rfl, .eq rfl⟩, ⟨_, rfl, .eq rfl⟩, ⟨_, rfl, .eq rfl⟩, trivial⟩, ⟨⟨rfl, ⟨.eq rfl, .eq rfl, trivial⟩⟩, ⟨rfl, ⟨.eq rfl, .eq rfl, .eq rfl, trivial⟩⟩, ⟨rfl, ⟨.eq rfl, .eq rfl, trivial⟩⟩, ⟨rfl, ⟨.eq rfl, .eq rfl, trivial⟩⟩, ⟨rfl, ⟨.eq rfl, .eq rfl, trivial⟩⟩, trivial⟩, trivial⟩) (an_ (code_source_ok_runs n8 l n6 n7 _ h5) (an_ h6 (an_ (rfl : false = false) (an_ (code_source_ok_runs n9 l n6 n7 _ h7) (an_ h8 (an_ (rfl : false = false) (an_ (id_ID_IsZero_runs false T_id_halves.nil _ h9) (an_ h10 (an_ (rfl : false = false) (an_ (code_source_must_runs false n10 l n6 n7 _ h11) (an_ (id_Pair_runs N false T_id_halves.nil false T_id_halves.nil _ h12) trivial)))))))))))))))) (by kernel_rfl))
noncomputable def code_source_id_2 : Nat → Int → Int → List Int → Int → Int → Option (Bool × T_id_halves × Int × Int × Int)
  | 0, _, _, _, _, _ => none
  | N + 1, depth, n, l, n2, n3 => code_source_id_2_b N (code_source_id_2 N) depth n l n2 n3
theorem code_source_id_2_runs : ∀ (N : Nat) (depth : Int) (n : Int) (l : List Int) (n2 : Int) (n3 : Int) (r_ : Bool × T_id_halves × Int × Int × Int), code_source_id_2 N depth n l n2 n3 = some r_ → Runs Try.prog 52 [(.one (.ref 0 0)), (.one (.pv (.int .i64 depth)))] [[(.ref 1 0), (.pv (.int .i64 n))], [(.pv (.ints .u8 l false)), (.pv (.int .i64 n2)), (.pv (.int .i64 n3))]] [] (code_source_id_2_out depth n l n2 n3 r_)
  | 0, _, _, _, _, _, _, h => by cases h
  | N + 1, depth, n, l, n2, n3, r_, h => code_source_id_2_b_runs N (code_source_id_2 N) (code_source_id_2_runs N) depth n l n2 n3 r_ h
/-! ### code_GetID -/
noncomputable def code_GetID (N : Nat) (l : List Int) (n : Int) (n2 : Int) : Option (Bool × T_id_halves × Int × Int × Int) :=
  (code_source_id_2 N 0 0 l n n2).bind fun (b, t, n3, n4, n5) =>
  bif (decide ((n3 : Int) = 0)) then
    some (b, t, 0, n4, n5)
  else
    (id_Zero).bind fun _ =>
    some (false, T_id_halves.nil, n3, n4, n5)
theorem code_GetID_runs (N : Nat) (l : List Int) (n : Int) (n2 : Int) (r_ : Bool × T_id_halves × Int × Int × Int) (h : code_GetID N l n n2 = some r_) : Runs Try.prog 22 [(.one (.ref 0 0))] [[(.pv (.ints .u8 l false)), (.pv (.int .i64 n)), (.pv (.int .i64 n2))]] [] (code_GetID_out l n n2 r_) := by
  unfold code_GetID at h
  obtain ⟨⟨b, t, n3, n4, n5⟩, h1, h⟩ := bind_of h
  rcases cond_of h with ⟨h2, h⟩ | ⟨h2, h⟩
  · have h := some_of h
    subst h
    exact runs_of (C := cfg) (objs := [[(.pv (.ints .u8 l false)), (.pv (.int .i64 n)), (.pv (.int .i64 n2))]]) (sc := [.res (code_source_id_2_out 0 0 l n n2 (b, t, n3, n4, n5)), .br false]) (.k0 (an_ (code_source_id_2_runs N 0 0 l n n2 _ h1) (an_ (not_of2 h2) trivial)) (by kernel_rfl))
  · obtain ⟨_, h3, h⟩ := bind_of h
    have h := some_of h
    subst h
    exact runs_of (C := cfg) (objs := [[(.pv (.ints .u8 l false)), (.pv (.int .i64 n)), (.pv (.int .i64 n2))]]) (sc := [.res (code_source_id_2_out 0 0 l n n2 (b, t, n3, n4, n5)), .br true, .res (id_Zero_out ()), .res (id_Zero_out ())]) (.k1 (an_ (code_source_id_2_runs N 0 0 l n n2 _ h1) (an_ (not_of h2) (an_ (id_Zero_runs _ h3) (an_ (id_Zero_runs _ h3) trivial)))) (by kernel_rfl) (by kernel_rfl))
/-! ### bits_Reader_End_out -/
def bits_Reader_End_out (l : List Int) (n : Int) (n2 : Int) : Int × Int → Res
  | (r1, r2) => ([(.one (.pv (.int .i64 r1)))], [[(.pv (.ints .u8 l false)), (.pv (.int .i64 n)), (.pv (.int .i64 r2))]], [])
/-! ### bits_Reader_End -/
noncomputable def bits_Reader_End (l : List Int) (n : Int) (n2 : Int) : Option (Int × Int) :=
  (bits_Reader_Err l n n2).bind fun _ =>
  bif (decide ((n2 : Int) = 0)) then
    (bits_Reader_Left l n n2).bind fun n3 =>
    bif (decide ((8 : Int) ≤ n3)) then
      (bits_Reader_fail l n n2).bind fun n4 =>
      some (n4, n4)
    else
      (bits_Reader_Get n3 l n n2).bind fun (n4, n5, n6) =>
      bif (decide ((n4 : Int) = 0)) then
        some (0, n6)
      else
        (bits_Reader_fail l n n6).bind fun n7 =>
        some (n7, n7)
  else
    some (n2, n2)
theorem bits_Reader_End_runs (l : List Int) (n : Int) (n2 : Int) (r_ : Int × Int) (h : bits_Reader_End l n n2 = some r_) : Runs Try.prog 24 [(.one (.ref 0 0))] [[(.pv (.ints .u8 l false)), (.pv (.int .i64 n)), (.pv (.int .i64 n2))]] [] (bits_Reader_End_out l n n2 r_) := by
  unfold bits_Reader_End at h
  obtain ⟨_, h1, h⟩ := bind_of h
  rcases cond_of h with ⟨h2, h⟩ | ⟨h2, h⟩
  · obtain ⟨n3, h3, h⟩ := bind_of h
    rcases cond_of h with ⟨h4, h⟩ | ⟨h4, h⟩
    · obtain ⟨n4, h5, h⟩ := bind_of h
      have h := some_of h
      subst h
      exact runs_of (C := cfg) (objs := [[(.pv (.ints .u8 l false)), (.pv (.int .i64 n)), (.pv (.int .i64 n2))]]) (sc := [.res (bits_Reader_Err_out l n n2 ()), .br false, .res (bits_Reader_Left_out l n n2 n3), .res (bits_Reader_Left_out l n n2 n3), .br true, .br true, .res (bits_Reader_fail_out l n n2 n4)]) (.k1 (an_ (bits_Reader_Err_runs l n n2 _ h1) (an_ (not_of2 h2) (an_ (bits_Reader_Left_runs l n n2 _ h3) (an_ (bits_Reader_Left_runs l n n2 _ h3) (an_ h4 (an_ (rfl : true = true) (an_ (bits_Reader_fail_runs l n n2 _ h5) trivial))))))) (by kernel_rfl) (by kernel_rfl))
    · obtain ⟨⟨n4, n5, n6⟩, h5, h⟩ := bind_of h
      rcases cond_of h with ⟨h6, h⟩ | ⟨h6, h⟩
      · have h := some_of h
        subst h
        exact runs_of (C := cfg) (objs := [[(.pv (.ints .u8 l false)), (.pv (.int .i64 n)), (.pv (.int .i64 n2))]]) (sc := [.res (bits_Reader_Err_out l n n2 ()), .br false, .res (bits_Reader_Left_out l n n2 n3), .res (bits_Reader_Left_out l n n2 n3), .br false, .res (bits_Reader_Get_out n3 l n n2 (n4, n5, n6)), .br false]) (.k1 (an_ (bits_Reader_Err_runs l n n2 _ h1) (an_ (not_of2 h2) (an_ (bits_Reader_Left_runs l n n2 _ h3) (an_ (bits_Reader_Left_runs l n n2 _ h3) (an_ h4 (an_ (bits_Reader_Get_runs n3 l n n2 _ h5) (an_ (not_of2 h6) trivial))))))) (by kernel_rfl) (by kernel_rfl))
      · obtain ⟨n7, h7, h⟩ := bind_of h
        have h := some_of h
        subst h
        exact runs_of (C := cfg) (objs := [[(.pv (.ints .u8 l false)), (.pv (.int .i64 n)), (.pv (.int .i64 n2))]]) (sc := [.res (bits_Reader_Err_out l n n2 ()), .br false, .res (bits_Reader_Left_out l n n2 n3), .res (bits_Reader_Left_out l n n2 n3), .br false, .res (bits_Reader_Get_out n3 l n n2 (n4, n5, n6)), .br true, .res (bits_Reader_fail_out l n n6 n7)]) (.k1 (an_ (bits_Reader_Err_runs l n n2 _ h1) (an_ (not_of2 h2) (an_ (bits_Reader_Left_runs l n n2 _ h3) (an_ (bits_Reader_Left_runs l n n2 _ h3) (an_ h4 (an_ (bits_Reader_Get_runs n3 l n n2 _ h5) (an_ (not_of h6) (an_ (bits_Reader_fail_runs l n n6 _ h7) trivial)))))))) (by kernel_rfl) (by kernel_rfl))
  · have h := some_of h
    subst h
    exact runs_of (C := cfg) (objs := [[(.pv (.ints .u8 l false)), (.pv (.int .i64 n)), (.pv (.int .i64 n2))]]) (sc := [.res (bits_Reader_Err_out l n n2 ()), .br true, .res (bits_Reader_Err_out l n n2 ())]) (.k0 (an_ (bits_Reader_Err_runs l n n2 _ h1) (an_ (not_of h2) (an_ (bits_Reader_Err_runs l n n2 _ h1) trivial))) (by kernel_rfl))
/-! ### kinfolklaw07_CodeRows -/
noncomputable def kinfolklaw07_CodeRows (N : Nat) (p : List Int) (q : List Int) (r : List Int) (tail : Int) : Option (Bool) :=
  (kinfolklaw07_awake N).bind fun b =>
  bif b then
    (kinfolklaw07_made N p q).bind fun (b2, t, n, t2, t3, t4) =>
    (kinfolklaw07_made N q r).bind fun (b3, t5, n2, t6, t7, t8) =>
    (bits_NewWriter).bind fun _ =>
    (code_PutEvent_2 N n t2 0).bind fun (n3, l_) =>
    (code_PutID_2 N b3 t5 n3 l_).bind fun (n4, l_2) =>
    (code_PutID_2 N b2 t n4 l_2).bind fun (n5, l_3) =>
    (bits_Writer_Put_2 tail 9 n5 l_3).bind fun (n6, l_4) =>
    (code_PutEvent N n2 t6 n6 l_4).bind fun (n7, l_5) =>
    (bits_Writer_Bytes n7 l_5).bind fun _ =>
    (bits_NewReader l_5).bind fun _ =>
    (code_GetEvent N l_5 0 0).bind fun (n8, t9, n9, n10, n11) =>
    (code_GetID N l_5 n10 n11).bind fun (b4, t10, n12, n13, n14) =>
    (code_GetID N l_5 n13 n14).bind fun (b5, t11, n15, n16, n17) =>
    (bits_Reader_Get 9 l_5 n16 n17).bind fun (n18, n19, n20) =>
    (code_GetEvent N l_5 n19 n20).bind fun (n21, t12, n22, n23, n24) =>
    bif (decide ((n9 : Int) = 0)) then
      bif (decide ((n12 : Int) = 0)) then
        bif (decide ((n15 : Int) = 0)) then
          bif (decide ((n22 : Int) = 0)) then
            (event_Same N n8 t9 n t2).bind fun b6 =>
            bif b6 then
              (id_Same N b4 t10 b3 t5).bind fun b7 =>
              bif b7 then
                (id_Same N b5 t11 b2 t).bind fun b8 =>
                bif b8 then
                  bif (decide ((n18 : Int) = (irem .u64 tail 512))) then
                    (event_Same N n21 t12 n2 t6).bind fun b9 =>
                    bif b9 then
                      (bits_Reader_End l_5 n23 n24).bind fun (n25, n26) =>
                      some (decide ((n25 : Int) = 0))
                    else
                      some false
                  else
                    some false
                else
                  some false
              else
                some false
            else
              some false
          else
            some false
        else
          some false
      else
        some false
    else
      some false
  else
    some false
theorem kinfolklaw07_CodeRows_runs (N : Nat) (p : List Int) (q : List Int) (r : List Int) (tail : Int) (r_ : Bool) (h : kinfolklaw07_CodeRows N p q r tail = some r_) : Runs Try.prog 4 [(.one (.pv (.ints .u8 p false))), (.one (.pv (.ints .u8 q false))), (.one (.pv (.ints .u8 r false))), (.one (.pv (.int .u64 tail)))] [] [] (kinfolklaw07_CodeRows_out p q r tail r_) := by
  unfold kinfolklaw07_CodeRows at h
  obtain ⟨b, h1, h⟩ := bind_of h
  rcases cond_of h with ⟨h2, h⟩ | ⟨h2, h⟩
  · obtain ⟨⟨b2, t, n, t2, t3, t4⟩, h3, h⟩ := bind_of h
    obtain ⟨⟨b3, t5, n2, t6, t7, t8⟩, h4, h⟩ := bind_of h
    obtain ⟨_, h5, h⟩ := bind_of h
    obtain ⟨⟨n3, l_⟩, h6, h⟩ := bind_of h
    obtain ⟨⟨n4, l_2⟩, h7, h⟩ := bind_of h
    obtain ⟨⟨n5, l_3⟩, h8, h⟩ := bind_of h
    obtain ⟨⟨n6, l_4⟩, h9, h⟩ := bind_of h
    obtain ⟨⟨n7, l_5⟩, h10, h⟩ := bind_of h
    obtain ⟨_, h11, h⟩ := bind_of h
    obtain ⟨_, h12, h⟩ := bind_of h
    obtain ⟨⟨n8, t9, n9, n10, n11⟩, h13, h⟩ := bind_of h
    obtain ⟨⟨b4, t10, n12, n13, n14⟩, h14, h⟩ := bind_of h
    obtain ⟨⟨b5, t11, n15, n16, n17⟩, h15, h⟩ := bind_of h
    obtain ⟨⟨n18, n19, n20⟩, h16, h⟩ := bind_of h
    obtain ⟨⟨n21, t12, n22, n23, n24⟩, h17, h⟩ := bind_of h
    rcases cond_of h with ⟨h18, h⟩ | ⟨h18, h⟩
    · rcases cond_of h with ⟨h19, h⟩ | ⟨h19, h⟩
      · rcases cond_of h with ⟨h20, h⟩ | ⟨h20, h⟩
        · rcases cond_of h with ⟨h21, h⟩ | ⟨h21, h⟩
          · obtain ⟨b6, h22, h⟩ := bind_of h
            rcases cond_of h with ⟨h23, h⟩ | ⟨h23, h⟩
            · obtain ⟨b7, h24, h⟩ := bind_of h
              rcases cond_of h with ⟨h25, h⟩ | ⟨h25, h⟩
              · obtain ⟨b8, h26, h⟩ := bind_of h
                rcases cond_of h with ⟨h27, h⟩ | ⟨h27, h⟩
                · rcases cond_of h with ⟨h28, h⟩ | ⟨h28, h⟩
                  · obtain ⟨b9, h29, h⟩ := bind_of h
                    rcases cond_of h with ⟨h30, h⟩ | ⟨h30, h⟩
                    · obtain ⟨⟨n25, n26⟩, h31, h⟩ := bind_of h
                      have h := some_of h
                      subst h
                      exact runs_of (C := cfg) (objs := []) (sc := [.res (kinfolklaw07_awake_out b), .br false, .res (kinfolklaw07_made_out p q (b2, t, n, t2, t3, t4)), .res (kinfolklaw07_made_out q r (b3, t5, n2, t6, t7, t8)), .res (bits_NewWriter_out ()), .res (code_PutEvent_2_out n t2 0 (n3, l_)), .res (code_PutID_2_out b3 t5 n3 l_ (n4, l_2)), .res (code_PutID_2_out b2 t n4 l_2 (n5, l_3)), .res (bits_Writer_Put_2_out tail 9 n5 l_3 (n6, l_4)), .res (code_PutEvent_out n2 t6 n6 l_4 (n7, l_5)), .res (bits_Writer_Bytes_out n7 l_5 ()), .res (bits_NewReader_out l_5 ()), .res (code_GetEvent_out l_5 0 0 (n8, t9, n9, n10, n11)), .res (code_GetID_out l_5 n10 n11 (b4, t10, n12, n13, n14)), .res (code_GetID_out l_5 n13 n14 (b5, t11, n15, n16, n17)), .res (bits_Reader_Get_out 9 l_5 n16 n17 (n18, n19, n20)), .res (code_GetEvent_out l_5 n19 n20 (n21, t12, n22, n23, n24)), .br true, .br true, .br true, .br true, .res (event_Same_out n8 t9 n t2 b6), .br true, .res (id_Same_out b4 t10 b3 t5 b7), .br true, .res (id_Same_out b5 t11 b2 t b8), .br true, .br true, .res (event_Same_out n21 t12 n2 t6 b9), .br true, .res (bits_Reader_End_out l_5 n23 n24 (n25, n26))]) (.k0 (an_ (kinfolklaw07_awake_runs N _ h1) (an_ (not_of2 h2) (an_ (kinfolklaw07_made_runs N p q _ h3) (an_ (kinfolklaw07_made_runs N q r _ h4) (an_ (bits_NewWriter_runs _ h5) (an_ (code_PutEvent_2_runs N n t2 0 _ h6) (an_ (code_PutID_2_runs N b3 t5 n3 l_ _ h7) (an_ (code_PutID_2_runs N b2 t n4 l_2 _ h8) (an_ (bits_Writer_Put_2_runs tail 9 n5 l_3 _ h9) (an_ (code_PutEvent_runs N n2 t6 n6 l_4 _ h10) (an_ (bits_Writer_Bytes_runs n7 l_5 _ h11) (an_ (bits_NewReader_runs l_5 _ h12) (an_ (code_GetEvent_runs N l_5 0 0 _ h13) (an_ (code_GetID_runs N l_5 n10 n11 _ h14) (an_ (code_GetID_runs N l_5 n13 n14 _ h15) (an_ (bits_Reader_Get_runs 9 l_5 n16 n17 _ h16) (an_ (code_GetEvent_runs N l_5 n19 n20 _ h17) (an_ h18 (an_ h19 (an_ h20 (an_ h21 (an_ (event_Same_runs N n8 t9 n t2 _ h22) (an_ h23 (an_ (id_Same_runs N b4 t10 b3 t5 _ h24) (an_ h25 (an_ (id_Same_runs N b5 t11 b2 t _ h26) (an_ h27 (an_ (rfl : true = true) (an_ h28 (an_ (event_Same_runs N n21 t12 n2 t6 _ h29) (an_ h30 (an_ (bits_Reader_End_runs l_5 n23 n24 _ h31) trivial)))))))))))))))))))))))))))))))) (by kernel_rfl))
                    · have h := some_of h
                      subst h
                      exact runs_of (C := cfg) (objs := []) (sc := [.res (kinfolklaw07_awake_out b), .br false, .res (kinfolklaw07_made_out p q (b2, t, n, t2, t3, t4)), .res (kinfolklaw07_made_out q r (b3, t5, n2, t6, t7, t8)), .res (bits_NewWriter_out ()), .res (code_PutEvent_2_out n t2 0 (n3, l_)), .res (code_PutID_2_out b3 t5 n3 l_ (n4, l_2)), .res (code_PutID_2_out b2 t n4 l_2 (n5, l_3)), .res (bits_Writer_Put_2_out tail 9 n5 l_3 (n6, l_4)), .res (code_PutEvent_out n2 t6 n6 l_4 (n7, l_5)), .res (bits_Writer_Bytes_out n7 l_5 ()), .res (bits_NewReader_out l_5 ()), .res (code_GetEvent_out l_5 0 0 (n8, t9, n9, n10, n11)), .res (code_GetID_out l_5 n10 n11 (b4, t10, n12, n13, n14)), .res (code_GetID_out l_5 n13 n14 (b5, t11, n15, n16, n17)), .res (bits_Reader_Get_out 9 l_5 n16 n17 (n18, n19, n20)), .res (code_GetEvent_out l_5 n19 n20 (n21, t12, n22, n23, n24)), .br true, .br true, .br true, .br true, .res (event_Same_out n8 t9 n t2 b6), .br true, .res (id_Same_out b4 t10 b3 t5 b7), .br true, .res (id_Same_out b5 t11 b2 t b8), .br true, .br true, .res (event_Same_out n21 t12 n2 t6 b9), .br false]) (.k0 (an_ (kinfolklaw07_awake_runs N _ h1) (an_ (not_of2 h2) (an_ (kinfolklaw07_made_runs N p q _ h3) (an_ (kinfolklaw07_made_runs N q r _ h4) (an_ (bits_NewWriter_runs _ h5) (an_ (code_PutEvent_2_runs N n t2 0 _ h6) (an_ (code_PutID_2_runs N b3 t5 n3 l_ _ h7) (an_ (code_PutID_2_runs N b2 t n4 l_2 _ h8) (an_ (bits_Writer_Put_2_runs tail 9 n5 l_3 _ h9) (an_ (code_PutEvent_runs N n2 t6 n6 l_4 _ h10) (an_ (bits_Writer_Bytes_runs n7 l_5 _ h11) (an_ (bits_NewReader_runs l_5 _ h12) (an_ (code_GetEvent_runs N l_5 0 0 _ h13) (an_ (code_GetID_runs N l_5 n10 n11 _ h14) (an_ (code_GetID_runs N l_5 n13 n14 _ h15) (an_ (bits_Reader_Get_runs 9 l_5 n16 n17 _ h16) (an_ (code_GetEvent_runs N l_5 n19 n20 _ h17) (an_ h18 (an_ h19 (an_ h20 (an_ h21 (an_ (event_Same_runs N n8 t9 n t2 _ h22) (an_ h23 (an_ (id_Same_runs N b4 t10 b3 t5 _ h24) (an_ h25 (an_ (id_Same_runs N b5 t11 b2 t _ h26) (an_ h27 (an_ (rfl : true = true) (an_ h28 (an_ (event_Same_runs N n21 t12 n2 t6 _ h29) (an_ h30 trivial))))))))))))))))))))))))))))))) (by kernel_rfl))
                  · have h := some_of h
                    subst h
                    exact runs_of (C := cfg) (objs := []) (sc := [.res (kinfolklaw07_awake_out b), .br false, .res (kinfolklaw07_made_out p q (b2, t, n, t2, t3, t4)), .res (kinfolklaw07_made_out q r (b3, t5, n2, t6, t7, t8)), .res (bits_NewWriter_out ()), .res (code_PutEvent_2_out n t2 0 (n3, l_)), .res (code_PutID_2_out b3 t5 n3 l_ (n4, l_2)), .res (code_PutID_2_out b2 t n4 l_2 (n5, l_3)), .res (bits_Writer_Put_2_out tail 9 n5 l_3 (n6, l_4)), .res (code_PutEvent_out n2 t6 n6 l_4 (n7, l_5)), .res (bits_Writer_Bytes_out n7 l_5 ()), .res (bits_NewReader_out l_5 ()), .res (code_GetEvent_out l_5 0 0 (n8, t9, n9, n10, n11)), .res (code_GetID_out l_5 n10 n11 (b4, t10, n12, n13, n14)), .res (code_GetID_out l_5 n13 n14 (b5, t11, n15, n16, n17)), .res (bits_Reader_Get_out 9 l_5 n16 n17 (n18, n19, n20)), .res (code_GetEvent_out l_5 n19 n20 (n21, t12, n22, n23, n24)), .br true, .br true, .br true, .br true, .res (event_Same_out n8 t9 n t2 b6), .br true, .res (id_Same_out b4 t10 b3 t5 b7), .br true, .res (id_Same_out b5 t11 b2 t b8), .br true, .br false, .br false]) (.k0 (an_ (kinfolklaw07_awake_runs N _ h1) (an_ (not_of2 h2) (an_ (kinfolklaw07_made_runs N p q _ h3) (an_ (kinfolklaw07_made_runs N q r _ h4) (an_ (bits_NewWriter_runs _ h5) (an_ (code_PutEvent_2_runs N n t2 0 _ h6) (an_ (code_PutID_2_runs N b3 t5 n3 l_ _ h7) (an_ (code_PutID_2_runs N b2 t n4 l_2 _ h8) (an_ (bits_Writer_Put_2_runs tail 9 n5 l_3 _ h9) (an_ (code_PutEvent_runs N n2 t6 n6 l_4 _ h10) (an_ (bits_Writer_Bytes_runs n7 l_5 _ h11) (an_ (bits_NewReader_runs l_5 _ h12) (an_ (code_GetEvent_runs N l_5 0 0 _ h13) (an_ (code_GetID_runs N l_5 n10 n11 _ h14) (an_ (code_GetID_runs N l_5 n13 n14 _ h15) (an_ (bits_Reader_Get_runs 9 l_5 n16 n17 _ h16) (an_ (code_GetEvent_runs N l_5 n19 n20 _ h17) (an_ h18 (an_ h19 (an_ h20 (an_ h21 (an_ (event_Same_runs N n8 t9 n t2 _ h22) (an_ h23 (an_ (id_Same_runs N b4 t10 b3 t5 _ h24) (an_ h25 (an_ (id_Same_runs N b5 t11 b2 t _ h26) (an_ h27 (an_ (rfl : true = true) (an_ h28 (an_ (rfl : false = false) trivial)))))))))))))))))))))))))))))) (by kernel_rfl))
                · have h := some_of h
                  subst h
                  exact runs_of (C := cfg) (objs := []) (sc := [.res (kinfolklaw07_awake_out b), .br false, .res (kinfolklaw07_made_out p q (b2, t, n, t2, t3, t4)), .res (kinfolklaw07_made_out q r (b3, t5, n2, t6, t7, t8)), .res (bits_NewWriter_out ()), .res (code_PutEvent_2_out n t2 0 (n3, l_)), .res (code_PutID_2_out b3 t5 n3 l_ (n4, l_2)), .res (code_PutID_2_out b2 t n4 l_2 (n5, l_3)), .res (bits_Writer_Put_2_out tail 9 n5 l_3 (n6, l_4)), .res (code_PutEvent_out n2 t6 n6 l_4 (n7, l_5)), .res (bits_Writer_Bytes_out n7 l_5 ()), .res (bits_NewReader_out l_5 ()), .res (code_GetEvent_out l_5 0 0 (n8, t9, n9, n10, n11)), .res (code_GetID_out l_5 n10 n11 (b4, t10, n12, n13, n14)), .res (code_GetID_out l_5 n13 n14 (b5, t11, n15, n16, n17)), .res (bits_Reader_Get_out 9 l_5 n16 n17 (n18, n19, n20)), .res (code_GetEvent_out l_5 n19 n20 (n21, t12, n22, n23, n24)), .br true, .br true, .br true, .br true, .res (event_Same_out n8 t9 n t2 b6), .br true, .res (id_Same_out b4 t10 b3 t5 b7), .br true, .res (id_Same_out b5 t11 b2 t b8), .br false, .br false, .br false]) (.k0 (an_ (kinfolklaw07_awake_runs N _ h1) (an_ (not_of2 h2) (an_ (kinfolklaw07_made_runs N p q _ h3) (an_ (kinfolklaw07_made_runs N q r _ h4) (an_ (bits_NewWriter_runs _ h5) (an_ (code_PutEvent_2_runs N n t2 0 _ h6) (an_ (code_PutID_2_runs N b3 t5 n3 l_ _ h7) (an_ (code_PutID_2_runs N b2 t n4 l_2 _ h8) (an_ (bits_Writer_Put_2_runs tail 9 n5 l_3 _ h9) (an_ (code_PutEvent_runs N n2 t6 n6 l_4 _ h10) (an_ (bits_Writer_Bytes_runs n7 l_5 _ h11) (an_ (bits_NewReader_runs l_5 _ h12) (an_ (code_GetEvent_runs N l_5 0 0 _ h13) (an_ (code_GetID_runs N l_5 n10 n11 _ h14) (an_ (code_GetID_runs N l_5 n13 n14 _ h15) (an_ (bits_Reader_Get_runs 9 l_5 n16 n17 _ h16) (an_ (code_GetEvent_runs N l_5 n19 n20 _ h17) (an_ h18 (an_ h19 (an_ h20 (an_ h21 (an_ (event_Same_runs N n8 t9 n t2 _ h22) (an_ h23 (an_ (id_Same_runs N b4 t10 b3 t5 _ h24) (an_ h25 (an_ (id_Same_runs N b5 t11 b2 t _ h26) (an_ h27 (an_ (rfl : false = false) (an_ (rfl : false = false) trivial))))))))))))))))))))))))))))) (by kernel_rfl))
              · have h := some_of h
                subst h
                exact runs_of (C := cfg) (objs := []) (sc := [.res (kinfolklaw07_awake_out b), .br false, .res (kinfolklaw07_made_out p q (b2, t, n, t2, t3, t4)), .res (kinfolklaw07_made_out q r (b3, t5, n2, t6, t7, t8)), .res (bits_NewWriter_out ()), .res (code_PutEvent_2_out n t2 0 (n3, l_)), .res (code_PutID_2_out b3 t5 n3 l_ (n4, l_2)), .res (code_PutID_2_out b2 t n4 l_2 (n5, l_3)), .res (bits_Writer_Put_2_out tail 9 n5 l_3 (n6, l_4)), .res (code_PutEvent_out n2 t6 n6 l_4 (n7, l_5)), .res (bits_Writer_Bytes_out n7 l_5 ()), .res (bits_NewReader_out l_5 ()), .res (code_GetEvent_out l_5 0 0 (n8, t9, n9, n10, n11)), .res (code_GetID_out l_5 n10 n11 (b4, t10, n12, n13, n14)), .res (code_GetID_out l_5 n13 n14 (b5, t11, n15, n16, n17)), .res (bits_Reader_Get_out 9 l_5 n16 n17 (n18, n19, n20)), .res (code_GetEvent_out l_5 n19 n20 (n21, t12, n22, n23, n24)), .br true, .br true, .br true, .br true, .res (event_Same_out n8 t9 n t2 b6), .br true, .res (id_Same_out b4 t10 b3 t5 b7), .br false, .br false, .br false, .br false]) (.k0 (an_ (kinfolklaw07_awake_runs N _ h1) (an_ (not_of2 h2) (an_ (kinfolklaw07_made_runs N p q _ h3) (an_ (kinfolklaw07_made_runs N q r _ h4) (an_ (bits_NewWriter_runs _ h5) (an_ (code_PutEvent_2_runs N n t2 0 _ h6) (an_ (code_PutID_2_runs N b3 t5 n3 l_ _ h7) (an_ (code_PutID_2_runs N b2 t n4 l_2 _ h8) (an_ (bits_Writer_Put_2_runs tail 9 n5 l_3 _ h9) (an_ (code_PutEvent_runs N n2 t6 n6 l_4 _ h10) (an_ (bits_Writer_Bytes_runs n7 l_5 _ h11) (an_ (bits_NewReader_runs l_5 _ h12) (an_ (code_GetEvent_runs N l_5 0 0 _ h13) (an_ (code_GetID_runs N l_5 n10 n11 _ h14) (an_ (code_GetID_runs N l_5 n13 n14 _ h15) (an_ (bits_Reader_Get_runs 9 l_5 n16 n17 _ h16) (an_ (code_GetEvent_runs N l_5 n19 n20 _ h17) (an_ h18 (an_ h19 (an_ h20 (an_ h21 (an_ (event_Same_runs N n8 t9 n t2 _ h22) (an_ h23 (an_ (id_Same_runs N b4 t10 b3 t5 _ h24) (an_ h25 (an_ (rfl : false = false) (an_ (rfl : false = false) (an_ (rfl : false = false) trivial)))))))))))))))))))))))))))) (by kernel_rfl))
            · have h := some_of h
              subst h
              exact runs_of (C := cfg) (objs := []) (sc := [.res (kinfolklaw07_awake_out b), .br false, .res (kinfolklaw07_made_out p q (b2, t, n, t2, t3, t4)), .res (kinfolklaw07_made_out q r (b3, t5, n2, t6, t7, t8)), .res (bits_NewWriter_out ()), .res (code_PutEvent_2_out n t2 0 (n3, l_)), .res (code_PutID_2_out b3 t5 n3 l_ (n4, l_2)), .res (code_PutID_2_out b2 t n4 l_2 (n5, l_3)), .res (bits_Writer_Put_2_out tail 9 n5 l_3 (n6, l_4)), .res (code_PutEvent_out n2 t6 n6 l_4 (n7, l_5)), .res (bits_Writer_Bytes_out n7 l_5 ()), .res (bits_NewReader_out l_5 ()), .res (code_GetEvent_out l_5 0 0 (n8, t9, n9, n10, n11)), .res (code_GetID_out l_5 n10 n11 (b4, t10, n12, n13, n14)), .res (code_GetID_out l_5 n13 n14 (b5, t11, n15, n16, n17)), .res (bits_Reader_Get_out 9 l_5 n16 n17 (n18, n19, n20)), .res (code_GetEvent_out l_5 n19 n20 (n21, t12, n22, n23, n24)), .br true, .br true, .br true, .br true, .res (event_Same_out n8 t9 n t2 b6), .br false, .br false, .br false, .br false, .br false]) (.k0 (an_ (kinfolklaw07_awake_runs N _ h1) (an_ (not_of2 h2) (an_ (kinfolklaw07_made_runs N p q _ h3) (an_ (kinfolklaw07_made_runs N q r _ h4) (an_ (bits_NewWriter_runs _ h5) (an_ (code_PutEvent_2_runs N n t2 0 _ h6) (an_ (code_PutID_2_runs N b3 t5 n3 l_ _ h7) (an_ (code_PutID_2_runs N b2 t n4 l_2 _ h8) (an_ (bits_Writer_Put_2_runs tail 9 n5 l_3 _ h9) (an_ (code_PutEvent_runs N n2 t6 n6 l_4 _ h10) (an_ (bits_Writer_Bytes_runs n7 l_5 _ h11) (an_ (bits_NewReader_runs l_5 _ h12) (an_ (code_GetEvent_runs N l_5 0 0 _ h13) (an_ (code_GetID_runs N l_5 n10 n11 _ h14) (an_ (code_GetID_runs N l_5 n13 n14 _ h15) (an_ (bits_Reader_Get_runs 9 l_5 n16 n17 _ h16) (an_ (code_GetEvent_runs N l_5 n19 n20 _ h17) (an_ h18 (an_ h19 (an_ h20 (an_ h21 (an_ (event_Same_runs N n8 t9 n t2 _ h22) (an_ h23 (an_ (rfl : false = false) (an_ (rfl : false = false) (an_ (rfl : false = false) (an_ (rfl : false = false) trivial))))))))))))))))))))))))))) (by kernel_rfl))
          · have h := some_of h
            subst h
            exact runs_of (C := cfg) (objs := []) (sc := [.res (kinfolklaw07_awake_out b), .br false, .res (kinfolklaw07_made_out p q (b2, t, n, t2, t3, t4)), .res (kinfolklaw07_made_out q r (b3, t5, n2, t6, t7, t8)), .res (bits_NewWriter_out ()), .res (code_PutEvent_2_out n t2 0 (n3, l_)), .res (code_PutID_2_out b3 t5 n3 l_ (n4, l_2)), .res (code_PutID_2_out b2 t n4 l_2 (n5, l_3)), .res (bits_Writer_Put_2_out tail 9 n5 l_3 (n6, l_4)), .res (code_PutEvent_out n2 t6 n6 l_4 (n7, l_5)), .res (bits_Writer_Bytes_out n7 l_5 ()), .res (bits_NewReader_out l_5 ()), .res (code_GetEvent_out l_5 0 0 (n8, t9, n9, n10, n11)), .res (code_GetID_out l_5 n10 n11 (b4, t10, n12, n13, n14)), .res (code_GetID_out l_5 n13 n14 (b5, t11, n15, n16, n17)), .res (bits_Reader_Get_out 9 l_5 n16 n17 (n18, n19, n20)), .res (code_GetEvent_out l_5 n19 n20 (n21, t12, n22, n23, n24)), .br true, .br true, .br true, .br false, .br false, .br false, .br false, .br false, .br false]) (.k0 (an_ (kinfolklaw07_awake_runs N _ h1) (an_ (not_of2 h2) (an_ (kinfolklaw07_made_runs N p q _ h3) (an_ (kinfolklaw07_made_runs N q r _ h4) (an_ (bits_NewWriter_runs _ h5) (an_ (code_PutEvent_2_runs N n t2 0 _ h6) (an_ (code_PutID_2_runs N b3 t5 n3 l_ _ h7) (an_ (code_PutID_2_runs N b2 t n4 l_2 _ h8) (an_ (bits_Writer_Put_2_runs tail 9 n5 l_3 _ h9) (an_ (code_PutEvent_runs N n2 t6 n6 l_4 _ h10) (an_ (bits_Writer_Bytes_runs n7 l_5 _ h11) (an_ (bits_NewReader_runs l_5 _ h12) (an_ (code_GetEvent_runs N l_5 0 0 _ h13) (an_ (code_GetID_runs N l_5 n10 n11 _ h14) (an_ (code_GetID_runs N l_5 n13 n14 _ h15) (an_ (bits_Reader_Get_runs 9 l_5 n16 n17 _ h16) (an_ (code_GetEvent_runs N l_5 n19 n20 _ h17) (an_ h18 (an_ h19 (an_ h20 (an_ h21 (an_ (rfl : false = false) (an_ (rfl : false = false) (an_ (rfl : false = false) (an_ (rfl : false = false) (an_ (rfl : false = false) trivial)))))))))))))))))))))))))) (by kernel_rfl))
        · have h := some_of h
          subst h
          exact runs_of (C := cfg) (objs := []) (sc := [.res (kinfolklaw07_awake_out b), .br false, .res (kinfolklaw07_made_out p q (b2, t, n, t2, t3, t4)), .res (kinfolklaw07_made_out q r (b3, t5, n2, t6, t7, t8)), .res (bits_NewWriter_out ()), .res (code_PutEvent_2_out n t2 0 (n3, l_)), .res (code_PutID_2_out b3 t5 n3 l_ (n4, l_2)), .res (code_PutID_2_out b2 t n4 l_2 (n5, l_3)), .res (bits_Writer_Put_2_out tail 9 n5 l_3 (n6, l_4)), .res (code_PutEvent_out n2 t6 n6 l_4 (n7, l_5)), .res (bits_Writer_Bytes_out n7 l_5 ()), .res (bits_NewReader_out l_5 ()), .res (code_GetEvent_out l_5 0 0 (n8, t9, n9, n10, n11)), .res (code_GetID_out l_5 n10 n11 (b4, t10, n12, n13, n14)), .res (code_GetID_out l_5 n13 n14 (b5, t11, n15, n16, n17)), .res (bits_Reader_Get_out 9 l_5 n16 n17 (n18, n19, n20)), .res (code_GetEvent_out l_5 n19 n20 (n21, t12, n22, n23, n24)), .br true, .br true, .br false, .br false, .br false, .br false, .br false, .br false, .br false]) (.k0 (an_ (kinfolklaw07_awake_runs N _ h1) (an_ (not_of2 h2) (an_ (kinfolklaw07_made_runs N p q _ h3) (an_ (kinfolklaw07_made_runs N q r _ h4) (an_ (bits_NewWriter_runs _ h5) (an_ (code_PutEvent_2_runs N n t2 0 _ h6) (an_ (code_PutID_2_runs N b3 t5 n3 l_ _ h7) (an_ (code_PutID_2_runs N b2 t n4 l_2 _ h8) (an_ (bits_Writer_Put_2_runs tail 9 n5 l_3 _ h9) (an_ (code_PutEvent_runs N n2 t6 n6 l_4 _ h10) (an_ (bits_Writer_Bytes_runs n7 l_5 _ h11) (an_ (bits_NewReader_runs l_5 _ h12) (an_ (code_GetEvent_runs N l_5 0 0 _ h13) (an_ (code_GetID_runs N l_5 n10 n11 _ h14) (an_ (code_GetID_runs N l_5 n13 n14 _ h15) (an_ (bits_Reader_Get_runs 9 l_5 n16 n17 _ h16) (an_ (code_GetEvent_runs N l_5 n19 n20 _ h17) (an_ h18 (an_ h19 (an_ h20 (an_ (rfl : false = false) (an_ (rfl : false = false) (an_ (rfl : false = false) (an_ (rfl : false = false) (an_ (rfl : false = false) (an_ (rfl : false = false) trivial)))))))))))))))))))))))))) (by kernel_rfl))
      · have h := some_of h
        subst h
        exact runs_of (C := cfg) (objs := []) (sc := [.res (kinfolklaw07_awake_out b), .br false, .res (kinfolklaw07_made_out p q (b2, t, n, t2, t3, t4)), .res (kinfolklaw07_made_out q r (b3, t5, n2, t6, t7, t8)), .res (bits_NewWriter_out ()), .res (code_PutEvent_2_out n t2 0 (n3, l_)), .res (code_PutID_2_out b3 t5 n3 l_ (n4, l_2)), .res (code_PutID_2_out b2 t n4 l_2 (n5, l_3)), .res (bits_Writer_Put_2_out tail 9 n5 l_3 (n6, l_4)), .res (code_PutEvent_out n2 t6 n6 l_4 (n7, l_5)), .res (bits_Writer_Bytes_out n7 l_5 ()), .res (bits_NewReader_out l_5 ()), .res (code_GetEvent_out l_5 0 0 (n8, t9, n9, n10, n11)), .res (code_GetID_out l_5 n10 n11 (b4, t10, n12, n13, n14)), .res (code_GetID_out l_5 n13 n14 (b5, t11, n15, n16, n17)), .res (bits_Reader_Get_out 9 l_5 n16 n17 (n18, n19, n20)), .res (code_GetEvent_out l_5 n19 n20 (n21, t12, n22, n23, n24)), .br true, .br false, .br false, .br false, .br false, .br false, .br false, .br false, .br false]) (.k0 (an_ (kinfolklaw07_awake_runs N _ h1) (an_ (not_of2 h2) (an_ (kinfolklaw07_made_runs N p q _ h3) (an_ (kinfolklaw07_made_runs N q r _ h4) (an_ (bits_NewWriter_runs _ h5) (an_ (code_PutEvent_2_runs N n t2 0 _ h6) (an_ (code_PutID_2_runs N b3 t5 n3 l_ _ h7) (an_ (code_PutID_2_runs N b2 t n4 l_2 _ h8) (an_ (bits_Writer_Put_2_runs tail 9 n5 l_3 _ h9) (an_ (code_PutEvent_runs N n2 t6 n6 l_4 _ h10) (an_ (bits_Writer_Bytes_runs n7 l_5 _ h11) (an_ (bits_NewReader_runs l_5 _ h12) (an_ (code_GetEvent_runs N l_5 0 0 _ h13) (an_ (code_GetID_runs N l_5 n10 n11 _ h14) (an_ (code_GetID_runs N l_5 n13 n14 _ h15) (an_ (bits_Reader_Get_runs 9 l_5 n16 n17 _ h16) (an_ (code_GetEvent_runs N l_5 n19 n20 _ h17) (an_ h18 (an_ h19 (an_ (rfl : false = false) (an_ (rfl : false = false) (an_ (rfl : false = false) (an_ (rfl : false = false) (an_ (rfl : false = false) (an_ (rfl : false = false) (an_ (rfl : false = false) trivial)))))))))))))))))))))))))) (by kernel_rfl))
    · have h := some_of h
      subst h
      exact runs_of (C := cfg) (objs := []) (sc := [.res (kinfolklaw07_awake_out b), .br false, .res (kinfolklaw07_made_out p q (b2, t, n, t2, t3, t4)), .res (kinfolklaw07_made_out q r (b3, t5, n2, t6, t7, t8)), .res (bits_NewWriter_out ()), .res (code_PutEvent_2_out n t2 0 (n3, l_)), .res (code_PutID_2_out b3 t5 n3 l_ (n4, l_2)), .res (code_PutID_2_out b2 t n4 l_2 (n5, l_3)), .res (bits_Writer_Put_2_out tail 9 n5 l_3 (n6, l_4)), .res (code_PutEvent_out n2 t6 n6 l_4 (n7, l_5)), .res (bits_Writer_Bytes_out n7 l_5 ()), .res (bits_NewReader_out l_5 ()), .res (code_GetEvent_out l_5 0 0 (n8, t9, n9, n10, n11)), .res (code_GetID_out l_5 n10 n11 (b4, t10, n12, n13, n14)), .res (code_GetID_out l_5 n13 n14 (b5, t11, n15, n16, n17)), .res (bits_Reader_Get_out 9 l_5 n16 n17 (n18, n19, n20)), .res (code_GetEvent_out l_5 n19 n20 (n21, t12, n22, n23, n24)), .br false, .br false, .br false, .br false, .br false, .br false, .br false, .br false, .br false]) (.k0 (an_ (kinfolklaw07_awake_runs N _ h1) (an_ (not_of2 h2) (an_ (kinfolklaw07_made_runs N p q _ h3) (an_ (kinfolklaw07_made_runs N q r _ h4) (an_ (bits_NewWriter_runs _ h5) (an_ (code_PutEvent_2_runs N n t2 0 _ h6) (an_ (code_PutID_2_runs N b3 t5 n3 l_ _ h7) (an_ (code_PutID_2_runs N b2 t n4 l_2 _ h8) (an_ (bits_Writer_Put_2_runs tail 9 n5 l_3 _ h9) (an_ (code_PutEvent_runs N n2 t6 n6 l_4 _ h10) (an_ (bits_Writer_Bytes_runs n7 l_5 _ h11) (an_ (bits_NewReader_runs l_5 _ h12) (an_ (code_GetEvent_runs N l_5 0 0 _ h13) (an_ (code_GetID_runs N l_5 n10 n11 _ h14) (an_ (code_GetID_runs N l_5 n13 n14 _ h15) (an_ (bits_Reader_Get_runs 9 l_5 n16 n17 _ h16) (an_ (code_GetEvent_runs N l_5 n19 n20 _ h17) (an_ h18 (an_ (rfl : false = false) (an_ (rfl : false = false) (an_ (rfl : false = false) (an_ (rfl : false = false) (an_ (rfl : false = false) (an_ (rfl : false = false) (an_ (rfl : false = false) (an_ (rfl : false = false) trivial)))))))))))))))))))))))))) (by kernel_rfl))
  · have h := some_of h
    subst h
    exact runs_of (C := cfg) (objs := []) (sc := [.res (kinfolklaw07_awake_out b), .br true]) (.k0 (an_ (kinfolklaw07_awake_runs N _ h1) (an_ (not_of h2) trivial)) (by kernel_rfl))
/-! ### kinfolklaw07_CodeWrites_out -/
def kinfolklaw07_CodeWrites_out (p : List Int) (q : List Int) : Bool → Res
  | r1 => ([(.one (.pv (.bool r1)))], [], [])
/-! ### code_ReadStamp_out -/
def code_ReadStamp_out (p : List Int) : Bool × T_id_halves × Int × T_event_halves × Int → Res
  | (r1, r2, r3, r4, r5) => ([(.agg [(.pv (.bool r1)), (.pv (T_id_halves.pv r2)), (.pv (.int .u64 r3)), (.pv (T_event_halves.pv r4))]), (.one (.pv (.int .i64 r5)))], [], [])
/-! ### stamp_Stamp_out -/
def stamp_Stamp_out (x : Bool) (x2 : T_id_halves) (x3 : Int) (x4 : T_event_halves) (e : Int) (l : List Int) (n : Int) (n2 : Int) : Bool × T_id_halves × Int × T_event_halves × Int × Int → Res
  | (r1, r2, r3, r4, r5, r6) => ([(.agg [(.pv (.bool r1)), (.pv (T_id_halves.pv r2)), (.pv (.int .u64 r3)), (.pv (T_event_halves.pv r4))]), (.one (.pv (.int .i64 r5)))], [[(.pv (.ints .u8 l false)), (.pv (.int .i64 n)), (.pv (.int .i64 r6))]], [])
/-! ### stamp_Stamp -/
noncomputable def stamp_Stamp (x : Bool) (x2 : T_id_halves) (x3 : Int) (x4 : T_event_halves) (e : Int) (l : List Int) (n : Int) (n2 : Int) : Option (Bool × T_id_halves × Int × T_event_halves × Int × Int) :=
  bif (decide ((e : Int) = 0)) then
    (bits_Reader_End l n n2).bind fun (n3, n4) =>
    bif (decide ((n3 : Int) = 0)) then
      some (x, x2, x3, x4, 0, n4)
    else
      some (false, T_id_halves.nil, 0, T_event_halves.nil, n3, n4)
  else
    some (false, T_id_halves.nil, 0, T_event_halves.nil, e, n2)
theorem stamp_Stamp_runs (x : Bool) (x2 : T_id_halves) (x3 : Int) (x4 : T_event_halves) (e : Int) (l : List Int) (n : Int) (n2 : Int) (r_ : Bool × T_id_halves × Int × T_event_halves × Int × Int) (h : stamp_Stamp x x2 x3 x4 e l n n2 = some r_) : Runs Try.prog 57 [(.one (.ref 0 0)), (.agg [(.pv (.bool x)), (.pv (T_id_halves.pv x2)), (.pv (.int .u64 x3)), (.pv (T_event_halves.pv x4))]), (.one (.pv (.int .i64 e)))] [[(.pv (.ints .u8 l false)), (.pv (.int .i64 n)), (.pv (.int .i64 n2))]] [] (stamp_Stamp_out x x2 x3 x4 e l n n2 r_) := by
  unfold stamp_Stamp at h
  rcases cond_of h with ⟨h1, h⟩ | ⟨h1, h⟩
  · obtain ⟨⟨n3, n4⟩, h2, h⟩ := bind_of h
    rcases cond_of h with ⟨h3, h⟩ | ⟨h3, h⟩
    · have h := some_of h
      subst h
      exact runs_of (C := cfg) (objs := [[(.pv (.ints .u8 l false)), (.pv (.int .i64 n)), (.pv (.int .i64 n2))]]) (sc := [.br false, .res (bits_Reader_End_out l n n2 (n3, n4)), .br false]) (.k0 (an_ (not_of2 h1) (an_ (bits_Reader_End_runs l n n2 _ h2) (an_ (not_of2 h3) trivial))) (by kernel_rfl))
    · have h := some_of h
      subst h
      have e_ : Runs Try.prog 57 [(.one (.ref 0 0)), (.agg [(.pv (.bool x)), (.pv (T_id_halves.pv x2)), (.pv (.int .u64 x3)), (.pv (T_event_halves.pv x4))]), (.one (.pv (.int .i64 e)))] [[(.pv (.ints .u8 l false)), (.pv (.int .i64 n)), (.pv (.int .i64 n2))]] [] ([(.agg [(.pv (.bool false)), (.pv .nilp), (.pv (.int .u64 0)), (.pv .nilp)]), (.one (.pv (.int .i64 n3)))], [[(.pv (.ints .u8 l false)), (.pv (.int .i64 n)), (.pv (.int .i64 n4))]], []) := runs_of (C := cfg) (objs := [[(.pv (.ints .u8 l false)), (.pv (.int .i64 n)), (.pv (.int .i64 n2))]]) (sc := [.br false, .res (bits_Reader_End_out l n n2 (n3, n4)), .br true]) (.k0 (an_ (not_of2 h1) (an_ (bits_Reader_End_runs l n n2 _ h2) (an_ (not_of h3) trivial))) (by kernel_rfl))
      exact e_.out ⟨⟨.eq rfl, .eq rfl, .eq rfl, .eq rfl, trivial⟩, .eq rfl, trivial⟩ ⟨⟨.eq rfl, .eq rfl, .eq rfl, trivial⟩, trivial⟩ trivial rfl
  · have h := some_of h
    subst h
    have e_ : Runs Try.prog 57 [(.one (.ref 0 0)), (.agg [(.pv (.bool x)), (.pv (T_id_halves.pv x2)), (.pv (.int .u64 x3)), (.pv (T_event_halves.pv x4))]), (.one (.pv (.int .i64 e)))] [[(.pv (.ints .u8 l false)), (.pv (.int .i64 n)), (.pv (.int .i64 n2))]] [] ([(.agg [(.pv (.bool false)), (.pv .nilp), (.pv (.int .u64 0)), (.pv .nilp)]), (.one (.pv (.int .i64 e)))], [[(.pv (.ints .u8 l false)), (.pv (.int .i64 n)), (.pv (.int .i64 n2))]], []) := runs_of (C := cfg) (objs := [[(.pv (.ints .u8 l false)), (.pv (.int .i64 n)), (.pv (.int .i64 n2))]]) (sc := [.br true]) (.k0 (an_ (not_of h1) trivial) (by kernel_rfl))
    exact e_.out ⟨⟨.eq rfl, .eq rfl, .eq rfl, .eq rfl, trivial⟩, .eq rfl, trivial⟩ ⟨⟨.eq rfl, .eq rfl, .eq rfl, trivial⟩, trivial⟩ trivial rfl
/-! ### code_ReadStamp -/
noncomputable def code_ReadStamp (N : Nat) (p : List Int) : Option (Bool × T_id_halves × Int × T_event_halves × Int) :=
  (bits_NewReader p).bind fun _ =>
  (code_GetID N p 0 0).bind fun (b, t, n, n2, n3) =>
  bif (decide ((n : Int) = 0)) then
    (code_GetEvent N p n2 n3).bind fun (n4, t2, n5, n6, n7) =>
    (stamp_Stamp b t n4 t2 n5 p n6 n7).bind fun (b2, t3, n8, t4, n9, n10) =>
    some (b2, t3, n8, t4, n9)
  else
    some (false, T_id_halves.nil, 0, T_event_halves.nil, n)
theorem code_ReadStamp_runs (N : Nat) (p : List Int) (r_ : Bool × T_id_halves × Int × T_event_halves × Int) (h : code_ReadStamp N p = some r_) : Runs Try.prog 25 [(.one (.pv (.ints .u8 p false)))] [] [] (code_ReadStamp_out p r_) := by
  unfold code_ReadStamp at h
  obtain ⟨_, h1, h⟩ := bind_of h
  obtain ⟨⟨b, t, n, n2, n3⟩, h2, h⟩ := bind_of h
  rcases cond_of h with ⟨h3, h⟩ | ⟨h3, h⟩
  · obtain ⟨⟨n4, t2, n5, n6, n7⟩, h4, h⟩ := bind_of h
    obtain ⟨⟨b2, t3, n8, t4, n9, n10⟩, h5, h⟩ := bind_of h
    have h := some_of h
    subst h
    exact runs_of (C := cfg) (objs := []) (sc := [.res (bits_NewReader_out p ()), .res (code_GetID_out p 0 0 (b, t, n, n2, n3)), .br false, .res (code_GetEvent_out p n2 n3 (n4, t2, n5, n6, n7)), .res (stamp_Stamp_out b t n4 t2 n5 p n6 n7 (b2, t3, n8, t4, n9, n10))]) (.k0 (an_ (bits_NewReader_runs p _ h1) (an_ (code_GetID_runs N p 0 0 _ h2) (an_ (not_of2 h3) (an_ (code_GetEvent_runs N p n2 n3 _ h4) (an_ (stamp_Stamp_runs b t n4 t2 n5 p n6 n7 _ h5) trivial))))) (by kernel_rfl))
  · have h := some_of h
    subst h
    have e_ : Runs Try.prog 25 [(.one (.pv (.ints .u8 p false)))] [] [] ([(.agg [(.pv (.bool false)), (.pv .nilp), (.pv (.int .u64 0)), (.pv .nilp)]), (.one (.pv (.int .i64 n)))], [], []) := runs_of (C := cfg) (objs := []) (sc := [.res (bits_NewReader_out p ()), .res (code_GetID_out p 0 0 (b, t, n, n2, n3)), .br true]) (.k0 (an_ (bits_NewReader_runs p _ h1) (an_ (code_GetID_runs N p 0 0 _ h2) (an_ (not_of h3) trivial))) (by kernel_rfl))
    exact e_.out ⟨⟨.eq rfl, .eq rfl, .eq rfl, .eq rfl, trivial⟩, .eq rfl, trivial⟩ trivial trivial rfl
/-! ### code_ReadID_out -/
def code_ReadID_out (p : List Int) : Bool × T_id_halves × Int → Res
  | (r1, r2, r3) => ([(.agg [(.pv (.bool r1)), (.pv (T_id_halves.pv r2))]), (.one (.pv (.int .i64 r3)))], [], [])
/-! ### id_ID_out -/
def id_ID_out (x : Bool) (x2 : T_id_halves) (e : Int) (l : List Int) (n : Int) (n2 : Int) : Bool × T_id_halves × Int × Int → Res
  | (r1, r2, r3, r4) => ([(.agg [(.pv (.bool r1)), (.pv (T_id_halves.pv r2))]), (.one (.pv (.int .i64 r3)))], [[(.pv (.ints .u8 l false)), (.pv (.int .i64 n)), (.pv (.int .i64 r4))]], [])
/-! ### id_ID -/
noncomputable def id_ID (x : Bool) (x2 : T_id_halves) (e : Int) (l : List Int) (n : Int) (n2 : Int) : Option (Bool × T_id_halves × Int × Int) :=
  bif (decide ((e : Int) = 0)) then
    (bits_Reader_End l n n2).bind fun (n3, n4) =>
    bif (decide ((n3 : Int) = 0)) then
      some (x, x2, 0, n4)
    else
      some (false, T_id_halves.nil, n3, n4)
  else
    some (false, T_id_halves.nil, e, n2)
theorem id_ID_runs (x : Bool) (x2 : T_id_halves) (e : Int) (l : List Int) (n : Int) (n2 : Int) (r_ : Bool × T_id_halves × Int × Int) (h : id_ID x x2 e l n n2 = some r_) : Runs Try.prog 58 [(.one (.ref 0 0)), (.agg [(.pv (.bool x)), (.pv (T_id_halves.pv x2))]), (.one (.pv (.int .i64 e)))] [[(.pv (.ints .u8 l false)), (.pv (.int .i64 n)), (.pv (.int .i64 n2))]] [] (id_ID_out x x2 e l n n2 r_) := by
  unfold id_ID at h
  rcases cond_of h with ⟨h1, h⟩ | ⟨h1, h⟩
  · obtain ⟨⟨n3, n4⟩, h2, h⟩ := bind_of h
    rcases cond_of h with ⟨h3, h⟩ | ⟨h3, h⟩
    · have h := some_of h
      subst h
      exact runs_of (C := cfg) (objs := [[(.pv (.ints .u8 l false)), (.pv (.int .i64 n)), (.pv (.int .i64 n2))]]) (sc := [.br false, .res (bits_Reader_End_out l n n2 (n3, n4)), .br false]) (.k0 (an_ (not_of2 h1) (an_ (bits_Reader_End_runs l n n2 _ h2) (an_ (not_of2 h3) trivial))) (by kernel_rfl))
    · have h := some_of h
      subst h
      have e_ : Runs Try.prog 58 [(.one (.ref 0 0)), (.agg [(.pv (.bool x)), (.pv (T_id_halves.pv x2))]), (.one (.pv (.int .i64 e)))] [[(.pv (.ints .u8 l false)), (.pv (.int .i64 n)), (.pv (.int .i64 n2))]] [] ([(.agg [(.pv (.bool false)), (.pv .nilp)]), (.one (.pv (.int .i64 n3)))], [[(.pv (.ints .u8 l false)), (.pv (.int .i64 n)), (.pv (.int .i64 n4))]], []) := runs_of (C := cfg) (objs := [[(.pv (.ints .u8 l false)), (.pv (.int .i64 n)), (.pv (.int .i64 n2))]]) (sc := [.br false, .res (bits_Reader_End_out l n n2 (n3, n4)), .br true]) (.k0 (an_ (not_of2 h1) (an_ (bits_Reader_End_runs l n n2 _ h2) (an_ (not_of h3) trivial))) (by kernel_rfl))
      exact e_.out ⟨⟨.eq rfl, .eq rfl, trivial⟩, .eq rfl, trivial⟩ ⟨⟨.eq rfl, .eq rfl, .eq rfl, trivial⟩, trivial⟩ trivial rfl
  · have h := some_of h
    subst h
    have e_ : Runs Try.prog 58 [(.one (.ref 0 0)), (.agg [(.pv (.bool x)), (.pv (T_id_halves.pv x2))]), (.one (.pv (.int .i64 e)))] [[(.pv (.ints .u8 l false)), (.pv (.int .i64 n)), (.pv (.int .i64 n2))]] [] ([(.agg [(.pv (.bool false)), (.pv .nilp)]), (.one (.pv (.int .i64 e)))], [[(.pv (.ints .u8 l false)), (.pv (.int .i64 n)), (.pv (.int .i64 n2))]], []) := runs_of (C := cfg) (objs := [[(.pv (.ints .u8 l false)), (.pv (.int .i64 n)), (.pv (.int .i64 n2))]]) (sc := [.br true]) (.k0 (an_ (not_of h1) trivial) (by kernel_rfl))
    exact e_.out ⟨⟨.eq rfl, .eq rfl, trivial⟩, .eq rfl, trivial⟩ ⟨⟨.eq rfl, .eq rfl, .eq rfl, trivial⟩, trivial⟩ trivial rfl
/-! ### code_ReadID -/
noncomputable def code_ReadID (N : Nat) (p : List Int) : Option (Bool × T_id_halves × Int) :=
  (bits_NewReader p).bind fun _ =>
  (code_GetID N p 0 0).bind fun (b, t, n, n2, n3) =>
  (id_ID b t n p n2 n3).bind fun (b2, t2, n4, n5) =>
  some (b2, t2, n4)
theorem code_ReadID_runs (N : Nat) (p : List Int) (r_ : Bool × T_id_halves × Int) (h : code_ReadID N p = some r_) : Runs Try.prog 26 [(.one (.pv (.ints .u8 p false)))] [] [] (code_ReadID_out p r_) := by
  unfold code_ReadID at h
  obtain ⟨_, h1, h⟩ := bind_of h
  obtain ⟨⟨b, t, n, n2, n3⟩, h2, h⟩ := bind_of h
  obtain ⟨⟨b2, t2, n4, n5⟩, h3, h⟩ := bind_of h
  have h := some_of h
  subst h
  exact runs_of (C := cfg) (objs := []) (sc := [.res (bits_NewReader_out p ()), .res (code_GetID_out p 0 0 (b, t, n, n2, n3)), .res (id_ID_out b t n p n2 n3 (b2, t2, n4, n5))]) (.k0 (an_ (bits_NewReader_runs p _ h1) (an_ (code_GetID_runs N p 0 0 _ h2) (an_ (id_ID_runs b t n p n2 n3 _ h3) trivial))) (by kernel_rfl))
/-! ### code_ReadEvent_out -/
def code_ReadEvent_out (p : List Int) : Int × T_event_halves × Int → Res
  | (r1, r2, r3) => ([(.agg [(.pv (.int .u64 r1)), (.pv (T_event_halves.pv r2))]), (.one (.pv (.int .i64 r3)))], [], [])
/-! ### event_Event_out -/
def event_Event_out (x : Int) (x2 : T_event_halves) (e : Int) (l : List Int) (n : Int) (n2 : Int) : Int × T_event_halves × Int × Int → Res
  | (r1, r2, r3, r4) => ([(.agg [(.pv (.int .u64 r1)), (.pv (T_event_halves.pv r2))]), (.one (.pv (.int .i64 r3)))], [[(.pv (.ints .u8 l false)), (.pv (.int .i64 n)), (.pv (.int .i64 r4))]], [])
/-! ### event_Event -/
noncomputable def event_Event (x : Int) (x2 : T_event_halves) (e : Int) (l : List Int) (n : Int) (n2 : Int) : Option (Int × T_event_halves × Int × Int) :=
  bif (decide ((e : Int) = 0)) then
    (bits_Reader_End l n n2).bind fun (n3, n4) =>
    bif (decide ((n3 : Int) = 0)) then
      some (x, x2, 0, n4)
    else
      some (0, T_event_halves.nil, n3, n4)
  else
    some (0, T_event_halves.nil, e, n2)
theorem event_Event_runs (x : Int) (x2 : T_event_halves) (e : Int) (l : List Int) (n : Int) (n2 : Int) (r_ : Int × T_event_halves × Int × Int) (h : event_Event x x2 e l n n2 = some r_) : Runs Try.prog 59 [(.one (.ref 0 0)), (.agg [(.pv (.int .u64 x)), (.pv (T_event_halves.pv x2))]), (.one (.pv (.int .i64 e)))] [[(.pv (.ints .u8 l false)), (.pv (.int .i64 n)), (.pv (.int .i64 n2))]] [] (event_Event_out x x2 e l n n2 r_) := by
  unfold event_Event at h
  rcases cond_of h with ⟨h1, h⟩ | ⟨h1, h⟩
  · obtain ⟨⟨n3, n4⟩, h2, h⟩ := bind_of h
    rcases cond_of h with ⟨h3, h⟩ | ⟨h3, h⟩
    · have h := some_of h
      subst h
      exact runs_of (C := cfg) (objs := [[(.pv (.ints .u8 l false)), (.pv (.int .i64 n)), (.pv (.int .i64 n2))]]) (sc := [.br false, .res (bits_Reader_End_out l n n2 (n3, n4)), .br false]) (.k0 (an_ (not_of2 h1) (an_ (bits_Reader_End_runs l n n2 _ h2) (an_ (not_of2 h3) trivial))) (by kernel_rfl))
    · have h := some_of h
      subst h
      have e_ : Runs Try.prog 59 [(.one (.ref 0 0)), (.agg [(.pv (.int .u64 x)), (.pv (T_event_halves.pv x2))]), (.one (.pv (.int .i64 e)))] [[(.pv (.ints .u8 l false)), (.pv (.int .i64 n)), (.pv (.int .i64 n2))]] [] ([(.agg [(.pv (.int .u64 0)), (.pv .nilp)]), (.one (.pv (.int .i64 n3)))], [[(.pv (.ints .u8 l false)), (.pv (.int .i64 n)), (.pv (.int .i64 n4))]], []) := runs_of (C := cfg) (objs := [[(.pv (.ints .u8 l false)), (.pv (.int .i64 n)), (.pv (.int .i64 n2))]]) (sc := [.br false, .res (bits_Reader_End_out l n n2 (n3, n4)), .br true]) (.k0 (an_ (not_of2 h1) (an_ (bits_Reader_End_runs l n n2 _ h2) (an_ (not_of h3) trivial))) (by kernel_rfl))
      exact e_.out ⟨⟨.eq rfl, .eq rfl, trivial⟩, .eq rfl, trivial⟩ ⟨⟨.eq rfl, .eq rfl, .eq rfl, trivial⟩, trivial⟩ trivial rfl
  · have h := some_of h
    subst h
    have e_ : Runs Try.prog 59 [(.one (.ref 0 0)), (.agg [(.pv (.int .u64 x)), (.pv (T_event_halves.pv x2))]), (.one (.pv (.int .i64 e)))] [[(.pv (.ints .u8 l false)), (.pv (.int .i64 n)), (.pv (.int .i64 n2))]] [] ([(.agg [(.pv (.int .u64 0)), (.pv .nilp)]), (.one (.pv (.int .i64 e)))], [[(.pv (.ints .u8 l false)), (.pv (.int .i64 n)), (.pv (.int .i64 n2))]], []) := runs_of (C := cfg) (objs := [[(.pv (.ints .u8 l false)), (.pv (.int .i64 n)), (.pv (.int .i64 n2))]]) (sc := [.br true]) (.k0 (an_ (not_of h1) trivial) (by kernel_rfl))
    exact e_.out ⟨⟨.eq rfl, .eq rfl, trivial⟩, .eq rfl, trivial⟩ ⟨⟨.eq rfl, .eq rfl, .eq rfl, trivial⟩, trivial⟩ trivial rfl
/-! ### code_ReadEvent -/
noncomputable def code_ReadEvent (N : Nat) (p : List Int) : Option (Int × T_event_halves × Int) :=
  (bits_NewReader p).bind fun _ =>
  (code_GetEvent N p 0 0).bind fun (n, t, n2, n3, n4) =>
  (event_Event n t n2 p n3 n4).bind fun (n5, t2, n6, n7) =>
  some (n5, t2, n6)
theorem code_ReadEvent_runs (N : Nat) (p : List Int) (r_ : Int × T_event_halves × Int) (h : code_ReadEvent N p = some r_) : Runs Try.prog 27 [(.one (.pv (.ints .u8 p false)))] [] [] (code_ReadEvent_out p r_) := by
  unfold code_ReadEvent at h
  obtain ⟨_, h1, h⟩ := bind_of h
  obtain ⟨⟨n, t, n2, n3, n4⟩, h2, h⟩ := bind_of h
  obtain ⟨⟨n5, t2, n6, n7⟩, h3, h⟩ := bind_of h
  have h := some_of h
  subst h
  exact runs_of (C := cfg) (objs := []) (sc := [.res (bits_NewReader_out p ()), .res (code_GetEvent_out p 0 0 (n, t, n2, n3, n4)), .res (event_Event_out n t n2 p n3 n4 (n5, t2, n6, n7))]) (.k0 (an_ (bits_NewReader_runs p _ h1) (an_ (code_GetEvent_runs N p 0 0 _ h2) (an_ (event_Event_runs n t n2 p n3 n4 _ h3) trivial))) (by kernel_rfl))
/-! ### kinfolkref07_Stamp_out -/
def kinfolkref07_Stamp_out (s : T_kinfolkref01_ID) (s2 : T_kinfolkref02_Event) : List Bool → Res
  | r1 => ([(.one (.own 0 0 (r1).length false))], [], [(.bools r1)])
/-! ### kinfolkref07_ID_out -/
def kinfolkref07_ID_out (l : List Bool) (i : T_kinfolkref01_ID) : List Bool → Res
  | r1 => ([(.one (.own 0 0 (r1).length false))], [], [(.bools r1)])
/-! ### kinfolkref05_Put_out -/
def kinfolkref05_Put_out (l : List Bool) (n : Int) (k : Int) : List Bool → Res
  | r1 => ([(.one (.own 0 0 (r1).length false))], [], [(.bools r1)])
/-! ### kinfolkref05_within_out -/
def kinfolkref05_within_out (k : Int) : Int → Res
  | r1 => ([(.one (.pv (.int .i64 r1)))], [], [])
/-! ### kinfolkref05_within -/
noncomputable def kinfolkref05_within (k : Int) : Option (Int) :=
  bif (decide ((k : Int) < 0)) then
    some 0
  else
    bif (decide ((64 : Int) < k)) then
      some 64
    else
      some k
theorem kinfolkref05_within_runs (k : Int) (r_ : Int) (h : kinfolkref05_within k = some r_) : Runs Try.prog 78 [(.one (.pv (.int .i64 k)))] [] [] (kinfolkref05_within_out k r_) := by
  unfold kinfolkref05_within at h
  rcases cond_of h with ⟨h1, h⟩ | ⟨h1, h⟩
  · have h := some_of h
    subst h
    exact runs_of (C := cfg) (objs := []) (sc := [.br true]) (.k0 (an_ h1 trivial) (by kernel_rfl))
  · rcases cond_of h with ⟨h2, h⟩ | ⟨h2, h⟩
    · have h := some_of h
      subst h
      exact runs_of (C := cfg) (objs := []) (sc := [.br false, .br true]) (.k0 (an_ h1 (an_ h2 trivial)) (by kernel_rfl))
    · have h := some_of h
      subst h
      exact runs_of (C := cfg) (objs := []) (sc := [.br false, .br false]) (.k0 (an_ h1 (an_ h2 trivial)) (by kernel_rfl))
/-! ### kinfolkref05_Put_L0_2 -/
def kinfolkref05_Put_L0_2_st (l : List Bool) (k : Int) : Int × Int × List Bool → St
  | (n, i, l2) => ⟨[(0, (.av (.one (.pv (.bools l false))))), (1, (.av (.one (.pv (.int .u64 n))))), (2, (.av (.one (.pv (.int .i64 k))))), (7, (.av (.one (.own 0 0 (l2).length false)))), (8, (.av (.one (.pv (.int .i64 i)))))], [], [(0, (.live (.bools l2)))]⟩
def kinfolkref05_Put_L0_2_ex (l : List Bool) (k : Int) : List Bool → Ex × St
  | r1 => ((.exit 0), ⟨[(0, (.av (.one (.pv (.bools l false))))), (7, (.av (.one (.own 0 0 (r1).length false))))], [], [(0, (.live (.bools r1)))]⟩)
noncomputable def kinfolkref05_Put_L0_2_step (l : List Bool) (k : Int) : Int × Int × List Bool → Option ((Int × Int × List Bool) ⊕ (List Bool))
  | (n, i, l2) =>
  (kinfolkref05_within k).bind fun n2 =>
  bif (decide ((i : Int) < n2)) then
    bif Nat.beq ((List.take (l2).length l2)).length 0 then
      some (.inl ((iquo .u64 n 2), (iadd .i64 i 1), [(decide (((irem .u64 n 2) : Int) = 1))]))
    else
      bif fits (([(decide (((irem .u64 n 2) : Int) = 1))] ++ (List.take (l2).length l2))).length then
      some (.inl ((iquo .u64 n 2), (iadd .i64 i 1), ([(decide (((irem .u64 n 2) : Int) = 1))] ++ l2)))
      else none
  else
    some (.inr l2)
theorem kinfolkref05_Put_L0_2_ok (l : List Bool) (k : Int) (s_ : Int × Int × List Bool) (z_ : (Int × Int × List Bool) ⊕ (List Bool)) (h : kinfolkref05_Put_L0_2_step l k s_ = some z_) : RoundOk Try.prog cfg 60 0 (loopAt Try.prog 60 0) (kinfolkref05_Put_L0_2_st l k) (kinfolkref05_Put_L0_2_ex l k) s_ z_ := by
  rcases s_ with ⟨n, i, l2⟩
  obtain ⟨n2, h1, h⟩ := bind_of h
  rcases cond_of h with ⟨h2, h⟩ | ⟨h2, h⟩
  · rcases cond_of h with ⟨h3, h⟩ | ⟨h3, h⟩
    · have h := some_of h
      subst h
      exact ⟨[.res (kinfolkref05_within_out k n2), .br true, .br true], ⟨[(0, (.av (.one (.pv (.bools l false))))), (1, (.av (.one (.pv (.int .u64 (iquo .u64 n 2)))))), (2, (.av (.one (.pv (.int .i64 k))))), (7, (.av (.one (.own 0 0 1 false)))), (8, (.av (.one (.pv (.int .i64 (iadd .i64 i 1))))))], [], [(0, (.live (.bools [(decide (((irem .u64 n 2) : Int) = 1))])))]⟩, .k0 (an_ (kinfolkref05_within_runs k _ h1) (an_ h2 (an_ (rfl : true = true) (an_ h3 (an_ (rfl : true = true) trivial))))) (by kernel_rfl), ⟨⟨⟨_, rfl, .eq rfl⟩, ⟨_, rfl, .eq rfl⟩, ⟨_, rfl, .eq rfl⟩, ⟨_, rfl, .own (by first | rfl | (simp only [List.take_length]; done) | (simp only [List.take_length, List.length_append, List.drop_zero, List.map_append, List.map_take, List.map_drop, List.map_cons, List.map_nil, List.append_nil, List.nil_append, E_event_Event.pv]; done) | (simp; done))⟩, ⟨_, rfl, .eq rfl⟩, trivial⟩, trivial, ⟨⟨rfl, .eq rfl⟩, trivial⟩⟩⟩
    · obtain ⟨h4, h⟩ := need_of h
      have h := some_of h
      subst h
      exact ⟨[.res (kinfolkref05_within_out k n2), .br true, .br false], ⟨[(0, (.av (.one (.pv (.bools l false))))), (1, (.av (.one (.pv (.int .u64 (iquo .u64 n 2)))))), (2, (.av (.one (.pv (.int .i64 k))))), (7, (.av (.one (.own 0 0 (([(decide (((irem .u64 n 2) : Int) = 1))] ++ (List.take (l2).length l2))).length false)))), (8, (.av (.one (.pv (.int .i64 (iadd .i64 i 1))))))], [], [(0, (.live (.bools ([(decide (((irem .u64 n 2) : Int) = 1))] ++ (List.take (l2).length l2)))))]⟩, .k0 (an_ (kinfolkref05_within_runs k _ h1) (an_ h2 (an_ (rfl : true = true) (an_ (not_of h3) (an_ h4 (an_ (rfl : true = true) trivial)))))) (by kernel_rfl), ⟨⟨⟨_, rfl, .eq rfl⟩, ⟨_, rfl, .eq rfl⟩, ⟨_, rfl, .eq rfl⟩, ⟨_, rfl, .own (by first | rfl | (simp only [List.take_length]; done) | (simp only [List.take_length, List.length_append, List.drop_zero, List.map_append, List.map_take, List.map_drop, List.map_cons, List.map_nil, List.append_nil, List.nil_append, E_event_Event.pv]; done) | (simp; done))⟩, ⟨_, rfl, .eq rfl⟩, trivial⟩, trivial, ⟨⟨rfl, .eq (by first | rfl | (simp only [List.take_length]; done) | (simp only [List.take_length, List.length_append, List.drop_zero, List.map_append, List.map_take, List.map_drop, List.map_cons, List.map_nil, List.append_nil, List.nil_append, E_event_Event.pv]; done) | (simp; done))⟩, trivial⟩⟩⟩
  · have h := some_of h
    subst h
    exact ⟨[.res (kinfolkref05_within_out k n2), .br false], ⟨[(12, (.av (.one (.pv (.bool false))))), (0, (.av (.one (.pv (.bools l false))))), (1, (.av (.one (.pv (.int .u64 n))))), (2, (.av (.one (.pv (.int .i64 k))))), (7, (.av (.one (.own 0 0 (l2).length false)))), (8, (.av (.one (.pv (.int .i64 i))))), (12, (.av (.one (.pv (.bool (decide ((i : Int) < n2)))))))], [], [(0, (.live (.bools l2)))]⟩, .k0 (an_ (kinfolkref05_within_runs k _ h1) (an_ h2 trivial)) (by kernel_rfl), ⟨⟨⟨_, rfl, .eq rfl⟩, ⟨_, rfl, .eq rfl⟩, trivial⟩, trivial, ⟨⟨rfl, .eq rfl⟩, trivial⟩⟩⟩
theorem kinfolkref05_Put_L0_2_runs (l : List Bool) (k : Int) (s_ : Int × Int × List Bool) (r_ : List Bool) (h : runL (kinfolkref05_Put_L0_2_step l k) s_ = some r_) : LRuns Try.prog (lEnv Try.prog cfg 60 0).nt 0 (.loop (loopAt Try.prog 60 0)) (kinfolkref05_Put_L0_2_st l k s_) (kinfolkref05_Put_L0_2_ex l k r_).1 (kinfolkref05_Put_L0_2_ex l k r_).2 :=
  loop_run h (kinfolkref05_Put_L0_2_ok l k) (by intro r_; rcases r_ with r1 <;> simp [kinfolkref05_Put_L0_2_ex])

end Go.Proofs.Ytjjakdmcnkldoaa
