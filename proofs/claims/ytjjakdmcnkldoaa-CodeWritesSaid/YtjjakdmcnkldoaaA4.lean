/- What functions compute, and that they do. -/
import Derived.Test.YtjjakdmcnkldoaaA3
set_option linter.unusedVariables false
set_option linter.unusedSimpArgs false
namespace Go.Proofs.Ytjjakdmcnkldoaa
open Go.Ev

/-! ### code_source_event_C62 -/
def code_source_event_C62_ex (depth : Int) (base : Int) (left : Bool) (right : Bool) (b : Bool) (n : Int) (l : List Int) (n2 : Int) (n3 : Int) (n4 : Int) (t : T_event_halves) : Int × Int × Int × Int × T_event_halves → Ex × St
  | (r1, r2, r3, r4, r5) => (.normal, ⟨[(0, (.av (.one (.ref 0 0)))), (4, (.av (.one (.ref 2 0)))), (7, (.av (.one (.ref 3 0)))), (8, (.av (.one (.ref 4 0)))), (9, (.av (.one (.pv (.int .u64 base))))), (11, (.av (.one (.pv (.bool left))))), (12, (.av (.one (.pv (.bool right)))))], [(0, [(.ref 1 0), (.pv (.int .i64 r1))]), (1, [(.pv (.ints .u8 l false)), (.pv (.int .i64 r2)), (.pv (.int .i64 r3))]), (2, [(.pv (.int .u64 0)), (.pv (T_event_halves.pv T_event_halves.nil))]), (3, [(.pv (.int .u64 n4)), (.pv (T_event_halves.pv t))]), (4, [(.pv (.int .u64 r4)), (.pv (T_event_halves.pv r5))])], []⟩)
noncomputable def code_source_event_C62 (rec_code_source_event_2 : Int → Int → List Int → Int → Int → Option (Int × T_event_halves × Int × Int × Int)) (depth : Int) (base : Int) (left : Bool) (right : Bool) (b : Bool) (n : Int) (l : List Int) (n2 : Int) (n3 : Int) (n4 : Int) (t : T_event_halves) : Option (Int × Int × Int × Int × T_event_halves) :=
  bif b then
    (rec_code_source_event_2 (iadd .i64 depth 1) n l n2 n3).bind fun (n5, t2, n6, n7, n8) =>
    some (n6, n7, n8, n5, t2)
  else
    some (n, n2, n3, 0, T_event_halves.nil)
theorem code_source_event_C62_runs (rec_code_source_event_2 : Int → Int → List Int → Int → Int → Option (Int × T_event_halves × Int × Int × Int)) (hrec_code_source_event_2 : ∀ depth n l n2 n3 r_, rec_code_source_event_2 depth n l n2 n3 = some r_ → Runs Try.prog 51 [(.one (.ref 0 0)), (.one (.pv (.int .i64 depth)))] [[(.ref 1 0), (.pv (.int .i64 n))], [(.pv (.ints .u8 l false)), (.pv (.int .i64 n2)), (.pv (.int .i64 n3))]] [] (code_source_event_2_out depth n l n2 n3 r_)) (depth : Int) (base : Int) (left : Bool) (right : Bool) (b : Bool) (n : Int) (l : List Int) (n2 : Int) (n3 : Int) (n4 : Int) (t : T_event_halves) (r_ : Int × Int × Int × Int × T_event_halves) (h : code_source_event_C62 rec_code_source_event_2 depth base left right b n l n2 n3 n4 t = some r_) : LRuns Try.prog (lEnv Try.prog cfg 51 2).nt 2 (.cond (.tmp 62) (condAt Try.prog 51 62).1 (condAt Try.prog 51 62).2) ⟨[(0, (.av (.one (.ref 0 0)))), (1, (.av (.one (.pv (.int .i64 depth))))), (4, (.av (.one (.ref 2 0)))), (7, (.av (.one (.ref 3 0)))), (8, (.av (.one (.ref 4 0)))), (9, (.av (.one (.pv (.int .u64 base))))), (11, (.av (.one (.pv (.bool left))))), (12, (.av (.one (.pv (.bool right))))), (62, (.av (.one (.pv (.bool b)))))], [(0, [(.ref 1 0), (.pv (.int .i64 n))]), (1, [(.pv (.ints .u8 l false)), (.pv (.int .i64 n2)), (.pv (.int .i64 n3))]), (2, [(.pv (.int .u64 0)), (.pv (T_event_halves.pv T_event_halves.nil))]), (3, [(.pv (.int .u64 n4)), (.pv (T_event_halves.pv t))]), (4, [(.pv (.int .u64 0)), (.pv (T_event_halves.pv T_event_halves.nil))])], []⟩ (code_source_event_C62_ex depth base left right b n l n2 n3 n4 t r_).1 (code_source_event_C62_ex depth base left right b n l n2 n3 n4 t r_).2 := by
  unfold code_source_event_C62 at h
  rcases cond_of h with ⟨h1, h⟩ | ⟨h1, h⟩
  · obtain ⟨⟨n5, t2, n6, n7, n8⟩, h2, h⟩ := bind_of h
    have h := some_of h
    subst h
    exact piece_ok (C := cfg) (sc := [.br true, .res (code_source_event_2_out (iadd .i64 depth 1) n l n2 n3 (n5, t2, n6, n7, n8))]) (.k0 (an_ h1 (an_ (hrec_code_source_event_2 (iadd .i64 depth 1) n l n2 n3 _ h2) trivial)) (by kernel_rfl))
  · have h := some_of h
    subst h
    exact piece_ok (C := cfg) (sc := [.br false]) (.k0 (an_ h1 trivial) (by kernel_rfl))
/-! ### code_source_event_C62_2 -/
def code_source_event_C62_2_ex (depth : Int) (base : Int) (left : Bool) (right : Bool) (b : Bool) (n : Int) (l : List Int) (n2 : Int) (n3 : Int) : Int × Int × Int × Int × T_event_halves → Ex × St
  | (r1, r2, r3, r4, r5) => (.normal, ⟨[(0, (.av (.one (.ref 0 0)))), (4, (.av (.one (.ref 2 0)))), (7, (.av (.one (.ref 3 0)))), (8, (.av (.one (.ref 4 0)))), (9, (.av (.one (.pv (.int .u64 base))))), (11, (.av (.one (.pv (.bool left))))), (12, (.av (.one (.pv (.bool right)))))], [(0, [(.ref 1 0), (.pv (.int .i64 r1))]), (1, [(.pv (.ints .u8 l false)), (.pv (.int .i64 r2)), (.pv (.int .i64 r3))]), (2, [(.pv (.int .u64 0)), (.pv (T_event_halves.pv T_event_halves.nil))]), (3, [(.pv (.int .u64 0)), (.pv (T_event_halves.pv T_event_halves.nil))]), (4, [(.pv (.int .u64 r4)), (.pv (T_event_halves.pv r5))])], []⟩)
noncomputable def code_source_event_C62_2 (rec_code_source_event_2 : Int → Int → List Int → Int → Int → Option (Int × T_event_halves × Int × Int × Int)) (depth : Int) (base : Int) (left : Bool) (right : Bool) (b : Bool) (n : Int) (l : List Int) (n2 : Int) (n3 : Int) : Option (Int × Int × Int × Int × T_event_halves) :=
  bif b then
    (rec_code_source_event_2 (iadd .i64 depth 1) n l n2 n3).bind fun (n4, t, n5, n6, n7) =>
    some (n5, n6, n7, n4, t)
  else
    some (n, n2, n3, 0, T_event_halves.nil)
theorem code_source_event_C62_2_runs (rec_code_source_event_2 : Int → Int → List Int → Int → Int → Option (Int × T_event_halves × Int × Int × Int)) (hrec_code_source_event_2 : ∀ depth n l n2 n3 r_, rec_code_source_event_2 depth n l n2 n3 = some r_ → Runs Try.prog 51 [(.one (.ref 0 0)), (.one (.pv (.int .i64 depth)))] [[(.ref 1 0), (.pv (.int .i64 n))], [(.pv (.ints .u8 l false)), (.pv (.int .i64 n2)), (.pv (.int .i64 n3))]] [] (code_source_event_2_out depth n l n2 n3 r_)) (depth : Int) (base : Int) (left : Bool) (right : Bool) (b : Bool) (n : Int) (l : List Int) (n2 : Int) (n3 : Int) (r_ : Int × Int × Int × Int × T_event_halves) (h : code_source_event_C62_2 rec_code_source_event_2 depth base left right b n l n2 n3 = some r_) : LRuns Try.prog (lEnv Try.prog cfg 51 2).nt 2 (.cond (.tmp 62) (condAt Try.prog 51 62).1 (condAt Try.prog 51 62).2) ⟨[(0, (.av (.one (.ref 0 0)))), (1, (.av (.one (.pv (.int .i64 depth))))), (4, (.av (.one (.ref 2 0)))), (7, (.av (.one (.ref 3 0)))), (8, (.av (.one (.ref 4 0)))), (9, (.av (.one (.pv (.int .u64 base))))), (11, (.av (.one (.pv (.bool left))))), (12, (.av (.one (.pv (.bool right))))), (62, (.av (.one (.pv (.bool b)))))], [(0, [(.ref 1 0), (.pv (.int .i64 n))]), (1, [(.pv (.ints .u8 l false)), (.pv (.int .i64 n2)), (.pv (.int .i64 n3))]), (2, [(.pv (.int .u64 0)), (.pv (T_event_halves.pv T_event_halves.nil))]), (3, [(.pv (.int .u64 0)), (.pv (T_event_halves.pv T_event_halves.nil))]), (4, [(.pv (.int .u64 0)), (.pv (T_event_halves.pv T_event_halves.nil))])], []⟩ (code_source_event_C62_2_ex depth base left right b n l n2 n3 r_).1 (code_source_event_C62_2_ex depth base left right b n l n2 n3 r_).2 := by
  unfold code_source_event_C62_2 at h
  rcases cond_of h with ⟨h1, h⟩ | ⟨h1, h⟩
  · obtain ⟨⟨n4, t, n5, n6, n7⟩, h2, h⟩ := bind_of h
    have h := some_of h
    subst h
    exact piece_ok (C := cfg) (sc := [.br true, .res (code_source_event_2_out (iadd .i64 depth 1) n l n2 n3 (n4, t, n5, n6, n7))]) (.k0 (an_ h1 (an_ (hrec_code_source_event_2 (iadd .i64 depth 1) n l n2 n3 _ h2) trivial)) (by kernel_rfl))
  · have h := some_of h
    subst h
    exact piece_ok (C := cfg) (sc := [.br false]) (.k0 (an_ h1 trivial) (by kernel_rfl))

end Go.Proofs.Ytjjakdmcnkldoaa
