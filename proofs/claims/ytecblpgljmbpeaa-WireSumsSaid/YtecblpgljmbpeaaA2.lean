/- What functions compute, and that they do. -/
import Derived.Test.YtecblpgljmbpeaaA1
set_option linter.unusedVariables false
set_option linter.unusedSimpArgs false
namespace Go.Proofs.Ytecblpgljmbpeaa
open Go.Ev

/-! ### kinfolkref06_Open -/
def kinfolkref06_Open_out (p : List Int) : List Int × Int × Int → Res
  | (r1, r2, r3) => ([(.one (.pv (.ints .u8 r1 false))), (.one (.pv (.int .i64 r2))), (.one (.pv (.int .i64 r3)))], [], [])
theorem kinfolkref06_Open_p0 (p : List Int) : evFn Try.prog cfg (Runs Try.prog) (LRuns Try.prog (lEnv Try.prog cfg 14 0).nt 0) 14 [(.one (.pv (.ints .u8 p false)))] [] []
    [.br true] =
  some (([(.one (.pv .nils)), (.one (.pv (.int .i64 0))), (.one (.pv (.int .i64 6)))], [], []), [
    (decide ((((p).length : Int) : Int) < 8)) = true]) := by kernel_rfl
theorem kinfolkref06_Open_p1 (p : List Int) (n : Int) : evFn Try.prog cfg (Runs Try.prog) (LRuns Try.prog (lEnv Try.prog cfg 14 0).nt 0) 14 [(.one (.pv (.ints .u8 p false)))] [] []
    [.br false, .res ([(.one (.pv (.int .u32 n)))], [], []), .br true] =
  some (([(.one (.pv .nils)), (.one (.pv (.int .i64 0))), (.one (.pv (.int .i64 9)))], [], []), [
    (decide ((((p).length : Int) : Int) < 8)) = false,
    Runs Try.prog 38 [(.one (.pv (.ints .u8 p false)))] [] [] ([(.one (.pv (.int .u32 n)))], [], []),
    (decide ((1048576 : Int) < n)) = true]) := by kernel_rfl
theorem kinfolkref06_Open_p2 (p : List Int) (n : Int) : evFn Try.prog cfg (Runs Try.prog) (LRuns Try.prog (lEnv Try.prog cfg 14 0).nt 0) 14 [(.one (.pv (.ints .u8 p false)))] [] []
    [.br false, .res ([(.one (.pv (.int .u32 n)))], [], []), .br false, .br true] =
  some (([(.one (.pv .nils)), (.one (.pv (.int .i64 0))), (.one (.pv (.int .i64 6)))], [], []), [
    (decide ((((p).length : Int) : Int) < 8)) = false,
    Runs Try.prog 38 [(.one (.pv (.ints .u8 p false)))] [] [] ([(.one (.pv (.int .u32 n)))], [], []),
    (decide ((1048576 : Int) < n)) = false,
    (decide ((((p).length : Int) : Int) < (iadd .i64 8 (IntKind.i64.wrap n)))) = true]) := by kernel_rfl
theorem kinfolkref06_Open_p3 (p : List Int) (n : Int) (n2 : Int) (l_ : List Int) (n3 : Int) (l_2 : List Int) : evFn Try.prog cfg (Runs Try.prog) (LRuns Try.prog (lEnv Try.prog cfg 14 0).nt 0) 14 [(.one (.pv (.ints .u8 p false)))] [] []
    [.br false, .res ([(.one (.pv (.int .u32 n)))], [], []), .br false, .br false, .res ([(.one (.pv (.int .u32 n2)))], [], []), .res ([(.one (.own 0 0 (l_).length false))], [], [(.ints .u8 l_)]), .res ([(.one (.pv (.int .u32 n3)))], [], []), .res ([(.one (.pv (.int .u32 n2)))], [], []), .res ([(.one (.own 0 0 (l_).length false))], [], [(.ints .u8 l_)]), .res ([(.one (.pv (.int .u32 n3)))], [], []), .br false, .res ([(.one (.own 0 0 (l_2).length false))], [], [(.ints .u8 l_2)])] =
  some (([(.one (.own 0 0 (l_2).length false)), (.one (.pv (.int .i64 (iadd .i64 8 (IntKind.i64.wrap n))))), (.one (.pv (.int .i64 0)))], [], [(.ints .u8 l_2)]), [
    (decide ((((p).length : Int) : Int) < 8)) = false,
    Runs Try.prog 38 [(.one (.pv (.ints .u8 p false)))] [] [] ([(.one (.pv (.int .u32 n)))], [], []),
    (decide ((1048576 : Int) < n)) = false,
    (decide ((((p).length : Int) : Int) < (iadd .i64 8 (IntKind.i64.wrap n)))) = false,
    (decide ((0 : Int) ≤ 4) && decide ((4 : Int) ≤ ((p).length : Int)) && decide ((((p).length : Int) : Int) ≤ ((p).length : Int)) && decide ((((p).length : Int) : Int) = ((p).length : Int))) = true,
    (decide ((0 : Int) ≤ 0) && decide ((0 : Int) ≤ 4) && decide ((4 : Int) ≤ ((p).length : Int)) && decide ((4 : Int) = 4)) = true,
    (decide ((0 : Int) ≤ 8) && decide ((8 : Int) ≤ (iadd .i64 8 (IntKind.i64.wrap n))) && decide (((iadd .i64 8 (IntKind.i64.wrap n)) : Int) ≤ ((p).length : Int)) && decide (((iadd .i64 8 (IntKind.i64.wrap n)) : Int) = (iadd .i64 8 (IntKind.i64.wrap n)))) = true,
    Runs Try.prog 38 [(.one (.pv (.ints .u8 (List.take (((p).length : Int) - 4).toNat (List.drop 4 p)) false)))] [] [] ([(.one (.pv (.int .u32 n2)))], [], []),
    Runs Try.prog 33 [(.one (.pv (.recs 1 [[(.ints .u8 (List.take 4 p) false)], [(.ints .u8 (List.take ((iadd .i64 8 (IntKind.i64.wrap n)) - 8).toNat (List.drop 8 p)) false)]] true)))] [] [] ([(.one (.own 0 0 (l_).length false))], [], [(.ints .u8 l_)]),
    Runs Try.prog 12 [(.one (.pv (.ints .u8 (List.take (l_).length l_) false)))] [] [] ([(.one (.pv (.int .u32 n3)))], [], []),
    Runs Try.prog 38 [(.one (.pv (.ints .u8 (List.take (((p).length : Int) - 4).toNat (List.drop 4 p)) false)))] [] [] ([(.one (.pv (.int .u32 n2)))], [], []),
    Runs Try.prog 33 [(.one (.pv (.recs 1 [[(.ints .u8 (List.take 4 p) false)], [(.ints .u8 (List.take ((iadd .i64 8 (IntKind.i64.wrap n)) - 8).toNat (List.drop 8 p)) false)]] true)))] [] [] ([(.one (.own 0 0 (l_).length false))], [], [(.ints .u8 l_)]),
    Runs Try.prog 12 [(.one (.pv (.ints .u8 (List.take (l_).length l_) false)))] [] [] ([(.one (.pv (.int .u32 n3)))], [], []),
    (⟨[(0, (.av (.one (.pv (.ints .u8 p false))))), (6, (.av (.one (.pv (.int .i64 (iadd .i64 8 (IntKind.i64.wrap n))))))), (32, (.av (.one (.pv (.bool (!(decide ((n2 : Int) = n3))))))))], [], []⟩ : St) = ⟨[(0, (.av (.one (.pv (.ints .u8 p false))))), (6, (.av (.one (.pv (.int .i64 (iadd .i64 8 (IntKind.i64.wrap n))))))), (32, (.av (.one (.pv (.bool (!(decide ((n2 : Int) = n3))))))))], [], []⟩,
    (!(decide ((n2 : Int) = n3))) = false,
    (decide ((0 : Int) ≤ 8) && decide ((8 : Int) ≤ (iadd .i64 8 (IntKind.i64.wrap n))) && decide (((iadd .i64 8 (IntKind.i64.wrap n)) : Int) ≤ ((p).length : Int)) && decide (((iadd .i64 8 (IntKind.i64.wrap n)) : Int) = (iadd .i64 8 (IntKind.i64.wrap n)))) = true,
    Runs Try.prog 33 [(.one (.pv (.recs 1 [[(.ints .u8 (List.take ((iadd .i64 8 (IntKind.i64.wrap n)) - 8).toNat (List.drop 8 p)) false)]] true)))] [] [] ([(.one (.own 0 0 (l_2).length false))], [], [(.ints .u8 l_2)])]) := by kernel_rfl
theorem kinfolkref06_Open_p4 (p : List Int) (n : Int) (n2 : Int) (l_ : List Int) (n3 : Int) : evFn Try.prog cfg (Runs Try.prog) (LRuns Try.prog (lEnv Try.prog cfg 14 0).nt 0) 14 [(.one (.pv (.ints .u8 p false)))] [] []
    [.br false, .res ([(.one (.pv (.int .u32 n)))], [], []), .br false, .br false, .res ([(.one (.pv (.int .u32 n2)))], [], []), .res ([(.one (.own 0 0 (l_).length false))], [], [(.ints .u8 l_)]), .res ([(.one (.pv (.int .u32 n3)))], [], []), .res ([(.one (.pv (.int .u32 n2)))], [], []), .res ([(.one (.own 0 0 (l_).length false))], [], [(.ints .u8 l_)]), .res ([(.one (.pv (.int .u32 n3)))], [], []), .br true] =
  some (([(.one (.pv .nils)), (.one (.pv (.int .i64 0))), (.one (.pv (.int .i64 13)))], [], []), [
    (decide ((((p).length : Int) : Int) < 8)) = false,
    Runs Try.prog 38 [(.one (.pv (.ints .u8 p false)))] [] [] ([(.one (.pv (.int .u32 n)))], [], []),
    (decide ((1048576 : Int) < n)) = false,
    (decide ((((p).length : Int) : Int) < (iadd .i64 8 (IntKind.i64.wrap n)))) = false,
    (decide ((0 : Int) ≤ 4) && decide ((4 : Int) ≤ ((p).length : Int)) && decide ((((p).length : Int) : Int) ≤ ((p).length : Int)) && decide ((((p).length : Int) : Int) = ((p).length : Int))) = true,
    (decide ((0 : Int) ≤ 0) && decide ((0 : Int) ≤ 4) && decide ((4 : Int) ≤ ((p).length : Int)) && decide ((4 : Int) = 4)) = true,
    (decide ((0 : Int) ≤ 8) && decide ((8 : Int) ≤ (iadd .i64 8 (IntKind.i64.wrap n))) && decide (((iadd .i64 8 (IntKind.i64.wrap n)) : Int) ≤ ((p).length : Int)) && decide (((iadd .i64 8 (IntKind.i64.wrap n)) : Int) = (iadd .i64 8 (IntKind.i64.wrap n)))) = true,
    Runs Try.prog 38 [(.one (.pv (.ints .u8 (List.take (((p).length : Int) - 4).toNat (List.drop 4 p)) false)))] [] [] ([(.one (.pv (.int .u32 n2)))], [], []),
    Runs Try.prog 33 [(.one (.pv (.recs 1 [[(.ints .u8 (List.take 4 p) false)], [(.ints .u8 (List.take ((iadd .i64 8 (IntKind.i64.wrap n)) - 8).toNat (List.drop 8 p)) false)]] true)))] [] [] ([(.one (.own 0 0 (l_).length false))], [], [(.ints .u8 l_)]),
    Runs Try.prog 12 [(.one (.pv (.ints .u8 (List.take (l_).length l_) false)))] [] [] ([(.one (.pv (.int .u32 n3)))], [], []),
    Runs Try.prog 38 [(.one (.pv (.ints .u8 (List.take (((p).length : Int) - 4).toNat (List.drop 4 p)) false)))] [] [] ([(.one (.pv (.int .u32 n2)))], [], []),
    Runs Try.prog 33 [(.one (.pv (.recs 1 [[(.ints .u8 (List.take 4 p) false)], [(.ints .u8 (List.take ((iadd .i64 8 (IntKind.i64.wrap n)) - 8).toNat (List.drop 8 p)) false)]] true)))] [] [] ([(.one (.own 0 0 (l_).length false))], [], [(.ints .u8 l_)]),
    Runs Try.prog 12 [(.one (.pv (.ints .u8 (List.take (l_).length l_) false)))] [] [] ([(.one (.pv (.int .u32 n3)))], [], []),
    (⟨[(0, (.av (.one (.pv (.ints .u8 p false))))), (6, (.av (.one (.pv (.int .i64 (iadd .i64 8 (IntKind.i64.wrap n))))))), (32, (.av (.one (.pv (.bool (!(decide ((n2 : Int) = n3))))))))], [], []⟩ : St) = ⟨[(0, (.av (.one (.pv (.ints .u8 p false))))), (6, (.av (.one (.pv (.int .i64 (iadd .i64 8 (IntKind.i64.wrap n))))))), (32, (.av (.one (.pv (.bool (!(decide ((n2 : Int) = n3))))))))], [], []⟩,
    (!(decide ((n2 : Int) = n3))) = true]) := by kernel_rfl
noncomputable def kinfolkref06_Open (p : List Int) : Option (List Int × Int × Int) :=
  bif (decide ((((p).length : Int) : Int) < 8)) then
    some ([], 0, 6)
  else
    (kinfolkref06_four p).bind fun n =>
    bif (decide ((1048576 : Int) < n)) then
      some ([], 0, 9)
    else
      bif (decide ((((p).length : Int) : Int) < (iadd .i64 8 (IntKind.i64.wrap n)))) then
        some ([], 0, 6)
      else
        bif decide ((0 : Int) ≤ 4) && decide ((4 : Int) ≤ ((p).length : Int)) && decide ((((p).length : Int) : Int) ≤ ((p).length : Int)) && decide ((((p).length : Int) : Int) = ((p).length : Int)) then
        bif decide ((0 : Int) ≤ 0) && decide ((0 : Int) ≤ 4) && decide ((4 : Int) ≤ ((p).length : Int)) && decide ((4 : Int) = 4) then
        bif decide ((0 : Int) ≤ 8) && decide ((8 : Int) ≤ (iadd .i64 8 (IntKind.i64.wrap n))) && decide (((iadd .i64 8 (IntKind.i64.wrap n)) : Int) ≤ ((p).length : Int)) && decide (((iadd .i64 8 (IntKind.i64.wrap n)) : Int) = (iadd .i64 8 (IntKind.i64.wrap n))) then
        (kinfolkref06_four (List.take (((p).length : Int) - 4).toNat (List.drop 4 p))).bind fun n2 =>
        (kinfolkref06_Join [(E_uint8.mk (List.take 4 p)), (E_uint8.mk (List.take ((iadd .i64 8 (IntKind.i64.wrap n)) - 8).toNat (List.drop 8 p)))]).bind fun l_ =>
        (kinfolkref06_Sum l_).bind fun n3 =>
        bif (decide ((n2 : Int) = n3)) then
          (kinfolkref06_Join [(E_uint8.mk (List.take ((iadd .i64 8 (IntKind.i64.wrap n)) - 8).toNat (List.drop 8 p)))]).bind fun l_2 =>
          some (l_2, (iadd .i64 8 (IntKind.i64.wrap n)), 0)
        else
          some ([], 0, 13)
        else none
        else none
        else none
theorem kinfolkref06_Open_runs (p : List Int) (r_ : List Int × Int × Int) (h : kinfolkref06_Open p = some r_) : Runs Try.prog 14 [(.one (.pv (.ints .u8 p false)))] [] [] (kinfolkref06_Open_out p r_) := by
  unfold kinfolkref06_Open at h
  rcases cond_of h with ⟨h1, h⟩ | ⟨h1, h⟩
  · have h := some_of h
    subst h
    have e_ := kinfolkref06_Open_p0 p
    have e_ := runs_of (objs := []) (Says.of e_ ⟨h1, trivial⟩)
    exact e_.out ⟨.pv (.nilsI), .eq rfl, .eq rfl, trivial⟩ trivial trivial rfl
  · obtain ⟨n, h2, h⟩ := bind_of h
    rcases cond_of h with ⟨h3, h⟩ | ⟨h3, h⟩
    · have h := some_of h
      subst h
      have e_ := kinfolkref06_Open_p1 p n
      have e_ := runs_of (objs := []) (Says.of e_ ⟨h1, (kinfolkref06_four_runs p _ h2), h3, trivial⟩)
      exact e_.out ⟨.pv (.nilsI), .eq rfl, .eq rfl, trivial⟩ trivial trivial rfl
    · rcases cond_of h with ⟨h4, h⟩ | ⟨h4, h⟩
      · have h := some_of h
        subst h
        have e_ := kinfolkref06_Open_p2 p n
        have e_ := runs_of (objs := []) (Says.of e_ ⟨h1, (kinfolkref06_four_runs p _ h2), h3, h4, trivial⟩)
        exact e_.out ⟨.pv (.nilsI), .eq rfl, .eq rfl, trivial⟩ trivial trivial rfl
      · obtain ⟨h5, h⟩ := need_of h
        obtain ⟨h6, h⟩ := need_of h
        obtain ⟨h7, h⟩ := need_of h
        obtain ⟨n2, h8, h⟩ := bind_of h
        obtain ⟨l_, h9, h⟩ := bind_of h
        obtain ⟨n3, h10, h⟩ := bind_of h
        rcases cond_of h with ⟨h11, h⟩ | ⟨h11, h⟩
        · obtain ⟨l_2, h12, h⟩ := bind_of h
          have h := some_of h
          subst h
          have e_ := kinfolkref06_Open_p3 p n n2 l_ n3 l_2
          have e_ := runs_of (objs := []) (Says.of e_ ⟨h1, (kinfolkref06_four_runs p _ h2), h3, h4, h5, h6, h7, (kinfolkref06_four_runs (List.take (((p).length : Int) - 4).toNat (List.drop 4 p)) _ h8), ((kinfolkref06_Join_runs [(E_uint8.mk (List.take 4 p)), (E_uint8.mk (List.take ((iadd .i64 8 (IntKind.i64.wrap n)) - 8).toNat (List.drop 8 p)))] _ h9).coe ⟨.pv (.recs (.cons (.cons (.eq rfl) (.nil)) (.cons (.cons (.eq rfl) (.nil)) (.nil)))), trivial⟩ trivial trivial), ((kinfolkref06_Sum_runs l_ _ h10).coe ⟨.pv (.ints (by first | rfl | (simp only [List.take_length]; done) | (simp only [List.take_length, List.length_append, List.drop_zero, List.map_append, List.map_take, List.map_drop, List.map_cons, List.map_nil, List.append_nil, List.nil_append, E_uint8.pv]; done) | (simp; done))), trivial⟩ trivial trivial), (kinfolkref06_four_runs (List.take (((p).length : Int) - 4).toNat (List.drop 4 p)) _ h8), ((kinfolkref06_Join_runs [(E_uint8.mk (List.take 4 p)), (E_uint8.mk (List.take ((iadd .i64 8 (IntKind.i64.wrap n)) - 8).toNat (List.drop 8 p)))] _ h9).coe ⟨.pv (.recs (.cons (.cons (.eq rfl) (.nil)) (.cons (.cons (.eq rfl) (.nil)) (.nil)))), trivial⟩ trivial trivial), ((kinfolkref06_Sum_runs l_ _ h10).coe ⟨.pv (.ints (by first | rfl | (simp only [List.take_length]; done) | (simp only [List.take_length, List.length_append, List.drop_zero, List.map_append, List.map_take, List.map_drop, List.map_cons, List.map_nil, List.append_nil, List.nil_append, E_uint8.pv]; done) | (simp; done))), trivial⟩ trivial trivial), rfl, (not_of2 h11), h7, ((kinfolkref06_Join_runs [(E_uint8.mk (List.take ((iadd .i64 8 (IntKind.i64.wrap n)) - 8).toNat (List.drop 8 p)))] _ h12).coe ⟨.pv (.recs (.cons (.cons (.eq rfl) (.nil)) (.nil))), trivial⟩ trivial trivial), trivial⟩)
          have e_ := e_.shut (res' := ([(.one (.pv (.ints .u8 (List.take (l_2).length l_2) false))), (.one (.pv (.int .i64 (iadd .i64 8 (IntKind.i64.wrap n))))), (.one (.pv (.int .i64 0)))], [], [])) [0] (by kernel_rfl)
          exact e_.out ⟨.pv (.ints (by first | rfl | (simp only [List.take_length]; done) | (simp only [List.take_length, List.length_append, List.drop_zero, List.map_append, List.map_take, List.map_drop, List.map_cons, List.map_nil, List.append_nil, List.nil_append, E_uint8.pv]; done) | (simp; done))), .eq rfl, .eq rfl, trivial⟩ trivial trivial rfl
        · have h := some_of h
          subst h
          have e_ := kinfolkref06_Open_p4 p n n2 l_ n3
          have e_ := runs_of (objs := []) (Says.of e_ ⟨h1, (kinfolkref06_four_runs p _ h2), h3, h4, h5, h6, h7, (kinfolkref06_four_runs (List.take (((p).length : Int) - 4).toNat (List.drop 4 p)) _ h8), ((kinfolkref06_Join_runs [(E_uint8.mk (List.take 4 p)), (E_uint8.mk (List.take ((iadd .i64 8 (IntKind.i64.wrap n)) - 8).toNat (List.drop 8 p)))] _ h9).coe ⟨.pv (.recs (.cons (.cons (.eq rfl) (.nil)) (.cons (.cons (.eq rfl) (.nil)) (.nil)))), trivial⟩ trivial trivial), ((kinfolkref06_Sum_runs l_ _ h10).coe ⟨.pv (.ints (by first | rfl | (simp only [List.take_length]; done) | (simp only [List.take_length, List.length_append, List.drop_zero, List.map_append, List.map_take, List.map_drop, List.map_cons, List.map_nil, List.append_nil, List.nil_append, E_uint8.pv]; done) | (simp; done))), trivial⟩ trivial trivial), (kinfolkref06_four_runs (List.take (((p).length : Int) - 4).toNat (List.drop 4 p)) _ h8), ((kinfolkref06_Join_runs [(E_uint8.mk (List.take 4 p)), (E_uint8.mk (List.take ((iadd .i64 8 (IntKind.i64.wrap n)) - 8).toNat (List.drop 8 p)))] _ h9).coe ⟨.pv (.recs (.cons (.cons (.eq rfl) (.nil)) (.cons (.cons (.eq rfl) (.nil)) (.nil)))), trivial⟩ trivial trivial), ((kinfolkref06_Sum_runs l_ _ h10).coe ⟨.pv (.ints (by first | rfl | (simp only [List.take_length]; done) | (simp only [List.take_length, List.length_append, List.drop_zero, List.map_append, List.map_take, List.map_drop, List.map_cons, List.map_nil, List.append_nil, List.nil_append, E_uint8.pv]; done) | (simp; done))), trivial⟩ trivial trivial), rfl, (not_of h11), trivial⟩)
          exact e_.out ⟨.pv (.nilsI), .eq rfl, .eq rfl, trivial⟩ trivial trivial rfl
/-! ### kinfolklaw06_WireOpens -/
def kinfolklaw06_WireOpens_out (p : List Int) : Bool → Res
  | r1 => ([(.one (.pv (.bool r1)))], [], [])
theorem kinfolklaw06_WireOpens_p0 (p : List Int) (b : Bool) (l_ : List Int) (l_2 : List Int) (l_3 : List Int) (n : Int) (n2 : Int) (l_4 : List Int) (n3 : Int) (n4 : Int) (b2 : Bool) (b3 : Bool) : evFn Try.prog cfg (Runs Try.prog) (LRuns Try.prog (lEnv Try.prog cfg 4 0).nt 0) 4 [(.one (.pv (.ints .u8 p false)))] [] []
    [.res ([(.one (.pv (.bool b)))], [], []), .br false, .res ([(.one (.own 0 0 (l_).length false))], [], [(.ints .u8 l_)]), .res ([(.one (.own 0 0 (l_2).length false))], [], [(.ints .u8 l_2)]), .res ([(.one (.pv (.ints .u8 l_3 false))), (.one (.pv (.int .i64 n))), (.one (.pv (.int .i64 n2)))], [], []), .res ([(.one (.pv (.ints .u8 l_4 false))), (.one (.pv (.int .i64 n3))), (.one (.pv (.int .i64 n4)))], [], []), .br true, .br true, .res ([(.one (.pv (.bool b2)))], [], []), .br true, .res ([(.one (.pv (.bool b3)))], [], []), .br true] =
  some (([(.one (.pv (.bool (decide ((((List.take ((l_2 ++ [90])).length (l_2 ++ [90])).getD ((((List.take (l_).length l_)).length : Int)).toNat 0) : Int) = 90)))))], [], []), [
    Runs Try.prog 9 [] [] [] ([(.one (.pv (.bool b)))], [], []),
    (!b) = false,
    Runs Try.prog 10 [(.one (.bor (.ints .u8 p false))), (.one (.pv (.int .i64 300)))] [] [] ([(.one (.own 0 0 (l_).length false))], [], [(.ints .u8 l_)]),
    Runs Try.prog 10 [(.one (.bor (.ints .u8 (List.take (l_).length l_) false))), (.one (.pv (.int .i64 300)))] [] [] ([(.one (.own 0 0 (l_2).length false))], [], [(.ints .u8 l_2)]),
    (Nat.beq (l_2).length (l_2).length) = true,
    (fits ((l_2 ++ [90])).length) = true,
    (decide ((0 : Int) ≤ 0) && decide ((0 : Int) ≤ ((l_).length : Int)) && decide ((((l_).length : Int) : Int) ≤ (((l_2 ++ [90])).length : Int)) && decide ((((l_).length : Int) : Int) = ((l_).length : Int))) = true,
    Runs Try.prog 13 [(.one (.pv (.ints .u8 (List.take (((l_).length : Int) - 0).toNat (l_2 ++ [90])) false)))] [] [] ([(.one (.pv (.ints .u8 l_3 false))), (.one (.pv (.int .i64 n))), (.one (.pv (.int .i64 n2)))], [], []),
    Runs Try.prog 14 [(.one (.pv (.ints .u8 (List.take (l_).length l_) false)))] [] [] ([(.one (.pv (.ints .u8 l_4 false))), (.one (.pv (.int .i64 n3))), (.one (.pv (.int .i64 n4)))], [], []),
    (decide ((n2 : Int) = n4)) = true,
    (decide ((n : Int) = n3)) = true,
    Runs Try.prog 15 [(.one (.bor (.ints .u8 l_3 false))), (.one (.bor (.ints .u8 l_4 false)))] [] [] ([(.one (.pv (.bool b2)))], [], []),
    b2 = true,
    (decide ((0 : Int) ≤ 0) && decide ((0 : Int) ≤ (((List.take (l_).length l_)).length : Int)) && decide (((((List.take (l_).length l_)).length : Int) : Int) ≤ (((List.take ((l_2 ++ [90])).length (l_2 ++ [90]))).length : Int)) && decide (((((List.take (l_).length l_)).length : Int) : Int) = (((List.take (l_).length l_)).length : Int))) = true,
    Runs Try.prog 15 [(.one (.bor (.ints .u8 (List.take ((((List.take (l_).length l_)).length : Int) - 0).toNat (List.take ((l_2 ++ [90])).length (l_2 ++ [90]))) false))), (.one (.bor (.ints .u8 (List.take (l_).length l_) false)))] [] [] ([(.one (.pv (.bool b3)))], [], []),
    b3 = true,
    (decide ((0 : Int) ≤ (((List.take (l_).length l_)).length : Int)) && decide (((((List.take (l_).length l_)).length : Int) : Int) < (((List.take ((l_2 ++ [90])).length (l_2 ++ [90]))).length : Int))) = true]) := by kernel_rfl
theorem kinfolklaw06_WireOpens_p1 (p : List Int) (b : Bool) (l_ : List Int) (l_2 : List Int) (l_3 : List Int) (n : Int) (n2 : Int) (l_4 : List Int) (n3 : Int) (n4 : Int) (b2 : Bool) (b3 : Bool) : evFn Try.prog cfg (Runs Try.prog) (LRuns Try.prog (lEnv Try.prog cfg 4 0).nt 0) 4 [(.one (.pv (.ints .u8 p false)))] [] []
    [.res ([(.one (.pv (.bool b)))], [], []), .br false, .res ([(.one (.own 0 0 (l_).length false))], [], [(.ints .u8 l_)]), .res ([(.one (.own 0 0 (l_2).length false))], [], [(.ints .u8 l_2)]), .res ([(.one (.pv (.ints .u8 l_3 false))), (.one (.pv (.int .i64 n))), (.one (.pv (.int .i64 n2)))], [], []), .res ([(.one (.pv (.ints .u8 l_4 false))), (.one (.pv (.int .i64 n3))), (.one (.pv (.int .i64 n4)))], [], []), .br true, .br true, .res ([(.one (.pv (.bool b2)))], [], []), .br true, .res ([(.one (.pv (.bool b3)))], [], []), .br false] =
  some (([(.one (.pv (.bool false)))], [], []), [
    Runs Try.prog 9 [] [] [] ([(.one (.pv (.bool b)))], [], []),
    (!b) = false,
    Runs Try.prog 10 [(.one (.bor (.ints .u8 p false))), (.one (.pv (.int .i64 300)))] [] [] ([(.one (.own 0 0 (l_).length false))], [], [(.ints .u8 l_)]),
    Runs Try.prog 10 [(.one (.bor (.ints .u8 (List.take (l_).length l_) false))), (.one (.pv (.int .i64 300)))] [] [] ([(.one (.own 0 0 (l_2).length false))], [], [(.ints .u8 l_2)]),
    (Nat.beq (l_2).length (l_2).length) = true,
    (fits ((l_2 ++ [90])).length) = true,
    (decide ((0 : Int) ≤ 0) && decide ((0 : Int) ≤ ((l_).length : Int)) && decide ((((l_).length : Int) : Int) ≤ (((l_2 ++ [90])).length : Int)) && decide ((((l_).length : Int) : Int) = ((l_).length : Int))) = true,
    Runs Try.prog 13 [(.one (.pv (.ints .u8 (List.take (((l_).length : Int) - 0).toNat (l_2 ++ [90])) false)))] [] [] ([(.one (.pv (.ints .u8 l_3 false))), (.one (.pv (.int .i64 n))), (.one (.pv (.int .i64 n2)))], [], []),
    Runs Try.prog 14 [(.one (.pv (.ints .u8 (List.take (l_).length l_) false)))] [] [] ([(.one (.pv (.ints .u8 l_4 false))), (.one (.pv (.int .i64 n3))), (.one (.pv (.int .i64 n4)))], [], []),
    (decide ((n2 : Int) = n4)) = true,
    (decide ((n : Int) = n3)) = true,
    Runs Try.prog 15 [(.one (.bor (.ints .u8 l_3 false))), (.one (.bor (.ints .u8 l_4 false)))] [] [] ([(.one (.pv (.bool b2)))], [], []),
    b2 = true,
    (decide ((0 : Int) ≤ 0) && decide ((0 : Int) ≤ (((List.take (l_).length l_)).length : Int)) && decide (((((List.take (l_).length l_)).length : Int) : Int) ≤ (((List.take ((l_2 ++ [90])).length (l_2 ++ [90]))).length : Int)) && decide (((((List.take (l_).length l_)).length : Int) : Int) = (((List.take (l_).length l_)).length : Int))) = true,
    Runs Try.prog 15 [(.one (.bor (.ints .u8 (List.take ((((List.take (l_).length l_)).length : Int) - 0).toNat (List.take ((l_2 ++ [90])).length (l_2 ++ [90]))) false))), (.one (.bor (.ints .u8 (List.take (l_).length l_) false)))] [] [] ([(.one (.pv (.bool b3)))], [], []),
    b3 = false]) := by kernel_rfl
theorem kinfolklaw06_WireOpens_p2 (p : List Int) (b : Bool) (l_ : List Int) (l_2 : List Int) (l_3 : List Int) (n : Int) (n2 : Int) (l_4 : List Int) (n3 : Int) (n4 : Int) (b2 : Bool) : evFn Try.prog cfg (Runs Try.prog) (LRuns Try.prog (lEnv Try.prog cfg 4 0).nt 0) 4 [(.one (.pv (.ints .u8 p false)))] [] []
    [.res ([(.one (.pv (.bool b)))], [], []), .br false, .res ([(.one (.own 0 0 (l_).length false))], [], [(.ints .u8 l_)]), .res ([(.one (.own 0 0 (l_2).length false))], [], [(.ints .u8 l_2)]), .res ([(.one (.pv (.ints .u8 l_3 false))), (.one (.pv (.int .i64 n))), (.one (.pv (.int .i64 n2)))], [], []), .res ([(.one (.pv (.ints .u8 l_4 false))), (.one (.pv (.int .i64 n3))), (.one (.pv (.int .i64 n4)))], [], []), .br true, .br true, .res ([(.one (.pv (.bool b2)))], [], []), .br false, .br false] =
  some (([(.one (.pv (.bool false)))], [], []), [
    Runs Try.prog 9 [] [] [] ([(.one (.pv (.bool b)))], [], []),
    (!b) = false,
    Runs Try.prog 10 [(.one (.bor (.ints .u8 p false))), (.one (.pv (.int .i64 300)))] [] [] ([(.one (.own 0 0 (l_).length false))], [], [(.ints .u8 l_)]),
    Runs Try.prog 10 [(.one (.bor (.ints .u8 (List.take (l_).length l_) false))), (.one (.pv (.int .i64 300)))] [] [] ([(.one (.own 0 0 (l_2).length false))], [], [(.ints .u8 l_2)]),
    (Nat.beq (l_2).length (l_2).length) = true,
    (fits ((l_2 ++ [90])).length) = true,
    (decide ((0 : Int) ≤ 0) && decide ((0 : Int) ≤ ((l_).length : Int)) && decide ((((l_).length : Int) : Int) ≤ (((l_2 ++ [90])).length : Int)) && decide ((((l_).length : Int) : Int) = ((l_).length : Int))) = true,
    Runs Try.prog 13 [(.one (.pv (.ints .u8 (List.take (((l_).length : Int) - 0).toNat (l_2 ++ [90])) false)))] [] [] ([(.one (.pv (.ints .u8 l_3 false))), (.one (.pv (.int .i64 n))), (.one (.pv (.int .i64 n2)))], [], []),
    Runs Try.prog 14 [(.one (.pv (.ints .u8 (List.take (l_).length l_) false)))] [] [] ([(.one (.pv (.ints .u8 l_4 false))), (.one (.pv (.int .i64 n3))), (.one (.pv (.int .i64 n4)))], [], []),
    (decide ((n2 : Int) = n4)) = true,
    (decide ((n : Int) = n3)) = true,
    Runs Try.prog 15 [(.one (.bor (.ints .u8 l_3 false))), (.one (.bor (.ints .u8 l_4 false)))] [] [] ([(.one (.pv (.bool b2)))], [], []),
    b2 = false,
    false = false]) := by kernel_rfl
theorem kinfolklaw06_WireOpens_p3 (p : List Int) (b : Bool) (l_ : List Int) (l_2 : List Int) (l_3 : List Int) (n : Int) (n2 : Int) (l_4 : List Int) (n3 : Int) (n4 : Int) : evFn Try.prog cfg (Runs Try.prog) (LRuns Try.prog (lEnv Try.prog cfg 4 0).nt 0) 4 [(.one (.pv (.ints .u8 p false)))] [] []
    [.res ([(.one (.pv (.bool b)))], [], []), .br false, .res ([(.one (.own 0 0 (l_).length false))], [], [(.ints .u8 l_)]), .res ([(.one (.own 0 0 (l_2).length false))], [], [(.ints .u8 l_2)]), .res ([(.one (.pv (.ints .u8 l_3 false))), (.one (.pv (.int .i64 n))), (.one (.pv (.int .i64 n2)))], [], []), .res ([(.one (.pv (.ints .u8 l_4 false))), (.one (.pv (.int .i64 n3))), (.one (.pv (.int .i64 n4)))], [], []), .br true, .br false, .br false, .br false] =
  some (([(.one (.pv (.bool false)))], [], []), [
    Runs Try.prog 9 [] [] [] ([(.one (.pv (.bool b)))], [], []),
    (!b) = false,
    Runs Try.prog 10 [(.one (.bor (.ints .u8 p false))), (.one (.pv (.int .i64 300)))] [] [] ([(.one (.own 0 0 (l_).length false))], [], [(.ints .u8 l_)]),
    Runs Try.prog 10 [(.one (.bor (.ints .u8 (List.take (l_).length l_) false))), (.one (.pv (.int .i64 300)))] [] [] ([(.one (.own 0 0 (l_2).length false))], [], [(.ints .u8 l_2)]),
    (Nat.beq (l_2).length (l_2).length) = true,
    (fits ((l_2 ++ [90])).length) = true,
    (decide ((0 : Int) ≤ 0) && decide ((0 : Int) ≤ ((l_).length : Int)) && decide ((((l_).length : Int) : Int) ≤ (((l_2 ++ [90])).length : Int)) && decide ((((l_).length : Int) : Int) = ((l_).length : Int))) = true,
    Runs Try.prog 13 [(.one (.pv (.ints .u8 (List.take (((l_).length : Int) - 0).toNat (l_2 ++ [90])) false)))] [] [] ([(.one (.pv (.ints .u8 l_3 false))), (.one (.pv (.int .i64 n))), (.one (.pv (.int .i64 n2)))], [], []),
    Runs Try.prog 14 [(.one (.pv (.ints .u8 (List.take (l_).length l_) false)))] [] [] ([(.one (.pv (.ints .u8 l_4 false))), (.one (.pv (.int .i64 n3))), (.one (.pv (.int .i64 n4)))], [], []),
    (decide ((n2 : Int) = n4)) = true,
    (decide ((n : Int) = n3)) = false,
    false = false,
    false = false]) := by kernel_rfl
theorem kinfolklaw06_WireOpens_p4 (p : List Int) (b : Bool) (l_ : List Int) (l_2 : List Int) (l_3 : List Int) (n : Int) (n2 : Int) (l_4 : List Int) (n3 : Int) (n4 : Int) : evFn Try.prog cfg (Runs Try.prog) (LRuns Try.prog (lEnv Try.prog cfg 4 0).nt 0) 4 [(.one (.pv (.ints .u8 p false)))] [] []
    [.res ([(.one (.pv (.bool b)))], [], []), .br false, .res ([(.one (.own 0 0 (l_).length false))], [], [(.ints .u8 l_)]), .res ([(.one (.own 0 0 (l_2).length false))], [], [(.ints .u8 l_2)]), .res ([(.one (.pv (.ints .u8 l_3 false))), (.one (.pv (.int .i64 n))), (.one (.pv (.int .i64 n2)))], [], []), .res ([(.one (.pv (.ints .u8 l_4 false))), (.one (.pv (.int .i64 n3))), (.one (.pv (.int .i64 n4)))], [], []), .br false, .br false, .br false, .br false] =
  some (([(.one (.pv (.bool false)))], [], []), [
    Runs Try.prog 9 [] [] [] ([(.one (.pv (.bool b)))], [], []),
    (!b) = false,
    Runs Try.prog 10 [(.one (.bor (.ints .u8 p false))), (.one (.pv (.int .i64 300)))] [] [] ([(.one (.own 0 0 (l_).length false))], [], [(.ints .u8 l_)]),
    Runs Try.prog 10 [(.one (.bor (.ints .u8 (List.take (l_).length l_) false))), (.one (.pv (.int .i64 300)))] [] [] ([(.one (.own 0 0 (l_2).length false))], [], [(.ints .u8 l_2)]),
    (Nat.beq (l_2).length (l_2).length) = true,
    (fits ((l_2 ++ [90])).length) = true,
    (decide ((0 : Int) ≤ 0) && decide ((0 : Int) ≤ ((l_).length : Int)) && decide ((((l_).length : Int) : Int) ≤ (((l_2 ++ [90])).length : Int)) && decide ((((l_).length : Int) : Int) = ((l_).length : Int))) = true,
    Runs Try.prog 13 [(.one (.pv (.ints .u8 (List.take (((l_).length : Int) - 0).toNat (l_2 ++ [90])) false)))] [] [] ([(.one (.pv (.ints .u8 l_3 false))), (.one (.pv (.int .i64 n))), (.one (.pv (.int .i64 n2)))], [], []),
    Runs Try.prog 14 [(.one (.pv (.ints .u8 (List.take (l_).length l_) false)))] [] [] ([(.one (.pv (.ints .u8 l_4 false))), (.one (.pv (.int .i64 n3))), (.one (.pv (.int .i64 n4)))], [], []),
    (decide ((n2 : Int) = n4)) = false,
    false = false,
    false = false,
    false = false]) := by kernel_rfl
theorem kinfolklaw06_WireOpens_p5 (p : List Int) (b : Bool) : evFn Try.prog cfg (Runs Try.prog) (LRuns Try.prog (lEnv Try.prog cfg 4 0).nt 0) 4 [(.one (.pv (.ints .u8 p false)))] [] []
    [.res ([(.one (.pv (.bool b)))], [], []), .br true] =
  some (([(.one (.pv (.bool false)))], [], []), [
    Runs Try.prog 9 [] [] [] ([(.one (.pv (.bool b)))], [], []),
    (!b) = true]) := by kernel_rfl
noncomputable def kinfolklaw06_WireOpens (p : List Int) : Option (Bool) :=
  (kinfolklaw06_awake).bind fun b =>
  bif b then
    (kinfolklaw06_cut p 300).bind fun l_ =>
    (kinfolklaw06_cut l_ 300).bind fun l_2 =>
    bif fits ((l_2 ++ [90])).length then
    bif decide ((0 : Int) ≤ 0) && decide ((0 : Int) ≤ ((l_).length : Int)) && decide ((((l_).length : Int) : Int) ≤ (((l_2 ++ [90])).length : Int)) && decide ((((l_).length : Int) : Int) = ((l_).length : Int)) then
    (wire_Open (List.take (((l_).length : Int) - 0).toNat (l_2 ++ [90]))).bind fun (l_3, n, n2) =>
    (kinfolkref06_Open l_).bind fun (l_4, n3, n4) =>
    bif (decide ((n2 : Int) = n4)) then
      bif (decide ((n : Int) = n3)) then
        (kinfolkref06_Same l_3 l_4).bind fun b2 =>
        bif b2 then
          bif decide ((0 : Int) ≤ 0) && decide ((0 : Int) ≤ (((List.take (l_).length l_)).length : Int)) && decide (((((List.take (l_).length l_)).length : Int) : Int) ≤ (((List.take ((l_2 ++ [90])).length (l_2 ++ [90]))).length : Int)) && decide (((((List.take (l_).length l_)).length : Int) : Int) = (((List.take (l_).length l_)).length : Int)) then
          (kinfolkref06_Same (List.take (((l_).length : Int) - 0).toNat (l_2 ++ [90])) l_).bind fun b3 =>
          bif b3 then
            bif decide ((0 : Int) ≤ (((List.take (l_).length l_)).length : Int)) && decide (((((List.take (l_).length l_)).length : Int) : Int) < (((List.take ((l_2 ++ [90])).length (l_2 ++ [90]))).length : Int)) then
            some (decide ((((List.take ((l_2 ++ [90])).length (l_2 ++ [90])).getD ((((List.take (l_).length l_)).length : Int)).toNat 0) : Int) = 90))
            else none
          else
            some false
          else none
        else
          some false
      else
        some false
    else
      some false
    else none
    else none
  else
    some false
theorem kinfolklaw06_WireOpens_runs (p : List Int) (r_ : Bool) (h : kinfolklaw06_WireOpens p = some r_) : Runs Try.prog 4 [(.one (.pv (.ints .u8 p false)))] [] [] (kinfolklaw06_WireOpens_out p r_) := by
  unfold kinfolklaw06_WireOpens at h
  obtain ⟨b, h1, h⟩ := bind_of h
  rcases cond_of h with ⟨h2, h⟩ | ⟨h2, h⟩
  · obtain ⟨l_, h3, h⟩ := bind_of h
    obtain ⟨l_2, h4, h⟩ := bind_of h
    obtain ⟨h5, h⟩ := need_of h
    obtain ⟨h6, h⟩ := need_of h
    obtain ⟨⟨l_3, n, n2⟩, h7, h⟩ := bind_of h
    obtain ⟨⟨l_4, n3, n4⟩, h8, h⟩ := bind_of h
    rcases cond_of h with ⟨h9, h⟩ | ⟨h9, h⟩
    · rcases cond_of h with ⟨h10, h⟩ | ⟨h10, h⟩
      · obtain ⟨b2, h11, h⟩ := bind_of h
        rcases cond_of h with ⟨h12, h⟩ | ⟨h12, h⟩
        · obtain ⟨h13, h⟩ := need_of h
          obtain ⟨b3, h14, h⟩ := bind_of h
          rcases cond_of h with ⟨h15, h⟩ | ⟨h15, h⟩
          · obtain ⟨h16, h⟩ := need_of h
            have h := some_of h
            subst h
            have e_ := kinfolklaw06_WireOpens_p0 p b l_ l_2 l_3 n n2 l_4 n3 n4 b2 b3
            have e_ := runs_of (objs := []) (Says.of e_ ⟨(kinfolklaw06_awake_runs _ h1), (not_of2 h2), (kinfolklaw06_cut_runs p 300 _ h3), ((kinfolklaw06_cut_runs l_ 300 _ h4).coe ⟨.bor (.ints (by first | rfl | (simp only [List.take_length]; done) | (simp only [List.take_length, List.length_append, List.drop_zero, List.map_append, List.map_take, List.map_drop, List.map_cons, List.map_nil, List.append_nil, List.nil_append, E_uint8.pv]; done) | (simp; done))), .eq rfl, trivial⟩ trivial trivial), (Nat.beq_refl _), h5, h6, (wire_Open_runs (List.take (((l_).length : Int) - 0).toNat (l_2 ++ [90])) _ h7), ((kinfolkref06_Open_runs l_ _ h8).coe ⟨.pv (.ints (by first | rfl | (simp only [List.take_length]; done) | (simp only [List.take_length, List.length_append, List.drop_zero, List.map_append, List.map_take, List.map_drop, List.map_cons, List.map_nil, List.append_nil, List.nil_append, E_uint8.pv]; done) | (simp; done))), trivial⟩ trivial trivial), h9, h10, (kinfolkref06_Same_runs l_3 l_4 _ h11), h12, h13, ((kinfolkref06_Same_runs (List.take (((l_).length : Int) - 0).toNat (l_2 ++ [90])) l_ _ h14).coe ⟨.bor (.ints (by first | rfl | (simp only [List.take_length]; done) | (simp only [List.take_length, List.length_append, List.drop_zero, List.map_append, List.map_take, List.map_drop, List.map_cons, List.map_nil, List.append_nil, List.nil_append, E_uint8.pv]; done) | (simp; done))), .bor (.ints (by first | rfl | (simp only [List.take_length]; done) | (simp only [List.take_length, List.length_append, List.drop_zero, List.map_append, List.map_take, List.map_drop, List.map_cons, List.map_nil, List.append_nil, List.nil_append, E_uint8.pv]; done) | (simp; done))), trivial⟩ trivial trivial), h15, h16, trivial⟩)
            exact e_
          · have h := some_of h
            subst h
            have e_ := kinfolklaw06_WireOpens_p1 p b l_ l_2 l_3 n n2 l_4 n3 n4 b2 b3
            have e_ := runs_of (objs := []) (Says.of e_ ⟨(kinfolklaw06_awake_runs _ h1), (not_of2 h2), (kinfolklaw06_cut_runs p 300 _ h3), ((kinfolklaw06_cut_runs l_ 300 _ h4).coe ⟨.bor (.ints (by first | rfl | (simp only [List.take_length]; done) | (simp only [List.take_length, List.length_append, List.drop_zero, List.map_append, List.map_take, List.map_drop, List.map_cons, List.map_nil, List.append_nil, List.nil_append, E_uint8.pv]; done) | (simp; done))), .eq rfl, trivial⟩ trivial trivial), (Nat.beq_refl _), h5, h6, (wire_Open_runs (List.take (((l_).length : Int) - 0).toNat (l_2 ++ [90])) _ h7), ((kinfolkref06_Open_runs l_ _ h8).coe ⟨.pv (.ints (by first | rfl | (simp only [List.take_length]; done) | (simp only [List.take_length, List.length_append, List.drop_zero, List.map_append, List.map_take, List.map_drop, List.map_cons, List.map_nil, List.append_nil, List.nil_append, E_uint8.pv]; done) | (simp; done))), trivial⟩ trivial trivial), h9, h10, (kinfolkref06_Same_runs l_3 l_4 _ h11), h12, h13, ((kinfolkref06_Same_runs (List.take (((l_).length : Int) - 0).toNat (l_2 ++ [90])) l_ _ h14).coe ⟨.bor (.ints (by first | rfl | (simp only [List.take_length]; done) | (simp only [List.take_length, List.length_append, List.drop_zero, List.map_append, List.map_take, List.map_drop, List.map_cons, List.map_nil, List.append_nil, List.nil_append, E_uint8.pv]; done) | (simp; done))), .bor (.ints (by first | rfl | (simp only [List.take_length]; done) | (simp only [List.take_length, List.length_append, List.drop_zero, List.map_append, List.map_take, List.map_drop, List.map_cons, List.map_nil, List.append_nil, List.nil_append, E_uint8.pv]; done) | (simp; done))), trivial⟩ trivial trivial), h15, trivial⟩)
            exact e_
        · have h := some_of h
          subst h
          have e_ := kinfolklaw06_WireOpens_p2 p b l_ l_2 l_3 n n2 l_4 n3 n4 b2
          have e_ := runs_of (objs := []) (Says.of e_ ⟨(kinfolklaw06_awake_runs _ h1), (not_of2 h2), (kinfolklaw06_cut_runs p 300 _ h3), ((kinfolklaw06_cut_runs l_ 300 _ h4).coe ⟨.bor (.ints (by first | rfl | (simp only [List.take_length]; done) | (simp only [List.take_length, List.length_append, List.drop_zero, List.map_append, List.map_take, List.map_drop, List.map_cons, List.map_nil, List.append_nil, List.nil_append, E_uint8.pv]; done) | (simp; done))), .eq rfl, trivial⟩ trivial trivial), (Nat.beq_refl _), h5, h6, (wire_Open_runs (List.take (((l_).length : Int) - 0).toNat (l_2 ++ [90])) _ h7), ((kinfolkref06_Open_runs l_ _ h8).coe ⟨.pv (.ints (by first | rfl | (simp only [List.take_length]; done) | (simp only [List.take_length, List.length_append, List.drop_zero, List.map_append, List.map_take, List.map_drop, List.map_cons, List.map_nil, List.append_nil, List.nil_append, E_uint8.pv]; done) | (simp; done))), trivial⟩ trivial trivial), h9, h10, (kinfolkref06_Same_runs l_3 l_4 _ h11), h12, rfl, trivial⟩)
          exact e_
      · have h := some_of h
        subst h
        have e_ := kinfolklaw06_WireOpens_p3 p b l_ l_2 l_3 n n2 l_4 n3 n4
        have e_ := runs_of (objs := []) (Says.of e_ ⟨(kinfolklaw06_awake_runs _ h1), (not_of2 h2), (kinfolklaw06_cut_runs p 300 _ h3), ((kinfolklaw06_cut_runs l_ 300 _ h4).coe ⟨.bor (.ints (by first | rfl | (simp only [List.take_length]; done) | (simp only [List.take_length, List.length_append, List.drop_zero, List.map_append, List.map_take, List.map_drop, List.map_cons, List.map_nil, List.append_nil, List.nil_append, E_uint8.pv]; done) | (simp; done))), .eq rfl, trivial⟩ trivial trivial), (Nat.beq_refl _), h5, h6, (wire_Open_runs (List.take (((l_).length : Int) - 0).toNat (l_2 ++ [90])) _ h7), ((kinfolkref06_Open_runs l_ _ h8).coe ⟨.pv (.ints (by first | rfl | (simp only [List.take_length]; done) | (simp only [List.take_length, List.length_append, List.drop_zero, List.map_append, List.map_take, List.map_drop, List.map_cons, List.map_nil, List.append_nil, List.nil_append, E_uint8.pv]; done) | (simp; done))), trivial⟩ trivial trivial), h9, h10, rfl, rfl, trivial⟩)
        exact e_
    · have h := some_of h
      subst h
      have e_ := kinfolklaw06_WireOpens_p4 p b l_ l_2 l_3 n n2 l_4 n3 n4
      have e_ := runs_of (objs := []) (Says.of e_ ⟨(kinfolklaw06_awake_runs _ h1), (not_of2 h2), (kinfolklaw06_cut_runs p 300 _ h3), ((kinfolklaw06_cut_runs l_ 300 _ h4).coe ⟨.bor (.ints (by first | rfl | (simp only [List.take_length]; done) | (simp only [List.take_length, List.length_append, List.drop_zero, List.map_append, List.map_take, List.map_drop, List.map_cons, List.map_nil, List.append_nil, List.nil_append, E_uint8.pv]; done) | (simp; done))), .eq rfl, trivial⟩ trivial trivial), (Nat.beq_refl _), h5, h6, (wire_Open_runs (List.take (((l_).length : Int) - 0).toNat (l_2 ++ [90])) _ h7), ((kinfolkref06_Open_runs l_ _ h8).coe ⟨.pv (.ints (by first | rfl | (simp only [List.take_length]; done) | (simp only [List.take_length, List.length_append, List.drop_zero, List.map_append, List.map_take, List.map_drop, List.map_cons, List.map_nil, List.append_nil, List.nil_append, E_uint8.pv]; done) | (simp; done))), trivial⟩ trivial trivial), h9, rfl, rfl, rfl, trivial⟩)
      exact e_
  · have h := some_of h
    subst h
    have e_ := kinfolklaw06_WireOpens_p5 p b
    have e_ := runs_of (objs := []) (Says.of e_ ⟨(kinfolklaw06_awake_runs _ h1), (not_of h2), trivial⟩)
    exact e_
/-! ### wire_lay_L0_2 -/
def wire_lay_L0_2_st (p : List Int) (n : Int) : (Unit) ⊕ (Int × List Int) → St
  | .inl _ => ⟨[(0, (.av (.one (.pv (.ints .u8 p true))))), (1, (.av (.one (.pv (.int .u32 n))))), (6, (.av (.one (.pv (.int .i64 0)))))], [], []⟩
  | .inr (n2, l) => ⟨[(0, (.av (.one (.own 0 0 (l).length false)))), (1, (.av (.one (.pv (.int .u32 n))))), (6, (.av (.one (.pv (.int .i64 n2)))))], [], [(0, (.live (.ints .u8 l)))]⟩
def wire_lay_L0_2_ex (p : List Int) (n : Int) : List Int → Ex × St
  | r1 => ((.exit 0), ⟨[(0, (.av (.one (.own 0 0 (r1).length false))))], [], [(0, (.live (.ints .u8 r1)))]⟩)
theorem wire_lay_L0_2_q0_0 (p : List Int) (n : Int) : evRound (lEnv Try.prog cfg 39 0) (loopAt Try.prog 39 0) ⟨[(0, (.av (.one (.pv (.ints .u8 p true))))), (1, (.av (.one (.pv (.int .u32 n))))), (6, (.av (.one (.pv (.int .i64 0)))))], [], []⟩
    [.br true, .br false] =
  some ((.normal, ⟨[(0, (.av (.one (.own 0 0 ((p ++ [(IntKind.u8.wrap (ishr .u32 n 0))])).length false)))), (1, (.av (.one (.pv (.int .u32 n))))), (6, (.av (.one (.pv (.int .i64 1)))))], [], [(0, (.live (.ints .u8 (p ++ [(IntKind.u8.wrap (ishr .u32 n 0))]))))]⟩), [
    true = true,
    true = true,
    true = true,
    (fits ((p ++ [(IntKind.u8.wrap (ishr .u32 n 0))])).length) = true]) := by kernel_rfl
theorem wire_lay_L0_2_q1_0 (p : List Int) (n : Int) (n2 : Int) (l : List Int) : evRound (lEnv Try.prog cfg 39 0) (loopAt Try.prog 39 0) ⟨[(0, (.av (.one (.own 0 0 (l).length false)))), (1, (.av (.one (.pv (.int .u32 n))))), (6, (.av (.one (.pv (.int .i64 n2)))))], [], [(0, (.live (.ints .u8 l)))]⟩
    [.br true] =
  some ((.normal, ⟨[(0, (.av (.one (.own 0 0 ((l ++ [(IntKind.u8.wrap (ishr .u32 n (imul .i64 8 n2)))])).length false)))), (1, (.av (.one (.pv (.int .u32 n))))), (6, (.av (.one (.pv (.int .i64 (iadd .i64 n2 1))))))], [], [(0, (.live (.ints .u8 (l ++ [(IntKind.u8.wrap (ishr .u32 n (imul .i64 8 n2)))]))))]⟩), [
    (decide ((n2 : Int) < 4)) = true,
    (decide ((0 : Int) ≤ (imul .i64 8 n2))) = true,
    (Nat.beq (l).length (l).length) = true,
    (fits ((l ++ [(IntKind.u8.wrap (ishr .u32 n (imul .i64 8 n2)))])).length) = true]) := by kernel_rfl
theorem wire_lay_L0_2_q1_1 (p : List Int) (n : Int) (n2 : Int) (l : List Int) : evRound (lEnv Try.prog cfg 39 0) (loopAt Try.prog 39 0) ⟨[(0, (.av (.one (.own 0 0 (l).length false)))), (1, (.av (.one (.pv (.int .u32 n))))), (6, (.av (.one (.pv (.int .i64 n2)))))], [], [(0, (.live (.ints .u8 l)))]⟩
    [.br false] =
  some (((.exit 0), ⟨[(7, (.av (.one (.pv (.bool false))))), (0, (.av (.one (.own 0 0 (l).length false)))), (1, (.av (.one (.pv (.int .u32 n))))), (6, (.av (.one (.pv (.int .i64 n2))))), (7, (.av (.one (.pv (.bool (decide ((n2 : Int) < 4)))))))], [], [(0, (.live (.ints .u8 l)))]⟩), [
    (decide ((n2 : Int) < 4)) = false]) := by kernel_rfl
noncomputable def wire_lay_L0_2_step (p : List Int) (n : Int) : (Unit) ⊕ (Int × List Int) → Option (((Unit) ⊕ (Int × List Int)) ⊕ (List Int))
  | .inl _ =>
    bif fits ((p ++ [(IntKind.u8.wrap (ishr .u32 n 0))])).length then
    some (.inl (.inr (1, (p ++ [(IntKind.u8.wrap (ishr .u32 n 0))]))))
    else none
  | .inr (n2, l) =>
    bif (decide ((n2 : Int) < 4)) then
      bif decide ((0 : Int) ≤ (imul .i64 8 n2)) then
      bif fits ((l ++ [(IntKind.u8.wrap (ishr .u32 n (imul .i64 8 n2)))])).length then
      some (.inl (.inr ((iadd .i64 n2 1), (l ++ [(IntKind.u8.wrap (ishr .u32 n (imul .i64 8 n2)))]))))
      else none
      else none
    else
      some (.inr l)
theorem wire_lay_L0_2_ok (p : List Int) (n : Int) (s_ : (Unit) ⊕ (Int × List Int)) (z_ : ((Unit) ⊕ (Int × List Int)) ⊕ (List Int)) (h : wire_lay_L0_2_step p n s_ = some z_) : RoundOk Try.prog cfg 39 0 (loopAt Try.prog 39 0) (wire_lay_L0_2_st p n) (wire_lay_L0_2_ex p n) s_ z_ := by
  rcases s_ with _ | ⟨n2, l⟩
  · obtain ⟨h1, h⟩ := need_of h
    have h := some_of h
    subst h
    have e_ := wire_lay_L0_2_q0_0 p n
    have e_ := Says.of e_ ⟨rfl, rfl, rfl, h1, trivial⟩
    exact ⟨_, _, e_, ⟨⟨⟨_, rfl, .eq rfl⟩, ⟨_, rfl, .eq rfl⟩, ⟨_, rfl, .eq rfl⟩, trivial⟩, trivial, ⟨⟨rfl, .eq rfl⟩, trivial⟩⟩⟩
  · rcases cond_of h with ⟨h1, h⟩ | ⟨h1, h⟩
    · obtain ⟨h2, h⟩ := need_of h
      obtain ⟨h3, h⟩ := need_of h
      have h := some_of h
      subst h
      have e_ := wire_lay_L0_2_q1_0 p n n2 l
      have e_ := Says.of e_ ⟨h1, h2, (Nat.beq_refl _), h3, trivial⟩
      exact ⟨_, _, e_, ⟨⟨⟨_, rfl, .eq rfl⟩, ⟨_, rfl, .eq rfl⟩, ⟨_, rfl, .eq rfl⟩, trivial⟩, trivial, ⟨⟨rfl, .eq rfl⟩, trivial⟩⟩⟩
    · have h := some_of h
      subst h
      have e_ := wire_lay_L0_2_q1_1 p n n2 l
      have e_ := Says.of e_ ⟨h1, trivial⟩
      exact ⟨_, _, e_, ⟨⟨⟨_, rfl, .eq rfl⟩, trivial⟩, trivial, ⟨⟨rfl, .eq rfl⟩, trivial⟩⟩⟩
theorem wire_lay_L0_2_runs (p : List Int) (n : Int) (s_ : (Unit) ⊕ (Int × List Int)) (r_ : List Int) (h : runL (wire_lay_L0_2_step p n) s_ = some r_) : LRuns Try.prog (lEnv Try.prog cfg 39 0).nt 0 (.loop (loopAt Try.prog 39 0)) (wire_lay_L0_2_st p n s_) (wire_lay_L0_2_ex p n r_).1 (wire_lay_L0_2_ex p n r_).2 :=
  loop_run h (wire_lay_L0_2_ok p n) (by intro r_; rcases r_ with r1 <;> simp [wire_lay_L0_2_ex])
/-! ### wire_lay_2 -/
def wire_lay_2_out (p : List Int) (n : Int) : List Int → Res
  | r1 => ([(.one (.own 0 0 (r1).length false))], [], [(.ints .u8 r1)])
theorem wire_lay_2_p0 (p : List Int) (n : Int) (l_ : List Int) : evFn Try.prog cfg (Runs Try.prog) (LRuns Try.prog (lEnv Try.prog cfg 39 0).nt 0) 39 [(.one (.pv (.ints .u8 p true))), (.one (.pv (.int .u32 n)))] [] []
    [.lp (.exit 0) ⟨[(0, (.av (.one (.own 0 0 (l_).length false))))], [], [(0, (.live (.ints .u8 l_)))]⟩] =
  some (([(.one (.own 0 0 (l_).length false))], [], [(.ints .u8 l_)]), [
    LRuns Try.prog (lEnv Try.prog cfg 39 0).nt 0 (.loop (loopAt Try.prog 39 0)) ⟨[(0, (.av (.one (.pv (.ints .u8 p true))))), (1, (.av (.one (.pv (.int .u32 n))))), (6, (.av (.one (.pv (.int .i64 0)))))], [], []⟩ (.exit 0) ⟨[(0, (.av (.one (.own 0 0 (l_).length false))))], [], [(0, (.live (.ints .u8 l_)))]⟩]) := by kernel_rfl
noncomputable def wire_lay_2 (p : List Int) (n : Int) : Option (List Int) :=
  (runL (wire_lay_L0_2_step p n) (.inl ())).bind fun l_ =>
  some l_
theorem wire_lay_2_runs (p : List Int) (n : Int) (r_ : List Int) (h : wire_lay_2 p n = some r_) : Runs Try.prog 39 [(.one (.pv (.ints .u8 p true))), (.one (.pv (.int .u32 n)))] [] [] (wire_lay_2_out p n r_) := by
  unfold wire_lay_2 at h
  obtain ⟨l_, h1, h⟩ := bind_of h
  have h := some_of h
  subst h
  have e_ := wire_lay_2_p0 p n l_
  have e_ := runs_of (objs := []) (Says.of e_ ⟨(wire_lay_L0_2_runs p n _ _ h1), trivial⟩)
  exact e_
/-! ### wire_Frame -/
def wire_Frame_out (p : List Int) : List Int → Res
  | r1 => ([(.one (.own 0 0 (r1).length false))], [], [(.ints .u8 r1)])
theorem wire_Frame_p0 (p : List Int) (l_ : List Int) (n : Int) (l_2 : List Int) : evFn Try.prog cfg (Runs Try.prog) (LRuns Try.prog (lEnv Try.prog cfg 16 0).nt 0) 16 [(.one (.pv (.ints .u8 p false)))] [] []
    [.res ([(.one (.own 0 0 (l_).length false))], [], [(.ints .u8 l_)]), .br true, .res ([(.one (.pv (.int .u32 n)))], [], []), .res ([(.one (.own 0 0 (l_2).length false))], [], [(.ints .u8 l_2)])] =
  some (([(.one (.own 0 0 ((l_2 ++ p)).length false))], [], [(.ints .u8 (l_2 ++ p))]), [
    Runs Try.prog 39 [(.one (.pv .nils)), (.one (.pv (.int .u32 (IntKind.u32.wrap ((p).length : Int)))))] [] [] ([(.one (.own 0 0 (l_).length false))], [], [(.ints .u8 l_)]),
    (decide ((0 : Int) ≤ 0) && decide ((0 : Int) ≤ 4) && decide ((4 : Int) ≤ ((l_).length : Int)) && decide ((4 : Int) = 4)) = true,
    (decide ((0 : Int) ≤ 0) && decide ((0 : Int) ≤ 4) && decide ((4 : Int) ≤ ((l_).length : Int)) && decide ((4 : Int) = 4)) = true,
    (Nat.beq (p).length 0) = true,
    Runs Try.prog 11 [(.one (.pv (.ints .u8 (List.take 4 l_) false)))] [] [] ([(.one (.pv (.int .u32 n)))], [], []),
    Runs Try.prog 39 [(.one (.pv (.ints .u8 (List.take 4 l_) true))), (.one (.pv (.int .u32 n)))] [] [] ([(.one (.own 0 0 (l_2).length false))], [], [(.ints .u8 l_2)]),
    (Nat.beq (l_2).length (l_2).length) = true,
    (fits ((l_2 ++ p)).length) = true]) := by kernel_rfl
theorem wire_Frame_p1 (p : List Int) (l_ : List Int) (n : Int) (l_2 : List Int) : evFn Try.prog cfg (Runs Try.prog) (LRuns Try.prog (lEnv Try.prog cfg 16 0).nt 0) 16 [(.one (.pv (.ints .u8 p false)))] [] []
    [.res ([(.one (.own 0 0 (l_).length false))], [], [(.ints .u8 l_)]), .br false, .res ([(.one (.pv (.int .u32 n)))], [], []), .res ([(.one (.own 0 0 (l_2).length false))], [], [(.ints .u8 l_2)])] =
  some (([(.one (.own 0 0 ((l_2 ++ p)).length false))], [], [(.ints .u8 (l_2 ++ p))]), [
    Runs Try.prog 39 [(.one (.pv .nils)), (.one (.pv (.int .u32 (IntKind.u32.wrap ((p).length : Int)))))] [] [] ([(.one (.own 0 0 (l_).length false))], [], [(.ints .u8 l_)]),
    (decide ((0 : Int) ≤ 0) && decide ((0 : Int) ≤ 4) && decide ((4 : Int) ≤ ((l_).length : Int)) && decide ((4 : Int) = 4)) = true,
    (decide ((0 : Int) ≤ 0) && decide ((0 : Int) ≤ 4) && decide ((4 : Int) ≤ ((l_).length : Int)) && decide ((4 : Int) = 4)) = true,
    (!(Nat.beq (p).length 0)) = true,
    (fits (((List.take 4 l_) ++ p)).length) = true,
    Runs Try.prog 11 [(.one (.pv (.ints .u8 (List.take (((List.take 4 l_) ++ p)).length ((List.take 4 l_) ++ p)) false)))] [] [] ([(.one (.pv (.int .u32 n)))], [], []),
    Runs Try.prog 39 [(.one (.pv (.ints .u8 (List.take 4 l_) true))), (.one (.pv (.int .u32 n)))] [] [] ([(.one (.own 0 0 (l_2).length false))], [], [(.ints .u8 l_2)]),
    (Nat.beq (l_2).length (l_2).length) = true,
    (fits ((l_2 ++ p)).length) = true]) := by kernel_rfl
noncomputable def wire_Frame (p : List Int) : Option (List Int) :=
  (wire_lay_2 [] (IntKind.u32.wrap ((p).length : Int))).bind fun l_ =>
  bif decide ((0 : Int) ≤ 0) && decide ((0 : Int) ≤ 4) && decide ((4 : Int) ≤ ((l_).length : Int)) && decide ((4 : Int) = 4) then
  bif Nat.beq (p).length 0 then
    (wire_Sum (List.take 4 l_)).bind fun n =>
    (wire_lay_2 (List.take 4 l_) n).bind fun l_2 =>
    bif fits ((l_2 ++ p)).length then
    some (l_2 ++ p)
    else none
  else
    bif fits (((List.take 4 l_) ++ p)).length then
    (wire_Sum ((List.take 4 l_) ++ p)).bind fun n =>
    (wire_lay_2 (List.take 4 l_) n).bind fun l_2 =>
    bif fits ((l_2 ++ p)).length then
    some (l_2 ++ p)
    else none
    else none
  else none
theorem wire_Frame_runs (p : List Int) (r_ : List Int) (h : wire_Frame p = some r_) : Runs Try.prog 16 [(.one (.pv (.ints .u8 p false)))] [] [] (wire_Frame_out p r_) := by
  unfold wire_Frame at h
  obtain ⟨l_, h1, h⟩ := bind_of h
  obtain ⟨h2, h⟩ := need_of h
  rcases cond_of h with ⟨h3, h⟩ | ⟨h3, h⟩
  · obtain ⟨n, h4, h⟩ := bind_of h
    obtain ⟨l_2, h5, h⟩ := bind_of h
    obtain ⟨h6, h⟩ := need_of h
    have h := some_of h
    subst h
    have e_ := wire_Frame_p0 p l_ n l_2
    have e_ := runs_of (objs := []) (Says.of e_ ⟨((wire_lay_2_runs [] (IntKind.u32.wrap ((p).length : Int)) _ h1).coe ⟨.pv (.nilsI), .eq rfl, trivial⟩ trivial trivial), h2, h2, h3, (wire_Sum_runs (List.take 4 l_) _ h4), (wire_lay_2_runs (List.take 4 l_) n _ h5), (Nat.beq_refl _), h6, trivial⟩)
    exact e_
  · obtain ⟨h4, h⟩ := need_of h
    obtain ⟨n, h5, h⟩ := bind_of h
    obtain ⟨l_2, h6, h⟩ := bind_of h
    obtain ⟨h7, h⟩ := need_of h
    have h := some_of h
    subst h
    have e_ := wire_Frame_p1 p l_ n l_2
    have e_ := runs_of (objs := []) (Says.of e_ ⟨((wire_lay_2_runs [] (IntKind.u32.wrap ((p).length : Int)) _ h1).coe ⟨.pv (.nilsI), .eq rfl, trivial⟩ trivial trivial), h2, h2, (not_of h3), h4, ((wire_Sum_runs ((List.take 4 l_) ++ p) _ h5).coe ⟨.pv (.ints (by first | rfl | (simp only [List.take_length]; done) | (simp only [List.take_length, List.length_append, List.drop_zero, List.map_append, List.map_take, List.map_drop, List.map_cons, List.map_nil, List.append_nil, List.nil_append, E_uint8.pv]; done) | (simp; done))), trivial⟩ trivial trivial), (wire_lay_2_runs (List.take 4 l_) n _ h6), (Nat.beq_refl _), h7, trivial⟩)
    exact e_
/-! ### kinfolkref06_Four -/
def kinfolkref06_Four_out (n : Int) : List Int → Res
  | r1 => ([(.one (.own 0 0 (r1).length true))], [], [(.ints .u8 r1)])
theorem kinfolkref06_Four_p0 (n : Int) : evFn Try.prog cfg (Runs Try.prog) (LRuns Try.prog (lEnv Try.prog cfg 40 0).nt 0) 40 [(.one (.pv (.int .u32 n)))] [] []
    [] =
  some (([(.one (.own 0 0 4 true))], [], [(.ints .u8 [(IntKind.u8.wrap n), (IntKind.u8.wrap (iquo .u32 n 256)), (IntKind.u8.wrap (iquo .u32 n 65536)), (IntKind.u8.wrap (iquo .u32 n 16777216))])]), [
    true = true,
    true = true,
    true = true]) := by kernel_rfl
noncomputable def kinfolkref06_Four (n : Int) : Option (List Int) :=
  some [(IntKind.u8.wrap n), (IntKind.u8.wrap (iquo .u32 n 256)), (IntKind.u8.wrap (iquo .u32 n 65536)), (IntKind.u8.wrap (iquo .u32 n 16777216))]
theorem kinfolkref06_Four_runs (n : Int) (r_ : List Int) (h : kinfolkref06_Four n = some r_) : Runs Try.prog 40 [(.one (.pv (.int .u32 n)))] [] [] (kinfolkref06_Four_out n r_) := by
  unfold kinfolkref06_Four at h
  have h := some_of h
  subst h
  have e_ := kinfolkref06_Four_p0 n
  have e_ := runs_of (objs := []) (Says.of e_ ⟨rfl, rfl, rfl, trivial⟩)
  exact e_.out ⟨.own (by first | rfl | (simp only [List.take_length]; done) | (simp only [List.take_length, List.length_append, List.drop_zero, List.map_append, List.map_take, List.map_drop, List.map_cons, List.map_nil, List.append_nil, List.nil_append, E_uint8.pv]; done) | (simp; done)), trivial⟩ trivial ⟨.eq rfl, trivial⟩ rfl
/-! ### kinfolkref06_Frame -/
def kinfolkref06_Frame_out (p : List Int) : List Int → Res
  | r1 => ([(.one (.own 0 0 (r1).length false))], [], [(.ints .u8 r1)])
theorem kinfolkref06_Frame_p0 (p : List Int) (l_ : List Int) (l_2 : List Int) (n : Int) (l_3 : List Int) (l_4 : List Int) : evFn Try.prog cfg (Runs Try.prog) (LRuns Try.prog (lEnv Try.prog cfg 17 0).nt 0) 17 [(.one (.pv (.ints .u8 p false)))] [] []
    [.res ([(.one (.own 0 0 (l_).length true))], [], [(.ints .u8 l_)]), .res ([(.one (.own 0 0 (l_2).length false))], [], [(.ints .u8 l_2)]), .res ([(.one (.pv (.int .u32 n)))], [], []), .res ([(.one (.own 0 0 (l_3).length true))], [], [(.ints .u8 l_3)]), .res ([(.one (.own 0 0 (l_4).length false))], [], [(.ints .u8 l_4)])] =
  some (([(.one (.own 0 0 (l_4).length false))], [], [(.ints .u8 l_4)]), [
    Runs Try.prog 40 [(.one (.pv (.int .u32 (IntKind.u32.wrap ((p).length : Int)))))] [] [] ([(.one (.own 0 0 (l_).length true))], [], [(.ints .u8 l_)]),
    Runs Try.prog 33 [(.one (.pv (.recs 1 [[(.ints .u8 (List.take (l_).length l_) true)], [(.ints .u8 p false)]] true)))] [] [] ([(.one (.own 0 0 (l_2).length false))], [], [(.ints .u8 l_2)]),
    Runs Try.prog 12 [(.one (.pv (.ints .u8 (List.take (l_2).length l_2) false)))] [] [] ([(.one (.pv (.int .u32 n)))], [], []),
    Runs Try.prog 40 [(.one (.pv (.int .u32 n)))] [] [] ([(.one (.own 0 0 (l_3).length true))], [], [(.ints .u8 l_3)]),
    Runs Try.prog 33 [(.one (.pv (.recs 1 [[(.ints .u8 (List.take (l_).length l_) true)], [(.ints .u8 (List.take (l_3).length l_3) true)], [(.ints .u8 p false)]] true)))] [] [] ([(.one (.own 0 0 (l_4).length false))], [], [(.ints .u8 l_4)])]) := by kernel_rfl
noncomputable def kinfolkref06_Frame (p : List Int) : Option (List Int) :=
  (kinfolkref06_Four (IntKind.u32.wrap ((p).length : Int))).bind fun l_ =>
  (kinfolkref06_Join [(E_uint8.mk l_), (E_uint8.mk p)]).bind fun l_2 =>
  (kinfolkref06_Sum l_2).bind fun n =>
  (kinfolkref06_Four n).bind fun l_3 =>
  (kinfolkref06_Join [(E_uint8.mk l_), (E_uint8.mk l_3), (E_uint8.mk p)]).bind fun l_4 =>
  some l_4
theorem kinfolkref06_Frame_runs (p : List Int) (r_ : List Int) (h : kinfolkref06_Frame p = some r_) : Runs Try.prog 17 [(.one (.pv (.ints .u8 p false)))] [] [] (kinfolkref06_Frame_out p r_) := by
  unfold kinfolkref06_Frame at h
  obtain ⟨l_, h1, h⟩ := bind_of h
  obtain ⟨l_2, h2, h⟩ := bind_of h
  obtain ⟨n, h3, h⟩ := bind_of h
  obtain ⟨l_3, h4, h⟩ := bind_of h
  obtain ⟨l_4, h5, h⟩ := bind_of h
  have h := some_of h
  subst h
  have e_ := kinfolkref06_Frame_p0 p l_ l_2 n l_3 l_4
  have e_ := runs_of (objs := []) (Says.of e_ ⟨(kinfolkref06_Four_runs (IntKind.u32.wrap ((p).length : Int)) _ h1), ((kinfolkref06_Join_runs [(E_uint8.mk l_), (E_uint8.mk p)] _ h2).coe ⟨.pv (.recs (.cons (.cons (.ints (by first | rfl | (simp only [List.take_length]; done) | (simp only [List.take_length, List.length_append, List.drop_zero, List.map_append, List.map_take, List.map_drop, List.map_cons, List.map_nil, List.append_nil, List.nil_append, E_uint8.pv]; done) | (simp; done))) (.nil)) (.cons (.cons (.eq rfl) (.nil)) (.nil)))), trivial⟩ trivial trivial), ((kinfolkref06_Sum_runs l_2 _ h3).coe ⟨.pv (.ints (by first | rfl | (simp only [List.take_length]; done) | (simp only [List.take_length, List.length_append, List.drop_zero, List.map_append, List.map_take, List.map_drop, List.map_cons, List.map_nil, List.append_nil, List.nil_append, E_uint8.pv]; done) | (simp; done))), trivial⟩ trivial trivial), (kinfolkref06_Four_runs n _ h4), ((kinfolkref06_Join_runs [(E_uint8.mk l_), (E_uint8.mk l_3), (E_uint8.mk p)] _ h5).coe ⟨.pv (.recs (.cons (.cons (.ints (by first | rfl | (simp only [List.take_length]; done) | (simp only [List.take_length, List.length_append, List.drop_zero, List.map_append, List.map_take, List.map_drop, List.map_cons, List.map_nil, List.append_nil, List.nil_append, E_uint8.pv]; done) | (simp; done))) (.nil)) (.cons (.cons (.ints (by first | rfl | (simp only [List.take_length]; done) | (simp only [List.take_length, List.length_append, List.drop_zero, List.map_append, List.map_take, List.map_drop, List.map_cons, List.map_nil, List.append_nil, List.nil_append, E_uint8.pv]; done) | (simp; done))) (.nil)) (.cons (.cons (.eq rfl) (.nil)) (.nil))))), trivial⟩ trivial trivial), trivial⟩)
  exact e_
/-! ### kinfolklaw06_WireFrames -/
def kinfolklaw06_WireFrames_out (p : List Int) (behind : List Int) (at_ : Int) (turn : Int) : Bool → Res
  | r1 => ([(.one (.pv (.bool r1)))], [], [])
theorem kinfolklaw06_WireFrames_p0 (p : List Int) (behind : List Int) (at_ : Int) (turn : Int) (b : Bool) (l_ : List Int) (l_2 : List Int) (l_3 : List Int) (l_4 : List Int) (l_5 : List Int) (n : Int) (n2 : Int) (l_6 : List Int) (b2 : Bool) (b3 : Bool) : evFn Try.prog cfg (Runs Try.prog) (LRuns Try.prog (lEnv Try.prog cfg 5 0).nt 0) 5 [(.one (.pv (.ints .u8 p false))), (.one (.pv (.ints .u8 behind false))), (.one (.pv (.int .u16 at_))), (.one (.pv (.int .u8 turn)))] [] []
    [.res ([(.one (.pv (.bool b)))], [], []), .br false, .res ([(.one (.own 0 0 (l_).length false))], [], [(.ints .u8 l_)]), .res ([(.one (.own 0 0 (l_2).length false))], [], [(.ints .u8 l_2)]), .res ([(.one (.own 0 0 (l_3).length false))], [], [(.ints .u8 l_3)]), .res ([(.one (.own 0 0 (l_4).length false))], [], [(.ints .u8 l_4)]), .res ([(.one (.pv (.ints .u8 l_5 false))), (.one (.pv (.int .i64 n))), (.one (.pv (.int .i64 n2)))], [], []), .res ([(.one (.own 0 0 (l_6).length false))], [], [(.ints .u8 l_6)]), .res ([(.one (.pv (.bool b2)))], [], []), .br false, .br false, .br false, .res ([(.one (.pv (.bool b3)))], [], []), .br false, .br true] =
  some (([(.one (.pv (.bool true)))], [], []), [
    Runs Try.prog 9 [] [] [] ([(.one (.pv (.bool b)))], [], []),
    (!b) = false,
    Runs Try.prog 10 [(.one (.bor (.ints .u8 p false))), (.one (.pv (.int .i64 200)))] [] [] ([(.one (.own 0 0 (l_).length false))], [], [(.ints .u8 l_)]),
    Runs Try.prog 10 [(.one (.bor (.ints .u8 behind false))), (.one (.pv (.int .i64 30)))] [] [] ([(.one (.own 0 0 (l_2).length false))], [], [(.ints .u8 l_2)]),
    Runs Try.prog 16 [(.one (.pv (.ints .u8 (List.take (l_).length l_) false)))] [] [] ([(.one (.own 0 0 (l_3).length false))], [], [(.ints .u8 l_3)]),
    Runs Try.prog 10 [(.one (.bor (.ints .u8 (List.take (l_3).length l_3) false))), (.one (.pv (.int .i64 300)))] [] [] ([(.one (.own 0 0 (l_4).length false))], [], [(.ints .u8 l_4)]),
    (Nat.beq (l_4).length (l_4).length) = true,
    (fits ((l_4 ++ (List.take (l_2).length l_2))).length) = true,
    Runs Try.prog 13 [(.one (.pv (.ints .u8 (List.take ((l_4 ++ (List.take (l_2).length l_2))).length (l_4 ++ (List.take (l_2).length l_2))) false)))] [] [] ([(.one (.pv (.ints .u8 l_5 false))), (.one (.pv (.int .i64 n))), (.one (.pv (.int .i64 n2)))], [], []),
    Runs Try.prog 17 [(.one (.pv (.ints .u8 (List.take (l_).length l_) false)))] [] [] ([(.one (.own 0 0 (l_6).length false))], [], [(.ints .u8 l_6)]),
    Runs Try.prog 15 [(.one (.bor (.ints .u8 (List.take (l_3).length l_3) false))), (.one (.bor (.ints .u8 (List.take (l_6).length l_6) false)))] [] [] ([(.one (.pv (.bool b2)))], [], []),
    (!b2) = false,
    (!(decide ((n2 : Int) = 0))) = false,
    (!(decide ((n : Int) = ((l_3).length : Int)))) = false,
    Runs Try.prog 15 [(.one (.bor (.ints .u8 l_5 false))), (.one (.bor (.ints .u8 (List.take (l_).length l_) false)))] [] [] ([(.one (.pv (.bool b3)))], [], []),
    (!b3) = false,
    (decide ((turn : Int) = 0)) = true]) := by kernel_rfl
theorem kinfolklaw06_WireFrames_p1 (p : List Int) (behind : List Int) (at_ : Int) (turn : Int) (b : Bool) (l_ : List Int) (l_2 : List Int) (l_3 : List Int) (l_4 : List Int) (l_5 : List Int) (n : Int) (n2 : Int) (l_6 : List Int) (b2 : Bool) (b3 : Bool) (l_7 : List Int) (n3 : Int) (n4 : Int) : evFn Try.prog cfg (Runs Try.prog) (LRuns Try.prog (lEnv Try.prog cfg 5 0).nt 0) 5 [(.one (.pv (.ints .u8 p false))), (.one (.pv (.ints .u8 behind false))), (.one (.pv (.int .u16 at_))), (.one (.pv (.int .u8 turn)))] [] []
    [.res ([(.one (.pv (.bool b)))], [], []), .br false, .res ([(.one (.own 0 0 (l_).length false))], [], [(.ints .u8 l_)]), .res ([(.one (.own 0 0 (l_2).length false))], [], [(.ints .u8 l_2)]), .res ([(.one (.own 0 0 (l_3).length false))], [], [(.ints .u8 l_3)]), .res ([(.one (.own 0 0 (l_4).length false))], [], [(.ints .u8 l_4)]), .res ([(.one (.pv (.ints .u8 l_5 false))), (.one (.pv (.int .i64 n))), (.one (.pv (.int .i64 n2)))], [], []), .res ([(.one (.own 0 0 (l_6).length false))], [], [(.ints .u8 l_6)]), .res ([(.one (.pv (.bool b2)))], [], []), .br false, .br false, .br false, .res ([(.one (.pv (.bool b3)))], [], []), .br false, .br false, .res ([(.one (.pv (.ints .u8 l_7 false))), (.one (.pv (.int .i64 n3))), (.one (.pv (.int .i64 n4)))], [], []), .br true, .br true] =
  some (([(.one (.pv (.bool (decide ((n3 : Int) = 0)))))], [], []), [
    Runs Try.prog 9 [] [] [] ([(.one (.pv (.bool b)))], [], []),
    (!b) = false,
    Runs Try.prog 10 [(.one (.bor (.ints .u8 p false))), (.one (.pv (.int .i64 200)))] [] [] ([(.one (.own 0 0 (l_).length false))], [], [(.ints .u8 l_)]),
    Runs Try.prog 10 [(.one (.bor (.ints .u8 behind false))), (.one (.pv (.int .i64 30)))] [] [] ([(.one (.own 0 0 (l_2).length false))], [], [(.ints .u8 l_2)]),
    Runs Try.prog 16 [(.one (.pv (.ints .u8 (List.take (l_).length l_) false)))] [] [] ([(.one (.own 0 0 (l_3).length false))], [], [(.ints .u8 l_3)]),
    Runs Try.prog 10 [(.one (.bor (.ints .u8 (List.take (l_3).length l_3) false))), (.one (.pv (.int .i64 300)))] [] [] ([(.one (.own 0 0 (l_4).length false))], [], [(.ints .u8 l_4)]),
    (Nat.beq (l_4).length (l_4).length) = true,
    (fits ((l_4 ++ (List.take (l_2).length l_2))).length) = true,
    Runs Try.prog 13 [(.one (.pv (.ints .u8 (List.take ((l_4 ++ (List.take (l_2).length l_2))).length (l_4 ++ (List.take (l_2).length l_2))) false)))] [] [] ([(.one (.pv (.ints .u8 l_5 false))), (.one (.pv (.int .i64 n))), (.one (.pv (.int .i64 n2)))], [], []),
    Runs Try.prog 17 [(.one (.pv (.ints .u8 (List.take (l_).length l_) false)))] [] [] ([(.one (.own 0 0 (l_6).length false))], [], [(.ints .u8 l_6)]),
    Runs Try.prog 15 [(.one (.bor (.ints .u8 (List.take (l_3).length l_3) false))), (.one (.bor (.ints .u8 (List.take (l_6).length l_6) false)))] [] [] ([(.one (.pv (.bool b2)))], [], []),
    (!b2) = false,
    (!(decide ((n2 : Int) = 0))) = false,
    (!(decide ((n : Int) = ((l_3).length : Int)))) = false,
    Runs Try.prog 15 [(.one (.bor (.ints .u8 l_5 false))), (.one (.bor (.ints .u8 (List.take (l_).length l_) false)))] [] [] ([(.one (.pv (.bool b3)))], [], []),
    (!b3) = false,
    (decide ((turn : Int) = 0)) = false,
    (!decide (((isub .i64 ((l_3).length : Int) 4) : Int) = 0)) = true,
    (decide ((0 : Int) ≤ (iadd .i64 4 (irem .i64 (IntKind.i64.wrap at_) (isub .i64 ((l_3).length : Int) 4)))) && decide (((iadd .i64 4 (irem .i64 (IntKind.i64.wrap at_) (isub .i64 ((l_3).length : Int) 4))) : Int) < ((l_3).length : Int))) = true,
    (decide ((0 : Int) ≤ (iadd .i64 4 (irem .i64 (IntKind.i64.wrap at_) (isub .i64 ((l_3).length : Int) 4)))) && decide (((iadd .i64 4 (irem .i64 (IntKind.i64.wrap at_) (isub .i64 ((l_3).length : Int) 4))) : Int) < ((l_3).length : Int))) = true,
    Runs Try.prog 13 [(.one (.pv (.ints .u8 (List.take (l_3).length (l_3.set (0 + ((iadd .i64 4 (irem .i64 (IntKind.i64.wrap at_) (isub .i64 ((l_3).length : Int) 4)))).toNat) (ixor .u8 (l_3.getD (0 + ((iadd .i64 4 (irem .i64 (IntKind.i64.wrap at_) (isub .i64 ((l_3).length : Int) 4)))).toNat) 0) turn))) false)))] [] [] ([(.one (.pv (.ints .u8 l_7 false))), (.one (.pv (.int .i64 n3))), (.one (.pv (.int .i64 n4)))], [], []),
    (decide ((n4 : Int) = 13)) = true,
    (decide ((((l_7).length : Int) : Int) = 0)) = true]) := by kernel_rfl
theorem kinfolklaw06_WireFrames_p2 (p : List Int) (behind : List Int) (at_ : Int) (turn : Int) (b : Bool) (l_ : List Int) (l_2 : List Int) (l_3 : List Int) (l_4 : List Int) (l_5 : List Int) (n : Int) (n2 : Int) (l_6 : List Int) (b2 : Bool) (b3 : Bool) (l_7 : List Int) (n3 : Int) (n4 : Int) : evFn Try.prog cfg (Runs Try.prog) (LRuns Try.prog (lEnv Try.prog cfg 5 0).nt 0) 5 [(.one (.pv (.ints .u8 p false))), (.one (.pv (.ints .u8 behind false))), (.one (.pv (.int .u16 at_))), (.one (.pv (.int .u8 turn)))] [] []
    [.res ([(.one (.pv (.bool b)))], [], []), .br false, .res ([(.one (.own 0 0 (l_).length false))], [], [(.ints .u8 l_)]), .res ([(.one (.own 0 0 (l_2).length false))], [], [(.ints .u8 l_2)]), .res ([(.one (.own 0 0 (l_3).length false))], [], [(.ints .u8 l_3)]), .res ([(.one (.own 0 0 (l_4).length false))], [], [(.ints .u8 l_4)]), .res ([(.one (.pv (.ints .u8 l_5 false))), (.one (.pv (.int .i64 n))), (.one (.pv (.int .i64 n2)))], [], []), .res ([(.one (.own 0 0 (l_6).length false))], [], [(.ints .u8 l_6)]), .res ([(.one (.pv (.bool b2)))], [], []), .br false, .br false, .br false, .res ([(.one (.pv (.bool b3)))], [], []), .br false, .br false, .res ([(.one (.pv (.ints .u8 l_7 false))), (.one (.pv (.int .i64 n3))), (.one (.pv (.int .i64 n4)))], [], []), .br true, .br false] =
  some (([(.one (.pv (.bool false)))], [], []), [
    Runs Try.prog 9 [] [] [] ([(.one (.pv (.bool b)))], [], []),
    (!b) = false,
    Runs Try.prog 10 [(.one (.bor (.ints .u8 p false))), (.one (.pv (.int .i64 200)))] [] [] ([(.one (.own 0 0 (l_).length false))], [], [(.ints .u8 l_)]),
    Runs Try.prog 10 [(.one (.bor (.ints .u8 behind false))), (.one (.pv (.int .i64 30)))] [] [] ([(.one (.own 0 0 (l_2).length false))], [], [(.ints .u8 l_2)]),
    Runs Try.prog 16 [(.one (.pv (.ints .u8 (List.take (l_).length l_) false)))] [] [] ([(.one (.own 0 0 (l_3).length false))], [], [(.ints .u8 l_3)]),
    Runs Try.prog 10 [(.one (.bor (.ints .u8 (List.take (l_3).length l_3) false))), (.one (.pv (.int .i64 300)))] [] [] ([(.one (.own 0 0 (l_4).length false))], [], [(.ints .u8 l_4)]),
    (Nat.beq (l_4).length (l_4).length) = true,
    (fits ((l_4 ++ (List.take (l_2).length l_2))).length) = true,
    Runs Try.prog 13 [(.one (.pv (.ints .u8 (List.take ((l_4 ++ (List.take (l_2).length l_2))).length (l_4 ++ (List.take (l_2).length l_2))) false)))] [] [] ([(.one (.pv (.ints .u8 l_5 false))), (.one (.pv (.int .i64 n))), (.one (.pv (.int .i64 n2)))], [], []),
    Runs Try.prog 17 [(.one (.pv (.ints .u8 (List.take (l_).length l_) false)))] [] [] ([(.one (.own 0 0 (l_6).length false))], [], [(.ints .u8 l_6)]),
    Runs Try.prog 15 [(.one (.bor (.ints .u8 (List.take (l_3).length l_3) false))), (.one (.bor (.ints .u8 (List.take (l_6).length l_6) false)))] [] [] ([(.one (.pv (.bool b2)))], [], []),
    (!b2) = false,
    (!(decide ((n2 : Int) = 0))) = false,
    (!(decide ((n : Int) = ((l_3).length : Int)))) = false,
    Runs Try.prog 15 [(.one (.bor (.ints .u8 l_5 false))), (.one (.bor (.ints .u8 (List.take (l_).length l_) false)))] [] [] ([(.one (.pv (.bool b3)))], [], []),
    (!b3) = false,
    (decide ((turn : Int) = 0)) = false,
    (!decide (((isub .i64 ((l_3).length : Int) 4) : Int) = 0)) = true,
    (decide ((0 : Int) ≤ (iadd .i64 4 (irem .i64 (IntKind.i64.wrap at_) (isub .i64 ((l_3).length : Int) 4)))) && decide (((iadd .i64 4 (irem .i64 (IntKind.i64.wrap at_) (isub .i64 ((l_3).length : Int) 4))) : Int) < ((l_3).length : Int))) = true,
    (decide ((0 : Int) ≤ (iadd .i64 4 (irem .i64 (IntKind.i64.wrap at_) (isub .i64 ((l_3).length : Int) 4)))) && decide (((iadd .i64 4 (irem .i64 (IntKind.i64.wrap at_) (isub .i64 ((l_3).length : Int) 4))) : Int) < ((l_3).length : Int))) = true,
    Runs Try.prog 13 [(.one (.pv (.ints .u8 (List.take (l_3).length (l_3.set (0 + ((iadd .i64 4 (irem .i64 (IntKind.i64.wrap at_) (isub .i64 ((l_3).length : Int) 4)))).toNat) (ixor .u8 (l_3.getD (0 + ((iadd .i64 4 (irem .i64 (IntKind.i64.wrap at_) (isub .i64 ((l_3).length : Int) 4)))).toNat) 0) turn))) false)))] [] [] ([(.one (.pv (.ints .u8 l_7 false))), (.one (.pv (.int .i64 n3))), (.one (.pv (.int .i64 n4)))], [], []),
    (decide ((n4 : Int) = 13)) = true,
    (decide ((((l_7).length : Int) : Int) = 0)) = false]) := by kernel_rfl
theorem kinfolklaw06_WireFrames_p3 (p : List Int) (behind : List Int) (at_ : Int) (turn : Int) (b : Bool) (l_ : List Int) (l_2 : List Int) (l_3 : List Int) (l_4 : List Int) (l_5 : List Int) (n : Int) (n2 : Int) (l_6 : List Int) (b2 : Bool) (b3 : Bool) (l_7 : List Int) (n3 : Int) (n4 : Int) : evFn Try.prog cfg (Runs Try.prog) (LRuns Try.prog (lEnv Try.prog cfg 5 0).nt 0) 5 [(.one (.pv (.ints .u8 p false))), (.one (.pv (.ints .u8 behind false))), (.one (.pv (.int .u16 at_))), (.one (.pv (.int .u8 turn)))] [] []
    [.res ([(.one (.pv (.bool b)))], [], []), .br false, .res ([(.one (.own 0 0 (l_).length false))], [], [(.ints .u8 l_)]), .res ([(.one (.own 0 0 (l_2).length false))], [], [(.ints .u8 l_2)]), .res ([(.one (.own 0 0 (l_3).length false))], [], [(.ints .u8 l_3)]), .res ([(.one (.own 0 0 (l_4).length false))], [], [(.ints .u8 l_4)]), .res ([(.one (.pv (.ints .u8 l_5 false))), (.one (.pv (.int .i64 n))), (.one (.pv (.int .i64 n2)))], [], []), .res ([(.one (.own 0 0 (l_6).length false))], [], [(.ints .u8 l_6)]), .res ([(.one (.pv (.bool b2)))], [], []), .br false, .br false, .br false, .res ([(.one (.pv (.bool b3)))], [], []), .br false, .br false, .res ([(.one (.pv (.ints .u8 l_7 false))), (.one (.pv (.int .i64 n3))), (.one (.pv (.int .i64 n4)))], [], []), .br false, .br false] =
  some (([(.one (.pv (.bool false)))], [], []), [
    Runs Try.prog 9 [] [] [] ([(.one (.pv (.bool b)))], [], []),
    (!b) = false,
    Runs Try.prog 10 [(.one (.bor (.ints .u8 p false))), (.one (.pv (.int .i64 200)))] [] [] ([(.one (.own 0 0 (l_).length false))], [], [(.ints .u8 l_)]),
    Runs Try.prog 10 [(.one (.bor (.ints .u8 behind false))), (.one (.pv (.int .i64 30)))] [] [] ([(.one (.own 0 0 (l_2).length false))], [], [(.ints .u8 l_2)]),
    Runs Try.prog 16 [(.one (.pv (.ints .u8 (List.take (l_).length l_) false)))] [] [] ([(.one (.own 0 0 (l_3).length false))], [], [(.ints .u8 l_3)]),
    Runs Try.prog 10 [(.one (.bor (.ints .u8 (List.take (l_3).length l_3) false))), (.one (.pv (.int .i64 300)))] [] [] ([(.one (.own 0 0 (l_4).length false))], [], [(.ints .u8 l_4)]),
    (Nat.beq (l_4).length (l_4).length) = true,
    (fits ((l_4 ++ (List.take (l_2).length l_2))).length) = true,
    Runs Try.prog 13 [(.one (.pv (.ints .u8 (List.take ((l_4 ++ (List.take (l_2).length l_2))).length (l_4 ++ (List.take (l_2).length l_2))) false)))] [] [] ([(.one (.pv (.ints .u8 l_5 false))), (.one (.pv (.int .i64 n))), (.one (.pv (.int .i64 n2)))], [], []),
    Runs Try.prog 17 [(.one (.pv (.ints .u8 (List.take (l_).length l_) false)))] [] [] ([(.one (.own 0 0 (l_6).length false))], [], [(.ints .u8 l_6)]),
    Runs Try.prog 15 [(.one (.bor (.ints .u8 (List.take (l_3).length l_3) false))), (.one (.bor (.ints .u8 (List.take (l_6).length l_6) false)))] [] [] ([(.one (.pv (.bool b2)))], [], []),
    (!b2) = false,
    (!(decide ((n2 : Int) = 0))) = false,
    (!(decide ((n : Int) = ((l_3).length : Int)))) = false,
    Runs Try.prog 15 [(.one (.bor (.ints .u8 l_5 false))), (.one (.bor (.ints .u8 (List.take (l_).length l_) false)))] [] [] ([(.one (.pv (.bool b3)))], [], []),
    (!b3) = false,
    (decide ((turn : Int) = 0)) = false,
    (!decide (((isub .i64 ((l_3).length : Int) 4) : Int) = 0)) = true,
    (decide ((0 : Int) ≤ (iadd .i64 4 (irem .i64 (IntKind.i64.wrap at_) (isub .i64 ((l_3).length : Int) 4)))) && decide (((iadd .i64 4 (irem .i64 (IntKind.i64.wrap at_) (isub .i64 ((l_3).length : Int) 4))) : Int) < ((l_3).length : Int))) = true,
    (decide ((0 : Int) ≤ (iadd .i64 4 (irem .i64 (IntKind.i64.wrap at_) (isub .i64 ((l_3).length : Int) 4)))) && decide (((iadd .i64 4 (irem .i64 (IntKind.i64.wrap at_) (isub .i64 ((l_3).length : Int) 4))) : Int) < ((l_3).length : Int))) = true,
    Runs Try.prog 13 [(.one (.pv (.ints .u8 (List.take (l_3).length (l_3.set (0 + ((iadd .i64 4 (irem .i64 (IntKind.i64.wrap at_) (isub .i64 ((l_3).length : Int) 4)))).toNat) (ixor .u8 (l_3.getD (0 + ((iadd .i64 4 (irem .i64 (IntKind.i64.wrap at_) (isub .i64 ((l_3).length : Int) 4)))).toNat) 0) turn))) false)))] [] [] ([(.one (.pv (.ints .u8 l_7 false))), (.one (.pv (.int .i64 n3))), (.one (.pv (.int .i64 n4)))], [], []),
    (decide ((n4 : Int) = 13)) = false,
    false = false]) := by kernel_rfl
theorem kinfolklaw06_WireFrames_p4 (p : List Int) (behind : List Int) (at_ : Int) (turn : Int) (b : Bool) (l_ : List Int) (l_2 : List Int) (l_3 : List Int) (l_4 : List Int) (l_5 : List Int) (n : Int) (n2 : Int) (l_6 : List Int) (b2 : Bool) (b3 : Bool) : evFn Try.prog cfg (Runs Try.prog) (LRuns Try.prog (lEnv Try.prog cfg 5 0).nt 0) 5 [(.one (.pv (.ints .u8 p false))), (.one (.pv (.ints .u8 behind false))), (.one (.pv (.int .u16 at_))), (.one (.pv (.int .u8 turn)))] [] []
    [.res ([(.one (.pv (.bool b)))], [], []), .br false, .res ([(.one (.own 0 0 (l_).length false))], [], [(.ints .u8 l_)]), .res ([(.one (.own 0 0 (l_2).length false))], [], [(.ints .u8 l_2)]), .res ([(.one (.own 0 0 (l_3).length false))], [], [(.ints .u8 l_3)]), .res ([(.one (.own 0 0 (l_4).length false))], [], [(.ints .u8 l_4)]), .res ([(.one (.pv (.ints .u8 l_5 false))), (.one (.pv (.int .i64 n))), (.one (.pv (.int .i64 n2)))], [], []), .res ([(.one (.own 0 0 (l_6).length false))], [], [(.ints .u8 l_6)]), .res ([(.one (.pv (.bool b2)))], [], []), .br false, .br false, .br false, .res ([(.one (.pv (.bool b3)))], [], []), .br true] =
  some (([(.one (.pv (.bool false)))], [], []), [
    Runs Try.prog 9 [] [] [] ([(.one (.pv (.bool b)))], [], []),
    (!b) = false,
    Runs Try.prog 10 [(.one (.bor (.ints .u8 p false))), (.one (.pv (.int .i64 200)))] [] [] ([(.one (.own 0 0 (l_).length false))], [], [(.ints .u8 l_)]),
    Runs Try.prog 10 [(.one (.bor (.ints .u8 behind false))), (.one (.pv (.int .i64 30)))] [] [] ([(.one (.own 0 0 (l_2).length false))], [], [(.ints .u8 l_2)]),
    Runs Try.prog 16 [(.one (.pv (.ints .u8 (List.take (l_).length l_) false)))] [] [] ([(.one (.own 0 0 (l_3).length false))], [], [(.ints .u8 l_3)]),
    Runs Try.prog 10 [(.one (.bor (.ints .u8 (List.take (l_3).length l_3) false))), (.one (.pv (.int .i64 300)))] [] [] ([(.one (.own 0 0 (l_4).length false))], [], [(.ints .u8 l_4)]),
    (Nat.beq (l_4).length (l_4).length) = true,
    (fits ((l_4 ++ (List.take (l_2).length l_2))).length) = true,
    Runs Try.prog 13 [(.one (.pv (.ints .u8 (List.take ((l_4 ++ (List.take (l_2).length l_2))).length (l_4 ++ (List.take (l_2).length l_2))) false)))] [] [] ([(.one (.pv (.ints .u8 l_5 false))), (.one (.pv (.int .i64 n))), (.one (.pv (.int .i64 n2)))], [], []),
    Runs Try.prog 17 [(.one (.pv (.ints .u8 (List.take (l_).length l_) false)))] [] [] ([(.one (.own 0 0 (l_6).length false))], [], [(.ints .u8 l_6)]),
    Runs Try.prog 15 [(.one (.bor (.ints .u8 (List.take (l_3).length l_3) false))), (.one (.bor (.ints .u8 (List.take (l_6).length l_6) false)))] [] [] ([(.one (.pv (.bool b2)))], [], []),
    (!b2) = false,
    (!(decide ((n2 : Int) = 0))) = false,
    (!(decide ((n : Int) = ((l_3).length : Int)))) = false,
    Runs Try.prog 15 [(.one (.bor (.ints .u8 l_5 false))), (.one (.bor (.ints .u8 (List.take (l_).length l_) false)))] [] [] ([(.one (.pv (.bool b3)))], [], []),
    (!b3) = true]) := by kernel_rfl
theorem kinfolklaw06_WireFrames_p5 (p : List Int) (behind : List Int) (at_ : Int) (turn : Int) (b : Bool) (l_ : List Int) (l_2 : List Int) (l_3 : List Int) (l_4 : List Int) (l_5 : List Int) (n : Int) (n2 : Int) (l_6 : List Int) (b2 : Bool) : evFn Try.prog cfg (Runs Try.prog) (LRuns Try.prog (lEnv Try.prog cfg 5 0).nt 0) 5 [(.one (.pv (.ints .u8 p false))), (.one (.pv (.ints .u8 behind false))), (.one (.pv (.int .u16 at_))), (.one (.pv (.int .u8 turn)))] [] []
    [.res ([(.one (.pv (.bool b)))], [], []), .br false, .res ([(.one (.own 0 0 (l_).length false))], [], [(.ints .u8 l_)]), .res ([(.one (.own 0 0 (l_2).length false))], [], [(.ints .u8 l_2)]), .res ([(.one (.own 0 0 (l_3).length false))], [], [(.ints .u8 l_3)]), .res ([(.one (.own 0 0 (l_4).length false))], [], [(.ints .u8 l_4)]), .res ([(.one (.pv (.ints .u8 l_5 false))), (.one (.pv (.int .i64 n))), (.one (.pv (.int .i64 n2)))], [], []), .res ([(.one (.own 0 0 (l_6).length false))], [], [(.ints .u8 l_6)]), .res ([(.one (.pv (.bool b2)))], [], []), .br false, .br false, .br true, .br true] =
  some (([(.one (.pv (.bool false)))], [], []), [
    Runs Try.prog 9 [] [] [] ([(.one (.pv (.bool b)))], [], []),
    (!b) = false,
    Runs Try.prog 10 [(.one (.bor (.ints .u8 p false))), (.one (.pv (.int .i64 200)))] [] [] ([(.one (.own 0 0 (l_).length false))], [], [(.ints .u8 l_)]),
    Runs Try.prog 10 [(.one (.bor (.ints .u8 behind false))), (.one (.pv (.int .i64 30)))] [] [] ([(.one (.own 0 0 (l_2).length false))], [], [(.ints .u8 l_2)]),
    Runs Try.prog 16 [(.one (.pv (.ints .u8 (List.take (l_).length l_) false)))] [] [] ([(.one (.own 0 0 (l_3).length false))], [], [(.ints .u8 l_3)]),
    Runs Try.prog 10 [(.one (.bor (.ints .u8 (List.take (l_3).length l_3) false))), (.one (.pv (.int .i64 300)))] [] [] ([(.one (.own 0 0 (l_4).length false))], [], [(.ints .u8 l_4)]),
    (Nat.beq (l_4).length (l_4).length) = true,
    (fits ((l_4 ++ (List.take (l_2).length l_2))).length) = true,
    Runs Try.prog 13 [(.one (.pv (.ints .u8 (List.take ((l_4 ++ (List.take (l_2).length l_2))).length (l_4 ++ (List.take (l_2).length l_2))) false)))] [] [] ([(.one (.pv (.ints .u8 l_5 false))), (.one (.pv (.int .i64 n))), (.one (.pv (.int .i64 n2)))], [], []),
    Runs Try.prog 17 [(.one (.pv (.ints .u8 (List.take (l_).length l_) false)))] [] [] ([(.one (.own 0 0 (l_6).length false))], [], [(.ints .u8 l_6)]),
    Runs Try.prog 15 [(.one (.bor (.ints .u8 (List.take (l_3).length l_3) false))), (.one (.bor (.ints .u8 (List.take (l_6).length l_6) false)))] [] [] ([(.one (.pv (.bool b2)))], [], []),
    (!b2) = false,
    (!(decide ((n2 : Int) = 0))) = false,
    (!(decide ((n : Int) = ((l_3).length : Int)))) = true,
    true = true]) := by kernel_rfl
theorem kinfolklaw06_WireFrames_p6 (p : List Int) (behind : List Int) (at_ : Int) (turn : Int) (b : Bool) (l_ : List Int) (l_2 : List Int) (l_3 : List Int) (l_4 : List Int) (l_5 : List Int) (n : Int) (n2 : Int) (l_6 : List Int) (b2 : Bool) : evFn Try.prog cfg (Runs Try.prog) (LRuns Try.prog (lEnv Try.prog cfg 5 0).nt 0) 5 [(.one (.pv (.ints .u8 p false))), (.one (.pv (.ints .u8 behind false))), (.one (.pv (.int .u16 at_))), (.one (.pv (.int .u8 turn)))] [] []
    [.res ([(.one (.pv (.bool b)))], [], []), .br false, .res ([(.one (.own 0 0 (l_).length false))], [], [(.ints .u8 l_)]), .res ([(.one (.own 0 0 (l_2).length false))], [], [(.ints .u8 l_2)]), .res ([(.one (.own 0 0 (l_3).length false))], [], [(.ints .u8 l_3)]), .res ([(.one (.own 0 0 (l_4).length false))], [], [(.ints .u8 l_4)]), .res ([(.one (.pv (.ints .u8 l_5 false))), (.one (.pv (.int .i64 n))), (.one (.pv (.int .i64 n2)))], [], []), .res ([(.one (.own 0 0 (l_6).length false))], [], [(.ints .u8 l_6)]), .res ([(.one (.pv (.bool b2)))], [], []), .br false, .br true, .br true, .br true] =
  some (([(.one (.pv (.bool false)))], [], []), [
    Runs Try.prog 9 [] [] [] ([(.one (.pv (.bool b)))], [], []),
    (!b) = false,
    Runs Try.prog 10 [(.one (.bor (.ints .u8 p false))), (.one (.pv (.int .i64 200)))] [] [] ([(.one (.own 0 0 (l_).length false))], [], [(.ints .u8 l_)]),
    Runs Try.prog 10 [(.one (.bor (.ints .u8 behind false))), (.one (.pv (.int .i64 30)))] [] [] ([(.one (.own 0 0 (l_2).length false))], [], [(.ints .u8 l_2)]),
    Runs Try.prog 16 [(.one (.pv (.ints .u8 (List.take (l_).length l_) false)))] [] [] ([(.one (.own 0 0 (l_3).length false))], [], [(.ints .u8 l_3)]),
    Runs Try.prog 10 [(.one (.bor (.ints .u8 (List.take (l_3).length l_3) false))), (.one (.pv (.int .i64 300)))] [] [] ([(.one (.own 0 0 (l_4).length false))], [], [(.ints .u8 l_4)]),
    (Nat.beq (l_4).length (l_4).length) = true,
    (fits ((l_4 ++ (List.take (l_2).length l_2))).length) = true,
    Runs Try.prog 13 [(.one (.pv (.ints .u8 (List.take ((l_4 ++ (List.take (l_2).length l_2))).length (l_4 ++ (List.take (l_2).length l_2))) false)))] [] [] ([(.one (.pv (.ints .u8 l_5 false))), (.one (.pv (.int .i64 n))), (.one (.pv (.int .i64 n2)))], [], []),
    Runs Try.prog 17 [(.one (.pv (.ints .u8 (List.take (l_).length l_) false)))] [] [] ([(.one (.own 0 0 (l_6).length false))], [], [(.ints .u8 l_6)]),
    Runs Try.prog 15 [(.one (.bor (.ints .u8 (List.take (l_3).length l_3) false))), (.one (.bor (.ints .u8 (List.take (l_6).length l_6) false)))] [] [] ([(.one (.pv (.bool b2)))], [], []),
    (!b2) = false,
    (!(decide ((n2 : Int) = 0))) = true,
    true = true,
    true = true]) := by kernel_rfl
theorem kinfolklaw06_WireFrames_p7 (p : List Int) (behind : List Int) (at_ : Int) (turn : Int) (b : Bool) (l_ : List Int) (l_2 : List Int) (l_3 : List Int) (l_4 : List Int) (l_5 : List Int) (n : Int) (n2 : Int) (l_6 : List Int) (b2 : Bool) : evFn Try.prog cfg (Runs Try.prog) (LRuns Try.prog (lEnv Try.prog cfg 5 0).nt 0) 5 [(.one (.pv (.ints .u8 p false))), (.one (.pv (.ints .u8 behind false))), (.one (.pv (.int .u16 at_))), (.one (.pv (.int .u8 turn)))] [] []
    [.res ([(.one (.pv (.bool b)))], [], []), .br false, .res ([(.one (.own 0 0 (l_).length false))], [], [(.ints .u8 l_)]), .res ([(.one (.own 0 0 (l_2).length false))], [], [(.ints .u8 l_2)]), .res ([(.one (.own 0 0 (l_3).length false))], [], [(.ints .u8 l_3)]), .res ([(.one (.own 0 0 (l_4).length false))], [], [(.ints .u8 l_4)]), .res ([(.one (.pv (.ints .u8 l_5 false))), (.one (.pv (.int .i64 n))), (.one (.pv (.int .i64 n2)))], [], []), .res ([(.one (.own 0 0 (l_6).length false))], [], [(.ints .u8 l_6)]), .res ([(.one (.pv (.bool b2)))], [], []), .br true, .br true, .br true, .br true] =
  some (([(.one (.pv (.bool false)))], [], []), [
    Runs Try.prog 9 [] [] [] ([(.one (.pv (.bool b)))], [], []),
    (!b) = false,
    Runs Try.prog 10 [(.one (.bor (.ints .u8 p false))), (.one (.pv (.int .i64 200)))] [] [] ([(.one (.own 0 0 (l_).length false))], [], [(.ints .u8 l_)]),
    Runs Try.prog 10 [(.one (.bor (.ints .u8 behind false))), (.one (.pv (.int .i64 30)))] [] [] ([(.one (.own 0 0 (l_2).length false))], [], [(.ints .u8 l_2)]),
    Runs Try.prog 16 [(.one (.pv (.ints .u8 (List.take (l_).length l_) false)))] [] [] ([(.one (.own 0 0 (l_3).length false))], [], [(.ints .u8 l_3)]),
    Runs Try.prog 10 [(.one (.bor (.ints .u8 (List.take (l_3).length l_3) false))), (.one (.pv (.int .i64 300)))] [] [] ([(.one (.own 0 0 (l_4).length false))], [], [(.ints .u8 l_4)]),
    (Nat.beq (l_4).length (l_4).length) = true,
    (fits ((l_4 ++ (List.take (l_2).length l_2))).length) = true,
    Runs Try.prog 13 [(.one (.pv (.ints .u8 (List.take ((l_4 ++ (List.take (l_2).length l_2))).length (l_4 ++ (List.take (l_2).length l_2))) false)))] [] [] ([(.one (.pv (.ints .u8 l_5 false))), (.one (.pv (.int .i64 n))), (.one (.pv (.int .i64 n2)))], [], []),
    Runs Try.prog 17 [(.one (.pv (.ints .u8 (List.take (l_).length l_) false)))] [] [] ([(.one (.own 0 0 (l_6).length false))], [], [(.ints .u8 l_6)]),
    Runs Try.prog 15 [(.one (.bor (.ints .u8 (List.take (l_3).length l_3) false))), (.one (.bor (.ints .u8 (List.take (l_6).length l_6) false)))] [] [] ([(.one (.pv (.bool b2)))], [], []),
    (!b2) = true,
    true = true,
    true = true,
    true = true]) := by kernel_rfl
theorem kinfolklaw06_WireFrames_p8 (p : List Int) (behind : List Int) (at_ : Int) (turn : Int) (b : Bool) : evFn Try.prog cfg (Runs Try.prog) (LRuns Try.prog (lEnv Try.prog cfg 5 0).nt 0) 5 [(.one (.pv (.ints .u8 p false))), (.one (.pv (.ints .u8 behind false))), (.one (.pv (.int .u16 at_))), (.one (.pv (.int .u8 turn)))] [] []
    [.res ([(.one (.pv (.bool b)))], [], []), .br true] =
  some (([(.one (.pv (.bool false)))], [], []), [
    Runs Try.prog 9 [] [] [] ([(.one (.pv (.bool b)))], [], []),
    (!b) = true]) := by kernel_rfl
noncomputable def kinfolklaw06_WireFrames (p : List Int) (behind : List Int) (at_ : Int) (turn : Int) : Option (Bool) :=
  (kinfolklaw06_awake).bind fun b =>
  bif b then
    (kinfolklaw06_cut p 200).bind fun l_ =>
    (kinfolklaw06_cut behind 30).bind fun l_2 =>
    (wire_Frame l_).bind fun l_3 =>
    (kinfolklaw06_cut l_3 300).bind fun l_4 =>
    bif fits ((l_4 ++ (List.take (l_2).length l_2))).length then
    (wire_Open (l_4 ++ l_2)).bind fun (l_5, n, n2) =>
    (kinfolkref06_Frame l_).bind fun l_6 =>
    (kinfolkref06_Same l_3 l_6).bind fun b2 =>
    bif b2 then
      bif (decide ((n2 : Int) = 0)) then
        bif (decide ((n : Int) = ((l_3).length : Int))) then
          (kinfolkref06_Same l_5 l_).bind fun b3 =>
          bif b3 then
            bif (decide ((turn : Int) = 0)) then
              some true
            else
              bif !decide (((isub .i64 ((l_3).length : Int) 4) : Int) = 0) then
              bif decide ((0 : Int) ≤ (iadd .i64 4 (irem .i64 (IntKind.i64.wrap at_) (isub .i64 ((l_3).length : Int) 4)))) && decide (((iadd .i64 4 (irem .i64 (IntKind.i64.wrap at_) (isub .i64 ((l_3).length : Int) 4))) : Int) < ((l_3).length : Int)) then
              (wire_Open (List.take (l_3).length (l_3.set (0 + ((iadd .i64 4 (irem .i64 (IntKind.i64.wrap at_) (isub .i64 ((l_3).length : Int) 4)))).toNat) (ixor .u8 (l_3.getD (0 + ((iadd .i64 4 (irem .i64 (IntKind.i64.wrap at_) (isub .i64 ((l_3).length : Int) 4)))).toNat) 0) turn)))).bind fun (l_7, n3, n4) =>
              bif (decide ((n4 : Int) = 13)) then
                bif (decide ((((l_7).length : Int) : Int) = 0)) then
                  some (decide ((n3 : Int) = 0))
                else
                  some false
              else
                some false
              else none
              else none
          else
            some false
        else
          some false
      else
        some false
    else
      some false
    else none
  else
    some false
theorem kinfolklaw06_WireFrames_runs (p : List Int) (behind : List Int) (at_ : Int) (turn : Int) (r_ : Bool) (h : kinfolklaw06_WireFrames p behind at_ turn = some r_) : Runs Try.prog 5 [(.one (.pv (.ints .u8 p false))), (.one (.pv (.ints .u8 behind false))), (.one (.pv (.int .u16 at_))), (.one (.pv (.int .u8 turn)))] [] [] (kinfolklaw06_WireFrames_out p behind at_ turn r_) := by
  unfold kinfolklaw06_WireFrames at h
  obtain ⟨b, h1, h⟩ := bind_of h
  rcases cond_of h with ⟨h2, h⟩ | ⟨h2, h⟩
  · obtain ⟨l_, h3, h⟩ := bind_of h
    obtain ⟨l_2, h4, h⟩ := bind_of h
    obtain ⟨l_3, h5, h⟩ := bind_of h
    obtain ⟨l_4, h6, h⟩ := bind_of h
    obtain ⟨h7, h⟩ := need_of h
    obtain ⟨⟨l_5, n, n2⟩, h8, h⟩ := bind_of h
    obtain ⟨l_6, h9, h⟩ := bind_of h
    obtain ⟨b2, h10, h⟩ := bind_of h
    rcases cond_of h with ⟨h11, h⟩ | ⟨h11, h⟩
    · rcases cond_of h with ⟨h12, h⟩ | ⟨h12, h⟩
      · rcases cond_of h with ⟨h13, h⟩ | ⟨h13, h⟩
        · obtain ⟨b3, h14, h⟩ := bind_of h
          rcases cond_of h with ⟨h15, h⟩ | ⟨h15, h⟩
          · rcases cond_of h with ⟨h16, h⟩ | ⟨h16, h⟩
            · have h := some_of h
              subst h
              have e_ := kinfolklaw06_WireFrames_p0 p behind at_ turn b l_ l_2 l_3 l_4 l_5 n n2 l_6 b2 b3
              have e_ := runs_of (objs := []) (Says.of e_ ⟨(kinfolklaw06_awake_runs _ h1), (not_of2 h2), (kinfolklaw06_cut_runs p 200 _ h3), (kinfolklaw06_cut_runs behind 30 _ h4), ((wire_Frame_runs l_ _ h5).coe ⟨.pv (.ints (by first | rfl | (simp only [List.take_length]; done) | (simp only [List.take_length, List.length_append, List.drop_zero, List.map_append, List.map_take, List.map_drop, List.map_cons, List.map_nil, List.append_nil, List.nil_append, E_uint8.pv]; done) | (simp; done))), trivial⟩ trivial trivial), ((kinfolklaw06_cut_runs l_3 300 _ h6).coe ⟨.bor (.ints (by first | rfl | (simp only [List.take_length]; done) | (simp only [List.take_length, List.length_append, List.drop_zero, List.map_append, List.map_take, List.map_drop, List.map_cons, List.map_nil, List.append_nil, List.nil_append, E_uint8.pv]; done) | (simp; done))), .eq rfl, trivial⟩ trivial trivial), (Nat.beq_refl _), h7, ((wire_Open_runs (l_4 ++ l_2) _ h8).coe ⟨.pv (.ints (by first | rfl | (simp only [List.take_length]; done) | (simp only [List.take_length, List.length_append, List.drop_zero, List.map_append, List.map_take, List.map_drop, List.map_cons, List.map_nil, List.append_nil, List.nil_append, E_uint8.pv]; done) | (simp; done))), trivial⟩ trivial trivial), ((kinfolkref06_Frame_runs l_ _ h9).coe ⟨.pv (.ints (by first | rfl | (simp only [List.take_length]; done) | (simp only [List.take_length, List.length_append, List.drop_zero, List.map_append, List.map_take, List.map_drop, List.map_cons, List.map_nil, List.append_nil, List.nil_append, E_uint8.pv]; done) | (simp; done))), trivial⟩ trivial trivial), ((kinfolkref06_Same_runs l_3 l_6 _ h10).coe ⟨.bor (.ints (by first | rfl | (simp only [List.take_length]; done) | (simp only [List.take_length, List.length_append, List.drop_zero, List.map_append, List.map_take, List.map_drop, List.map_cons, List.map_nil, List.append_nil, List.nil_append, E_uint8.pv]; done) | (simp; done))), .bor (.ints (by first | rfl | (simp only [List.take_length]; done) | (simp only [List.take_length, List.length_append, List.drop_zero, List.map_append, List.map_take, List.map_drop, List.map_cons, List.map_nil, List.append_nil, List.nil_append, E_uint8.pv]; done) | (simp; done))), trivial⟩ trivial trivial), (not_of2 h11), (not_of2 h12), (not_of2 h13), ((kinfolkref06_Same_runs l_5 l_ _ h14).coe ⟨.eq rfl, .bor (.ints (by first | rfl | (simp only [List.take_length]; done) | (simp only [List.take_length, List.length_append, List.drop_zero, List.map_append, List.map_take, List.map_drop, List.map_cons, List.map_nil, List.append_nil, List.nil_append, E_uint8.pv]; done) | (simp; done))), trivial⟩ trivial trivial), (not_of2 h15), h16, trivial⟩)
              exact e_
            · obtain ⟨h17, h⟩ := need_of h
              obtain ⟨h18, h⟩ := need_of h
              obtain ⟨⟨l_7, n3, n4⟩, h19, h⟩ := bind_of h
              rcases cond_of h with ⟨h20, h⟩ | ⟨h20, h⟩
              · rcases cond_of h with ⟨h21, h⟩ | ⟨h21, h⟩
                · have h := some_of h
                  subst h
                  have e_ := kinfolklaw06_WireFrames_p1 p behind at_ turn b l_ l_2 l_3 l_4 l_5 n n2 l_6 b2 b3 l_7 n3 n4
                  have e_ := runs_of (objs := []) (Says.of e_ ⟨(kinfolklaw06_awake_runs _ h1), (not_of2 h2), (kinfolklaw06_cut_runs p 200 _ h3), (kinfolklaw06_cut_runs behind 30 _ h4), ((wire_Frame_runs l_ _ h5).coe ⟨.pv (.ints (by first | rfl | (simp only [List.take_length]; done) | (simp only [List.take_length, List.length_append, List.drop_zero, List.map_append, List.map_take, List.map_drop, List.map_cons, List.map_nil, List.append_nil, List.nil_append, E_uint8.pv]; done) | (simp; done))), trivial⟩ trivial trivial), ((kinfolklaw06_cut_runs l_3 300 _ h6).coe ⟨.bor (.ints (by first | rfl | (simp only [List.take_length]; done) | (simp only [List.take_length, List.length_append, List.drop_zero, List.map_append, List.map_take, List.map_drop, List.map_cons, List.map_nil, List.append_nil, List.nil_append, E_uint8.pv]; done) | (simp; done))), .eq rfl, trivial⟩ trivial trivial), (Nat.beq_refl _), h7, ((wire_Open_runs (l_4 ++ l_2) _ h8).coe ⟨.pv (.ints (by first | rfl | (simp only [List.take_length]; done) | (simp only [List.take_length, List.length_append, List.drop_zero, List.map_append, List.map_take, List.map_drop, List.map_cons, List.map_nil, List.append_nil, List.nil_append, E_uint8.pv]; done) | (simp; done))), trivial⟩ trivial trivial), ((kinfolkref06_Frame_runs l_ _ h9).coe ⟨.pv (.ints (by first | rfl | (simp only [List.take_length]; done) | (simp only [List.take_length, List.length_append, List.drop_zero, List.map_append, List.map_take, List.map_drop, List.map_cons, List.map_nil, List.append_nil, List.nil_append, E_uint8.pv]; done) | (simp; done))), trivial⟩ trivial trivial), ((kinfolkref06_Same_runs l_3 l_6 _ h10).coe ⟨.bor (.ints (by first | rfl | (simp only [List.take_length]; done) | (simp only [List.take_length, List.length_append, List.drop_zero, List.map_append, List.map_take, List.map_drop, List.map_cons, List.map_nil, List.append_nil, List.nil_append, E_uint8.pv]; done) | (simp; done))), .bor (.ints (by first | rfl | (simp only [List.take_length]; done) | (simp only [List.take_length, List.length_append, List.drop_zero, List.map_append, List.map_take, List.map_drop, List.map_cons, List.map_nil, List.append_nil, List.nil_append, E_uint8.pv]; done) | (simp; done))), trivial⟩ trivial trivial), (not_of2 h11), (not_of2 h12), (not_of2 h13), ((kinfolkref06_Same_runs l_5 l_ _ h14).coe ⟨.eq rfl, .bor (.ints (by first | rfl | (simp only [List.take_length]; done) | (simp only [List.take_length, List.length_append, List.drop_zero, List.map_append, List.map_take, List.map_drop, List.map_cons, List.map_nil, List.append_nil, List.nil_append, E_uint8.pv]; done) | (simp; done))), trivial⟩ trivial trivial), (not_of2 h15), h16, h17, h18, h18, (wire_Open_runs (List.take (l_3).length (l_3.set (0 + ((iadd .i64 4 (irem .i64 (IntKind.i64.wrap at_) (isub .i64 ((l_3).length : Int) 4)))).toNat) (ixor .u8 (l_3.getD (0 + ((iadd .i64 4 (irem .i64 (IntKind.i64.wrap at_) (isub .i64 ((l_3).length : Int) 4)))).toNat) 0) turn))) _ h19), h20, h21, trivial⟩)
                  exact e_
                · have h := some_of h
                  subst h
                  have e_ := kinfolklaw06_WireFrames_p2 p behind at_ turn b l_ l_2 l_3 l_4 l_5 n n2 l_6 b2 b3 l_7 n3 n4
                  have e_ := runs_of (objs := []) (Says.of e_ ⟨(kinfolklaw06_awake_runs _ h1), (not_of2 h2), (kinfolklaw06_cut_runs p 200 _ h3), (kinfolklaw06_cut_runs behind 30 _ h4), ((wire_Frame_runs l_ _ h5).coe ⟨.pv (.ints (by first | rfl | (simp only [List.take_length]; done) | (simp only [List.take_length, List.length_append, List.drop_zero, List.map_append, List.map_take, List.map_drop, List.map_cons, List.map_nil, List.append_nil, List.nil_append, E_uint8.pv]; done) | (simp; done))), trivial⟩ trivial trivial), ((kinfolklaw06_cut_runs l_3 300 _ h6).coe ⟨.bor (.ints (by first | rfl | (simp only [List.take_length]; done) | (simp only [List.take_length, List.length_append, List.drop_zero, List.map_append, List.map_take, List.map_drop, List.map_cons, List.map_nil, List.append_nil, List.nil_append, E_uint8.pv]; done) | (simp; done))), .eq rfl, trivial⟩ trivial trivial), (Nat.beq_refl _), h7, ((wire_Open_runs (l_4 ++ l_2) _ h8).coe ⟨.pv (.ints (by first | rfl | (simp only [List.take_length]; done) | (simp only [List.take_length, List.length_append, List.drop_zero, List.map_append, List.map_take, List.map_drop, List.map_cons, List.map_nil, List.append_nil, List.nil_append, E_uint8.pv]; done) | (simp; done))), trivial⟩ trivial trivial), ((kinfolkref06_Frame_runs l_ _ h9).coe ⟨.pv (.ints (by first | rfl | (simp only [List.take_length]; done) | (simp only [List.take_length, List.length_append, List.drop_zero, List.map_append, List.map_take, List.map_drop, List.map_cons, List.map_nil, List.append_nil, List.nil_append, E_uint8.pv]; done) | (simp; done))), trivial⟩ trivial trivial), ((kinfolkref06_Same_runs l_3 l_6 _ h10).coe ⟨.bor (.ints (by first | rfl | (simp only [List.take_length]; done) | (simp only [List.take_length, List.length_append, List.drop_zero, List.map_append, List.map_take, List.map_drop, List.map_cons, List.map_nil, List.append_nil, List.nil_append, E_uint8.pv]; done) | (simp; done))), .bor (.ints (by first | rfl | (simp only [List.take_length]; done) | (simp only [List.take_length, List.length_append, List.drop_zero, List.map_append, List.map_take, List.map_drop, List.map_cons, List.map_nil, List.append_nil, List.nil_append, E_uint8.pv]; done) | (simp; done))), trivial⟩ trivial trivial), (not_of2 h11), (not_of2 h12), (not_of2 h13), ((kinfolkref06_Same_runs l_5 l_ _ h14).coe ⟨.eq rfl, .bor (.ints (by first | rfl | (simp only [List.take_length]; done) | (simp only [List.take_length, List.length_append, List.drop_zero, List.map_append, List.map_take, List.map_drop, List.map_cons, List.map_nil, List.append_nil, List.nil_append, E_uint8.pv]; done) | (simp; done))), trivial⟩ trivial trivial), (not_of2 h15), h16, h17, h18, h18, (wire_Open_runs (List.take (l_3).length (l_3.set (0 + ((iadd .i64 4 (irem .i64 (IntKind.i64.wrap at_) (isub .i64 ((l_3).length : Int) 4)))).toNat) (ixor .u8 (l_3.getD (0 + ((iadd .i64 4 (irem .i64 (IntKind.i64.wrap at_) (isub .i64 ((l_3).length : Int) 4)))).toNat) 0) turn))) _ h19), h20, h21, trivial⟩)
                  exact e_
              · have h := some_of h
                subst h
                have e_ := kinfolklaw06_WireFrames_p3 p behind at_ turn b l_ l_2 l_3 l_4 l_5 n n2 l_6 b2 b3 l_7 n3 n4
                have e_ := runs_of (objs := []) (Says.of e_ ⟨(kinfolklaw06_awake_runs _ h1), (not_of2 h2), (kinfolklaw06_cut_runs p 200 _ h3), (kinfolklaw06_cut_runs behind 30 _ h4), ((wire_Frame_runs l_ _ h5).coe ⟨.pv (.ints (by first | rfl | (simp only [List.take_length]; done) | (simp only [List.take_length, List.length_append, List.drop_zero, List.map_append, List.map_take, List.map_drop, List.map_cons, List.map_nil, List.append_nil, List.nil_append, E_uint8.pv]; done) | (simp; done))), trivial⟩ trivial trivial), ((kinfolklaw06_cut_runs l_3 300 _ h6).coe ⟨.bor (.ints (by first | rfl | (simp only [List.take_length]; done) | (simp only [List.take_length, List.length_append, List.drop_zero, List.map_append, List.map_take, List.map_drop, List.map_cons, List.map_nil, List.append_nil, List.nil_append, E_uint8.pv]; done) | (simp; done))), .eq rfl, trivial⟩ trivial trivial), (Nat.beq_refl _), h7, ((wire_Open_runs (l_4 ++ l_2) _ h8).coe ⟨.pv (.ints (by first | rfl | (simp only [List.take_length]; done) | (simp only [List.take_length, List.length_append, List.drop_zero, List.map_append, List.map_take, List.map_drop, List.map_cons, List.map_nil, List.append_nil, List.nil_append, E_uint8.pv]; done) | (simp; done))), trivial⟩ trivial trivial), ((kinfolkref06_Frame_runs l_ _ h9).coe ⟨.pv (.ints (by first | rfl | (simp only [List.take_length]; done) | (simp only [List.take_length, List.length_append, List.drop_zero, List.map_append, List.map_take, List.map_drop, List.map_cons, List.map_nil, List.append_nil, List.nil_append, E_uint8.pv]; done) | (simp; done))), trivial⟩ trivial trivial), ((kinfolkref06_Same_runs l_3 l_6 _ h10).coe ⟨.bor (.ints (by first | rfl | (simp only [List.take_length]; done) | (simp only [List.take_length, List.length_append, List.drop_zero, List.map_append, List.map_take, List.map_drop, List.map_cons, List.map_nil, List.append_nil, List.nil_append, E_uint8.pv]; done) | (simp; done))), .bor (.ints (by first | rfl | (simp only [List.take_length]; done) | (simp only [List.take_length, List.length_append, List.drop_zero, List.map_append, List.map_take, List.map_drop, List.map_cons, List.map_nil, List.append_nil, List.nil_append, E_uint8.pv]; done) | (simp; done))), trivial⟩ trivial trivial), (not_of2 h11), (not_of2 h12), (not_of2 h13), ((kinfolkref06_Same_runs l_5 l_ _ h14).coe ⟨.eq rfl, .bor (.ints (by first | rfl | (simp only [List.take_length]; done) | (simp only [List.take_length, List.length_append, List.drop_zero, List.map_append, List.map_take, List.map_drop, List.map_cons, List.map_nil, List.append_nil, List.nil_append, E_uint8.pv]; done) | (simp; done))), trivial⟩ trivial trivial), (not_of2 h15), h16, h17, h18, h18, (wire_Open_runs (List.take (l_3).length (l_3.set (0 + ((iadd .i64 4 (irem .i64 (IntKind.i64.wrap at_) (isub .i64 ((l_3).length : Int) 4)))).toNat) (ixor .u8 (l_3.getD (0 + ((iadd .i64 4 (irem .i64 (IntKind.i64.wrap at_) (isub .i64 ((l_3).length : Int) 4)))).toNat) 0) turn))) _ h19), h20, rfl, trivial⟩)
                exact e_
          · have h := some_of h
            subst h
            have e_ := kinfolklaw06_WireFrames_p4 p behind at_ turn b l_ l_2 l_3 l_4 l_5 n n2 l_6 b2 b3
            have e_ := runs_of (objs := []) (Says.of e_ ⟨(kinfolklaw06_awake_runs _ h1), (not_of2 h2), (kinfolklaw06_cut_runs p 200 _ h3), (kinfolklaw06_cut_runs behind 30 _ h4), ((wire_Frame_runs l_ _ h5).coe ⟨.pv (.ints (by first | rfl | (simp only [List.take_length]; done) | (simp only [List.take_length, List.length_append, List.drop_zero, List.map_append, List.map_take, List.map_drop, List.map_cons, List.map_nil, List.append_nil, List.nil_append, E_uint8.pv]; done) | (simp; done))), trivial⟩ trivial trivial), ((kinfolklaw06_cut_runs l_3 300 _ h6).coe ⟨.bor (.ints (by first | rfl | (simp only [List.take_length]; done) | (simp only [List.take_length, List.length_append, List.drop_zero, List.map_append, List.map_take, List.map_drop, List.map_cons, List.map_nil, List.append_nil, List.nil_append, E_uint8.pv]; done) | (simp; done))), .eq rfl, trivial⟩ trivial trivial), (Nat.beq_refl _), h7, ((wire_Open_runs (l_4 ++ l_2) _ h8).coe ⟨.pv (.ints (by first | rfl | (simp only [List.take_length]; done) | (simp only [List.take_length, List.length_append, List.drop_zero, List.map_append, List.map_take, List.map_drop, List.map_cons, List.map_nil, List.append_nil, List.nil_append, E_uint8.pv]; done) | (simp; done))), trivial⟩ trivial trivial), ((kinfolkref06_Frame_runs l_ _ h9).coe ⟨.pv (.ints (by first | rfl | (simp only [List.take_length]; done) | (simp only [List.take_length, List.length_append, List.drop_zero, List.map_append, List.map_take, List.map_drop, List.map_cons, List.map_nil, List.append_nil, List.nil_append, E_uint8.pv]; done) | (simp; done))), trivial⟩ trivial trivial), ((kinfolkref06_Same_runs l_3 l_6 _ h10).coe ⟨.bor (.ints (by first | rfl | (simp only [List.take_length]; done) | (simp only [List.take_length, List.length_append, List.drop_zero, List.map_append, List.map_take, List.map_drop, List.map_cons, List.map_nil, List.append_nil, List.nil_append, E_uint8.pv]; done) | (simp; done))), .bor (.ints (by first | rfl | (simp only [List.take_length]; done) | (simp only [List.take_length, List.length_append, List.drop_zero, List.map_append, List.map_take, List.map_drop, List.map_cons, List.map_nil, List.append_nil, List.nil_append, E_uint8.pv]; done) | (simp; done))), trivial⟩ trivial trivial), (not_of2 h11), (not_of2 h12), (not_of2 h13), ((kinfolkref06_Same_runs l_5 l_ _ h14).coe ⟨.eq rfl, .bor (.ints (by first | rfl | (simp only [List.take_length]; done) | (simp only [List.take_length, List.length_append, List.drop_zero, List.map_append, List.map_take, List.map_drop, List.map_cons, List.map_nil, List.append_nil, List.nil_append, E_uint8.pv]; done) | (simp; done))), trivial⟩ trivial trivial), (not_of h15), trivial⟩)
            exact e_
        · have h := some_of h
          subst h
          have e_ := kinfolklaw06_WireFrames_p5 p behind at_ turn b l_ l_2 l_3 l_4 l_5 n n2 l_6 b2
          have e_ := runs_of (objs := []) (Says.of e_ ⟨(kinfolklaw06_awake_runs _ h1), (not_of2 h2), (kinfolklaw06_cut_runs p 200 _ h3), (kinfolklaw06_cut_runs behind 30 _ h4), ((wire_Frame_runs l_ _ h5).coe ⟨.pv (.ints (by first | rfl | (simp only [List.take_length]; done) | (simp only [List.take_length, List.length_append, List.drop_zero, List.map_append, List.map_take, List.map_drop, List.map_cons, List.map_nil, List.append_nil, List.nil_append, E_uint8.pv]; done) | (simp; done))), trivial⟩ trivial trivial), ((kinfolklaw06_cut_runs l_3 300 _ h6).coe ⟨.bor (.ints (by first | rfl | (simp only [List.take_length]; done) | (simp only [List.take_length, List.length_append, List.drop_zero, List.map_append, List.map_take, List.map_drop, List.map_cons, List.map_nil, List.append_nil, List.nil_append, E_uint8.pv]; done) | (simp; done))), .eq rfl, trivial⟩ trivial trivial), (Nat.beq_refl _), h7, ((wire_Open_runs (l_4 ++ l_2) _ h8).coe ⟨.pv (.ints (by first | rfl | (simp only [List.take_length]; done) | (simp only [List.take_length, List.length_append, List.drop_zero, List.map_append, List.map_take, List.map_drop, List.map_cons, List.map_nil, List.append_nil, List.nil_append, E_uint8.pv]; done) | (simp; done))), trivial⟩ trivial trivial), ((kinfolkref06_Frame_runs l_ _ h9).coe ⟨.pv (.ints (by first | rfl | (simp only [List.take_length]; done) | (simp only [List.take_length, List.length_append, List.drop_zero, List.map_append, List.map_take, List.map_drop, List.map_cons, List.map_nil, List.append_nil, List.nil_append, E_uint8.pv]; done) | (simp; done))), trivial⟩ trivial trivial), ((kinfolkref06_Same_runs l_3 l_6 _ h10).coe ⟨.bor (.ints (by first | rfl | (simp only [List.take_length]; done) | (simp only [List.take_length, List.length_append, List.drop_zero, List.map_append, List.map_take, List.map_drop, List.map_cons, List.map_nil, List.append_nil, List.nil_append, E_uint8.pv]; done) | (simp; done))), .bor (.ints (by first | rfl | (simp only [List.take_length]; done) | (simp only [List.take_length, List.length_append, List.drop_zero, List.map_append, List.map_take, List.map_drop, List.map_cons, List.map_nil, List.append_nil, List.nil_append, E_uint8.pv]; done) | (simp; done))), trivial⟩ trivial trivial), (not_of2 h11), (not_of2 h12), (not_of h13), rfl, trivial⟩)
          exact e_
      · have h := some_of h
        subst h
        have e_ := kinfolklaw06_WireFrames_p6 p behind at_ turn b l_ l_2 l_3 l_4 l_5 n n2 l_6 b2
        have e_ := runs_of (objs := []) (Says.of e_ ⟨(kinfolklaw06_awake_runs _ h1), (not_of2 h2), (kinfolklaw06_cut_runs p 200 _ h3), (kinfolklaw06_cut_runs behind 30 _ h4), ((wire_Frame_runs l_ _ h5).coe ⟨.pv (.ints (by first | rfl | (simp only [List.take_length]; done) | (simp only [List.take_length, List.length_append, List.drop_zero, List.map_append, List.map_take, List.map_drop, List.map_cons, List.map_nil, List.append_nil, List.nil_append, E_uint8.pv]; done) | (simp; done))), trivial⟩ trivial trivial), ((kinfolklaw06_cut_runs l_3 300 _ h6).coe ⟨.bor (.ints (by first | rfl | (simp only [List.take_length]; done) | (simp only [List.take_length, List.length_append, List.drop_zero, List.map_append, List.map_take, List.map_drop, List.map_cons, List.map_nil, List.append_nil, List.nil_append, E_uint8.pv]; done) | (simp; done))), .eq rfl, trivial⟩ trivial trivial), (Nat.beq_refl _), h7, ((wire_Open_runs (l_4 ++ l_2) _ h8).coe ⟨.pv (.ints (by first | rfl | (simp only [List.take_length]; done) | (simp only [List.take_length, List.length_append, List.drop_zero, List.map_append, List.map_take, List.map_drop, List.map_cons, List.map_nil, List.append_nil, List.nil_append, E_uint8.pv]; done) | (simp; done))), trivial⟩ trivial trivial), ((kinfolkref06_Frame_runs l_ _ h9).coe ⟨.pv (.ints (by first | rfl | (simp only [List.take_length]; done) | (simp only [List.take_length, List.length_append, List.drop_zero, List.map_append, List.map_take, List.map_drop, List.map_cons, List.map_nil, List.append_nil, List.nil_append, E_uint8.pv]; done) | (simp; done))), trivial⟩ trivial trivial), ((kinfolkref06_Same_runs l_3 l_6 _ h10).coe ⟨.bor (.ints (by first | rfl | (simp only [List.take_length]; done) | (simp only [List.take_length, List.length_append, List.drop_zero, List.map_append, List.map_take, List.map_drop, List.map_cons, List.map_nil, List.append_nil, List.nil_append, E_uint8.pv]; done) | (simp; done))), .bor (.ints (by first | rfl | (simp only [List.take_length]; done) | (simp only [List.take_length, List.length_append, List.drop_zero, List.map_append, List.map_take, List.map_drop, List.map_cons, List.map_nil, List.append_nil, List.nil_append, E_uint8.pv]; done) | (simp; done))), trivial⟩ trivial trivial), (not_of2 h11), (not_of h12), rfl, rfl, trivial⟩)
        exact e_
    · have h := some_of h
      subst h
      have e_ := kinfolklaw06_WireFrames_p7 p behind at_ turn b l_ l_2 l_3 l_4 l_5 n n2 l_6 b2
      have e_ := runs_of (objs := []) (Says.of e_ ⟨(kinfolklaw06_awake_runs _ h1), (not_of2 h2), (kinfolklaw06_cut_runs p 200 _ h3), (kinfolklaw06_cut_runs behind 30 _ h4), ((wire_Frame_runs l_ _ h5).coe ⟨.pv (.ints (by first | rfl | (simp only [List.take_length]; done) | (simp only [List.take_length, List.length_append, List.drop_zero, List.map_append, List.map_take, List.map_drop, List.map_cons, List.map_nil, List.append_nil, List.nil_append, E_uint8.pv]; done) | (simp; done))), trivial⟩ trivial trivial), ((kinfolklaw06_cut_runs l_3 300 _ h6).coe ⟨.bor (.ints (by first | rfl | (simp only [List.take_length]; done) | (simp only [List.take_length, List.length_append, List.drop_zero, List.map_append, List.map_take, List.map_drop, List.map_cons, List.map_nil, List.append_nil, List.nil_append, E_uint8.pv]; done) | (simp; done))), .eq rfl, trivial⟩ trivial trivial), (Nat.beq_refl _), h7, ((wire_Open_runs (l_4 ++ l_2) _ h8).coe ⟨.pv (.ints (by first | rfl | (simp only [List.take_length]; done) | (simp only [List.take_length, List.length_append, List.drop_zero, List.map_append, List.map_take, List.map_drop, List.map_cons, List.map_nil, List.append_nil, List.nil_append, E_uint8.pv]; done) | (simp; done))), trivial⟩ trivial trivial), ((kinfolkref06_Frame_runs l_ _ h9).coe ⟨.pv (.ints (by first | rfl | (simp only [List.take_length]; done) | (simp only [List.take_length, List.length_append, List.drop_zero, List.map_append, List.map_take, List.map_drop, List.map_cons, List.map_nil, List.append_nil, List.nil_append, E_uint8.pv]; done) | (simp; done))), trivial⟩ trivial trivial), ((kinfolkref06_Same_runs l_3 l_6 _ h10).coe ⟨.bor (.ints (by first | rfl | (simp only [List.take_length]; done) | (simp only [List.take_length, List.length_append, List.drop_zero, List.map_append, List.map_take, List.map_drop, List.map_cons, List.map_nil, List.append_nil, List.nil_append, E_uint8.pv]; done) | (simp; done))), .bor (.ints (by first | rfl | (simp only [List.take_length]; done) | (simp only [List.take_length, List.length_append, List.drop_zero, List.map_append, List.map_take, List.map_drop, List.map_cons, List.map_nil, List.append_nil, List.nil_append, E_uint8.pv]; done) | (simp; done))), trivial⟩ trivial trivial), (not_of h11), rfl, rfl, rfl, trivial⟩)
      exact e_
  · have h := some_of h
    subst h
    have e_ := kinfolklaw06_WireFrames_p8 p behind at_ turn b
    have e_ := runs_of (objs := []) (Says.of e_ ⟨(kinfolklaw06_awake_runs _ h1), (not_of h2), trivial⟩)
    exact e_
/-! ### kinfolklaw06_WireRows_L0_2 -/
def kinfolklaw06_WireRows_L0_2_st (l : List E_uint8) (r : List E_uint8) (n : Int) : Int × List Int → St
  | (n2, l2) => ⟨[(0, (.av (.one (.pv (.recs 1 (List.map E_uint8.pv l) false))))), (3, (.av (.one (.own 0 0 (l2).length false)))), (21, (.av (.one (.pv (.recs 1 (List.map E_uint8.pv r) false))))), (22, (.av (.one (.pv (.int .i64 n))))), (23, (.av (.one (.pv (.int .i64 n2)))))], [], [(0, (.live (.ints .u8 l2)))]⟩
def kinfolklaw06_WireRows_L0_2_ex (l : List E_uint8) (r : List E_uint8) (n : Int) : List Int → Ex × St
  | r1 => ((.exit 0), ⟨[(0, (.av (.one (.pv (.recs 1 (List.map E_uint8.pv l) false))))), (3, (.av (.one (.own 0 0 (r1).length false))))], [], [(0, (.live (.ints .u8 r1)))]⟩)
theorem kinfolklaw06_WireRows_L0_2_q0_0 (l : List E_uint8) (r : List E_uint8) (n : Int) (n2 : Int) (l2 : List Int) (l_ : List Int) (l_2 : List Int) (l_3 : List Int) : evRound (lEnv Try.prog cfg 6 0) (loopAt Try.prog 6 0) ⟨[(0, (.av (.one (.pv (.recs 1 (List.map E_uint8.pv l) false))))), (3, (.av (.one (.own 0 0 (l2).length false)))), (21, (.av (.one (.pv (.recs 1 (List.map E_uint8.pv r) false))))), (22, (.av (.one (.pv (.int .i64 n))))), (23, (.av (.one (.pv (.int .i64 n2)))))], [], [(0, (.live (.ints .u8 l2)))]⟩
    [.br true, .el [(.ints .u8 l_ false)], .res ([(.one (.own 0 0 (l_2).length false))], [], [(.ints .u8 l_2)]), .res ([(.one (.own 0 0 (l_3).length false))], [], [(.ints .u8 l_3)])] =
  some ((.normal, ⟨[(0, (.av (.one (.pv (.recs 1 (List.map E_uint8.pv l) false))))), (3, (.av (.one (.own 0 0 ((l2 ++ (List.take (l_3).length l_3))).length false)))), (21, (.av (.one (.pv (.recs 1 (List.map E_uint8.pv r) false))))), (22, (.av (.one (.pv (.int .i64 n))))), (23, (.av (.one (.pv (.int .i64 (iadd .i64 n2 1))))))], [], [(0, (.live (.ints .u8 (l2 ++ (List.take (l_3).length l_3)))))]⟩), [
    (decide ((n2 : Int) < n)) = true,
    (decide ((0 : Int) ≤ n2) && decide ((n2 : Int) < (((List.map E_uint8.pv r)).length : Int))) = true,
    (List.map E_uint8.pv r).getD (n2).toNat [] = [(.ints .u8 l_ false)],
    Runs Try.prog 10 [(.one (.bor (.ints .u8 l_ false))), (.one (.pv (.int .i64 50)))] [] [] ([(.one (.own 0 0 (l_2).length false))], [], [(.ints .u8 l_2)]),
    Runs Try.prog 16 [(.one (.pv (.ints .u8 (List.take (l_2).length l_2) false)))] [] [] ([(.one (.own 0 0 (l_3).length false))], [], [(.ints .u8 l_3)]),
    (Nat.beq (l2).length (l2).length) = true,
    (fits ((l2 ++ (List.take (l_3).length l_3))).length) = true]) := by kernel_rfl
theorem kinfolklaw06_WireRows_L0_2_q0_1 (l : List E_uint8) (r : List E_uint8) (n : Int) (n2 : Int) (l2 : List Int) : evRound (lEnv Try.prog cfg 6 0) (loopAt Try.prog 6 0) ⟨[(0, (.av (.one (.pv (.recs 1 (List.map E_uint8.pv l) false))))), (3, (.av (.one (.own 0 0 (l2).length false)))), (21, (.av (.one (.pv (.recs 1 (List.map E_uint8.pv r) false))))), (22, (.av (.one (.pv (.int .i64 n))))), (23, (.av (.one (.pv (.int .i64 n2)))))], [], [(0, (.live (.ints .u8 l2)))]⟩
    [.br false] =
  some (((.exit 0), ⟨[(24, (.av (.one (.pv (.bool false))))), (0, (.av (.one (.pv (.recs 1 (List.map E_uint8.pv l) false))))), (3, (.av (.one (.own 0 0 (l2).length false)))), (21, (.av (.one (.pv (.recs 1 (List.map E_uint8.pv r) false))))), (22, (.av (.one (.pv (.int .i64 n))))), (23, (.av (.one (.pv (.int .i64 n2))))), (24, (.av (.one (.pv (.bool (decide ((n2 : Int) < n)))))))], [], [(0, (.live (.ints .u8 l2)))]⟩), [
    (decide ((n2 : Int) < n)) = false]) := by kernel_rfl
noncomputable def kinfolklaw06_WireRows_L0_2_step (l : List E_uint8) (r : List E_uint8) (n : Int) : Int × List Int → Option ((Int × List Int) ⊕ (List Int))
  | (n2, l2) =>
  bif (decide ((n2 : Int) < n)) then
    bif decide ((0 : Int) ≤ n2) && decide ((n2 : Int) < (((List.map E_uint8.pv r)).length : Int)) then
    (r[(n2).toNat]?).bind fun e_ => match e_ with
    | .mk l_ =>
    (kinfolklaw06_cut l_ 50).bind fun l_2 =>
    (wire_Frame l_2).bind fun l_3 =>
    bif fits ((l2 ++ (List.take (l_3).length l_3))).length then
    some (.inl ((iadd .i64 n2 1), (l2 ++ l_3)))
    else none
    else none
  else
    some (.inr l2)
theorem kinfolklaw06_WireRows_L0_2_ok (l : List E_uint8) (r : List E_uint8) (n : Int) (s_ : Int × List Int) (z_ : (Int × List Int) ⊕ (List Int)) (h : kinfolklaw06_WireRows_L0_2_step l r n s_ = some z_) : RoundOk Try.prog cfg 6 0 (loopAt Try.prog 6 0) (kinfolklaw06_WireRows_L0_2_st l r n) (kinfolklaw06_WireRows_L0_2_ex l r n) s_ z_ := by
  rcases s_ with ⟨n2, l2⟩
  rcases cond_of h with ⟨h1, h⟩ | ⟨h1, h⟩
  · obtain ⟨h2, h⟩ := need_of h
    obtain ⟨⟨l_⟩, h3, h⟩ := bind_of h
    obtain ⟨l_2, h4, h⟩ := bind_of h
    obtain ⟨l_3, h5, h⟩ := bind_of h
    obtain ⟨h6, h⟩ := need_of h
    have h := some_of h
    subst h
    have e_ := kinfolklaw06_WireRows_L0_2_q0_0 l r n n2 l2 l_ l_2 l_3
    have e_ := Says.of e_ ⟨h1, h2, (el_of h3), (kinfolklaw06_cut_runs l_ 50 _ h4), ((wire_Frame_runs l_2 _ h5).coe ⟨.pv (.ints (by first | rfl | (simp only [List.take_length]; done) | (simp only [List.take_length, List.length_append, List.drop_zero, List.map_append, List.map_take, List.map_drop, List.map_cons, List.map_nil, List.append_nil, List.nil_append, E_uint8.pv]; done) | (simp; done))), trivial⟩ trivial trivial), (Nat.beq_refl _), h6, trivial⟩
    exact ⟨_, _, e_, ⟨⟨⟨_, rfl, .eq rfl⟩, ⟨_, rfl, .own (by first | rfl | (simp only [List.take_length]; done) | (simp only [List.take_length, List.length_append, List.drop_zero, List.map_append, List.map_take, List.map_drop, List.map_cons, List.map_nil, List.append_nil, List.nil_append, E_uint8.pv]; done) | (simp; done))⟩, ⟨_, rfl, .eq rfl⟩, ⟨_, rfl, .eq rfl⟩, ⟨_, rfl, .eq rfl⟩, trivial⟩, trivial, ⟨⟨rfl, .eq (by first | rfl | (simp only [List.take_length]; done) | (simp only [List.take_length, List.length_append, List.drop_zero, List.map_append, List.map_take, List.map_drop, List.map_cons, List.map_nil, List.append_nil, List.nil_append, E_uint8.pv]; done) | (simp; done))⟩, trivial⟩⟩⟩
  · have h := some_of h
    subst h
    have e_ := kinfolklaw06_WireRows_L0_2_q0_1 l r n n2 l2
    have e_ := Says.of e_ ⟨h1, trivial⟩
    exact ⟨_, _, e_, ⟨⟨⟨_, rfl, .eq rfl⟩, ⟨_, rfl, .eq rfl⟩, trivial⟩, trivial, ⟨⟨rfl, .eq rfl⟩, trivial⟩⟩⟩
theorem kinfolklaw06_WireRows_L0_2_runs (l : List E_uint8) (r : List E_uint8) (n : Int) (s_ : Int × List Int) (r_ : List Int) (h : runL (kinfolklaw06_WireRows_L0_2_step l r n) s_ = some r_) : LRuns Try.prog (lEnv Try.prog cfg 6 0).nt 0 (.loop (loopAt Try.prog 6 0)) (kinfolklaw06_WireRows_L0_2_st l r n s_) (kinfolklaw06_WireRows_L0_2_ex l r n r_).1 (kinfolklaw06_WireRows_L0_2_ex l r n r_).2 :=
  loop_run h (kinfolklaw06_WireRows_L0_2_ok l r n) (by intro r_; rcases r_ with r1 <;> simp [kinfolklaw06_WireRows_L0_2_ex])

end Go.Proofs.Ytecblpgljmbpeaa
