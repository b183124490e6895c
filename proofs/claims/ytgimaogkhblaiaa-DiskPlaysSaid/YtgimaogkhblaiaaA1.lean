/- What functions compute, and that they do. -/
import Derived.Test.YtgimaogkhblaiaaCfg
set_option linter.unusedVariables false
set_option linter.unusedSimpArgs false
set_option maxRecDepth 100000
namespace Go.Proofs.Ytgimaogkhblaiaa
open Go.Ev

/-! ### slices_Sort_uint64_out -/
def slices_Sort_uint64_out (x : Nat) (l : List Int) : List Int → Res
  | r1 => ([], [], [(.ints .u64 r1)])
/-! ### bits_Len_out -/
def bits_Len_out (x : Int) : Int → Res
  | r1 => ([(.one (.pv (.int .i64 r1)))], [], [])
/-! ### bits_Len64_out -/
def bits_Len64_out (x : Int) : Int → Res
  | r1 => ([(.one (.pv (.int .i64 r1)))], [], [])
/-! ### bits_Len64 -/
noncomputable def bits_Len64 (x : Int) : Option (Int) :=
  bif (decide ((4294967296 : Int) ≤ x)) then
    bif (decide ((65536 : Int) ≤ (ishr .u64 x 32))) then
      bif (decide ((256 : Int) ≤ (ishr .u64 (ishr .u64 x 32) 16))) then
        bif decide ((0 : Int) ≤ (IntKind.u8.wrap (ishr .u64 (ishr .u64 (ishr .u64 x 32) 16) 8))) && decide (((IntKind.u8.wrap (ishr .u64 (ishr .u64 (ishr .u64 x 32) 16) 8)) : Int) < (strC_0.size : Int)) then
        some (iadd .i64 56 (IntKind.i64.wrap ((strC_0.data.getD ((IntKind.u8.wrap (ishr .u64 (ishr .u64 (ishr .u64 x 32) 16) 8))).toNat 0).toNat : Int)))
        else none
      else
        bif decide ((0 : Int) ≤ (IntKind.u8.wrap (ishr .u64 (ishr .u64 x 32) 16))) && decide (((IntKind.u8.wrap (ishr .u64 (ishr .u64 x 32) 16)) : Int) < (strC_0.size : Int)) then
        some (iadd .i64 48 (IntKind.i64.wrap ((strC_0.data.getD ((IntKind.u8.wrap (ishr .u64 (ishr .u64 x 32) 16))).toNat 0).toNat : Int)))
        else none
    else
      bif (decide ((256 : Int) ≤ (ishr .u64 x 32))) then
        bif decide ((0 : Int) ≤ (IntKind.u8.wrap (ishr .u64 (ishr .u64 x 32) 8))) && decide (((IntKind.u8.wrap (ishr .u64 (ishr .u64 x 32) 8)) : Int) < (strC_0.size : Int)) then
        some (iadd .i64 40 (IntKind.i64.wrap ((strC_0.data.getD ((IntKind.u8.wrap (ishr .u64 (ishr .u64 x 32) 8))).toNat 0).toNat : Int)))
        else none
      else
        bif decide ((0 : Int) ≤ (IntKind.u8.wrap (ishr .u64 x 32))) && decide (((IntKind.u8.wrap (ishr .u64 x 32)) : Int) < (strC_0.size : Int)) then
        some (iadd .i64 32 (IntKind.i64.wrap ((strC_0.data.getD ((IntKind.u8.wrap (ishr .u64 x 32))).toNat 0).toNat : Int)))
        else none
  else
    bif (decide ((65536 : Int) ≤ x)) then
      bif (decide ((256 : Int) ≤ (ishr .u64 x 16))) then
        bif decide ((0 : Int) ≤ (IntKind.u8.wrap (ishr .u64 (ishr .u64 x 16) 8))) && decide (((IntKind.u8.wrap (ishr .u64 (ishr .u64 x 16) 8)) : Int) < (strC_0.size : Int)) then
        some (iadd .i64 24 (IntKind.i64.wrap ((strC_0.data.getD ((IntKind.u8.wrap (ishr .u64 (ishr .u64 x 16) 8))).toNat 0).toNat : Int)))
        else none
      else
        bif decide ((0 : Int) ≤ (IntKind.u8.wrap (ishr .u64 x 16))) && decide (((IntKind.u8.wrap (ishr .u64 x 16)) : Int) < (strC_0.size : Int)) then
        some (iadd .i64 16 (IntKind.i64.wrap ((strC_0.data.getD ((IntKind.u8.wrap (ishr .u64 x 16))).toNat 0).toNat : Int)))
        else none
    else
      bif (decide ((256 : Int) ≤ x)) then
        bif decide ((0 : Int) ≤ (IntKind.u8.wrap (ishr .u64 x 8))) && decide (((IntKind.u8.wrap (ishr .u64 x 8)) : Int) < (strC_0.size : Int)) then
        some (iadd .i64 8 (IntKind.i64.wrap ((strC_0.data.getD ((IntKind.u8.wrap (ishr .u64 x 8))).toNat 0).toNat : Int)))
        else none
      else
        bif decide ((0 : Int) ≤ (IntKind.u8.wrap x)) && decide (((IntKind.u8.wrap x) : Int) < (strC_0.size : Int)) then
        some (iadd .i64 0 (IntKind.i64.wrap ((strC_0.data.getD ((IntKind.u8.wrap x)).toNat 0).toNat : Int)))
        else none
theorem bits_Len64_runs (x : Int) (r_ : Int) (h : bits_Len64 x = some r_) : Runs Try.prog 108 [(.one (.pv (.int .u64 x)))] [] [] (bits_Len64_out x r_) := by
  unfold bits_Len64 at h
  rcases cond_of h with ⟨h1, h⟩ | ⟨h1, h⟩
  · rcases cond_of h with ⟨h2, h⟩ | ⟨h2, h⟩
    · rcases cond_of h with ⟨h3, h⟩ | ⟨h3, h⟩
      · obtain ⟨h4, h⟩ := need_of h
        have h := some_of h
        subst h
        have t_ := tT h1 <| tO (rfl : true = true) <| tT h2 <| tO (rfl : true = true) <| tT h3 <| tO (rfl : true = true) <| tO h4 <| tN
        exact runs_of (C := cfg) (objs := []) (sc := t_.ev) (.k0 t_.pf (by kernel_rfl))
      · obtain ⟨h4, h⟩ := need_of h
        have h := some_of h
        subst h
        have t_ := tT h1 <| tO (rfl : true = true) <| tT h2 <| tO (rfl : true = true) <| tF h3 <| tO h4 <| tN
        exact runs_of (C := cfg) (objs := []) (sc := t_.ev) (.k0 t_.pf (by kernel_rfl))
    · rcases cond_of h with ⟨h3, h⟩ | ⟨h3, h⟩
      · obtain ⟨h4, h⟩ := need_of h
        have h := some_of h
        subst h
        have t_ := tT h1 <| tO (rfl : true = true) <| tF h2 <| tT h3 <| tO (rfl : true = true) <| tO h4 <| tN
        exact runs_of (C := cfg) (objs := []) (sc := t_.ev) (.k0 t_.pf (by kernel_rfl))
      · obtain ⟨h4, h⟩ := need_of h
        have h := some_of h
        subst h
        have t_ := tT h1 <| tO (rfl : true = true) <| tF h2 <| tF h3 <| tO h4 <| tN
        exact runs_of (C := cfg) (objs := []) (sc := t_.ev) (.k0 t_.pf (by kernel_rfl))
  · rcases cond_of h with ⟨h2, h⟩ | ⟨h2, h⟩
    · rcases cond_of h with ⟨h3, h⟩ | ⟨h3, h⟩
      · obtain ⟨h4, h⟩ := need_of h
        have h := some_of h
        subst h
        have t_ := tF h1 <| tT h2 <| tO (rfl : true = true) <| tT h3 <| tO (rfl : true = true) <| tO h4 <| tN
        exact runs_of (C := cfg) (objs := []) (sc := t_.ev) (.k0 t_.pf (by kernel_rfl))
      · obtain ⟨h4, h⟩ := need_of h
        have h := some_of h
        subst h
        have t_ := tF h1 <| tT h2 <| tO (rfl : true = true) <| tF h3 <| tO h4 <| tN
        exact runs_of (C := cfg) (objs := []) (sc := t_.ev) (.k0 t_.pf (by kernel_rfl))
    · rcases cond_of h with ⟨h3, h⟩ | ⟨h3, h⟩
      · obtain ⟨h4, h⟩ := need_of h
        have h := some_of h
        subst h
        have t_ := tF h1 <| tF h2 <| tT h3 <| tO (rfl : true = true) <| tO h4 <| tN
        exact runs_of (C := cfg) (objs := []) (sc := t_.ev) (.k0 t_.pf (by kernel_rfl))
      · obtain ⟨h4, h⟩ := need_of h
        have h := some_of h
        subst h
        have t_ := tF h1 <| tF h2 <| tF h3 <| tO h4 <| tN
        exact runs_of (C := cfg) (objs := []) (sc := t_.ev) (.k0 t_.pf (by kernel_rfl))
/-! ### bits_Len -/
noncomputable def bits_Len (x : Int) : Option (Int) :=
  (bits_Len64 x).bind fun n =>
  some n
theorem bits_Len_runs (x : Int) (r_ : Int) (h : bits_Len x = some r_) : Runs Try.prog 93 [(.one (.pv (.int .u64 x)))] [] [] (bits_Len_out x r_) := by
  unfold bits_Len at h
  obtain ⟨n, h1, h⟩ := bind_of h
  have h := some_of h
  subst h
  have t_ := tF (rfl : false = false) <| tR (bits_Len64_runs x _ h1) <| tN
  exact runs_of (C := cfg) (objs := []) (sc := t_.ev) (.k0 t_.pf (by kernel_rfl))
/-! ### slices_pdqsortOrdered_uint64_2_out -/
def slices_pdqsortOrdered_uint64_2_out (data : Nat) (a : Int) (b : Int) (limit : Int) (l : List Int) : List Int → Res
  | r1 => ([], [], [(.ints .u64 r1)])
/-! ### slices_insertionSortOrdered_uint64_out -/
def slices_insertionSortOrdered_uint64_out (data : Nat) (a : Int) (b : Int) (l : List Int) : List Int → Res
  | r1 => ([], [], [(.ints .u64 r1)])
/-! ### cmp_Less_uint64_out -/
def cmp_Less_uint64_out (x : Int) (y : Int) : Bool → Res
  | r1 => ([(.one (.pv (.bool r1)))], [], [])
/-! ### cmp_isNaN_uint64_out -/
def cmp_isNaN_uint64_out (x : Int) : Bool → Res
  | r1 => ([(.one (.pv (.bool r1)))], [], [])
/-! ### cmp_isNaN_uint64 -/
noncomputable def cmp_isNaN_uint64 (x : Int) : Option (Bool) :=
  some (!(decide ((x : Int) = x)))
theorem cmp_isNaN_uint64_runs (x : Int) (r_ : Bool) (h : cmp_isNaN_uint64 x = some r_) : Runs Try.prog 116 [(.one (.pv (.int .u64 x)))] [] [] (cmp_isNaN_uint64_out x r_) := by
  unfold cmp_isNaN_uint64 at h
  have h := some_of h
  subst h
  have t_ := tN
  exact runs_of (C := cfg) (objs := []) (sc := t_.ev) (.k0 t_.pf (by kernel_rfl))
/-! ### cmp_Less_uint64 -/
noncomputable def cmp_Less_uint64 (x : Int) (y : Int) : Option (Bool) :=
  (cmp_isNaN_uint64 x).bind fun b =>
  bif b then
    (cmp_isNaN_uint64 y).bind fun b2 =>
    bif b2 then
      some (decide ((x : Int) < y))
    else
      some true
  else
    some (decide ((x : Int) < y))
theorem cmp_Less_uint64_runs (x : Int) (y : Int) (r_ : Bool) (h : cmp_Less_uint64 x y = some r_) : Runs Try.prog 104 [(.one (.pv (.int .u64 x))), (.one (.pv (.int .u64 y)))] [] [] (cmp_Less_uint64_out x y r_) := by
  unfold cmp_Less_uint64 at h
  obtain ⟨b, h1, h⟩ := bind_of h
  rcases cond_of h with ⟨h2, h⟩ | ⟨h2, h⟩
  · obtain ⟨b2, h3, h⟩ := bind_of h
    rcases cond_of h with ⟨h4, h⟩ | ⟨h4, h⟩
    · have h := some_of h
      subst h
      have t_ := tR (cmp_isNaN_uint64_runs x _ h1) <| tT h2 <| tR (cmp_isNaN_uint64_runs y _ h3) <| tF (not_of2 h4) <| tN
      exact runs_of (C := cfg) (objs := []) (sc := t_.ev) (.k0 t_.pf (by kernel_rfl))
    · have h := some_of h
      subst h
      have t_ := tR (cmp_isNaN_uint64_runs x _ h1) <| tT h2 <| tR (cmp_isNaN_uint64_runs y _ h3) <| tT (not_of h4) <| tN
      exact runs_of (C := cfg) (objs := []) (sc := t_.ev) (.k0 t_.pf (by kernel_rfl))
  · have h := some_of h
    subst h
    have t_ := tR (cmp_isNaN_uint64_runs x _ h1) <| tF h2 <| tF (rfl : false = false) <| tN
    exact runs_of (C := cfg) (objs := []) (sc := t_.ev) (.k0 t_.pf (by kernel_rfl))
/-! ### slices_insertionSortOrdered_uint64_L1 -/
def slices_insertionSortOrdered_uint64_L1_st (data : Nat) (a : Int) (b : Int) (i : Int) : Int × List Int → St
  | (j, l) => ⟨[(0, (.av (.one (.own 0 0 data false)))), (1, (.av (.one (.pv (.int .i64 a))))), (2, (.av (.one (.pv (.int .i64 b))))), (6, (.av (.one (.pv (.int .i64 i))))), (7, (.av (.one (.pv (.int .i64 j)))))], [], [(0, (.live (.ints .u64 l)))]⟩
def slices_insertionSortOrdered_uint64_L1_ex (data : Nat) (a : Int) (b : Int) (i : Int) : List Int → Ex × St
  | r1 => ((.exit 2), ⟨[(0, (.av (.one (.own 0 0 data false)))), (1, (.av (.one (.pv (.int .i64 a))))), (2, (.av (.one (.pv (.int .i64 b))))), (6, (.av (.one (.pv (.int .i64 i)))))], [], [(0, (.live (.ints .u64 r1)))]⟩)
noncomputable def slices_insertionSortOrdered_uint64_L1_step (data : Nat) (a : Int) (b : Int) (i : Int) : Int × List Int → Option ((Int × List Int) ⊕ (List Int))
  | (j, l) =>
  bif (decide ((a : Int) < j)) then
    bif decide ((0 : Int) ≤ j) && decide ((j : Int) < (data : Int)) then
    bif decide ((0 : Int) ≤ (isub .i64 j 1)) && decide (((isub .i64 j 1) : Int) < (data : Int)) then
    (cmp_Less_uint64 (l.getD (0 + (j).toNat) 0) (l.getD (0 + ((isub .i64 j 1)).toNat) 0)).bind fun b2 =>
    bif b2 then
      some (.inl ((isub .i64 j 1), ((l.set (0 + (j).toNat) (l.getD (0 + ((isub .i64 j 1)).toNat) 0)).set (0 + ((isub .i64 j 1)).toNat) (l.getD (0 + (j).toNat) 0))))
    else
      some (.inr l)
    else none
    else none
  else
    some (.inr l)
theorem slices_insertionSortOrdered_uint64_L1_ok (data : Nat) (a : Int) (b : Int) (i : Int) (s_ : Int × List Int) (z_ : (Int × List Int) ⊕ (List Int)) (h : slices_insertionSortOrdered_uint64_L1_step data a b i s_ = some z_) : RoundOk Try.prog cfg 98 1000 (loopAt Try.prog 98 1) (slices_insertionSortOrdered_uint64_L1_st data a b i) (slices_insertionSortOrdered_uint64_L1_ex data a b i) s_ z_ := by
  rcases s_ with ⟨j, l⟩
  rcases cond_of h with ⟨h1, h⟩ | ⟨h1, h⟩
  · obtain ⟨h2, h⟩ := need_of h
    obtain ⟨h3, h⟩ := need_of h
    obtain ⟨b2, h4, h⟩ := bind_of h
    have q_4 := (cmp_Less_uint64_runs (l.getD (0 + (j).toNat) 0) (l.getD (0 + ((isub .i64 j 1)).toNat) 0) _ h4)
    rcases cond_of h with ⟨h5, h⟩ | ⟨h5, h⟩
    · have h := some_of h
      subst h
      have t_ := tT h1 <| tO h2 <| tO h3 <| tR q_4 <| tT h5 <| tO h3 <| tO h2 <| tO h2 <| tO h3 <| tN
      exact ⟨t_.ev, slices_insertionSortOrdered_uint64_L1_st data a b i ((isub .i64 j 1), ((l.set (0 + (j).toNat) (l.getD (0 + ((isub .i64 j 1)).toNat) 0)).set (0 + ((isub .i64 j 1)).toNat) (l.getD (0 + (j).toNat) 0))), .k1 t_.pf (by kernel_rfl) (by kernel_rfl), .same (by kernel_rfl)⟩
    · have h := some_of h
      subst h
      have t_ := tT h1 <| tO h2 <| tO h3 <| tR q_4 <| tF h5 <| tN
      exact ⟨t_.ev, ⟨[(30, (.av (.one (.pv (.bool false))))), (0, (.av (.one (.own 0 0 data false)))), (1, (.av (.one (.pv (.int .i64 a))))), (2, (.av (.one (.pv (.int .i64 b))))), (6, (.av (.one (.pv (.int .i64 i))))), (7, (.av (.one (.pv (.int .i64 j))))), (30, (.av (.one (.pv (.bool b2)))))], [], [(0, (.live (.ints .u64 l)))]⟩, .k1 t_.pf (by kernel_rfl) (by kernel_rfl), ⟨⟨⟨_, rfl, .eq rfl⟩, ⟨_, rfl, .eq rfl⟩, ⟨_, rfl, .eq rfl⟩, ⟨_, rfl, .eq rfl⟩, trivial⟩, trivial, ⟨⟨rfl, .eq rfl⟩, trivial⟩⟩⟩
  · have h := some_of h
    subst h
    have t_ := tF h1 <| tF (rfl : false = false) <| tN
    exact ⟨t_.ev, ⟨[(30, (.av (.one (.pv (.bool false))))), (0, (.av (.one (.own 0 0 data false)))), (1, (.av (.one (.pv (.int .i64 a))))), (2, (.av (.one (.pv (.int .i64 b))))), (6, (.av (.one (.pv (.int .i64 i))))), (7, (.av (.one (.pv (.int .i64 j))))), (30, (.av (.one (.pv (.bool false)))))], [], [(0, (.live (.ints .u64 l)))]⟩, .k1 t_.pf (by kernel_rfl) (by kernel_rfl), ⟨⟨⟨_, rfl, .eq rfl⟩, ⟨_, rfl, .eq rfl⟩, ⟨_, rfl, .eq rfl⟩, ⟨_, rfl, .eq rfl⟩, trivial⟩, trivial, ⟨⟨rfl, .eq rfl⟩, trivial⟩⟩⟩
theorem slices_insertionSortOrdered_uint64_L1_runs (data : Nat) (a : Int) (b : Int) (i : Int) (s_ : Int × List Int) (r_ : List Int) (h : runL (slices_insertionSortOrdered_uint64_L1_step data a b i) s_ = some r_) : LRuns Try.prog (lEnv Try.prog cfg 98 1000).nt 1000 (.loop (loopAt Try.prog 98 1)) (slices_insertionSortOrdered_uint64_L1_st data a b i s_) (slices_insertionSortOrdered_uint64_L1_ex data a b i r_).1 (slices_insertionSortOrdered_uint64_L1_ex data a b i r_).2 :=
  loop_run h (slices_insertionSortOrdered_uint64_L1_ok data a b i) (by intro r_; rcases r_ with r1 <;> simp [slices_insertionSortOrdered_uint64_L1_ex])
/-! ### slices_insertionSortOrdered_uint64_L0 -/
def slices_insertionSortOrdered_uint64_L0_st (data : Nat) (a : Int) (b : Int) : Int × List Int → St
  | (i, l) => ⟨[(0, (.av (.one (.own 0 0 data false)))), (1, (.av (.one (.pv (.int .i64 a))))), (2, (.av (.one (.pv (.int .i64 b))))), (6, (.av (.one (.pv (.int .i64 i)))))], [], [(0, (.live (.ints .u64 l)))]⟩
def slices_insertionSortOrdered_uint64_L0_ex (data : Nat) (a : Int) (b : Int) : List Int → Ex × St
  | r1 => ((.exit 0), ⟨[], [], [(0, (.live (.ints .u64 r1)))]⟩)
noncomputable def slices_insertionSortOrdered_uint64_L0_step (data : Nat) (a : Int) (b : Int) : Int × List Int → Option ((Int × List Int) ⊕ (List Int))
  | (i, l) =>
  bif (decide ((i : Int) < b)) then
    (runL (slices_insertionSortOrdered_uint64_L1_step data a b i) (i, l)).bind fun l_ =>
    some (.inl ((iadd .i64 i 1), l_))
  else
    some (.inr l)
theorem slices_insertionSortOrdered_uint64_L0_ok (data : Nat) (a : Int) (b : Int) (s_ : Int × List Int) (z_ : (Int × List Int) ⊕ (List Int)) (h : slices_insertionSortOrdered_uint64_L0_step data a b s_ = some z_) : RoundOk Try.prog cfg 98 1000 (loopAt Try.prog 98 0) (slices_insertionSortOrdered_uint64_L0_st data a b) (slices_insertionSortOrdered_uint64_L0_ex data a b) s_ z_ := by
  rcases s_ with ⟨i, l⟩
  rcases cond_of h with ⟨h1, h⟩ | ⟨h1, h⟩
  · obtain ⟨l_, h2, h⟩ := bind_of h
    have h := some_of h
    subst h
    have t_ := tT h1 <| tL (slices_insertionSortOrdered_uint64_L1_runs data a b i _ _ h2) <| tN
    exact ⟨t_.ev, slices_insertionSortOrdered_uint64_L0_st data a b ((iadd .i64 i 1), l_), .k0 t_.pf (by kernel_rfl), .same (by kernel_rfl)⟩
  · have h := some_of h
    subst h
    have t_ := tF h1 <| tN
    exact ⟨t_.ev, ⟨[(12, (.av (.one (.pv (.bool false))))), (0, (.av (.one (.own 0 0 data false)))), (1, (.av (.one (.pv (.int .i64 a))))), (2, (.av (.one (.pv (.int .i64 b))))), (6, (.av (.one (.pv (.int .i64 i))))), (12, (.av (.one (.pv (.bool (decide ((i : Int) < b)))))))], [], [(0, (.live (.ints .u64 l)))]⟩, .k0 t_.pf (by kernel_rfl), ⟨trivial, trivial, ⟨⟨rfl, .eq rfl⟩, trivial⟩⟩⟩
theorem slices_insertionSortOrdered_uint64_L0_runs (data : Nat) (a : Int) (b : Int) (s_ : Int × List Int) (r_ : List Int) (h : runL (slices_insertionSortOrdered_uint64_L0_step data a b) s_ = some r_) : LRuns Try.prog (lEnv Try.prog cfg 98 1000).nt 1000 (.loop (loopAt Try.prog 98 0)) (slices_insertionSortOrdered_uint64_L0_st data a b s_) (slices_insertionSortOrdered_uint64_L0_ex data a b r_).1 (slices_insertionSortOrdered_uint64_L0_ex data a b r_).2 :=
  loop_run h (slices_insertionSortOrdered_uint64_L0_ok data a b) (by intro r_; rcases r_ with r1 <;> simp [slices_insertionSortOrdered_uint64_L0_ex])
/-! ### slices_insertionSortOrdered_uint64 -/
noncomputable def slices_insertionSortOrdered_uint64 (data : Nat) (a : Int) (b : Int) (l : List Int) : Option (List Int) :=
  (runL (slices_insertionSortOrdered_uint64_L0_step data a b) ((iadd .i64 a 1), l)).bind fun l_ =>
  some l_
theorem slices_insertionSortOrdered_uint64_runs (data : Nat) (a : Int) (b : Int) (l : List Int) (r_ : List Int) (h : slices_insertionSortOrdered_uint64 data a b l = some r_) : RunsI Try.prog 98 [(.one (.own 0 0 data false)), (.one (.pv (.int .i64 a))), (.one (.pv (.int .i64 b)))] [] [(.ints .u64 l)] (slices_insertionSortOrdered_uint64_out data a b l r_) := by
  unfold slices_insertionSortOrdered_uint64 at h
  obtain ⟨l_, h1, h⟩ := bind_of h
  have h := some_of h
  subst h
  have t_ := tL (slices_insertionSortOrdered_uint64_L0_runs data a b _ _ h1) <| tN
  exact runsI_of (C := cfg) (objs := []) (rows := [(.ints .u64 l)]) (sc := t_.ev) (.k0 t_.pf (by kernel_rfl))
/-! ### slices_heapSortOrdered_uint64_out -/
def slices_heapSortOrdered_uint64_out (data : Nat) (a : Int) (b : Int) (l : List Int) : List Int → Res
  | r1 => ([], [], [(.ints .u64 r1)])
/-! ### slices_siftDownOrdered_uint64_out -/
def slices_siftDownOrdered_uint64_out (data : Nat) (lo : Int) (hi : Int) (first : Int) (l : List Int) : List Int → Res
  | r1 => ([], [], [(.ints .u64 r1)])
/-! ### slices_siftDownOrdered_uint64_L0 -/
def slices_siftDownOrdered_uint64_L0_st (data : Nat) (hi : Int) (first : Int) : Int × List Int → St
  | (root, l) => ⟨[(0, (.av (.one (.own 0 0 data false)))), (2, (.av (.one (.pv (.int .i64 hi))))), (3, (.av (.one (.pv (.int .i64 first))))), (8, (.av (.one (.pv (.int .i64 root)))))], [], [(0, (.live (.ints .u64 l)))]⟩
def slices_siftDownOrdered_uint64_L0_ex (data : Nat) (hi : Int) (first : Int) : (List Int) ⊕ (List Int) → Ex × St
  | .inl r1 => ((.exit 0), ⟨[], [], [(0, (.live (.ints .u64 r1)))]⟩)
  | .inr r1 => (.ret, ⟨[], [], [(0, (.live (.ints .u64 r1)))]⟩)
noncomputable def slices_siftDownOrdered_uint64_L0_step (data : Nat) (hi : Int) (first : Int) : Int × List Int → Option ((Int × List Int) ⊕ ((List Int) ⊕ (List Int)))
  | (root, l) =>
  bif (decide ((hi : Int) ≤ (iadd .i64 (imul .i64 2 root) 1))) then
    some (.inr (.inl l))
  else
    bif (decide (((iadd .i64 (iadd .i64 (imul .i64 2 root) 1) 1) : Int) < hi)) then
      bif decide ((0 : Int) ≤ (iadd .i64 first (iadd .i64 (imul .i64 2 root) 1))) && decide (((iadd .i64 first (iadd .i64 (imul .i64 2 root) 1)) : Int) < (data : Int)) then
      bif decide ((0 : Int) ≤ (iadd .i64 (iadd .i64 first (iadd .i64 (imul .i64 2 root) 1)) 1)) && decide (((iadd .i64 (iadd .i64 first (iadd .i64 (imul .i64 2 root) 1)) 1) : Int) < (data : Int)) then
      (cmp_Less_uint64 (l.getD (0 + ((iadd .i64 first (iadd .i64 (imul .i64 2 root) 1))).toNat) 0) (l.getD (0 + ((iadd .i64 (iadd .i64 first (iadd .i64 (imul .i64 2 root) 1)) 1)).toNat) 0)).bind fun b =>
      bif b then
        bif decide ((0 : Int) ≤ (iadd .i64 first root)) && decide (((iadd .i64 first root) : Int) < (data : Int)) then
        bif decide ((0 : Int) ≤ (iadd .i64 first (iadd .i64 (iadd .i64 (imul .i64 2 root) 1) 1))) && decide (((iadd .i64 first (iadd .i64 (iadd .i64 (imul .i64 2 root) 1) 1)) : Int) < (data : Int)) then
        (cmp_Less_uint64 (l.getD (0 + ((iadd .i64 first root)).toNat) 0) (l.getD (0 + ((iadd .i64 first (iadd .i64 (iadd .i64 (imul .i64 2 root) 1) 1))).toNat) 0)).bind fun b2 =>
        bif b2 then
          some (.inl ((iadd .i64 (iadd .i64 (imul .i64 2 root) 1) 1), ((l.set (0 + ((iadd .i64 first root)).toNat) (l.getD (0 + ((iadd .i64 first (iadd .i64 (iadd .i64 (imul .i64 2 root) 1) 1))).toNat) 0)).set (0 + ((iadd .i64 first (iadd .i64 (iadd .i64 (imul .i64 2 root) 1) 1))).toNat) (l.getD (0 + ((iadd .i64 first root)).toNat) 0))))
        else
          some (.inr (.inr l))
        else none
        else none
      else
        bif decide ((0 : Int) ≤ (iadd .i64 first root)) && decide (((iadd .i64 first root) : Int) < (data : Int)) then
        (cmp_Less_uint64 (l.getD (0 + ((iadd .i64 first root)).toNat) 0) (l.getD (0 + ((iadd .i64 first (iadd .i64 (imul .i64 2 root) 1))).toNat) 0)).bind fun b2 =>
        bif b2 then
          some (.inl ((iadd .i64 (imul .i64 2 root) 1), ((l.set (0 + ((iadd .i64 first root)).toNat) (l.getD (0 + ((iadd .i64 first (iadd .i64 (imul .i64 2 root) 1))).toNat) 0)).set (0 + ((iadd .i64 first (iadd .i64 (imul .i64 2 root) 1))).toNat) (l.getD (0 + ((iadd .i64 first root)).toNat) 0))))
        else
          some (.inr (.inr l))
        else none
      else none
      else none
    else
      bif decide ((0 : Int) ≤ (iadd .i64 first root)) && decide (((iadd .i64 first root) : Int) < (data : Int)) then
      bif decide ((0 : Int) ≤ (iadd .i64 first (iadd .i64 (imul .i64 2 root) 1))) && decide (((iadd .i64 first (iadd .i64 (imul .i64 2 root) 1)) : Int) < (data : Int)) then
      (cmp_Less_uint64 (l.getD (0 + ((iadd .i64 first root)).toNat) 0) (l.getD (0 + ((iadd .i64 first (iadd .i64 (imul .i64 2 root) 1))).toNat) 0)).bind fun b =>
      bif b then
        some (.inl ((iadd .i64 (imul .i64 2 root) 1), ((l.set (0 + ((iadd .i64 first root)).toNat) (l.getD (0 + ((iadd .i64 first (iadd .i64 (imul .i64 2 root) 1))).toNat) 0)).set (0 + ((iadd .i64 first (iadd .i64 (imul .i64 2 root) 1))).toNat) (l.getD (0 + ((iadd .i64 first root)).toNat) 0))))
      else
        some (.inr (.inr l))
      else none
      else none
theorem slices_siftDownOrdered_uint64_L0_ok (data : Nat) (hi : Int) (first : Int) (s_ : Int × List Int) (z_ : (Int × List Int) ⊕ ((List Int) ⊕ (List Int))) (h : slices_siftDownOrdered_uint64_L0_step data hi first s_ = some z_) : RoundOk Try.prog cfg 111 1000 (loopAt Try.prog 111 0) (slices_siftDownOrdered_uint64_L0_st data hi first) (slices_siftDownOrdered_uint64_L0_ex data hi first) s_ z_ := by
  rcases s_ with ⟨root, l⟩
  rcases cond_of h with ⟨h1, h⟩ | ⟨h1, h⟩
  · have h := some_of h
    subst h
    have t_ := tT h1 <| tN
    exact ⟨t_.ev, ⟨[(16, (.av (.one (.pv (.bool true))))), (0, (.av (.one (.own 0 0 data false)))), (2, (.av (.one (.pv (.int .i64 hi))))), (3, (.av (.one (.pv (.int .i64 first))))), (8, (.av (.one (.pv (.int .i64 root))))), (9, (.av (.one (.pv (.int .i64 (iadd .i64 (imul .i64 2 root) 1)))))), (16, (.av (.one (.pv (.bool (decide ((hi : Int) ≤ (iadd .i64 (imul .i64 2 root) 1))))))))], [], [(0, (.live (.ints .u64 l)))]⟩, .k0 t_.pf (by kernel_rfl), ⟨trivial, trivial, ⟨⟨rfl, .eq rfl⟩, trivial⟩⟩⟩
  · rcases cond_of h with ⟨h2, h⟩ | ⟨h2, h⟩
    · obtain ⟨h3, h⟩ := need_of h
      obtain ⟨h4, h⟩ := need_of h
      obtain ⟨b, h5, h⟩ := bind_of h
      have q_5 := (cmp_Less_uint64_runs (l.getD (0 + ((iadd .i64 first (iadd .i64 (imul .i64 2 root) 1))).toNat) 0) (l.getD (0 + ((iadd .i64 (iadd .i64 first (iadd .i64 (imul .i64 2 root) 1)) 1)).toNat) 0) _ h5)
      rcases cond_of h with ⟨h6, h⟩ | ⟨h6, h⟩
      · obtain ⟨h7, h⟩ := need_of h
        obtain ⟨h8, h⟩ := need_of h
        obtain ⟨b2, h9, h⟩ := bind_of h
        have q_9 := (cmp_Less_uint64_runs (l.getD (0 + ((iadd .i64 first root)).toNat) 0) (l.getD (0 + ((iadd .i64 first (iadd .i64 (iadd .i64 (imul .i64 2 root) 1) 1))).toNat) 0) _ h9)
        rcases cond_of h with ⟨h10, h⟩ | ⟨h10, h⟩
        · have h := some_of h
          subst h
          have t_ := tF h1 <| tT h2 <| tO h3 <| tO h4 <| tR q_5 <| tT h6 <| tO h7 <| tO h8 <| tR q_9 <| tF (not_of2 h10) <| tO h8 <| tO h7 <| tO h7 <| tO h8 <| tN
          exact ⟨t_.ev, slices_siftDownOrdered_uint64_L0_st data hi first ((iadd .i64 (iadd .i64 (imul .i64 2 root) 1) 1), ((l.set (0 + ((iadd .i64 first root)).toNat) (l.getD (0 + ((iadd .i64 first (iadd .i64 (iadd .i64 (imul .i64 2 root) 1) 1))).toNat) 0)).set (0 + ((iadd .i64 first (iadd .i64 (iadd .i64 (imul .i64 2 root) 1) 1))).toNat) (l.getD (0 + ((iadd .i64 first root)).toNat) 0))), .k1 t_.pf (by kernel_rfl) (by kernel_rfl), .same (by kernel_rfl)⟩
        · have h := some_of h
          subst h
          have t_ := tF h1 <| tT h2 <| tO h3 <| tO h4 <| tR q_5 <| tT h6 <| tO h7 <| tO h8 <| tR q_9 <| tT (not_of h10) <| tN
          exact ⟨t_.ev, ⟨[(52, (.av (.one (.pv (.bool true))))), (0, (.av (.one (.own 0 0 data false)))), (2, (.av (.one (.pv (.int .i64 hi))))), (3, (.av (.one (.pv (.int .i64 first))))), (8, (.av (.one (.pv (.int .i64 root))))), (9, (.av (.one (.pv (.int .i64 (iadd .i64 (iadd .i64 (imul .i64 2 root) 1) 1)))))), (52, (.av (.one (.pv (.bool (!b2))))))], [], [(0, (.live (.ints .u64 l)))]⟩, .k1 t_.pf (by kernel_rfl) (by kernel_rfl), ⟨trivial, trivial, ⟨⟨rfl, .eq rfl⟩, trivial⟩⟩⟩
      · obtain ⟨h7, h⟩ := need_of h
        obtain ⟨b2, h8, h⟩ := bind_of h
        have q_8 := (cmp_Less_uint64_runs (l.getD (0 + ((iadd .i64 first root)).toNat) 0) (l.getD (0 + ((iadd .i64 first (iadd .i64 (imul .i64 2 root) 1))).toNat) 0) _ h8)
        rcases cond_of h with ⟨h9, h⟩ | ⟨h9, h⟩
        · have h := some_of h
          subst h
          have t_ := tF h1 <| tT h2 <| tO h3 <| tO h4 <| tR q_5 <| tF h6 <| tO h7 <| tO h3 <| tR q_8 <| tF (not_of2 h9) <| tO h3 <| tO h7 <| tO h7 <| tO h3 <| tN
          exact ⟨t_.ev, slices_siftDownOrdered_uint64_L0_st data hi first ((iadd .i64 (imul .i64 2 root) 1), ((l.set (0 + ((iadd .i64 first root)).toNat) (l.getD (0 + ((iadd .i64 first (iadd .i64 (imul .i64 2 root) 1))).toNat) 0)).set (0 + ((iadd .i64 first (iadd .i64 (imul .i64 2 root) 1))).toNat) (l.getD (0 + ((iadd .i64 first root)).toNat) 0))), .k1 t_.pf (by kernel_rfl) (by kernel_rfl), .same (by kernel_rfl)⟩
        · have h := some_of h
          subst h
          have t_ := tF h1 <| tT h2 <| tO h3 <| tO h4 <| tR q_5 <| tF h6 <| tO h7 <| tO h3 <| tR q_8 <| tT (not_of h9) <| tN
          exact ⟨t_.ev, ⟨[(52, (.av (.one (.pv (.bool true))))), (0, (.av (.one (.own 0 0 data false)))), (2, (.av (.one (.pv (.int .i64 hi))))), (3, (.av (.one (.pv (.int .i64 first))))), (8, (.av (.one (.pv (.int .i64 root))))), (9, (.av (.one (.pv (.int .i64 (iadd .i64 (imul .i64 2 root) 1)))))), (52, (.av (.one (.pv (.bool (!b2))))))], [], [(0, (.live (.ints .u64 l)))]⟩, .k1 t_.pf (by kernel_rfl) (by kernel_rfl), ⟨trivial, trivial, ⟨⟨rfl, .eq rfl⟩, trivial⟩⟩⟩
    · obtain ⟨h3, h⟩ := need_of h
      obtain ⟨h4, h⟩ := need_of h
      obtain ⟨b, h5, h⟩ := bind_of h
      have q_5 := (cmp_Less_uint64_runs (l.getD (0 + ((iadd .i64 first root)).toNat) 0) (l.getD (0 + ((iadd .i64 first (iadd .i64 (imul .i64 2 root) 1))).toNat) 0) _ h5)
      rcases cond_of h with ⟨h6, h⟩ | ⟨h6, h⟩
      · have h := some_of h
        subst h
        have t_ := tF h1 <| tF h2 <| tF (rfl : false = false) <| tO h3 <| tO h4 <| tR q_5 <| tF (not_of2 h6) <| tO h4 <| tO h3 <| tO h3 <| tO h4 <| tN
        exact ⟨t_.ev, slices_siftDownOrdered_uint64_L0_st data hi first ((iadd .i64 (imul .i64 2 root) 1), ((l.set (0 + ((iadd .i64 first root)).toNat) (l.getD (0 + ((iadd .i64 first (iadd .i64 (imul .i64 2 root) 1))).toNat) 0)).set (0 + ((iadd .i64 first (iadd .i64 (imul .i64 2 root) 1))).toNat) (l.getD (0 + ((iadd .i64 first root)).toNat) 0))), .k1 t_.pf (by kernel_rfl) (by kernel_rfl), .same (by kernel_rfl)⟩
      · have h := some_of h
        subst h
        have t_ := tF h1 <| tF h2 <| tF (rfl : false = false) <| tO h3 <| tO h4 <| tR q_5 <| tT (not_of h6) <| tN
        exact ⟨t_.ev, ⟨[(52, (.av (.one (.pv (.bool true))))), (0, (.av (.one (.own 0 0 data false)))), (2, (.av (.one (.pv (.int .i64 hi))))), (3, (.av (.one (.pv (.int .i64 first))))), (8, (.av (.one (.pv (.int .i64 root))))), (9, (.av (.one (.pv (.int .i64 (iadd .i64 (imul .i64 2 root) 1)))))), (52, (.av (.one (.pv (.bool (!b))))))], [], [(0, (.live (.ints .u64 l)))]⟩, .k1 t_.pf (by kernel_rfl) (by kernel_rfl), ⟨trivial, trivial, ⟨⟨rfl, .eq rfl⟩, trivial⟩⟩⟩
theorem slices_siftDownOrdered_uint64_L0_runs (data : Nat) (hi : Int) (first : Int) (s_ : Int × List Int) (r_ : (List Int) ⊕ (List Int)) (h : runL (slices_siftDownOrdered_uint64_L0_step data hi first) s_ = some r_) : LRuns Try.prog (lEnv Try.prog cfg 111 1000).nt 1000 (.loop (loopAt Try.prog 111 0)) (slices_siftDownOrdered_uint64_L0_st data hi first s_) (slices_siftDownOrdered_uint64_L0_ex data hi first r_).1 (slices_siftDownOrdered_uint64_L0_ex data hi first r_).2 :=
  loop_run h (slices_siftDownOrdered_uint64_L0_ok data hi first) (by intro r_; rcases r_ with r1 | r1 <;> simp [slices_siftDownOrdered_uint64_L0_ex])
/-! ### slices_siftDownOrdered_uint64 -/
noncomputable def slices_siftDownOrdered_uint64 (data : Nat) (lo : Int) (hi : Int) (first : Int) (l : List Int) : Option (List Int) :=
  (runL (slices_siftDownOrdered_uint64_L0_step data hi first) (lo, l)).bind fun z_ => match z_ with
  | .inl l_ =>
    some l_
  | .inr l_ =>
    some l_
theorem slices_siftDownOrdered_uint64_runs (data : Nat) (lo : Int) (hi : Int) (first : Int) (l : List Int) (r_ : List Int) (h : slices_siftDownOrdered_uint64 data lo hi first l = some r_) : RunsI Try.prog 111 [(.one (.own 0 0 data false)), (.one (.pv (.int .i64 lo))), (.one (.pv (.int .i64 hi))), (.one (.pv (.int .i64 first)))] [] [(.ints .u64 l)] (slices_siftDownOrdered_uint64_out data lo hi first l r_) := by
  unfold slices_siftDownOrdered_uint64 at h
  obtain ⟨z_, h1, h⟩ := bind_of h
  rcases z_ with l_ | l_
  · have h := some_of h
    subst h
    have t_ := tL (slices_siftDownOrdered_uint64_L0_runs data hi first _ _ h1) <| tN
    exact runsI_of (C := cfg) (objs := []) (rows := [(.ints .u64 l)]) (sc := t_.ev) (.k0 t_.pf (by kernel_rfl))
  · have h := some_of h
    subst h
    have t_ := tL (slices_siftDownOrdered_uint64_L0_runs data hi first _ _ h1) <| tN
    exact runsI_of (C := cfg) (objs := []) (rows := [(.ints .u64 l)]) (sc := t_.ev) (.k0 t_.pf (by kernel_rfl))
/-! ### slices_heapSortOrdered_uint64_L0 -/
def slices_heapSortOrdered_uint64_L0_st (data : Nat) (first : Int) (hi : Int) : Int × List Int → St
  | (i, l) => ⟨[(0, (.av (.one (.own 0 0 data false)))), (6, (.av (.one (.pv (.int .i64 first))))), (7, (.av (.one (.pv (.int .i64 0))))), (8, (.av (.one (.pv (.int .i64 hi))))), (9, (.av (.one (.pv (.int .i64 i)))))], [], [(0, (.live (.ints .u64 l)))]⟩
def slices_heapSortOrdered_uint64_L0_ex (data : Nat) (first : Int) (hi : Int) : List Int → Ex × St
  | r1 => ((.exit 0), ⟨[(0, (.av (.one (.own 0 0 data false)))), (6, (.av (.one (.pv (.int .i64 first))))), (7, (.av (.one (.pv (.int .i64 0))))), (8, (.av (.one (.pv (.int .i64 hi)))))], [], [(0, (.live (.ints .u64 r1)))]⟩)
noncomputable def slices_heapSortOrdered_uint64_L0_step (data : Nat) (first : Int) (hi : Int) : Int × List Int → Option ((Int × List Int) ⊕ (List Int))
  | (i, l) =>
  bif (decide ((0 : Int) ≤ i)) then
    (slices_siftDownOrdered_uint64 data i hi first l).bind fun l_ =>
    some (.inl ((isub .i64 i 1), l_))
  else
    some (.inr l)
theorem slices_heapSortOrdered_uint64_L0_ok (data : Nat) (first : Int) (hi : Int) (s_ : Int × List Int) (z_ : (Int × List Int) ⊕ (List Int)) (h : slices_heapSortOrdered_uint64_L0_step data first hi s_ = some z_) : RoundOk Try.prog cfg 99 1000 (loopAt Try.prog 99 0) (slices_heapSortOrdered_uint64_L0_st data first hi) (slices_heapSortOrdered_uint64_L0_ex data first hi) s_ z_ := by
  rcases s_ with ⟨i, l⟩
  rcases cond_of h with ⟨h1, h⟩ | ⟨h1, h⟩
  · obtain ⟨l_, h2, h⟩ := bind_of h
    have h := some_of h
    subst h
    have t_ := tT h1 <| tE (.el []) <| tE (.res (slices_siftDownOrdered_uint64_out data i hi first l l_)) <| tO (slices_siftDownOrdered_uint64_runs data i hi first l _ h2) <| tN
    exact ⟨t_.ev, slices_heapSortOrdered_uint64_L0_st data first hi ((isub .i64 i 1), l_), .k0 t_.pf (by kernel_rfl), .same (by kernel_rfl)⟩
  · have h := some_of h
    subst h
    have t_ := tF h1 <| tN
    exact ⟨t_.ev, ⟨[(19, (.av (.one (.pv (.bool false))))), (0, (.av (.one (.own 0 0 data false)))), (6, (.av (.one (.pv (.int .i64 first))))), (7, (.av (.one (.pv (.int .i64 0))))), (8, (.av (.one (.pv (.int .i64 hi))))), (9, (.av (.one (.pv (.int .i64 i))))), (19, (.av (.one (.pv (.bool (decide ((0 : Int) ≤ i)))))))], [], [(0, (.live (.ints .u64 l)))]⟩, .k0 t_.pf (by kernel_rfl), ⟨⟨⟨_, rfl, .eq rfl⟩, ⟨_, rfl, .eq rfl⟩, ⟨_, rfl, .eq rfl⟩, ⟨_, rfl, .eq rfl⟩, trivial⟩, trivial, ⟨⟨rfl, .eq rfl⟩, trivial⟩⟩⟩
theorem slices_heapSortOrdered_uint64_L0_runs (data : Nat) (first : Int) (hi : Int) (s_ : Int × List Int) (r_ : List Int) (h : runL (slices_heapSortOrdered_uint64_L0_step data first hi) s_ = some r_) : LRuns Try.prog (lEnv Try.prog cfg 99 1000).nt 1000 (.loop (loopAt Try.prog 99 0)) (slices_heapSortOrdered_uint64_L0_st data first hi s_) (slices_heapSortOrdered_uint64_L0_ex data first hi r_).1 (slices_heapSortOrdered_uint64_L0_ex data first hi r_).2 :=
  loop_run h (slices_heapSortOrdered_uint64_L0_ok data first hi) (by intro r_; rcases r_ with r1 <;> simp [slices_heapSortOrdered_uint64_L0_ex])
/-! ### slices_heapSortOrdered_uint64_L1 -/
def slices_heapSortOrdered_uint64_L1_st (data : Nat) (first : Int) : Int × List Int → St
  | (i, l) => ⟨[(0, (.av (.one (.own 0 0 data false)))), (6, (.av (.one (.pv (.int .i64 first))))), (7, (.av (.one (.pv (.int .i64 0))))), (10, (.av (.one (.pv (.int .i64 i)))))], [], [(0, (.live (.ints .u64 l)))]⟩
def slices_heapSortOrdered_uint64_L1_ex (data : Nat) (first : Int) : List Int → Ex × St
  | r1 => ((.exit 2), ⟨[], [], [(0, (.live (.ints .u64 r1)))]⟩)
noncomputable def slices_heapSortOrdered_uint64_L1_step (data : Nat) (first : Int) : Int × List Int → Option ((Int × List Int) ⊕ (List Int))
  | (i, l) =>
  bif (decide ((0 : Int) ≤ i)) then
    bif decide ((0 : Int) ≤ (iadd .i64 first i)) && decide (((iadd .i64 first i) : Int) < (data : Int)) then
    bif decide ((0 : Int) ≤ first) && decide ((first : Int) < (data : Int)) then
    (slices_siftDownOrdered_uint64 data 0 i first ((l.set (0 + (first).toNat) (l.getD (0 + ((iadd .i64 first i)).toNat) 0)).set (0 + ((iadd .i64 first i)).toNat) (l.getD (0 + (first).toNat) 0))).bind fun l_ =>
    some (.inl ((isub .i64 i 1), l_))
    else none
    else none
  else
    some (.inr l)
theorem slices_heapSortOrdered_uint64_L1_ok (data : Nat) (first : Int) (s_ : Int × List Int) (z_ : (Int × List Int) ⊕ (List Int)) (h : slices_heapSortOrdered_uint64_L1_step data first s_ = some z_) : RoundOk Try.prog cfg 99 1000 (loopAt Try.prog 99 1) (slices_heapSortOrdered_uint64_L1_st data first) (slices_heapSortOrdered_uint64_L1_ex data first) s_ z_ := by
  rcases s_ with ⟨i, l⟩
  rcases cond_of h with ⟨h1, h⟩ | ⟨h1, h⟩
  · obtain ⟨h2, h⟩ := need_of h
    obtain ⟨h3, h⟩ := need_of h
    obtain ⟨l_, h4, h⟩ := bind_of h
    have h := some_of h
    subst h
    have t_ := tT h1 <| tO h2 <| tO h3 <| tO h3 <| tO h2 <| tE (.el []) <| tE (.res (slices_siftDownOrdered_uint64_out data 0 i first ((l.set (0 + (first).toNat) (l.getD (0 + ((iadd .i64 first i)).toNat) 0)).set (0 + ((iadd .i64 first i)).toNat) (l.getD (0 + (first).toNat) 0)) l_)) <| tO (slices_siftDownOrdered_uint64_runs data 0 i first ((l.set (0 + (first).toNat) (l.getD (0 + ((iadd .i64 first i)).toNat) 0)).set (0 + ((iadd .i64 first i)).toNat) (l.getD (0 + (first).toNat) 0)) _ h4) <| tN
    exact ⟨t_.ev, slices_heapSortOrdered_uint64_L1_st data first ((isub .i64 i 1), l_), .k1 t_.pf (by kernel_rfl) (by kernel_rfl), .same (by kernel_rfl)⟩
  · have h := some_of h
    subst h
    have t_ := tF h1 <| tN
    exact ⟨t_.ev, ⟨[(30, (.av (.one (.pv (.bool false))))), (0, (.av (.one (.own 0 0 data false)))), (6, (.av (.one (.pv (.int .i64 first))))), (7, (.av (.one (.pv (.int .i64 0))))), (10, (.av (.one (.pv (.int .i64 i))))), (30, (.av (.one (.pv (.bool (decide ((0 : Int) ≤ i)))))))], [], [(0, (.live (.ints .u64 l)))]⟩, .k0 t_.pf (by kernel_rfl), ⟨trivial, trivial, ⟨⟨rfl, .eq rfl⟩, trivial⟩⟩⟩
theorem slices_heapSortOrdered_uint64_L1_runs (data : Nat) (first : Int) (s_ : Int × List Int) (r_ : List Int) (h : runL (slices_heapSortOrdered_uint64_L1_step data first) s_ = some r_) : LRuns Try.prog (lEnv Try.prog cfg 99 1000).nt 1000 (.loop (loopAt Try.prog 99 1)) (slices_heapSortOrdered_uint64_L1_st data first s_) (slices_heapSortOrdered_uint64_L1_ex data first r_).1 (slices_heapSortOrdered_uint64_L1_ex data first r_).2 :=
  loop_run h (slices_heapSortOrdered_uint64_L1_ok data first) (by intro r_; rcases r_ with r1 <;> simp [slices_heapSortOrdered_uint64_L1_ex])
/-! ### slices_heapSortOrdered_uint64 -/
noncomputable def slices_heapSortOrdered_uint64 (data : Nat) (a : Int) (b : Int) (l : List Int) : Option (List Int) :=
  (runL (slices_heapSortOrdered_uint64_L0_step data a (isub .i64 b a)) ((iquo .i64 (isub .i64 (isub .i64 b a) 1) 2), l)).bind fun l_ =>
  (runL (slices_heapSortOrdered_uint64_L1_step data a) ((isub .i64 (isub .i64 b a) 1), l_)).bind fun l_2 =>
  some l_2
theorem slices_heapSortOrdered_uint64_runs (data : Nat) (a : Int) (b : Int) (l : List Int) (r_ : List Int) (h : slices_heapSortOrdered_uint64 data a b l = some r_) : RunsI Try.prog 99 [(.one (.own 0 0 data false)), (.one (.pv (.int .i64 a))), (.one (.pv (.int .i64 b)))] [] [(.ints .u64 l)] (slices_heapSortOrdered_uint64_out data a b l r_) := by
  unfold slices_heapSortOrdered_uint64 at h
  obtain ⟨l_, h1, h⟩ := bind_of h
  obtain ⟨l_2, h2, h⟩ := bind_of h
  have h := some_of h
  subst h
  have t_ := tO (rfl : true = true) <| tL (slices_heapSortOrdered_uint64_L0_runs data a (isub .i64 b a) _ _ h1) <| tL (slices_heapSortOrdered_uint64_L1_runs data a _ _ h2) <| tN
  exact runsI_of (C := cfg) (objs := []) (rows := [(.ints .u64 l)]) (sc := t_.ev) (.k0 t_.pf (by kernel_rfl))
/-! ### slices_choosePivotOrdered_uint64_out -/
def slices_choosePivotOrdered_uint64_out (data : List Int) (a : Int) (b : Int) : Int × Int → Res
  | (r1, r2) => ([(.one (.pv (.int .i64 r1))), (.one (.pv (.int .i64 r2)))], [], [])
/-! ### slices_medianAdjacentOrdered_uint64_out -/
def slices_medianAdjacentOrdered_uint64_out (data : List Int) (a : Int) (n : Int) : Int × Int → Res
  | (r1, r2) => ([(.one (.pv (.int .i64 r1)))], [[(.pv (.int .i64 r2))]], [])
/-! ### slices_medianOrdered_uint64_out -/
def slices_medianOrdered_uint64_out (data : List Int) (a : Int) (b : Int) (c : Int) (n : Int) : Int × Int → Res
  | (r1, r2) => ([(.one (.pv (.int .i64 r1)))], [[(.pv (.int .i64 r2))]], [])
/-! ### slices_order2Ordered_uint64_out -/
def slices_order2Ordered_uint64_out (data : List Int) (a : Int) (b : Int) (n : Int) : Int × Int × Int → Res
  | (r1, r2, r3) => ([(.one (.pv (.int .i64 r1))), (.one (.pv (.int .i64 r2)))], [[(.pv (.int .i64 r3))]], [])
/-! ### slices_order2Ordered_uint64 -/
noncomputable def slices_order2Ordered_uint64 (data : List Int) (a : Int) (b : Int) (n : Int) : Option (Int × Int × Int) :=
  bif decide ((0 : Int) ≤ b) && decide ((b : Int) < ((data).length : Int)) then
  bif decide ((0 : Int) ≤ a) && decide ((a : Int) < ((data).length : Int)) then
  (cmp_Less_uint64 (data.getD (b).toNat 0) (data.getD (a).toNat 0)).bind fun b2 =>
  bif b2 then
    some (b, a, (iadd .i64 n 1))
  else
    some (a, b, n)
  else none
  else none
theorem slices_order2Ordered_uint64_runs (data : List Int) (a : Int) (b : Int) (n : Int) (r_ : Int × Int × Int) (h : slices_order2Ordered_uint64 data a b n = some r_) : Runs Try.prog 117 [(.one (.bor (.ints .u64 data false))), (.one (.pv (.int .i64 a))), (.one (.pv (.int .i64 b))), (.one (.ref 0 0))] [[(.pv (.int .i64 n))]] [] (slices_order2Ordered_uint64_out data a b n r_) := by
  unfold slices_order2Ordered_uint64 at h
  obtain ⟨h1, h⟩ := need_of h
  obtain ⟨h2, h⟩ := need_of h
  obtain ⟨b2, h3, h⟩ := bind_of h
  have q_3 := (cmp_Less_uint64_runs (data.getD (b).toNat 0) (data.getD (a).toNat 0) _ h3)
  rcases cond_of h with ⟨h4, h⟩ | ⟨h4, h⟩
  · have h := some_of h
    subst h
    have t_ := tO h1 <| tO h2 <| tR q_3 <| tT h4 <| tN
    exact runs_of (C := cfg) (objs := [[(.pv (.int .i64 n))]]) (sc := t_.ev) (.k0 t_.pf (by kernel_rfl))
  · have h := some_of h
    subst h
    have t_ := tO h1 <| tO h2 <| tR q_3 <| tF h4 <| tN
    exact runs_of (C := cfg) (objs := [[(.pv (.int .i64 n))]]) (sc := t_.ev) (.k0 t_.pf (by kernel_rfl))
/-! ### slices_medianOrdered_uint64 -/
noncomputable def slices_medianOrdered_uint64 (data : List Int) (a : Int) (b : Int) (c : Int) (n : Int) : Option (Int × Int) :=
  (slices_order2Ordered_uint64 data a b n).bind fun (n2, n3, n4) =>
  (slices_order2Ordered_uint64 data n3 c n4).bind fun (n5, n6, n7) =>
  (slices_order2Ordered_uint64 data n2 n5 n7).bind fun (n8, n9, n10) =>
  some (n9, n10)
theorem slices_medianOrdered_uint64_runs (data : List Int) (a : Int) (b : Int) (c : Int) (n : Int) (r_ : Int × Int) (h : slices_medianOrdered_uint64 data a b c n = some r_) : Runs Try.prog 115 [(.one (.bor (.ints .u64 data false))), (.one (.pv (.int .i64 a))), (.one (.pv (.int .i64 b))), (.one (.pv (.int .i64 c))), (.one (.ref 0 0))] [[(.pv (.int .i64 n))]] [] (slices_medianOrdered_uint64_out data a b c n r_) := by
  unfold slices_medianOrdered_uint64 at h
  obtain ⟨⟨n2, n3, n4⟩, h1, h⟩ := bind_of h
  obtain ⟨⟨n5, n6, n7⟩, h2, h⟩ := bind_of h
  obtain ⟨⟨n8, n9, n10⟩, h3, h⟩ := bind_of h
  have h := some_of h
  subst h
  have t_ := tR (slices_order2Ordered_uint64_runs data a b n _ h1) <| tR (slices_order2Ordered_uint64_runs data n3 c n4 _ h2) <| tR (slices_order2Ordered_uint64_runs data n2 n5 n7 _ h3) <| tN
  exact runs_of (C := cfg) (objs := [[(.pv (.int .i64 n))]]) (sc := t_.ev) (.k0 t_.pf (by kernel_rfl))
/-! ### slices_medianAdjacentOrdered_uint64 -/
noncomputable def slices_medianAdjacentOrdered_uint64 (data : List Int) (a : Int) (n : Int) : Option (Int × Int) :=
  (slices_medianOrdered_uint64 data (isub .i64 a 1) a (iadd .i64 a 1) n).bind fun (n2, n3) =>
  some (n2, n3)
theorem slices_medianAdjacentOrdered_uint64_runs (data : List Int) (a : Int) (n : Int) (r_ : Int × Int) (h : slices_medianAdjacentOrdered_uint64 data a n = some r_) : Runs Try.prog 114 [(.one (.bor (.ints .u64 data false))), (.one (.pv (.int .i64 a))), (.one (.ref 0 0))] [[(.pv (.int .i64 n))]] [] (slices_medianAdjacentOrdered_uint64_out data a n r_) := by
  unfold slices_medianAdjacentOrdered_uint64 at h
  obtain ⟨⟨n2, n3⟩, h1, h⟩ := bind_of h
  have h := some_of h
  subst h
  have t_ := tR (slices_medianOrdered_uint64_runs data (isub .i64 a 1) a (iadd .i64 a 1) n _ h1) <| tN
  exact runs_of (C := cfg) (objs := [[(.pv (.int .i64 n))]]) (sc := t_.ev) (.k0 t_.pf (by kernel_rfl))
/-! ### slices_choosePivotOrdered_uint64 -/
noncomputable def slices_choosePivotOrdered_uint64 (data : List Int) (a : Int) (b : Int) : Option (Int × Int) :=
  bif (decide ((8 : Int) ≤ (isub .i64 b a))) then
    bif (decide ((50 : Int) ≤ (isub .i64 b a))) then
      (slices_medianAdjacentOrdered_uint64 data (iadd .i64 a (imul .i64 (iquo .i64 (isub .i64 b a) 4) 1)) 0).bind fun (n, n2) =>
      (slices_medianAdjacentOrdered_uint64 data (iadd .i64 a (imul .i64 (iquo .i64 (isub .i64 b a) 4) 2)) n2).bind fun (n3, n4) =>
      (slices_medianAdjacentOrdered_uint64 data (iadd .i64 a (imul .i64 (iquo .i64 (isub .i64 b a) 4) 3)) n4).bind fun (n5, n6) =>
      (slices_medianOrdered_uint64 data n n3 n5 n6).bind fun (n7, n8) =>
      bif (decide ((n8 : Int) = 0)) then
        some (n7, 1)
      else
        bif (decide ((n8 : Int) = 12)) then
          some (n7, 2)
        else
          some (n7, 0)
    else
      (slices_medianOrdered_uint64 data (iadd .i64 a (imul .i64 (iquo .i64 (isub .i64 b a) 4) 1)) (iadd .i64 a (imul .i64 (iquo .i64 (isub .i64 b a) 4) 2)) (iadd .i64 a (imul .i64 (iquo .i64 (isub .i64 b a) 4) 3)) 0).bind fun (n, n2) =>
      bif (decide ((n2 : Int) = 0)) then
        some (n, 1)
      else
        bif (decide ((n2 : Int) = 12)) then
          some (n, 2)
        else
          some (n, 0)
  else
    some ((iadd .i64 a (imul .i64 (iquo .i64 (isub .i64 b a) 4) 2)), 1)
theorem slices_choosePivotOrdered_uint64_runs (data : List Int) (a : Int) (b : Int) (r_ : Int × Int) (h : slices_choosePivotOrdered_uint64 data a b = some r_) : Runs Try.prog 101 [(.one (.bor (.ints .u64 data false))), (.one (.pv (.int .i64 a))), (.one (.pv (.int .i64 b)))] [] [] (slices_choosePivotOrdered_uint64_out data a b r_) := by
  unfold slices_choosePivotOrdered_uint64 at h
  rcases cond_of h with ⟨h1, h⟩ | ⟨h1, h⟩
  · rcases cond_of h with ⟨h2, h⟩ | ⟨h2, h⟩
    · obtain ⟨⟨n, n2⟩, h3, h⟩ := bind_of h
      have q_3 := (slices_medianAdjacentOrdered_uint64_runs data (iadd .i64 a (imul .i64 (iquo .i64 (isub .i64 b a) 4) 1)) 0 _ h3)
      obtain ⟨⟨n3, n4⟩, h4, h⟩ := bind_of h
      have q_4 := (slices_medianAdjacentOrdered_uint64_runs data (iadd .i64 a (imul .i64 (iquo .i64 (isub .i64 b a) 4) 2)) n2 _ h4)
      obtain ⟨⟨n5, n6⟩, h5, h⟩ := bind_of h
      have q_5 := (slices_medianAdjacentOrdered_uint64_runs data (iadd .i64 a (imul .i64 (iquo .i64 (isub .i64 b a) 4) 3)) n4 _ h5)
      obtain ⟨⟨n7, n8⟩, h6, h⟩ := bind_of h
      have q_6 := (slices_medianOrdered_uint64_runs data n n3 n5 n6 _ h6)
      rcases cond_of h with ⟨h7, h⟩ | ⟨h7, h⟩
      · have h := some_of h
        subst h
        have t_ := tO (rfl : true = true) <| tO (rfl : true = true) <| tO (rfl : true = true) <| tT h1 <| tT h2 <| tR q_3 <| tR q_4 <| tR q_5 <| tR q_6 <| tT h7 <| tN
        exact runs_of (C := cfg) (objs := []) (sc := t_.ev) (.k0 t_.pf (by kernel_rfl))
      · rcases cond_of h with ⟨h8, h⟩ | ⟨h8, h⟩
        · have h := some_of h
          subst h
          have t_ := tO (rfl : true = true) <| tO (rfl : true = true) <| tO (rfl : true = true) <| tT h1 <| tT h2 <| tR q_3 <| tR q_4 <| tR q_5 <| tR q_6 <| tF h7 <| tT h8 <| tN
          exact runs_of (C := cfg) (objs := []) (sc := t_.ev) (.k0 t_.pf (by kernel_rfl))
        · have h := some_of h
          subst h
          have t_ := tO (rfl : true = true) <| tO (rfl : true = true) <| tO (rfl : true = true) <| tT h1 <| tT h2 <| tR q_3 <| tR q_4 <| tR q_5 <| tR q_6 <| tF h7 <| tF h8 <| tN
          exact runs_of (C := cfg) (objs := []) (sc := t_.ev) (.k0 t_.pf (by kernel_rfl))
    · obtain ⟨⟨n, n2⟩, h3, h⟩ := bind_of h
      have q_3 := (slices_medianOrdered_uint64_runs data (iadd .i64 a (imul .i64 (iquo .i64 (isub .i64 b a) 4) 1)) (iadd .i64 a (imul .i64 (iquo .i64 (isub .i64 b a) 4) 2)) (iadd .i64 a (imul .i64 (iquo .i64 (isub .i64 b a) 4) 3)) 0 _ h3)
      rcases cond_of h with ⟨h4, h⟩ | ⟨h4, h⟩
      · have h := some_of h
        subst h
        have t_ := tO (rfl : true = true) <| tO (rfl : true = true) <| tO (rfl : true = true) <| tT h1 <| tF h2 <| tR q_3 <| tT h4 <| tN
        exact runs_of (C := cfg) (objs := []) (sc := t_.ev) (.k0 t_.pf (by kernel_rfl))
      · rcases cond_of h with ⟨h5, h⟩ | ⟨h5, h⟩
        · have h := some_of h
          subst h
          have t_ := tO (rfl : true = true) <| tO (rfl : true = true) <| tO (rfl : true = true) <| tT h1 <| tF h2 <| tR q_3 <| tF h4 <| tT h5 <| tN
          exact runs_of (C := cfg) (objs := []) (sc := t_.ev) (.k0 t_.pf (by kernel_rfl))
        · have h := some_of h
          subst h
          have t_ := tO (rfl : true = true) <| tO (rfl : true = true) <| tO (rfl : true = true) <| tT h1 <| tF h2 <| tR q_3 <| tF h4 <| tF h5 <| tN
          exact runs_of (C := cfg) (objs := []) (sc := t_.ev) (.k0 t_.pf (by kernel_rfl))
  · have h := some_of h
    subst h
    have t_ := tO (rfl : true = true) <| tO (rfl : true = true) <| tO (rfl : true = true) <| tF h1 <| tT (rfl : true = true) <| tN
    exact runs_of (C := cfg) (objs := []) (sc := t_.ev) (.k0 t_.pf (by kernel_rfl))
/-! ### slices_reverseRangeOrdered_uint64_out -/
def slices_reverseRangeOrdered_uint64_out (data : Nat) (a : Int) (b : Int) (l : List Int) : List Int → Res
  | r1 => ([], [], [(.ints .u64 r1)])
/-! ### slices_reverseRangeOrdered_uint64_L0 -/
def slices_reverseRangeOrdered_uint64_L0_st (data : Nat) : Int × Int × List Int → St
  | (i, j, l) => ⟨[(0, (.av (.one (.own 0 0 data false)))), (6, (.av (.one (.pv (.int .i64 i))))), (7, (.av (.one (.pv (.int .i64 j)))))], [], [(0, (.live (.ints .u64 l)))]⟩
def slices_reverseRangeOrdered_uint64_L0_ex (data : Nat) : List Int → Ex × St
  | r1 => ((.exit 0), ⟨[], [], [(0, (.live (.ints .u64 r1)))]⟩)
noncomputable def slices_reverseRangeOrdered_uint64_L0_step (data : Nat) : Int × Int × List Int → Option ((Int × Int × List Int) ⊕ (List Int))
  | (i, j, l) =>
  bif (decide ((i : Int) < j)) then
    bif decide ((0 : Int) ≤ j) && decide ((j : Int) < (data : Int)) then
    bif decide ((0 : Int) ≤ i) && decide ((i : Int) < (data : Int)) then
    some (.inl ((iadd .i64 i 1), (isub .i64 j 1), ((l.set (0 + (i).toNat) (l.getD (0 + (j).toNat) 0)).set (0 + (j).toNat) (l.getD (0 + (i).toNat) 0))))
    else none
    else none
  else
    some (.inr l)
theorem slices_reverseRangeOrdered_uint64_L0_ok (data : Nat) (s_ : Int × Int × List Int) (z_ : (Int × Int × List Int) ⊕ (List Int)) (h : slices_reverseRangeOrdered_uint64_L0_step data s_ = some z_) : RoundOk Try.prog cfg 102 1000 (loopAt Try.prog 102 0) (slices_reverseRangeOrdered_uint64_L0_st data) (slices_reverseRangeOrdered_uint64_L0_ex data) s_ z_ := by
  rcases s_ with ⟨i, j, l⟩
  rcases cond_of h with ⟨h1, h⟩ | ⟨h1, h⟩
  · obtain ⟨h2, h⟩ := need_of h
    obtain ⟨h3, h⟩ := need_of h
    have h := some_of h
    subst h
    have t_ := tT h1 <| tO h2 <| tO h3 <| tO h3 <| tO h2 <| tN
    exact ⟨t_.ev, slices_reverseRangeOrdered_uint64_L0_st data ((iadd .i64 i 1), (isub .i64 j 1), ((l.set (0 + (i).toNat) (l.getD (0 + (j).toNat) 0)).set (0 + (j).toNat) (l.getD (0 + (i).toNat) 0))), .k1 t_.pf (by kernel_rfl) (by kernel_rfl), .same (by kernel_rfl)⟩
  · have h := some_of h
    subst h
    have t_ := tF h1 <| tN
    exact ⟨t_.ev, ⟨[(13, (.av (.one (.pv (.bool false))))), (0, (.av (.one (.own 0 0 data false)))), (6, (.av (.one (.pv (.int .i64 i))))), (7, (.av (.one (.pv (.int .i64 j))))), (13, (.av (.one (.pv (.bool (decide ((i : Int) < j)))))))], [], [(0, (.live (.ints .u64 l)))]⟩, .k0 t_.pf (by kernel_rfl), ⟨trivial, trivial, ⟨⟨rfl, .eq rfl⟩, trivial⟩⟩⟩
theorem slices_reverseRangeOrdered_uint64_L0_runs (data : Nat) (s_ : Int × Int × List Int) (r_ : List Int) (h : runL (slices_reverseRangeOrdered_uint64_L0_step data) s_ = some r_) : LRuns Try.prog (lEnv Try.prog cfg 102 1000).nt 1000 (.loop (loopAt Try.prog 102 0)) (slices_reverseRangeOrdered_uint64_L0_st data s_) (slices_reverseRangeOrdered_uint64_L0_ex data r_).1 (slices_reverseRangeOrdered_uint64_L0_ex data r_).2 :=
  loop_run h (slices_reverseRangeOrdered_uint64_L0_ok data) (by intro r_; rcases r_ with r1 <;> simp [slices_reverseRangeOrdered_uint64_L0_ex])
/-! ### slices_reverseRangeOrdered_uint64 -/
noncomputable def slices_reverseRangeOrdered_uint64 (data : Nat) (a : Int) (b : Int) (l : List Int) : Option (List Int) :=
  (runL (slices_reverseRangeOrdered_uint64_L0_step data) (a, (isub .i64 b 1), l)).bind fun l_ =>
  some l_
theorem slices_reverseRangeOrdered_uint64_runs (data : Nat) (a : Int) (b : Int) (l : List Int) (r_ : List Int) (h : slices_reverseRangeOrdered_uint64 data a b l = some r_) : RunsI Try.prog 102 [(.one (.own 0 0 data false)), (.one (.pv (.int .i64 a))), (.one (.pv (.int .i64 b)))] [] [(.ints .u64 l)] (slices_reverseRangeOrdered_uint64_out data a b l r_) := by
  unfold slices_reverseRangeOrdered_uint64 at h
  obtain ⟨l_, h1, h⟩ := bind_of h
  have h := some_of h
  subst h
  have t_ := tL (slices_reverseRangeOrdered_uint64_L0_runs data _ _ h1) <| tN
  exact runsI_of (C := cfg) (objs := []) (rows := [(.ints .u64 l)]) (sc := t_.ev) (.k0 t_.pf (by kernel_rfl))
/-! ### slices_partialInsertionSortOrdered_uint64_out -/
def slices_partialInsertionSortOrdered_uint64_out (data : Nat) (a : Int) (b : Int) (l : List Int) : Bool × List Int → Res
  | (r1, r2) => ([(.one (.pv (.bool r1)))], [], [(.ints .u64 r2)])
/-! ### slices_partialInsertionSortOrdered_uint64_L1_2 -/
def slices_partialInsertionSortOrdered_uint64_L1_2_st (data : Nat) (a : Int) (b : Int) (j : Int) (l : List Int) : Int → St
  | i => ⟨[(0, (.av (.one (.own 0 0 data false)))), (1, (.av (.one (.pv (.int .i64 a))))), (2, (.av (.one (.pv (.int .i64 b))))), (7, (.av (.one (.pv (.int .i64 i))))), (8, (.av (.one (.pv (.int .i64 j)))))], [], [(0, (.live (.ints .u64 l)))]⟩
def slices_partialInsertionSortOrdered_uint64_L1_2_ex (data : Nat) (a : Int) (b : Int) (j : Int) (l : List Int) : Int → Ex × St
  | r1 => ((.exit 2), ⟨[(0, (.av (.one (.own 0 0 data false)))), (1, (.av (.one (.pv (.int .i64 a))))), (2, (.av (.one (.pv (.int .i64 b))))), (7, (.av (.one (.pv (.int .i64 r1))))), (8, (.av (.one (.pv (.int .i64 j)))))], [], [(0, (.live (.ints .u64 l)))]⟩)
noncomputable def slices_partialInsertionSortOrdered_uint64_L1_2_step (data : Nat) (a : Int) (b : Int) (j : Int) (l : List Int) : Int → Option ((Int) ⊕ (Int))
  | i =>
  bif (decide ((i : Int) < b)) then
    bif decide ((0 : Int) ≤ i) && decide ((i : Int) < (data : Int)) then
    bif decide ((0 : Int) ≤ (isub .i64 i 1)) && decide (((isub .i64 i 1) : Int) < (data : Int)) then
    (cmp_Less_uint64 (l.getD (0 + (i).toNat) 0) (l.getD (0 + ((isub .i64 i 1)).toNat) 0)).bind fun b2 =>
    bif b2 then
      some (.inr i)
    else
      some (.inl (iadd .i64 i 1))
    else none
    else none
  else
    some (.inr i)
theorem slices_partialInsertionSortOrdered_uint64_L1_2_ok (data : Nat) (a : Int) (b : Int) (j : Int) (l : List Int) (i : Int) (z_ : (Int) ⊕ (Int)) (h : slices_partialInsertionSortOrdered_uint64_L1_2_step data a b j l i = some z_) : RoundOk Try.prog cfg 103 1000 (loopAt Try.prog 103 1) (slices_partialInsertionSortOrdered_uint64_L1_2_st data a b j l) (slices_partialInsertionSortOrdered_uint64_L1_2_ex data a b j l) i z_ := by
  rcases cond_of h with ⟨h1, h⟩ | ⟨h1, h⟩
  · obtain ⟨h2, h⟩ := need_of h
    obtain ⟨h3, h⟩ := need_of h
    obtain ⟨b2, h4, h⟩ := bind_of h
    have q_4 := (cmp_Less_uint64_runs (l.getD (0 + (i).toNat) 0) (l.getD (0 + ((isub .i64 i 1)).toNat) 0) _ h4)
    rcases cond_of h with ⟨h5, h⟩ | ⟨h5, h⟩
    · have h := some_of h
      subst h
      have t_ := tT h1 <| tO h2 <| tO h3 <| tR q_4 <| tF (not_of2 h5) <| tN
      exact ⟨t_.ev, ⟨[(32, (.av (.one (.pv (.bool false))))), (0, (.av (.one (.own 0 0 data false)))), (1, (.av (.one (.pv (.int .i64 a))))), (2, (.av (.one (.pv (.int .i64 b))))), (7, (.av (.one (.pv (.int .i64 i))))), (8, (.av (.one (.pv (.int .i64 j))))), (32, (.av (.one (.pv (.bool (!b2))))))], [], [(0, (.live (.ints .u64 l)))]⟩, .k1 t_.pf (by kernel_rfl) (by kernel_rfl), ⟨⟨⟨_, rfl, .eq rfl⟩, ⟨_, rfl, .eq rfl⟩, ⟨_, rfl, .eq rfl⟩, ⟨_, rfl, .eq rfl⟩, ⟨_, rfl, .eq rfl⟩, trivial⟩, trivial, ⟨⟨rfl, .eq rfl⟩, trivial⟩⟩⟩
    · have h := some_of h
      subst h
      have t_ := tT h1 <| tO h2 <| tO h3 <| tR q_4 <| tT (not_of h5) <| tN
      exact ⟨t_.ev, slices_partialInsertionSortOrdered_uint64_L1_2_st data a b j l (iadd .i64 i 1), .k1 t_.pf (by kernel_rfl) (by kernel_rfl), .same (by kernel_rfl)⟩
  · have h := some_of h
    subst h
    have t_ := tF h1 <| tF (rfl : false = false) <| tN
    exact ⟨t_.ev, ⟨[(32, (.av (.one (.pv (.bool false))))), (0, (.av (.one (.own 0 0 data false)))), (1, (.av (.one (.pv (.int .i64 a))))), (2, (.av (.one (.pv (.int .i64 b))))), (7, (.av (.one (.pv (.int .i64 i))))), (8, (.av (.one (.pv (.int .i64 j))))), (32, (.av (.one (.pv (.bool false)))))], [], [(0, (.live (.ints .u64 l)))]⟩, .k1 t_.pf (by kernel_rfl) (by kernel_rfl), ⟨⟨⟨_, rfl, .eq rfl⟩, ⟨_, rfl, .eq rfl⟩, ⟨_, rfl, .eq rfl⟩, ⟨_, rfl, .eq rfl⟩, ⟨_, rfl, .eq rfl⟩, trivial⟩, trivial, ⟨⟨rfl, .eq rfl⟩, trivial⟩⟩⟩
theorem slices_partialInsertionSortOrdered_uint64_L1_2_runs (data : Nat) (a : Int) (b : Int) (j : Int) (l : List Int) (s_ : Int) (r_ : Int) (h : runL (slices_partialInsertionSortOrdered_uint64_L1_2_step data a b j l) s_ = some r_) : LRuns Try.prog (lEnv Try.prog cfg 103 1000).nt 1000 (.loop (loopAt Try.prog 103 1)) (slices_partialInsertionSortOrdered_uint64_L1_2_st data a b j l s_) (slices_partialInsertionSortOrdered_uint64_L1_2_ex data a b j l r_).1 (slices_partialInsertionSortOrdered_uint64_L1_2_ex data a b j l r_).2 :=
  loop_run h (slices_partialInsertionSortOrdered_uint64_L1_2_ok data a b j l) (by intro r_; rcases r_ with r1 <;> simp [slices_partialInsertionSortOrdered_uint64_L1_2_ex])
/-! ### slices_partialInsertionSortOrdered_uint64_L2_2 -/
def slices_partialInsertionSortOrdered_uint64_L2_2_st (data : Nat) (a : Int) (b : Int) (i : Int) (j : Int) : Int × List Int → St
  | (j2, l) => ⟨[(0, (.av (.one (.own 0 0 data false)))), (1, (.av (.one (.pv (.int .i64 a))))), (2, (.av (.one (.pv (.int .i64 b))))), (7, (.av (.one (.pv (.int .i64 i))))), (8, (.av (.one (.pv (.int .i64 j))))), (9, (.av (.one (.pv (.int .i64 j2)))))], [], [(0, (.live (.ints .u64 l)))]⟩
def slices_partialInsertionSortOrdered_uint64_L2_2_ex (data : Nat) (a : Int) (b : Int) (i : Int) (j : Int) : List Int → Ex × St
  | r1 => ((.exit 4), ⟨[(0, (.av (.one (.own 0 0 data false)))), (1, (.av (.one (.pv (.int .i64 a))))), (2, (.av (.one (.pv (.int .i64 b))))), (7, (.av (.one (.pv (.int .i64 i))))), (8, (.av (.one (.pv (.int .i64 j)))))], [], [(0, (.live (.ints .u64 r1)))]⟩)
noncomputable def slices_partialInsertionSortOrdered_uint64_L2_2_step (data : Nat) (a : Int) (b : Int) (i : Int) (j : Int) : Int × List Int → Option ((Int × List Int) ⊕ (List Int))
  | (j2, l) =>
  bif (decide ((1 : Int) ≤ j2)) then
    bif decide ((0 : Int) ≤ j2) && decide ((j2 : Int) < (data : Int)) then
    bif decide ((0 : Int) ≤ (isub .i64 j2 1)) && decide (((isub .i64 j2 1) : Int) < (data : Int)) then
    (cmp_Less_uint64 (l.getD (0 + (j2).toNat) 0) (l.getD (0 + ((isub .i64 j2 1)).toNat) 0)).bind fun b2 =>
    bif b2 then
      some (.inl ((isub .i64 j2 1), ((l.set (0 + (j2).toNat) (l.getD (0 + ((isub .i64 j2 1)).toNat) 0)).set (0 + ((isub .i64 j2 1)).toNat) (l.getD (0 + (j2).toNat) 0))))
    else
      some (.inr l)
    else none
    else none
  else
    some (.inr l)
theorem slices_partialInsertionSortOrdered_uint64_L2_2_ok (data : Nat) (a : Int) (b : Int) (i : Int) (j : Int) (s_ : Int × List Int) (z_ : (Int × List Int) ⊕ (List Int)) (h : slices_partialInsertionSortOrdered_uint64_L2_2_step data a b i j s_ = some z_) : RoundOk Try.prog cfg 103 1000 (loopAt Try.prog 103 2) (slices_partialInsertionSortOrdered_uint64_L2_2_st data a b i j) (slices_partialInsertionSortOrdered_uint64_L2_2_ex data a b i j) s_ z_ := by
  rcases s_ with ⟨j2, l⟩
  rcases cond_of h with ⟨h1, h⟩ | ⟨h1, h⟩
  · obtain ⟨h2, h⟩ := need_of h
    obtain ⟨h3, h⟩ := need_of h
    obtain ⟨b2, h4, h⟩ := bind_of h
    have q_4 := (cmp_Less_uint64_runs (l.getD (0 + (j2).toNat) 0) (l.getD (0 + ((isub .i64 j2 1)).toNat) 0) _ h4)
    rcases cond_of h with ⟨h5, h⟩ | ⟨h5, h⟩
    · have h := some_of h
      subst h
      have t_ := tT h1 <| tO h2 <| tO h3 <| tR q_4 <| tF (not_of2 h5) <| tO h3 <| tO h2 <| tO h2 <| tO h3 <| tN
      exact ⟨t_.ev, slices_partialInsertionSortOrdered_uint64_L2_2_st data a b i j ((isub .i64 j2 1), ((l.set (0 + (j2).toNat) (l.getD (0 + ((isub .i64 j2 1)).toNat) 0)).set (0 + ((isub .i64 j2 1)).toNat) (l.getD (0 + (j2).toNat) 0))), .k1 t_.pf (by kernel_rfl) (by kernel_rfl), .same (by kernel_rfl)⟩
    · have h := some_of h
      subst h
      have t_ := tT h1 <| tO h2 <| tO h3 <| tR q_4 <| tT (not_of h5) <| tN
      exact ⟨t_.ev, ⟨[(78, (.av (.one (.pv (.bool true))))), (0, (.av (.one (.own 0 0 data false)))), (1, (.av (.one (.pv (.int .i64 a))))), (2, (.av (.one (.pv (.int .i64 b))))), (7, (.av (.one (.pv (.int .i64 i))))), (8, (.av (.one (.pv (.int .i64 j))))), (9, (.av (.one (.pv (.int .i64 j2))))), (78, (.av (.one (.pv (.bool (!b2))))))], [], [(0, (.live (.ints .u64 l)))]⟩, .k1 t_.pf (by kernel_rfl) (by kernel_rfl), ⟨⟨⟨_, rfl, .eq rfl⟩, ⟨_, rfl, .eq rfl⟩, ⟨_, rfl, .eq rfl⟩, ⟨_, rfl, .eq rfl⟩, ⟨_, rfl, .eq rfl⟩, trivial⟩, trivial, ⟨⟨rfl, .eq rfl⟩, trivial⟩⟩⟩
  · have h := some_of h
    subst h
    have t_ := tF h1 <| tN
    exact ⟨t_.ev, ⟨[(65, (.av (.one (.pv (.bool false))))), (0, (.av (.one (.own 0 0 data false)))), (1, (.av (.one (.pv (.int .i64 a))))), (2, (.av (.one (.pv (.int .i64 b))))), (7, (.av (.one (.pv (.int .i64 i))))), (8, (.av (.one (.pv (.int .i64 j))))), (9, (.av (.one (.pv (.int .i64 j2))))), (65, (.av (.one (.pv (.bool (decide ((1 : Int) ≤ j2)))))))], [], [(0, (.live (.ints .u64 l)))]⟩, .k0 t_.pf (by kernel_rfl), ⟨⟨⟨_, rfl, .eq rfl⟩, ⟨_, rfl, .eq rfl⟩, ⟨_, rfl, .eq rfl⟩, ⟨_, rfl, .eq rfl⟩, ⟨_, rfl, .eq rfl⟩, trivial⟩, trivial, ⟨⟨rfl, .eq rfl⟩, trivial⟩⟩⟩
theorem slices_partialInsertionSortOrdered_uint64_L2_2_runs (data : Nat) (a : Int) (b : Int) (i : Int) (j : Int) (s_ : Int × List Int) (r_ : List Int) (h : runL (slices_partialInsertionSortOrdered_uint64_L2_2_step data a b i j) s_ = some r_) : LRuns Try.prog (lEnv Try.prog cfg 103 1000).nt 1000 (.loop (loopAt Try.prog 103 2)) (slices_partialInsertionSortOrdered_uint64_L2_2_st data a b i j s_) (slices_partialInsertionSortOrdered_uint64_L2_2_ex data a b i j r_).1 (slices_partialInsertionSortOrdered_uint64_L2_2_ex data a b i j r_).2 :=
  loop_run h (slices_partialInsertionSortOrdered_uint64_L2_2_ok data a b i j) (by intro r_; rcases r_ with r1 <;> simp [slices_partialInsertionSortOrdered_uint64_L2_2_ex])
/-! ### slices_partialInsertionSortOrdered_uint64_L3_2 -/
def slices_partialInsertionSortOrdered_uint64_L3_2_st (data : Nat) (a : Int) (b : Int) (i : Int) (j : Int) : Int × List Int → St
  | (j2, l) => ⟨[(0, (.av (.one (.own 0 0 data false)))), (1, (.av (.one (.pv (.int .i64 a))))), (2, (.av (.one (.pv (.int .i64 b))))), (7, (.av (.one (.pv (.int .i64 i))))), (8, (.av (.one (.pv (.int .i64 j))))), (10, (.av (.one (.pv (.int .i64 j2)))))], [], [(0, (.live (.ints .u64 l)))]⟩
def slices_partialInsertionSortOrdered_uint64_L3_2_ex (data : Nat) (a : Int) (b : Int) (i : Int) (j : Int) : List Int → Ex × St
  | r1 => ((.exit 6), ⟨[(0, (.av (.one (.own 0 0 data false)))), (1, (.av (.one (.pv (.int .i64 a))))), (2, (.av (.one (.pv (.int .i64 b))))), (7, (.av (.one (.pv (.int .i64 i))))), (8, (.av (.one (.pv (.int .i64 j)))))], [], [(0, (.live (.ints .u64 r1)))]⟩)
noncomputable def slices_partialInsertionSortOrdered_uint64_L3_2_step (data : Nat) (a : Int) (b : Int) (i : Int) (j : Int) : Int × List Int → Option ((Int × List Int) ⊕ (List Int))
  | (j2, l) =>
  bif (decide ((j2 : Int) < b)) then
    bif decide ((0 : Int) ≤ j2) && decide ((j2 : Int) < (data : Int)) then
    bif decide ((0 : Int) ≤ (isub .i64 j2 1)) && decide (((isub .i64 j2 1) : Int) < (data : Int)) then
    (cmp_Less_uint64 (l.getD (0 + (j2).toNat) 0) (l.getD (0 + ((isub .i64 j2 1)).toNat) 0)).bind fun b2 =>
    bif b2 then
      some (.inl ((iadd .i64 j2 1), ((l.set (0 + (j2).toNat) (l.getD (0 + ((isub .i64 j2 1)).toNat) 0)).set (0 + ((isub .i64 j2 1)).toNat) (l.getD (0 + (j2).toNat) 0))))
    else
      some (.inr l)
    else none
    else none
  else
    some (.inr l)
theorem slices_partialInsertionSortOrdered_uint64_L3_2_ok (data : Nat) (a : Int) (b : Int) (i : Int) (j : Int) (s_ : Int × List Int) (z_ : (Int × List Int) ⊕ (List Int)) (h : slices_partialInsertionSortOrdered_uint64_L3_2_step data a b i j s_ = some z_) : RoundOk Try.prog cfg 103 1000 (loopAt Try.prog 103 3) (slices_partialInsertionSortOrdered_uint64_L3_2_st data a b i j) (slices_partialInsertionSortOrdered_uint64_L3_2_ex data a b i j) s_ z_ := by
  rcases s_ with ⟨j2, l⟩
  rcases cond_of h with ⟨h1, h⟩ | ⟨h1, h⟩
  · obtain ⟨h2, h⟩ := need_of h
    obtain ⟨h3, h⟩ := need_of h
    obtain ⟨b2, h4, h⟩ := bind_of h
    have q_4 := (cmp_Less_uint64_runs (l.getD (0 + (j2).toNat) 0) (l.getD (0 + ((isub .i64 j2 1)).toNat) 0) _ h4)
    rcases cond_of h with ⟨h5, h⟩ | ⟨h5, h⟩
    · have h := some_of h
      subst h
      have t_ := tT h1 <| tO h2 <| tO h3 <| tR q_4 <| tF (not_of2 h5) <| tO h3 <| tO h2 <| tO h2 <| tO h3 <| tN
      exact ⟨t_.ev, slices_partialInsertionSortOrdered_uint64_L3_2_st data a b i j ((iadd .i64 j2 1), ((l.set (0 + (j2).toNat) (l.getD (0 + ((isub .i64 j2 1)).toNat) 0)).set (0 + ((isub .i64 j2 1)).toNat) (l.getD (0 + (j2).toNat) 0))), .k1 t_.pf (by kernel_rfl) (by kernel_rfl), .same (by kernel_rfl)⟩
    · have h := some_of h
      subst h
      have t_ := tT h1 <| tO h2 <| tO h3 <| tR q_4 <| tT (not_of h5) <| tN
      exact ⟨t_.ev, ⟨[(116, (.av (.one (.pv (.bool true))))), (0, (.av (.one (.own 0 0 data false)))), (1, (.av (.one (.pv (.int .i64 a))))), (2, (.av (.one (.pv (.int .i64 b))))), (7, (.av (.one (.pv (.int .i64 i))))), (8, (.av (.one (.pv (.int .i64 j))))), (10, (.av (.one (.pv (.int .i64 j2))))), (116, (.av (.one (.pv (.bool (!b2))))))], [], [(0, (.live (.ints .u64 l)))]⟩, .k1 t_.pf (by kernel_rfl) (by kernel_rfl), ⟨⟨⟨_, rfl, .eq rfl⟩, ⟨_, rfl, .eq rfl⟩, ⟨_, rfl, .eq rfl⟩, ⟨_, rfl, .eq rfl⟩, ⟨_, rfl, .eq rfl⟩, trivial⟩, trivial, ⟨⟨rfl, .eq rfl⟩, trivial⟩⟩⟩
  · have h := some_of h
    subst h
    have t_ := tF h1 <| tN
    exact ⟨t_.ev, ⟨[(103, (.av (.one (.pv (.bool false))))), (0, (.av (.one (.own 0 0 data false)))), (1, (.av (.one (.pv (.int .i64 a))))), (2, (.av (.one (.pv (.int .i64 b))))), (7, (.av (.one (.pv (.int .i64 i))))), (8, (.av (.one (.pv (.int .i64 j))))), (10, (.av (.one (.pv (.int .i64 j2))))), (103, (.av (.one (.pv (.bool (decide ((j2 : Int) < b)))))))], [], [(0, (.live (.ints .u64 l)))]⟩, .k0 t_.pf (by kernel_rfl), ⟨⟨⟨_, rfl, .eq rfl⟩, ⟨_, rfl, .eq rfl⟩, ⟨_, rfl, .eq rfl⟩, ⟨_, rfl, .eq rfl⟩, ⟨_, rfl, .eq rfl⟩, trivial⟩, trivial, ⟨⟨rfl, .eq rfl⟩, trivial⟩⟩⟩
theorem slices_partialInsertionSortOrdered_uint64_L3_2_runs (data : Nat) (a : Int) (b : Int) (i : Int) (j : Int) (s_ : Int × List Int) (r_ : List Int) (h : runL (slices_partialInsertionSortOrdered_uint64_L3_2_step data a b i j) s_ = some r_) : LRuns Try.prog (lEnv Try.prog cfg 103 1000).nt 1000 (.loop (loopAt Try.prog 103 3)) (slices_partialInsertionSortOrdered_uint64_L3_2_st data a b i j s_) (slices_partialInsertionSortOrdered_uint64_L3_2_ex data a b i j r_).1 (slices_partialInsertionSortOrdered_uint64_L3_2_ex data a b i j r_).2 :=
  loop_run h (slices_partialInsertionSortOrdered_uint64_L3_2_ok data a b i j) (by intro r_; rcases r_ with r1 <;> simp [slices_partialInsertionSortOrdered_uint64_L3_2_ex])
/-! ### slices_partialInsertionSortOrdered_uint64_L0 -/
def slices_partialInsertionSortOrdered_uint64_L0_st (data : Nat) (a : Int) (b : Int) : Int × Int × List Int → St
  | (i, j, l) => ⟨[(0, (.av (.one (.own 0 0 data false)))), (1, (.av (.one (.pv (.int .i64 a))))), (2, (.av (.one (.pv (.int .i64 b))))), (7, (.av (.one (.pv (.int .i64 i))))), (8, (.av (.one (.pv (.int .i64 j)))))], [], [(0, (.live (.ints .u64 l)))]⟩
def slices_partialInsertionSortOrdered_uint64_L0_ex (data : Nat) (a : Int) (b : Int) : (Bool × List Int) ⊕ (List Int) → Ex × St
  | .inl (r1, r2) => (.ret, ⟨[(6, (.av (.one (.pv (.bool r1)))))], [], [(0, (.live (.ints .u64 r2)))]⟩)
  | .inr r1 => ((.exit 0), ⟨[], [], [(0, (.live (.ints .u64 r1)))]⟩)
noncomputable def slices_partialInsertionSortOrdered_uint64_L0_step (data : Nat) (a : Int) (b : Int) : Int × Int × List Int → Option ((Int × Int × List Int) ⊕ ((Bool × List Int) ⊕ (List Int)))
  | (i, j, l) =>
  bif (decide ((j : Int) < 5)) then
    (runL (slices_partialInsertionSortOrdered_uint64_L1_2_step data a b j l) i).bind fun n =>
    bif (decide ((n : Int) = b)) then
      some (.inr (.inl (true, l)))
    else
      bif (decide (((isub .i64 b a) : Int) < 50)) then
        some (.inr (.inl (false, l)))
      else
        bif decide ((0 : Int) ≤ (isub .i64 n 1)) && decide (((isub .i64 n 1) : Int) < (data : Int)) then
        bif decide ((0 : Int) ≤ n) && decide ((n : Int) < (data : Int)) then
        bif (decide ((2 : Int) ≤ (isub .i64 n a))) then
          (runL (slices_partialInsertionSortOrdered_uint64_L2_2_step data a b n j) ((isub .i64 n 1), ((l.set (0 + (n).toNat) (l.getD (0 + ((isub .i64 n 1)).toNat) 0)).set (0 + ((isub .i64 n 1)).toNat) (l.getD (0 + (n).toNat) 0)))).bind fun l_ =>
          bif (decide ((2 : Int) ≤ (isub .i64 b n))) then
            (runL (slices_partialInsertionSortOrdered_uint64_L3_2_step data a b n j) ((iadd .i64 n 1), l_)).bind fun l_2 =>
            some (.inl (n, (iadd .i64 j 1), l_2))
          else
            some (.inl (n, (iadd .i64 j 1), l_))
        else
          bif (decide ((2 : Int) ≤ (isub .i64 b n))) then
            (runL (slices_partialInsertionSortOrdered_uint64_L3_2_step data a b n j) ((iadd .i64 n 1), ((l.set (0 + (n).toNat) (l.getD (0 + ((isub .i64 n 1)).toNat) 0)).set (0 + ((isub .i64 n 1)).toNat) (l.getD (0 + (n).toNat) 0)))).bind fun l_ =>
            some (.inl (n, (iadd .i64 j 1), l_))
          else
            some (.inl (n, (iadd .i64 j 1), ((l.set (0 + (n).toNat) (l.getD (0 + ((isub .i64 n 1)).toNat) 0)).set (0 + ((isub .i64 n 1)).toNat) (l.getD (0 + (n).toNat) 0))))
        else none
        else none
  else
    some (.inr (.inr l))
theorem slices_partialInsertionSortOrdered_uint64_L0_ok (data : Nat) (a : Int) (b : Int) (s_ : Int × Int × List Int) (z_ : (Int × Int × List Int) ⊕ ((Bool × List Int) ⊕ (List Int))) (h : slices_partialInsertionSortOrdered_uint64_L0_step data a b s_ = some z_) : RoundOk Try.prog cfg 103 1000 (loopAt Try.prog 103 0) (slices_partialInsertionSortOrdered_uint64_L0_st data a b) (slices_partialInsertionSortOrdered_uint64_L0_ex data a b) s_ z_ := by
  rcases s_ with ⟨i, j, l⟩
  rcases cond_of h with ⟨h1, h⟩ | ⟨h1, h⟩
  · obtain ⟨n, h2, h⟩ := bind_of h
    have q_2 := (slices_partialInsertionSortOrdered_uint64_L1_2_runs data a b j l _ _ h2)
    rcases cond_of h with ⟨h3, h⟩ | ⟨h3, h⟩
    · have h := some_of h
      subst h
      have t_ := tT h1 <| tL q_2 <| tT h3 <| tN
      exact ⟨t_.ev, (slices_partialInsertionSortOrdered_uint64_L0_ex data a b (.inl (true, l))).2, .k0 t_.pf (by kernel_rfl), .same (by kernel_rfl)⟩
    · rcases cond_of h with ⟨h4, h⟩ | ⟨h4, h⟩
      · have h := some_of h
        subst h
        have t_ := tT h1 <| tL q_2 <| tF h3 <| tT h4 <| tN
        exact ⟨t_.ev, (slices_partialInsertionSortOrdered_uint64_L0_ex data a b (.inl (false, l))).2, .k0 t_.pf (by kernel_rfl), .same (by kernel_rfl)⟩
      · obtain ⟨h5, h⟩ := need_of h
        obtain ⟨h6, h⟩ := need_of h
        rcases cond_of h with ⟨h7, h⟩ | ⟨h7, h⟩
        · obtain ⟨l_, h8, h⟩ := bind_of h
          have q_8 := (slices_partialInsertionSortOrdered_uint64_L2_2_runs data a b n j _ _ h8)
          rcases cond_of h with ⟨h9, h⟩ | ⟨h9, h⟩
          · obtain ⟨l_2, h10, h⟩ := bind_of h
            have h := some_of h
            subst h
            have t_ := tT h1 <| tL q_2 <| tF h3 <| tF h4 <| tO h5 <| tO h6 <| tO h6 <| tO h5 <| tT h7 <| tL q_8 <| tT h9 <| tL (slices_partialInsertionSortOrdered_uint64_L3_2_runs data a b n j _ _ h10) <| tN
            exact ⟨t_.ev, slices_partialInsertionSortOrdered_uint64_L0_st data a b (n, (iadd .i64 j 1), l_2), .k1 t_.pf (by kernel_rfl) (by kernel_rfl), .same (by kernel_rfl)⟩
          · have h := some_of h
            subst h
            have t_ := tT h1 <| tL q_2 <| tF h3 <| tF h4 <| tO h5 <| tO h6 <| tO h6 <| tO h5 <| tT h7 <| tL q_8 <| tF h9 <| tN
            exact ⟨t_.ev, slices_partialInsertionSortOrdered_uint64_L0_st data a b (n, (iadd .i64 j 1), l_), .k1 t_.pf (by kernel_rfl) (by kernel_rfl), .same (by kernel_rfl)⟩
        · rcases cond_of h with ⟨h8, h⟩ | ⟨h8, h⟩
          · obtain ⟨l_, h9, h⟩ := bind_of h
            have h := some_of h
            subst h
            have t_ := tT h1 <| tL q_2 <| tF h3 <| tF h4 <| tO h5 <| tO h6 <| tO h6 <| tO h5 <| tF h7 <| tT h8 <| tL (slices_partialInsertionSortOrdered_uint64_L3_2_runs data a b n j _ _ h9) <| tN
            exact ⟨t_.ev, slices_partialInsertionSortOrdered_uint64_L0_st data a b (n, (iadd .i64 j 1), l_), .k1 t_.pf (by kernel_rfl) (by kernel_rfl), .same (by kernel_rfl)⟩
          · have h := some_of h
            subst h
            have t_ := tT h1 <| tL q_2 <| tF h3 <| tF h4 <| tO h5 <| tO h6 <| tO h6 <| tO h5 <| tF h7 <| tF h8 <| tN
            exact ⟨t_.ev, slices_partialInsertionSortOrdered_uint64_L0_st data a b (n, (iadd .i64 j 1), ((l.set (0 + (n).toNat) (l.getD (0 + ((isub .i64 n 1)).toNat) 0)).set (0 + ((isub .i64 n 1)).toNat) (l.getD (0 + (n).toNat) 0))), .k1 t_.pf (by kernel_rfl) (by kernel_rfl), .same (by kernel_rfl)⟩
  · have h := some_of h
    subst h
    have t_ := tF h1 <| tN
    exact ⟨t_.ev, ⟨[(14, (.av (.one (.pv (.bool false))))), (0, (.av (.one (.own 0 0 data false)))), (1, (.av (.one (.pv (.int .i64 a))))), (2, (.av (.one (.pv (.int .i64 b))))), (7, (.av (.one (.pv (.int .i64 i))))), (8, (.av (.one (.pv (.int .i64 j))))), (14, (.av (.one (.pv (.bool (decide ((j : Int) < 5)))))))], [], [(0, (.live (.ints .u64 l)))]⟩, .k0 t_.pf (by kernel_rfl), ⟨trivial, trivial, ⟨⟨rfl, .eq rfl⟩, trivial⟩⟩⟩
theorem slices_partialInsertionSortOrdered_uint64_L0_runs (data : Nat) (a : Int) (b : Int) (s_ : Int × Int × List Int) (r_ : (Bool × List Int) ⊕ (List Int)) (h : runL (slices_partialInsertionSortOrdered_uint64_L0_step data a b) s_ = some r_) : LRuns Try.prog (lEnv Try.prog cfg 103 1000).nt 1000 (.loop (loopAt Try.prog 103 0)) (slices_partialInsertionSortOrdered_uint64_L0_st data a b s_) (slices_partialInsertionSortOrdered_uint64_L0_ex data a b r_).1 (slices_partialInsertionSortOrdered_uint64_L0_ex data a b r_).2 :=
  loop_run h (slices_partialInsertionSortOrdered_uint64_L0_ok data a b) (by intro r_; rcases r_ with ⟨r1, r2⟩ | r1 <;> simp [slices_partialInsertionSortOrdered_uint64_L0_ex])
/-! ### slices_partialInsertionSortOrdered_uint64 -/
noncomputable def slices_partialInsertionSortOrdered_uint64 (data : Nat) (a : Int) (b : Int) (l : List Int) : Option (Bool × List Int) :=
  (runL (slices_partialInsertionSortOrdered_uint64_L0_step data a b) ((iadd .i64 a 1), 0, l)).bind fun z_ => match z_ with
  | .inl (b2, l_) =>
    some (b2, l_)
  | .inr l_ =>
    some (false, l_)
theorem slices_partialInsertionSortOrdered_uint64_runs (data : Nat) (a : Int) (b : Int) (l : List Int) (r_ : Bool × List Int) (h : slices_partialInsertionSortOrdered_uint64 data a b l = some r_) : RunsI Try.prog 103 [(.one (.own 0 0 data false)), (.one (.pv (.int .i64 a))), (.one (.pv (.int .i64 b)))] [] [(.ints .u64 l)] (slices_partialInsertionSortOrdered_uint64_out data a b l r_) := by
  unfold slices_partialInsertionSortOrdered_uint64 at h
  obtain ⟨z_, h1, h⟩ := bind_of h
  rcases z_ with ⟨b2, l_⟩ | l_
  · have h := some_of h
    subst h
    have t_ := tL (slices_partialInsertionSortOrdered_uint64_L0_runs data a b _ _ h1) <| tN
    exact runsI_of (C := cfg) (objs := []) (rows := [(.ints .u64 l)]) (sc := t_.ev) (.k0 t_.pf (by kernel_rfl))
  · have h := some_of h
    subst h
    have t_ := tL (slices_partialInsertionSortOrdered_uint64_L0_runs data a b _ _ h1) <| tN
    exact runsI_of (C := cfg) (objs := []) (rows := [(.ints .u64 l)]) (sc := t_.ev) (.k0 t_.pf (by kernel_rfl))
/-! ### slices_partitionOrdered_uint64_out -/
def slices_partitionOrdered_uint64_out (data : Nat) (a : Int) (b : Int) (pivot : Int) (l : List Int) : Int × Bool × List Int → Res
  | (r1, r2, r3) => ([(.one (.pv (.int .i64 r1))), (.one (.pv (.bool r2)))], [], [(.ints .u64 r3)])
/-! ### slices_partitionOrdered_uint64_L0 -/
def slices_partitionOrdered_uint64_L0_st (data : Nat) (a : Int) (j : Int) (l : List Int) : Int → St
  | i => ⟨[(0, (.av (.one (.own 0 0 data false)))), (1, (.av (.one (.pv (.int .i64 a))))), (10, (.av (.one (.pv (.int .i64 i))))), (11, (.av (.one (.pv (.int .i64 j)))))], [], [(0, (.live (.ints .u64 l)))]⟩
def slices_partitionOrdered_uint64_L0_ex (data : Nat) (a : Int) (j : Int) (l : List Int) : Int → Ex × St
  | r1 => ((.exit 0), ⟨[(0, (.av (.one (.own 0 0 data false)))), (1, (.av (.one (.pv (.int .i64 a))))), (10, (.av (.one (.pv (.int .i64 r1))))), (11, (.av (.one (.pv (.int .i64 j)))))], [], [(0, (.live (.ints .u64 l)))]⟩)
noncomputable def slices_partitionOrdered_uint64_L0_step (data : Nat) (a : Int) (j : Int) (l : List Int) : Int → Option ((Int) ⊕ (Int))
  | i =>
  bif (decide ((i : Int) ≤ j)) then
    bif decide ((0 : Int) ≤ i) && decide ((i : Int) < (data : Int)) then
    bif decide ((0 : Int) ≤ a) && decide ((a : Int) < (data : Int)) then
    (cmp_Less_uint64 (l.getD (0 + (i).toNat) 0) (l.getD (0 + (a).toNat) 0)).bind fun b =>
    bif b then
      some (.inl (iadd .i64 i 1))
    else
      some (.inr i)
    else none
    else none
  else
    some (.inr i)
theorem slices_partitionOrdered_uint64_L0_ok (data : Nat) (a : Int) (j : Int) (l : List Int) (i : Int) (z_ : (Int) ⊕ (Int)) (h : slices_partitionOrdered_uint64_L0_step data a j l i = some z_) : RoundOk Try.prog cfg 106 1000 (loopAt Try.prog 106 0) (slices_partitionOrdered_uint64_L0_st data a j l) (slices_partitionOrdered_uint64_L0_ex data a j l) i z_ := by
  rcases cond_of h with ⟨h1, h⟩ | ⟨h1, h⟩
  · obtain ⟨h2, h⟩ := need_of h
    obtain ⟨h3, h⟩ := need_of h
    obtain ⟨b, h4, h⟩ := bind_of h
    have q_4 := (cmp_Less_uint64_runs (l.getD (0 + (i).toNat) 0) (l.getD (0 + (a).toNat) 0) _ h4)
    rcases cond_of h with ⟨h5, h⟩ | ⟨h5, h⟩
    · have h := some_of h
      subst h
      have t_ := tT h1 <| tO h2 <| tO h3 <| tR q_4 <| tT h5 <| tN
      exact ⟨t_.ev, slices_partitionOrdered_uint64_L0_st data a j l (iadd .i64 i 1), .k1 t_.pf (by kernel_rfl) (by kernel_rfl), .same (by kernel_rfl)⟩
    · have h := some_of h
      subst h
      have t_ := tT h1 <| tO h2 <| tO h3 <| tR q_4 <| tF h5 <| tN
      exact ⟨t_.ev, ⟨[(43, (.av (.one (.pv (.bool false))))), (0, (.av (.one (.own 0 0 data false)))), (1, (.av (.one (.pv (.int .i64 a))))), (10, (.av (.one (.pv (.int .i64 i))))), (11, (.av (.one (.pv (.int .i64 j))))), (43, (.av (.one (.pv (.bool b)))))], [], [(0, (.live (.ints .u64 l)))]⟩, .k1 t_.pf (by kernel_rfl) (by kernel_rfl), ⟨⟨⟨_, rfl, .eq rfl⟩, ⟨_, rfl, .eq rfl⟩, ⟨_, rfl, .eq rfl⟩, ⟨_, rfl, .eq rfl⟩, trivial⟩, trivial, ⟨⟨rfl, .eq rfl⟩, trivial⟩⟩⟩
  · have h := some_of h
    subst h
    have t_ := tF h1 <| tF (rfl : false = false) <| tN
    exact ⟨t_.ev, ⟨[(43, (.av (.one (.pv (.bool false))))), (0, (.av (.one (.own 0 0 data false)))), (1, (.av (.one (.pv (.int .i64 a))))), (10, (.av (.one (.pv (.int .i64 i))))), (11, (.av (.one (.pv (.int .i64 j))))), (43, (.av (.one (.pv (.bool false)))))], [], [(0, (.live (.ints .u64 l)))]⟩, .k1 t_.pf (by kernel_rfl) (by kernel_rfl), ⟨⟨⟨_, rfl, .eq rfl⟩, ⟨_, rfl, .eq rfl⟩, ⟨_, rfl, .eq rfl⟩, ⟨_, rfl, .eq rfl⟩, trivial⟩, trivial, ⟨⟨rfl, .eq rfl⟩, trivial⟩⟩⟩
theorem slices_partitionOrdered_uint64_L0_runs (data : Nat) (a : Int) (j : Int) (l : List Int) (s_ : Int) (r_ : Int) (h : runL (slices_partitionOrdered_uint64_L0_step data a j l) s_ = some r_) : LRuns Try.prog (lEnv Try.prog cfg 106 1000).nt 1000 (.loop (loopAt Try.prog 106 0)) (slices_partitionOrdered_uint64_L0_st data a j l s_) (slices_partitionOrdered_uint64_L0_ex data a j l r_).1 (slices_partitionOrdered_uint64_L0_ex data a j l r_).2 :=
  loop_run h (slices_partitionOrdered_uint64_L0_ok data a j l) (by intro r_; rcases r_ with r1 <;> simp [slices_partitionOrdered_uint64_L0_ex])
/-! ### slices_partitionOrdered_uint64_L1 -/
def slices_partitionOrdered_uint64_L1_st (data : Nat) (a : Int) (i : Int) (l : List Int) : Int → St
  | j => ⟨[(0, (.av (.one (.own 0 0 data false)))), (1, (.av (.one (.pv (.int .i64 a))))), (10, (.av (.one (.pv (.int .i64 i))))), (11, (.av (.one (.pv (.int .i64 j)))))], [], [(0, (.live (.ints .u64 l)))]⟩
def slices_partitionOrdered_uint64_L1_ex (data : Nat) (a : Int) (i : Int) (l : List Int) : Int → Ex × St
  | r1 => ((.exit 2), ⟨[(0, (.av (.one (.own 0 0 data false)))), (1, (.av (.one (.pv (.int .i64 a))))), (10, (.av (.one (.pv (.int .i64 i))))), (11, (.av (.one (.pv (.int .i64 r1)))))], [], [(0, (.live (.ints .u64 l)))]⟩)
noncomputable def slices_partitionOrdered_uint64_L1_step (data : Nat) (a : Int) (i : Int) (l : List Int) : Int → Option ((Int) ⊕ (Int))
  | j =>
  bif (decide ((i : Int) ≤ j)) then
    bif decide ((0 : Int) ≤ j) && decide ((j : Int) < (data : Int)) then
    bif decide ((0 : Int) ≤ a) && decide ((a : Int) < (data : Int)) then
    (cmp_Less_uint64 (l.getD (0 + (j).toNat) 0) (l.getD (0 + (a).toNat) 0)).bind fun b =>
    bif b then
      some (.inr j)
    else
      some (.inl (isub .i64 j 1))
    else none
    else none
  else
    some (.inr j)
theorem slices_partitionOrdered_uint64_L1_ok (data : Nat) (a : Int) (i : Int) (l : List Int) (j : Int) (z_ : (Int) ⊕ (Int)) (h : slices_partitionOrdered_uint64_L1_step data a i l j = some z_) : RoundOk Try.prog cfg 106 1000 (loopAt Try.prog 106 1) (slices_partitionOrdered_uint64_L1_st data a i l) (slices_partitionOrdered_uint64_L1_ex data a i l) j z_ := by
  rcases cond_of h with ⟨h1, h⟩ | ⟨h1, h⟩
  · obtain ⟨h2, h⟩ := need_of h
    obtain ⟨h3, h⟩ := need_of h
    obtain ⟨b, h4, h⟩ := bind_of h
    have q_4 := (cmp_Less_uint64_runs (l.getD (0 + (j).toNat) 0) (l.getD (0 + (a).toNat) 0) _ h4)
    rcases cond_of h with ⟨h5, h⟩ | ⟨h5, h⟩
    · have h := some_of h
      subst h
      have t_ := tT h1 <| tO h2 <| tO h3 <| tR q_4 <| tF (not_of2 h5) <| tN
      exact ⟨t_.ev, ⟨[(60, (.av (.one (.pv (.bool false))))), (0, (.av (.one (.own 0 0 data false)))), (1, (.av (.one (.pv (.int .i64 a))))), (10, (.av (.one (.pv (.int .i64 i))))), (11, (.av (.one (.pv (.int .i64 j))))), (60, (.av (.one (.pv (.bool (!b))))))], [], [(0, (.live (.ints .u64 l)))]⟩, .k1 t_.pf (by kernel_rfl) (by kernel_rfl), ⟨⟨⟨_, rfl, .eq rfl⟩, ⟨_, rfl, .eq rfl⟩, ⟨_, rfl, .eq rfl⟩, ⟨_, rfl, .eq rfl⟩, trivial⟩, trivial, ⟨⟨rfl, .eq rfl⟩, trivial⟩⟩⟩
    · have h := some_of h
      subst h
      have t_ := tT h1 <| tO h2 <| tO h3 <| tR q_4 <| tT (not_of h5) <| tN
      exact ⟨t_.ev, slices_partitionOrdered_uint64_L1_st data a i l (isub .i64 j 1), .k1 t_.pf (by kernel_rfl) (by kernel_rfl), .same (by kernel_rfl)⟩
  · have h := some_of h
    subst h
    have t_ := tF h1 <| tF (rfl : false = false) <| tN
    exact ⟨t_.ev, ⟨[(60, (.av (.one (.pv (.bool false))))), (0, (.av (.one (.own 0 0 data false)))), (1, (.av (.one (.pv (.int .i64 a))))), (10, (.av (.one (.pv (.int .i64 i))))), (11, (.av (.one (.pv (.int .i64 j))))), (60, (.av (.one (.pv (.bool false)))))], [], [(0, (.live (.ints .u64 l)))]⟩, .k1 t_.pf (by kernel_rfl) (by kernel_rfl), ⟨⟨⟨_, rfl, .eq rfl⟩, ⟨_, rfl, .eq rfl⟩, ⟨_, rfl, .eq rfl⟩, ⟨_, rfl, .eq rfl⟩, trivial⟩, trivial, ⟨⟨rfl, .eq rfl⟩, trivial⟩⟩⟩
theorem slices_partitionOrdered_uint64_L1_runs (data : Nat) (a : Int) (i : Int) (l : List Int) (s_ : Int) (r_ : Int) (h : runL (slices_partitionOrdered_uint64_L1_step data a i l) s_ = some r_) : LRuns Try.prog (lEnv Try.prog cfg 106 1000).nt 1000 (.loop (loopAt Try.prog 106 1)) (slices_partitionOrdered_uint64_L1_st data a i l s_) (slices_partitionOrdered_uint64_L1_ex data a i l r_).1 (slices_partitionOrdered_uint64_L1_ex data a i l r_).2 :=
  loop_run h (slices_partitionOrdered_uint64_L1_ok data a i l) (by intro r_; rcases r_ with r1 <;> simp [slices_partitionOrdered_uint64_L1_ex])
/-! ### slices_partitionOrdered_uint64_L3 -/
def slices_partitionOrdered_uint64_L3_st (data : Nat) (a : Int) (j : Int) (l : List Int) : Int → St
  | i => ⟨[(0, (.av (.one (.own 0 0 data false)))), (1, (.av (.one (.pv (.int .i64 a))))), (10, (.av (.one (.pv (.int .i64 i))))), (11, (.av (.one (.pv (.int .i64 j)))))], [], [(0, (.live (.ints .u64 l)))]⟩
def slices_partitionOrdered_uint64_L3_ex (data : Nat) (a : Int) (j : Int) (l : List Int) : Int → Ex × St
  | r1 => ((.exit 6), ⟨[(0, (.av (.one (.own 0 0 data false)))), (1, (.av (.one (.pv (.int .i64 a))))), (10, (.av (.one (.pv (.int .i64 r1))))), (11, (.av (.one (.pv (.int .i64 j)))))], [], [(0, (.live (.ints .u64 l)))]⟩)
noncomputable def slices_partitionOrdered_uint64_L3_step (data : Nat) (a : Int) (j : Int) (l : List Int) : Int → Option ((Int) ⊕ (Int))
  | i =>
  bif (decide ((i : Int) ≤ j)) then
    bif decide ((0 : Int) ≤ i) && decide ((i : Int) < (data : Int)) then
    bif decide ((0 : Int) ≤ a) && decide ((a : Int) < (data : Int)) then
    (cmp_Less_uint64 (l.getD (0 + (i).toNat) 0) (l.getD (0 + (a).toNat) 0)).bind fun b =>
    bif b then
      some (.inl (iadd .i64 i 1))
    else
      some (.inr i)
    else none
    else none
  else
    some (.inr i)
theorem slices_partitionOrdered_uint64_L3_ok (data : Nat) (a : Int) (j : Int) (l : List Int) (i : Int) (z_ : (Int) ⊕ (Int)) (h : slices_partitionOrdered_uint64_L3_step data a j l i = some z_) : RoundOk Try.prog cfg 106 1000 (loopAt Try.prog 106 3) (slices_partitionOrdered_uint64_L3_st data a j l) (slices_partitionOrdered_uint64_L3_ex data a j l) i z_ := by
  rcases cond_of h with ⟨h1, h⟩ | ⟨h1, h⟩
  · obtain ⟨h2, h⟩ := need_of h
    obtain ⟨h3, h⟩ := need_of h
    obtain ⟨b, h4, h⟩ := bind_of h
    have q_4 := (cmp_Less_uint64_runs (l.getD (0 + (i).toNat) 0) (l.getD (0 + (a).toNat) 0) _ h4)
    rcases cond_of h with ⟨h5, h⟩ | ⟨h5, h⟩
    · have h := some_of h
      subst h
      have t_ := tT h1 <| tO h2 <| tO h3 <| tR q_4 <| tT h5 <| tN
      exact ⟨t_.ev, slices_partitionOrdered_uint64_L3_st data a j l (iadd .i64 i 1), .k1 t_.pf (by kernel_rfl) (by kernel_rfl), .same (by kernel_rfl)⟩
    · have h := some_of h
      subst h
      have t_ := tT h1 <| tO h2 <| tO h3 <| tR q_4 <| tF h5 <| tN
      exact ⟨t_.ev, ⟨[(112, (.av (.one (.pv (.bool false))))), (0, (.av (.one (.own 0 0 data false)))), (1, (.av (.one (.pv (.int .i64 a))))), (10, (.av (.one (.pv (.int .i64 i))))), (11, (.av (.one (.pv (.int .i64 j))))), (112, (.av (.one (.pv (.bool b)))))], [], [(0, (.live (.ints .u64 l)))]⟩, .k1 t_.pf (by kernel_rfl) (by kernel_rfl), ⟨⟨⟨_, rfl, .eq rfl⟩, ⟨_, rfl, .eq rfl⟩, ⟨_, rfl, .eq rfl⟩, ⟨_, rfl, .eq rfl⟩, trivial⟩, trivial, ⟨⟨rfl, .eq rfl⟩, trivial⟩⟩⟩
  · have h := some_of h
    subst h
    have t_ := tF h1 <| tF (rfl : false = false) <| tN
    exact ⟨t_.ev, ⟨[(112, (.av (.one (.pv (.bool false))))), (0, (.av (.one (.own 0 0 data false)))), (1, (.av (.one (.pv (.int .i64 a))))), (10, (.av (.one (.pv (.int .i64 i))))), (11, (.av (.one (.pv (.int .i64 j))))), (112, (.av (.one (.pv (.bool false)))))], [], [(0, (.live (.ints .u64 l)))]⟩, .k1 t_.pf (by kernel_rfl) (by kernel_rfl), ⟨⟨⟨_, rfl, .eq rfl⟩, ⟨_, rfl, .eq rfl⟩, ⟨_, rfl, .eq rfl⟩, ⟨_, rfl, .eq rfl⟩, trivial⟩, trivial, ⟨⟨rfl, .eq rfl⟩, trivial⟩⟩⟩
theorem slices_partitionOrdered_uint64_L3_runs (data : Nat) (a : Int) (j : Int) (l : List Int) (s_ : Int) (r_ : Int) (h : runL (slices_partitionOrdered_uint64_L3_step data a j l) s_ = some r_) : LRuns Try.prog (lEnv Try.prog cfg 106 1000).nt 1000 (.loop (loopAt Try.prog 106 3)) (slices_partitionOrdered_uint64_L3_st data a j l s_) (slices_partitionOrdered_uint64_L3_ex data a j l r_).1 (slices_partitionOrdered_uint64_L3_ex data a j l r_).2 :=
  loop_run h (slices_partitionOrdered_uint64_L3_ok data a j l) (by intro r_; rcases r_ with r1 <;> simp [slices_partitionOrdered_uint64_L3_ex])
/-! ### slices_partitionOrdered_uint64_L4 -/
def slices_partitionOrdered_uint64_L4_st (data : Nat) (a : Int) (i : Int) (l : List Int) : Int → St
  | j => ⟨[(0, (.av (.one (.own 0 0 data false)))), (1, (.av (.one (.pv (.int .i64 a))))), (10, (.av (.one (.pv (.int .i64 i))))), (11, (.av (.one (.pv (.int .i64 j)))))], [], [(0, (.live (.ints .u64 l)))]⟩
def slices_partitionOrdered_uint64_L4_ex (data : Nat) (a : Int) (i : Int) (l : List Int) : Int → Ex × St
  | r1 => ((.exit 8), ⟨[(0, (.av (.one (.own 0 0 data false)))), (1, (.av (.one (.pv (.int .i64 a))))), (10, (.av (.one (.pv (.int .i64 i))))), (11, (.av (.one (.pv (.int .i64 r1)))))], [], [(0, (.live (.ints .u64 l)))]⟩)
noncomputable def slices_partitionOrdered_uint64_L4_step (data : Nat) (a : Int) (i : Int) (l : List Int) : Int → Option ((Int) ⊕ (Int))
  | j =>
  bif (decide ((i : Int) ≤ j)) then
    bif decide ((0 : Int) ≤ j) && decide ((j : Int) < (data : Int)) then
    bif decide ((0 : Int) ≤ a) && decide ((a : Int) < (data : Int)) then
    (cmp_Less_uint64 (l.getD (0 + (j).toNat) 0) (l.getD (0 + (a).toNat) 0)).bind fun b =>
    bif b then
      some (.inr j)
    else
      some (.inl (isub .i64 j 1))
    else none
    else none
  else
    some (.inr j)
theorem slices_partitionOrdered_uint64_L4_ok (data : Nat) (a : Int) (i : Int) (l : List Int) (j : Int) (z_ : (Int) ⊕ (Int)) (h : slices_partitionOrdered_uint64_L4_step data a i l j = some z_) : RoundOk Try.prog cfg 106 1000 (loopAt Try.prog 106 4) (slices_partitionOrdered_uint64_L4_st data a i l) (slices_partitionOrdered_uint64_L4_ex data a i l) j z_ := by
  rcases cond_of h with ⟨h1, h⟩ | ⟨h1, h⟩
  · obtain ⟨h2, h⟩ := need_of h
    obtain ⟨h3, h⟩ := need_of h
    obtain ⟨b, h4, h⟩ := bind_of h
    have q_4 := (cmp_Less_uint64_runs (l.getD (0 + (j).toNat) 0) (l.getD (0 + (a).toNat) 0) _ h4)
    rcases cond_of h with ⟨h5, h⟩ | ⟨h5, h⟩
    · have h := some_of h
      subst h
      have t_ := tT h1 <| tO h2 <| tO h3 <| tR q_4 <| tF (not_of2 h5) <| tN
      exact ⟨t_.ev, ⟨[(129, (.av (.one (.pv (.bool false))))), (0, (.av (.one (.own 0 0 data false)))), (1, (.av (.one (.pv (.int .i64 a))))), (10, (.av (.one (.pv (.int .i64 i))))), (11, (.av (.one (.pv (.int .i64 j))))), (129, (.av (.one (.pv (.bool (!b))))))], [], [(0, (.live (.ints .u64 l)))]⟩, .k1 t_.pf (by kernel_rfl) (by kernel_rfl), ⟨⟨⟨_, rfl, .eq rfl⟩, ⟨_, rfl, .eq rfl⟩, ⟨_, rfl, .eq rfl⟩, ⟨_, rfl, .eq rfl⟩, trivial⟩, trivial, ⟨⟨rfl, .eq rfl⟩, trivial⟩⟩⟩
    · have h := some_of h
      subst h
      have t_ := tT h1 <| tO h2 <| tO h3 <| tR q_4 <| tT (not_of h5) <| tN
      exact ⟨t_.ev, slices_partitionOrdered_uint64_L4_st data a i l (isub .i64 j 1), .k1 t_.pf (by kernel_rfl) (by kernel_rfl), .same (by kernel_rfl)⟩
  · have h := some_of h
    subst h
    have t_ := tF h1 <| tF (rfl : false = false) <| tN
    exact ⟨t_.ev, ⟨[(129, (.av (.one (.pv (.bool false))))), (0, (.av (.one (.own 0 0 data false)))), (1, (.av (.one (.pv (.int .i64 a))))), (10, (.av (.one (.pv (.int .i64 i))))), (11, (.av (.one (.pv (.int .i64 j))))), (129, (.av (.one (.pv (.bool false)))))], [], [(0, (.live (.ints .u64 l)))]⟩, .k1 t_.pf (by kernel_rfl) (by kernel_rfl), ⟨⟨⟨_, rfl, .eq rfl⟩, ⟨_, rfl, .eq rfl⟩, ⟨_, rfl, .eq rfl⟩, ⟨_, rfl, .eq rfl⟩, trivial⟩, trivial, ⟨⟨rfl, .eq rfl⟩, trivial⟩⟩⟩
theorem slices_partitionOrdered_uint64_L4_runs (data : Nat) (a : Int) (i : Int) (l : List Int) (s_ : Int) (r_ : Int) (h : runL (slices_partitionOrdered_uint64_L4_step data a i l) s_ = some r_) : LRuns Try.prog (lEnv Try.prog cfg 106 1000).nt 1000 (.loop (loopAt Try.prog 106 4)) (slices_partitionOrdered_uint64_L4_st data a i l s_) (slices_partitionOrdered_uint64_L4_ex data a i l r_).1 (slices_partitionOrdered_uint64_L4_ex data a i l r_).2 :=
  loop_run h (slices_partitionOrdered_uint64_L4_ok data a i l) (by intro r_; rcases r_ with r1 <;> simp [slices_partitionOrdered_uint64_L4_ex])
/-! ### slices_partitionOrdered_uint64_L2 -/
def slices_partitionOrdered_uint64_L2_st (data : Nat) (a : Int) : Int × Int × List Int → St
  | (i, j, l) => ⟨[(0, (.av (.one (.own 0 0 data false)))), (1, (.av (.one (.pv (.int .i64 a))))), (10, (.av (.one (.pv (.int .i64 i))))), (11, (.av (.one (.pv (.int .i64 j)))))], [], [(0, (.live (.ints .u64 l)))]⟩
def slices_partitionOrdered_uint64_L2_ex (data : Nat) (a : Int) : Int × List Int → Ex × St
  | (r1, r2) => ((.exit 4), ⟨[(0, (.av (.one (.own 0 0 data false)))), (1, (.av (.one (.pv (.int .i64 a))))), (11, (.av (.one (.pv (.int .i64 r1)))))], [], [(0, (.live (.ints .u64 r2)))]⟩)
noncomputable def slices_partitionOrdered_uint64_L2_step (data : Nat) (a : Int) : Int × Int × List Int → Option ((Int × Int × List Int) ⊕ (Int × List Int))
  | (i, j, l) =>
  (runL (slices_partitionOrdered_uint64_L3_step data a j l) i).bind fun n =>
  (runL (slices_partitionOrdered_uint64_L4_step data a n l) j).bind fun n2 =>
  bif (decide ((n2 : Int) < n)) then
    some (.inr (n2, l))
  else
    bif decide ((0 : Int) ≤ n2) && decide ((n2 : Int) < (data : Int)) then
    bif decide ((0 : Int) ≤ n) && decide ((n : Int) < (data : Int)) then
    some (.inl ((iadd .i64 n 1), (isub .i64 n2 1), ((l.set (0 + (n).toNat) (l.getD (0 + (n2).toNat) 0)).set (0 + (n2).toNat) (l.getD (0 + (n).toNat) 0))))
    else none
    else none
theorem slices_partitionOrdered_uint64_L2_ok (data : Nat) (a : Int) (s_ : Int × Int × List Int) (z_ : (Int × Int × List Int) ⊕ (Int × List Int)) (h : slices_partitionOrdered_uint64_L2_step data a s_ = some z_) : RoundOk Try.prog cfg 106 1000 (loopAt Try.prog 106 2) (slices_partitionOrdered_uint64_L2_st data a) (slices_partitionOrdered_uint64_L2_ex data a) s_ z_ := by
  rcases s_ with ⟨i, j, l⟩
  rw [slices_partitionOrdered_uint64_L2_step] at h
  obtain ⟨n, h1, h⟩ := bind_of h
  have q_1 := (slices_partitionOrdered_uint64_L3_runs data a j l _ _ h1)
  obtain ⟨n2, h2, h⟩ := bind_of h
  have q_2 := (slices_partitionOrdered_uint64_L4_runs data a n l _ _ h2)
  rcases cond_of h with ⟨h3, h⟩ | ⟨h3, h⟩
  · have h := some_of h
    subst h
    have t_ := tL q_1 <| tL q_2 <| tT h3 <| tN
    exact ⟨t_.ev, ⟨[(134, (.av (.one (.pv (.bool true))))), (0, (.av (.one (.own 0 0 data false)))), (1, (.av (.one (.pv (.int .i64 a))))), (10, (.av (.one (.pv (.int .i64 n))))), (11, (.av (.one (.pv (.int .i64 n2))))), (134, (.av (.one (.pv (.bool (decide ((n2 : Int) < n)))))))], [], [(0, (.live (.ints .u64 l)))]⟩, .k0 t_.pf (by kernel_rfl), ⟨⟨⟨_, rfl, .eq rfl⟩, ⟨_, rfl, .eq rfl⟩, ⟨_, rfl, .eq rfl⟩, trivial⟩, trivial, ⟨⟨rfl, .eq rfl⟩, trivial⟩⟩⟩
  · obtain ⟨h4, h⟩ := need_of h
    obtain ⟨h5, h⟩ := need_of h
    have h := some_of h
    subst h
    have t_ := tL q_1 <| tL q_2 <| tF h3 <| tO h4 <| tO h5 <| tO h5 <| tO h4 <| tN
    exact ⟨t_.ev, slices_partitionOrdered_uint64_L2_st data a ((iadd .i64 n 1), (isub .i64 n2 1), ((l.set (0 + (n).toNat) (l.getD (0 + (n2).toNat) 0)).set (0 + (n2).toNat) (l.getD (0 + (n).toNat) 0))), .k1 t_.pf (by kernel_rfl) (by kernel_rfl), .same (by kernel_rfl)⟩
theorem slices_partitionOrdered_uint64_L2_runs (data : Nat) (a : Int) (s_ : Int × Int × List Int) (r_ : Int × List Int) (h : runL (slices_partitionOrdered_uint64_L2_step data a) s_ = some r_) : LRuns Try.prog (lEnv Try.prog cfg 106 1000).nt 1000 (.loop (loopAt Try.prog 106 2)) (slices_partitionOrdered_uint64_L2_st data a s_) (slices_partitionOrdered_uint64_L2_ex data a r_).1 (slices_partitionOrdered_uint64_L2_ex data a r_).2 :=
  loop_run h (slices_partitionOrdered_uint64_L2_ok data a) (by intro r_; rcases r_ with ⟨r1, r2⟩ <;> simp [slices_partitionOrdered_uint64_L2_ex])
/-! ### slices_partitionOrdered_uint64 -/
noncomputable def slices_partitionOrdered_uint64 (data : Nat) (a : Int) (b : Int) (pivot : Int) (l : List Int) : Option (Int × Bool × List Int) :=
  bif decide ((0 : Int) ≤ pivot) && decide ((pivot : Int) < (data : Int)) then
  bif decide ((0 : Int) ≤ a) && decide ((a : Int) < (data : Int)) then
  (runL (slices_partitionOrdered_uint64_L0_step data a (isub .i64 b 1) ((l.set (0 + (a).toNat) (l.getD (0 + (pivot).toNat) 0)).set (0 + (pivot).toNat) (l.getD (0 + (a).toNat) 0))) (iadd .i64 a 1)).bind fun n =>
  (runL (slices_partitionOrdered_uint64_L1_step data a n ((l.set (0 + (a).toNat) (l.getD (0 + (pivot).toNat) 0)).set (0 + (pivot).toNat) (l.getD (0 + (a).toNat) 0))) (isub .i64 b 1)).bind fun n2 =>
  bif (decide ((n2 : Int) < n)) then
    bif decide ((0 : Int) ≤ n2) && decide ((n2 : Int) < (data : Int)) then
    some (n2, true, ((((l.set (0 + (a).toNat) (l.getD (0 + (pivot).toNat) 0)).set (0 + (pivot).toNat) (l.getD (0 + (a).toNat) 0)).set (0 + (n2).toNat) (((l.set (0 + (a).toNat) (l.getD (0 + (pivot).toNat) 0)).set (0 + (pivot).toNat) (l.getD (0 + (a).toNat) 0)).getD (0 + (a).toNat) 0)).set (0 + (a).toNat) (((l.set (0 + (a).toNat) (l.getD (0 + (pivot).toNat) 0)).set (0 + (pivot).toNat) (l.getD (0 + (a).toNat) 0)).getD (0 + (n2).toNat) 0)))
    else none
  else
    bif decide ((0 : Int) ≤ n2) && decide ((n2 : Int) < (data : Int)) then
    bif decide ((0 : Int) ≤ n) && decide ((n : Int) < (data : Int)) then
    (runL (slices_partitionOrdered_uint64_L2_step data a) ((iadd .i64 n 1), (isub .i64 n2 1), ((((l.set (0 + (a).toNat) (l.getD (0 + (pivot).toNat) 0)).set (0 + (pivot).toNat) (l.getD (0 + (a).toNat) 0)).set (0 + (n).toNat) (((l.set (0 + (a).toNat) (l.getD (0 + (pivot).toNat) 0)).set (0 + (pivot).toNat) (l.getD (0 + (a).toNat) 0)).getD (0 + (n2).toNat) 0)).set (0 + (n2).toNat) (((l.set (0 + (a).toNat) (l.getD (0 + (pivot).toNat) 0)).set (0 + (pivot).toNat) (l.getD (0 + (a).toNat) 0)).getD (0 + (n).toNat) 0)))).bind fun (n3, l_) =>
    bif decide ((0 : Int) ≤ n3) && decide ((n3 : Int) < (data : Int)) then
    some (n3, false, ((l_.set (0 + (n3).toNat) (l_.getD (0 + (a).toNat) 0)).set (0 + (a).toNat) (l_.getD (0 + (n3).toNat) 0)))
    else none
    else none
    else none
  else none
  else none
theorem slices_partitionOrdered_uint64_runs (data : Nat) (a : Int) (b : Int) (pivot : Int) (l : List Int) (r_ : Int × Bool × List Int) (h : slices_partitionOrdered_uint64 data a b pivot l = some r_) : RunsI Try.prog 106 [(.one (.own 0 0 data false)), (.one (.pv (.int .i64 a))), (.one (.pv (.int .i64 b))), (.one (.pv (.int .i64 pivot)))] [] [(.ints .u64 l)] (slices_partitionOrdered_uint64_out data a b pivot l r_) := by
  unfold slices_partitionOrdered_uint64 at h
  obtain ⟨h1, h⟩ := need_of h
  obtain ⟨h2, h⟩ := need_of h
  obtain ⟨n, h3, h⟩ := bind_of h
  have q_3 := (slices_partitionOrdered_uint64_L0_runs data a (isub .i64 b 1) ((l.set (0 + (a).toNat) (l.getD (0 + (pivot).toNat) 0)).set (0 + (pivot).toNat) (l.getD (0 + (a).toNat) 0)) _ _ h3)
  obtain ⟨n2, h4, h⟩ := bind_of h
  have q_4 := (slices_partitionOrdered_uint64_L1_runs data a n ((l.set (0 + (a).toNat) (l.getD (0 + (pivot).toNat) 0)).set (0 + (pivot).toNat) (l.getD (0 + (a).toNat) 0)) _ _ h4)
  rcases cond_of h with ⟨h5, h⟩ | ⟨h5, h⟩
  · obtain ⟨h6, h⟩ := need_of h
    have h := some_of h
    subst h
    have t_ := tO h1 <| tO h2 <| tO h2 <| tO h1 <| tL q_3 <| tL q_4 <| tT h5 <| tO h2 <| tO h6 <| tO h6 <| tO h2 <| tN
    exact runsI_of (C := cfg) (objs := []) (rows := [(.ints .u64 l)]) (sc := t_.ev) (.k1 t_.pf (by kernel_rfl) (by kernel_rfl))
  · obtain ⟨h6, h⟩ := need_of h
    obtain ⟨h7, h⟩ := need_of h
    obtain ⟨⟨n3, l_⟩, h8, h⟩ := bind_of h
    obtain ⟨h9, h⟩ := need_of h
    have h := some_of h
    subst h
    have t_ := tO h1 <| tO h2 <| tO h2 <| tO h1 <| tL q_3 <| tL q_4 <| tF h5 <| tO h6 <| tO h7 <| tO h7 <| tO h6 <| tL (slices_partitionOrdered_uint64_L2_runs data a _ _ h8) <| tO h2 <| tO h9 <| tO h9 <| tO h2 <| tN
    exact runsI_of (C := cfg) (objs := []) (rows := [(.ints .u64 l)]) (sc := t_.ev) (.k1 t_.pf (by kernel_rfl) (by kernel_rfl))
/-! ### slices_partitionEqualOrdered_uint64_out -/
def slices_partitionEqualOrdered_uint64_out (data : Nat) (a : Int) (b : Int) (pivot : Int) (l : List Int) : Int × List Int → Res
  | (r1, r2) => ([(.one (.pv (.int .i64 r1)))], [], [(.ints .u64 r2)])
/-! ### slices_partitionEqualOrdered_uint64_L1 -/
def slices_partitionEqualOrdered_uint64_L1_st (data : Nat) (a : Int) (j : Int) (l : List Int) : Int → St
  | i => ⟨[(0, (.av (.one (.own 0 0 data false)))), (1, (.av (.one (.pv (.int .i64 a))))), (9, (.av (.one (.pv (.int .i64 i))))), (10, (.av (.one (.pv (.int .i64 j)))))], [], [(0, (.live (.ints .u64 l)))]⟩
def slices_partitionEqualOrdered_uint64_L1_ex (data : Nat) (a : Int) (j : Int) (l : List Int) : Int → Ex × St
  | r1 => ((.exit 2), ⟨[(0, (.av (.one (.own 0 0 data false)))), (1, (.av (.one (.pv (.int .i64 a))))), (9, (.av (.one (.pv (.int .i64 r1))))), (10, (.av (.one (.pv (.int .i64 j)))))], [], [(0, (.live (.ints .u64 l)))]⟩)
noncomputable def slices_partitionEqualOrdered_uint64_L1_step (data : Nat) (a : Int) (j : Int) (l : List Int) : Int → Option ((Int) ⊕ (Int))
  | i =>
  bif (decide ((i : Int) ≤ j)) then
    bif decide ((0 : Int) ≤ a) && decide ((a : Int) < (data : Int)) then
    bif decide ((0 : Int) ≤ i) && decide ((i : Int) < (data : Int)) then
    (cmp_Less_uint64 (l.getD (0 + (a).toNat) 0) (l.getD (0 + (i).toNat) 0)).bind fun b =>
    bif b then
      some (.inr i)
    else
      some (.inl (iadd .i64 i 1))
    else none
    else none
  else
    some (.inr i)
theorem slices_partitionEqualOrdered_uint64_L1_ok (data : Nat) (a : Int) (j : Int) (l : List Int) (i : Int) (z_ : (Int) ⊕ (Int)) (h : slices_partitionEqualOrdered_uint64_L1_step data a j l i = some z_) : RoundOk Try.prog cfg 105 1000 (loopAt Try.prog 105 1) (slices_partitionEqualOrdered_uint64_L1_st data a j l) (slices_partitionEqualOrdered_uint64_L1_ex data a j l) i z_ := by
  rcases cond_of h with ⟨h1, h⟩ | ⟨h1, h⟩
  · obtain ⟨h2, h⟩ := need_of h
    obtain ⟨h3, h⟩ := need_of h
    obtain ⟨b, h4, h⟩ := bind_of h
    have q_4 := (cmp_Less_uint64_runs (l.getD (0 + (a).toNat) 0) (l.getD (0 + (i).toNat) 0) _ h4)
    rcases cond_of h with ⟨h5, h⟩ | ⟨h5, h⟩
    · have h := some_of h
      subst h
      have t_ := tT h1 <| tO h2 <| tO h3 <| tR q_4 <| tF (not_of2 h5) <| tN
      exact ⟨t_.ev, ⟨[(43, (.av (.one (.pv (.bool false))))), (0, (.av (.one (.own 0 0 data false)))), (1, (.av (.one (.pv (.int .i64 a))))), (9, (.av (.one (.pv (.int .i64 i))))), (10, (.av (.one (.pv (.int .i64 j))))), (43, (.av (.one (.pv (.bool (!b))))))], [], [(0, (.live (.ints .u64 l)))]⟩, .k1 t_.pf (by kernel_rfl) (by kernel_rfl), ⟨⟨⟨_, rfl, .eq rfl⟩, ⟨_, rfl, .eq rfl⟩, ⟨_, rfl, .eq rfl⟩, ⟨_, rfl, .eq rfl⟩, trivial⟩, trivial, ⟨⟨rfl, .eq rfl⟩, trivial⟩⟩⟩
    · have h := some_of h
      subst h
      have t_ := tT h1 <| tO h2 <| tO h3 <| tR q_4 <| tT (not_of h5) <| tN
      exact ⟨t_.ev, slices_partitionEqualOrdered_uint64_L1_st data a j l (iadd .i64 i 1), .k1 t_.pf (by kernel_rfl) (by kernel_rfl), .same (by kernel_rfl)⟩
  · have h := some_of h
    subst h
    have t_ := tF h1 <| tF (rfl : false = false) <| tN
    exact ⟨t_.ev, ⟨[(43, (.av (.one (.pv (.bool false))))), (0, (.av (.one (.own 0 0 data false)))), (1, (.av (.one (.pv (.int .i64 a))))), (9, (.av (.one (.pv (.int .i64 i))))), (10, (.av (.one (.pv (.int .i64 j))))), (43, (.av (.one (.pv (.bool false)))))], [], [(0, (.live (.ints .u64 l)))]⟩, .k1 t_.pf (by kernel_rfl) (by kernel_rfl), ⟨⟨⟨_, rfl, .eq rfl⟩, ⟨_, rfl, .eq rfl⟩, ⟨_, rfl, .eq rfl⟩, ⟨_, rfl, .eq rfl⟩, trivial⟩, trivial, ⟨⟨rfl, .eq rfl⟩, trivial⟩⟩⟩
theorem slices_partitionEqualOrdered_uint64_L1_runs (data : Nat) (a : Int) (j : Int) (l : List Int) (s_ : Int) (r_ : Int) (h : runL (slices_partitionEqualOrdered_uint64_L1_step data a j l) s_ = some r_) : LRuns Try.prog (lEnv Try.prog cfg 105 1000).nt 1000 (.loop (loopAt Try.prog 105 1)) (slices_partitionEqualOrdered_uint64_L1_st data a j l s_) (slices_partitionEqualOrdered_uint64_L1_ex data a j l r_).1 (slices_partitionEqualOrdered_uint64_L1_ex data a j l r_).2 :=
  loop_run h (slices_partitionEqualOrdered_uint64_L1_ok data a j l) (by intro r_; rcases r_ with r1 <;> simp [slices_partitionEqualOrdered_uint64_L1_ex])
/-! ### slices_partitionEqualOrdered_uint64_L2 -/
def slices_partitionEqualOrdered_uint64_L2_st (data : Nat) (a : Int) (i : Int) (l : List Int) : Int → St
  | j => ⟨[(0, (.av (.one (.own 0 0 data false)))), (1, (.av (.one (.pv (.int .i64 a))))), (9, (.av (.one (.pv (.int .i64 i))))), (10, (.av (.one (.pv (.int .i64 j)))))], [], [(0, (.live (.ints .u64 l)))]⟩
def slices_partitionEqualOrdered_uint64_L2_ex (data : Nat) (a : Int) (i : Int) (l : List Int) : Int → Ex × St
  | r1 => ((.exit 4), ⟨[(0, (.av (.one (.own 0 0 data false)))), (1, (.av (.one (.pv (.int .i64 a))))), (9, (.av (.one (.pv (.int .i64 i))))), (10, (.av (.one (.pv (.int .i64 r1)))))], [], [(0, (.live (.ints .u64 l)))]⟩)
noncomputable def slices_partitionEqualOrdered_uint64_L2_step (data : Nat) (a : Int) (i : Int) (l : List Int) : Int → Option ((Int) ⊕ (Int))
  | j =>
  bif (decide ((i : Int) ≤ j)) then
    bif decide ((0 : Int) ≤ a) && decide ((a : Int) < (data : Int)) then
    bif decide ((0 : Int) ≤ j) && decide ((j : Int) < (data : Int)) then
    (cmp_Less_uint64 (l.getD (0 + (a).toNat) 0) (l.getD (0 + (j).toNat) 0)).bind fun b =>
    bif b then
      some (.inl (isub .i64 j 1))
    else
      some (.inr j)
    else none
    else none
  else
    some (.inr j)
theorem slices_partitionEqualOrdered_uint64_L2_ok (data : Nat) (a : Int) (i : Int) (l : List Int) (j : Int) (z_ : (Int) ⊕ (Int)) (h : slices_partitionEqualOrdered_uint64_L2_step data a i l j = some z_) : RoundOk Try.prog cfg 105 1000 (loopAt Try.prog 105 2) (slices_partitionEqualOrdered_uint64_L2_st data a i l) (slices_partitionEqualOrdered_uint64_L2_ex data a i l) j z_ := by
  rcases cond_of h with ⟨h1, h⟩ | ⟨h1, h⟩
  · obtain ⟨h2, h⟩ := need_of h
    obtain ⟨h3, h⟩ := need_of h
    obtain ⟨b, h4, h⟩ := bind_of h
    have q_4 := (cmp_Less_uint64_runs (l.getD (0 + (a).toNat) 0) (l.getD (0 + (j).toNat) 0) _ h4)
    rcases cond_of h with ⟨h5, h⟩ | ⟨h5, h⟩
    · have h := some_of h
      subst h
      have t_ := tT h1 <| tO h2 <| tO h3 <| tR q_4 <| tT h5 <| tN
      exact ⟨t_.ev, slices_partitionEqualOrdered_uint64_L2_st data a i l (isub .i64 j 1), .k1 t_.pf (by kernel_rfl) (by kernel_rfl), .same (by kernel_rfl)⟩
    · have h := some_of h
      subst h
      have t_ := tT h1 <| tO h2 <| tO h3 <| tR q_4 <| tF h5 <| tN
      exact ⟨t_.ev, ⟨[(59, (.av (.one (.pv (.bool false))))), (0, (.av (.one (.own 0 0 data false)))), (1, (.av (.one (.pv (.int .i64 a))))), (9, (.av (.one (.pv (.int .i64 i))))), (10, (.av (.one (.pv (.int .i64 j))))), (59, (.av (.one (.pv (.bool b)))))], [], [(0, (.live (.ints .u64 l)))]⟩, .k1 t_.pf (by kernel_rfl) (by kernel_rfl), ⟨⟨⟨_, rfl, .eq rfl⟩, ⟨_, rfl, .eq rfl⟩, ⟨_, rfl, .eq rfl⟩, ⟨_, rfl, .eq rfl⟩, trivial⟩, trivial, ⟨⟨rfl, .eq rfl⟩, trivial⟩⟩⟩
  · have h := some_of h
    subst h
    have t_ := tF h1 <| tF (rfl : false = false) <| tN
    exact ⟨t_.ev, ⟨[(59, (.av (.one (.pv (.bool false))))), (0, (.av (.one (.own 0 0 data false)))), (1, (.av (.one (.pv (.int .i64 a))))), (9, (.av (.one (.pv (.int .i64 i))))), (10, (.av (.one (.pv (.int .i64 j))))), (59, (.av (.one (.pv (.bool false)))))], [], [(0, (.live (.ints .u64 l)))]⟩, .k1 t_.pf (by kernel_rfl) (by kernel_rfl), ⟨⟨⟨_, rfl, .eq rfl⟩, ⟨_, rfl, .eq rfl⟩, ⟨_, rfl, .eq rfl⟩, ⟨_, rfl, .eq rfl⟩, trivial⟩, trivial, ⟨⟨rfl, .eq rfl⟩, trivial⟩⟩⟩
theorem slices_partitionEqualOrdered_uint64_L2_runs (data : Nat) (a : Int) (i : Int) (l : List Int) (s_ : Int) (r_ : Int) (h : runL (slices_partitionEqualOrdered_uint64_L2_step data a i l) s_ = some r_) : LRuns Try.prog (lEnv Try.prog cfg 105 1000).nt 1000 (.loop (loopAt Try.prog 105 2)) (slices_partitionEqualOrdered_uint64_L2_st data a i l s_) (slices_partitionEqualOrdered_uint64_L2_ex data a i l r_).1 (slices_partitionEqualOrdered_uint64_L2_ex data a i l r_).2 :=
  loop_run h (slices_partitionEqualOrdered_uint64_L2_ok data a i l) (by intro r_; rcases r_ with r1 <;> simp [slices_partitionEqualOrdered_uint64_L2_ex])
/-! ### slices_partitionEqualOrdered_uint64_L0 -/
def slices_partitionEqualOrdered_uint64_L0_st (data : Nat) (a : Int) : Int × Int × List Int → St
  | (i, j, l) => ⟨[(0, (.av (.one (.own 0 0 data false)))), (1, (.av (.one (.pv (.int .i64 a))))), (9, (.av (.one (.pv (.int .i64 i))))), (10, (.av (.one (.pv (.int .i64 j)))))], [], [(0, (.live (.ints .u64 l)))]⟩
def slices_partitionEqualOrdered_uint64_L0_ex (data : Nat) (a : Int) : Int × List Int → Ex × St
  | (r1, r2) => ((.exit 0), ⟨[(9, (.av (.one (.pv (.int .i64 r1)))))], [], [(0, (.live (.ints .u64 r2)))]⟩)
noncomputable def slices_partitionEqualOrdered_uint64_L0_step (data : Nat) (a : Int) : Int × Int × List Int → Option ((Int × Int × List Int) ⊕ (Int × List Int))
  | (i, j, l) =>
  (runL (slices_partitionEqualOrdered_uint64_L1_step data a j l) i).bind fun n =>
  (runL (slices_partitionEqualOrdered_uint64_L2_step data a n l) j).bind fun n2 =>
  bif (decide ((n2 : Int) < n)) then
    some (.inr (n, l))
  else
    bif decide ((0 : Int) ≤ n2) && decide ((n2 : Int) < (data : Int)) then
    bif decide ((0 : Int) ≤ n) && decide ((n : Int) < (data : Int)) then
    some (.inl ((iadd .i64 n 1), (isub .i64 n2 1), ((l.set (0 + (n).toNat) (l.getD (0 + (n2).toNat) 0)).set (0 + (n2).toNat) (l.getD (0 + (n).toNat) 0))))
    else none
    else none
theorem slices_partitionEqualOrdered_uint64_L0_ok (data : Nat) (a : Int) (s_ : Int × Int × List Int) (z_ : (Int × Int × List Int) ⊕ (Int × List Int)) (h : slices_partitionEqualOrdered_uint64_L0_step data a s_ = some z_) : RoundOk Try.prog cfg 105 1000 (loopAt Try.prog 105 0) (slices_partitionEqualOrdered_uint64_L0_st data a) (slices_partitionEqualOrdered_uint64_L0_ex data a) s_ z_ := by
  rcases s_ with ⟨i, j, l⟩
  rw [slices_partitionEqualOrdered_uint64_L0_step] at h
  obtain ⟨n, h1, h⟩ := bind_of h
  have q_1 := (slices_partitionEqualOrdered_uint64_L1_runs data a j l _ _ h1)
  obtain ⟨n2, h2, h⟩ := bind_of h
  have q_2 := (slices_partitionEqualOrdered_uint64_L2_runs data a n l _ _ h2)
  rcases cond_of h with ⟨h3, h⟩ | ⟨h3, h⟩
  · have h := some_of h
    subst h
    have t_ := tL q_1 <| tL q_2 <| tT h3 <| tN
    exact ⟨t_.ev, ⟨[(64, (.av (.one (.pv (.bool true))))), (0, (.av (.one (.own 0 0 data false)))), (1, (.av (.one (.pv (.int .i64 a))))), (9, (.av (.one (.pv (.int .i64 n))))), (10, (.av (.one (.pv (.int .i64 n2))))), (64, (.av (.one (.pv (.bool (decide ((n2 : Int) < n)))))))], [], [(0, (.live (.ints .u64 l)))]⟩, .k0 t_.pf (by kernel_rfl), ⟨⟨⟨_, rfl, .eq rfl⟩, trivial⟩, trivial, ⟨⟨rfl, .eq rfl⟩, trivial⟩⟩⟩
  · obtain ⟨h4, h⟩ := need_of h
    obtain ⟨h5, h⟩ := need_of h
    have h := some_of h
    subst h
    have t_ := tL q_1 <| tL q_2 <| tF h3 <| tO h4 <| tO h5 <| tO h5 <| tO h4 <| tN
    exact ⟨t_.ev, slices_partitionEqualOrdered_uint64_L0_st data a ((iadd .i64 n 1), (isub .i64 n2 1), ((l.set (0 + (n).toNat) (l.getD (0 + (n2).toNat) 0)).set (0 + (n2).toNat) (l.getD (0 + (n).toNat) 0))), .k1 t_.pf (by kernel_rfl) (by kernel_rfl), .same (by kernel_rfl)⟩
theorem slices_partitionEqualOrdered_uint64_L0_runs (data : Nat) (a : Int) (s_ : Int × Int × List Int) (r_ : Int × List Int) (h : runL (slices_partitionEqualOrdered_uint64_L0_step data a) s_ = some r_) : LRuns Try.prog (lEnv Try.prog cfg 105 1000).nt 1000 (.loop (loopAt Try.prog 105 0)) (slices_partitionEqualOrdered_uint64_L0_st data a s_) (slices_partitionEqualOrdered_uint64_L0_ex data a r_).1 (slices_partitionEqualOrdered_uint64_L0_ex data a r_).2 :=
  loop_run h (slices_partitionEqualOrdered_uint64_L0_ok data a) (by intro r_; rcases r_ with ⟨r1, r2⟩ <;> simp [slices_partitionEqualOrdered_uint64_L0_ex])
/-! ### slices_partitionEqualOrdered_uint64 -/
noncomputable def slices_partitionEqualOrdered_uint64 (data : Nat) (a : Int) (b : Int) (pivot : Int) (l : List Int) : Option (Int × List Int) :=
  bif decide ((0 : Int) ≤ pivot) && decide ((pivot : Int) < (data : Int)) then
  bif decide ((0 : Int) ≤ a) && decide ((a : Int) < (data : Int)) then
  (runL (slices_partitionEqualOrdered_uint64_L0_step data a) ((iadd .i64 a 1), (isub .i64 b 1), ((l.set (0 + (a).toNat) (l.getD (0 + (pivot).toNat) 0)).set (0 + (pivot).toNat) (l.getD (0 + (a).toNat) 0)))).bind fun (n, l_) =>
  some (n, l_)
  else none
  else none
theorem slices_partitionEqualOrdered_uint64_runs (data : Nat) (a : Int) (b : Int) (pivot : Int) (l : List Int) (r_ : Int × List Int) (h : slices_partitionEqualOrdered_uint64 data a b pivot l = some r_) : RunsI Try.prog 105 [(.one (.own 0 0 data false)), (.one (.pv (.int .i64 a))), (.one (.pv (.int .i64 b))), (.one (.pv (.int .i64 pivot)))] [] [(.ints .u64 l)] (slices_partitionEqualOrdered_uint64_out data a b pivot l r_) := by
  unfold slices_partitionEqualOrdered_uint64 at h
  obtain ⟨h1, h⟩ := need_of h
  obtain ⟨h2, h⟩ := need_of h
  obtain ⟨⟨n, l_⟩, h3, h⟩ := bind_of h
  have h := some_of h
  subst h
  have t_ := tO h1 <| tO h2 <| tO h2 <| tO h1 <| tL (slices_partitionEqualOrdered_uint64_L0_runs data a _ _ h3) <| tN
  exact runsI_of (C := cfg) (objs := []) (rows := [(.ints .u64 l)]) (sc := t_.ev) (.k1 t_.pf (by kernel_rfl) (by kernel_rfl))
/-! ### slices_pdqsortOrdered_uint64_C113_5 -/
def slices_pdqsortOrdered_uint64_C113_5_ex (data : Nat) (a : Int) (b : Int) (limit : Int) (wasPartitioned : Bool) (mid : Int) (leftLen : Int) (rightLen : Int) (balanceThreshold : Int) (b2 : Bool) (l : List Int) : Int × Int × Bool × List Int → Ex × St
  | (r1, r2, r3, r4) => (.normal, ⟨[(0, (.av (.one (.own 0 0 data false)))), (1, (.av (.one (.pv (.int .i64 r1))))), (2, (.av (.one (.pv (.int .i64 r2))))), (3, (.av (.one (.pv (.int .i64 limit))))), (8, (.av (.one (.pv (.bool r3))))), (9, (.av (.one (.pv (.bool wasPartitioned)))))], [], [(0, (.live (.ints .u64 r4)))]⟩)
noncomputable def slices_pdqsortOrdered_uint64_C113_5 (rec_slices_pdqsortOrdered_uint64_2 : Nat → Int → Int → Int → List Int → Option (List Int)) (data : Nat) (a : Int) (b : Int) (limit : Int) (wasPartitioned : Bool) (mid : Int) (leftLen : Int) (rightLen : Int) (balanceThreshold : Int) (b2 : Bool) (l : List Int) : Option (Int × Int × Bool × List Int) :=
  bif b2 then
    (rec_slices_pdqsortOrdered_uint64_2 data a mid limit l).bind fun l_ =>
    some ((iadd .i64 mid 1), b, (decide ((balanceThreshold : Int) ≤ leftLen)), l_)
  else
    (rec_slices_pdqsortOrdered_uint64_2 data (iadd .i64 mid 1) b limit l).bind fun l_ =>
    some (a, mid, (decide ((balanceThreshold : Int) ≤ rightLen)), l_)
theorem slices_pdqsortOrdered_uint64_C113_5_runs (rec_slices_pdqsortOrdered_uint64_2 : Nat → Int → Int → Int → List Int → Option (List Int)) (hrec_slices_pdqsortOrdered_uint64_2 : ∀ data a b limit l r_, rec_slices_pdqsortOrdered_uint64_2 data a b limit l = some r_ → RunsI Try.prog 92 [(.one (.own 0 0 data false)), (.one (.pv (.int .i64 a))), (.one (.pv (.int .i64 b))), (.one (.pv (.int .i64 limit)))] [] [(.ints .u64 l)] (slices_pdqsortOrdered_uint64_2_out data a b limit l r_)) (data : Nat) (a : Int) (b : Int) (limit : Int) (wasPartitioned : Bool) (mid : Int) (leftLen : Int) (rightLen : Int) (balanceThreshold : Int) (b2 : Bool) (l : List Int) (r_ : Int × Int × Bool × List Int) (h : slices_pdqsortOrdered_uint64_C113_5 rec_slices_pdqsortOrdered_uint64_2 data a b limit wasPartitioned mid leftLen rightLen balanceThreshold b2 l = some r_) : LRuns Try.prog (lEnv Try.prog cfg 92 1000).nt 1000 (.cond (.tmp 113) (condAt Try.prog 92 113).1 (condAt Try.prog 92 113).2) ⟨[(0, (.av (.one (.own 0 0 data false)))), (1, (.av (.one (.pv (.int .i64 a))))), (2, (.av (.one (.pv (.int .i64 b))))), (3, (.av (.one (.pv (.int .i64 limit))))), (9, (.av (.one (.pv (.bool wasPartitioned))))), (14, (.av (.one (.pv (.int .i64 mid))))), (16, (.av (.one (.pv (.int .i64 leftLen))))), (17, (.av (.one (.pv (.int .i64 rightLen))))), (18, (.av (.one (.pv (.int .i64 balanceThreshold))))), (113, (.av (.one (.pv (.bool b2)))))], [], [(0, (.live (.ints .u64 l)))]⟩ (slices_pdqsortOrdered_uint64_C113_5_ex data a b limit wasPartitioned mid leftLen rightLen balanceThreshold b2 l r_).1 (slices_pdqsortOrdered_uint64_C113_5_ex data a b limit wasPartitioned mid leftLen rightLen balanceThreshold b2 l r_).2 := by
  unfold slices_pdqsortOrdered_uint64_C113_5 at h
  rcases cond_of h with ⟨h1, h⟩ | ⟨h1, h⟩
  · obtain ⟨l_, h2, h⟩ := bind_of h
    have h := some_of h
    subst h
    have t_ := tT h1 <| tE (.el []) <| tE (.res (slices_pdqsortOrdered_uint64_2_out data a mid limit l l_)) <| tO (hrec_slices_pdqsortOrdered_uint64_2 data a mid limit l _ h2) <| tN
    exact piece_ok (C := cfg) (sc := t_.ev) (.k0 t_.pf (by kernel_rfl))
  · obtain ⟨l_, h2, h⟩ := bind_of h
    have h := some_of h
    subst h
    have t_ := tF h1 <| tE (.el []) <| tE (.res (slices_pdqsortOrdered_uint64_2_out data (iadd .i64 mid 1) b limit l l_)) <| tO (hrec_slices_pdqsortOrdered_uint64_2 data (iadd .i64 mid 1) b limit l _ h2) <| tN
    exact piece_ok (C := cfg) (sc := t_.ev) (.k0 t_.pf (by kernel_rfl))
/-! ### slices_breakPatternsOrdered_uint64_out -/
def slices_breakPatternsOrdered_uint64_out (data : Nat) (a : Int) (b : Int) (l : List Int) : List Int → Res
  | r1 => ([], [], [(.ints .u64 r1)])
/-! ### slices_nextPowerOfTwo_out -/
def slices_nextPowerOfTwo_out (length : Int) : Int → Res
  | r1 => ([(.one (.pv (.int .u64 r1)))], [], [])
/-! ### slices_nextPowerOfTwo -/
noncomputable def slices_nextPowerOfTwo (length : Int) : Option (Int) :=
  (bits_Len (IntKind.u64.wrap length)).bind fun n =>
  bif decide ((0 : Int) ≤ n) then
  some (ishl .u64 1 n)
  else none
theorem slices_nextPowerOfTwo_runs (length : Int) (r_ : Int) (h : slices_nextPowerOfTwo length = some r_) : Runs Try.prog 112 [(.one (.pv (.int .i64 length)))] [] [] (slices_nextPowerOfTwo_out length r_) := by
  unfold slices_nextPowerOfTwo at h
  obtain ⟨n, h1, h⟩ := bind_of h
  obtain ⟨h2, h⟩ := need_of h
  have h := some_of h
  subst h
  have t_ := tR (bits_Len_runs (IntKind.u64.wrap length) _ h1) <| tO h2 <| tN
  exact runs_of (C := cfg) (objs := []) (sc := t_.ev) (.k0 t_.pf (by kernel_rfl))
/-! ### slices_xorshift_Next_out -/
def slices_xorshift_Next_out (n : Int) : Int × Int → Res
  | (r1, r2) => ([(.one (.pv (.int .u64 r1)))], [[(.pv (.int .u64 r2))]], [])
/-! ### slices_xorshift_Next -/
noncomputable def slices_xorshift_Next (n : Int) : Option (Int × Int) :=
  some ((ixor .u64 (ixor .u64 (ixor .u64 n (ishl .u64 n 13)) (ishr .u64 (ixor .u64 n (ishl .u64 n 13)) 7)) (ishl .u64 (ixor .u64 (ixor .u64 n (ishl .u64 n 13)) (ishr .u64 (ixor .u64 n (ishl .u64 n 13)) 7)) 17)), (ixor .u64 (ixor .u64 (ixor .u64 n (ishl .u64 n 13)) (ishr .u64 (ixor .u64 n (ishl .u64 n 13)) 7)) (ishl .u64 (ixor .u64 (ixor .u64 n (ishl .u64 n 13)) (ishr .u64 (ixor .u64 n (ishl .u64 n 13)) 7)) 17)))
theorem slices_xorshift_Next_runs (n : Int) (r_ : Int × Int) (h : slices_xorshift_Next n = some r_) : Runs Try.prog 113 [(.one (.ref 0 0))] [[(.pv (.int .u64 n))]] [] (slices_xorshift_Next_out n r_) := by
  unfold slices_xorshift_Next at h
  have h := some_of h
  subst h
  have t_ := tO (rfl : true = true) <| tO (rfl : true = true) <| tO (rfl : true = true) <| tO (rfl : true = true) <| tO (rfl : true = true) <| tO (rfl : true = true) <| tN
  exact runs_of (C := cfg) (objs := [[(.pv (.int .u64 n))]]) (sc := t_.ev) (.k1 t_.pf (by kernel_rfl) (by kernel_rfl))

end Go.Proofs.Ytgimaogkhblaiaa
