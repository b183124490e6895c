/- What functions compute, and that they do. -/
import Derived.Test.YtgimaogkhblaiaaA1
set_option linter.unusedVariables false
set_option linter.unusedSimpArgs false
set_option maxRecDepth 100000
namespace Go.Proofs.Ytgimaogkhblaiaa
open Go.Ev

/-! ### slices_breakPatternsOrdered_uint64_L0 -/
def slices_breakPatternsOrdered_uint64_L0_st (data : Nat) (a : Int) (length : Int) (modulus : Int) : Int × Int × List Int → St
  | (idx_, n, l) => ⟨[(0, (.av (.one (.own 0 0 data false)))), (1, (.av (.one (.pv (.int .i64 a))))), (6, (.av (.one (.pv (.int .i64 length))))), (7, (.av (.one (.ref 0 0)))), (8, (.av (.one (.pv (.int .u64 modulus))))), (9, (.av (.one (.pv (.int .i64 idx_)))))], [(0, [(.pv (.int .u64 n))])], [(0, (.live (.ints .u64 l)))]⟩
def slices_breakPatternsOrdered_uint64_L0_ex (data : Nat) (a : Int) (length : Int) (modulus : Int) : Int × List Int → Ex × St
  | (r1, r2) => ((.exit 0), ⟨[], [(0, [(.pv (.int .u64 r1))])], [(0, (.live (.ints .u64 r2)))]⟩)
noncomputable def slices_breakPatternsOrdered_uint64_L0_step (data : Nat) (a : Int) (length : Int) (modulus : Int) : Int × Int × List Int → Option ((Int × Int × List Int) ⊕ (Int × List Int))
  | (idx_, n, l) =>
  bif (decide ((idx_ : Int) ≤ (iadd .i64 (iadd .i64 a (imul .i64 (iquo .i64 length 4) 2)) 1))) then
    (slices_xorshift_Next n).bind fun (n2, n3) =>
    bif (decide ((length : Int) ≤ (IntKind.i64.wrap (iand .u64 n2 (isub .u64 modulus 1))))) then
      bif decide ((0 : Int) ≤ (iadd .i64 a (isub .i64 (IntKind.i64.wrap (iand .u64 n2 (isub .u64 modulus 1))) length))) && decide (((iadd .i64 a (isub .i64 (IntKind.i64.wrap (iand .u64 n2 (isub .u64 modulus 1))) length)) : Int) < (data : Int)) then
      bif decide ((0 : Int) ≤ idx_) && decide ((idx_ : Int) < (data : Int)) then
      some (.inl ((iadd .i64 idx_ 1), n3, ((l.set (0 + (idx_).toNat) (l.getD (0 + ((iadd .i64 a (isub .i64 (IntKind.i64.wrap (iand .u64 n2 (isub .u64 modulus 1))) length))).toNat) 0)).set (0 + ((iadd .i64 a (isub .i64 (IntKind.i64.wrap (iand .u64 n2 (isub .u64 modulus 1))) length))).toNat) (l.getD (0 + (idx_).toNat) 0))))
      else none
      else none
    else
      bif decide ((0 : Int) ≤ (iadd .i64 a (IntKind.i64.wrap (iand .u64 n2 (isub .u64 modulus 1))))) && decide (((iadd .i64 a (IntKind.i64.wrap (iand .u64 n2 (isub .u64 modulus 1)))) : Int) < (data : Int)) then
      bif decide ((0 : Int) ≤ idx_) && decide ((idx_ : Int) < (data : Int)) then
      some (.inl ((iadd .i64 idx_ 1), n3, ((l.set (0 + (idx_).toNat) (l.getD (0 + ((iadd .i64 a (IntKind.i64.wrap (iand .u64 n2 (isub .u64 modulus 1))))).toNat) 0)).set (0 + ((iadd .i64 a (IntKind.i64.wrap (iand .u64 n2 (isub .u64 modulus 1))))).toNat) (l.getD (0 + (idx_).toNat) 0))))
      else none
      else none
  else
    some (.inr (n, l))
theorem slices_breakPatternsOrdered_uint64_L0_ok (data : Nat) (a : Int) (length : Int) (modulus : Int) (s_ : Int × Int × List Int) (z_ : (Int × Int × List Int) ⊕ (Int × List Int)) (h : slices_breakPatternsOrdered_uint64_L0_step data a length modulus s_ = some z_) : RoundOk Try.prog cfg 100 1000 (loopAt Try.prog 100 0) (slices_breakPatternsOrdered_uint64_L0_st data a length modulus) (slices_breakPatternsOrdered_uint64_L0_ex data a length modulus) s_ z_ := by
  rcases s_ with ⟨idx_, n, l⟩
  rcases cond_of h with ⟨h1, h⟩ | ⟨h1, h⟩
  · obtain ⟨⟨n2, n3⟩, h2, h⟩ := bind_of h
    rcases cond_of h with ⟨h3, h⟩ | ⟨h3, h⟩
    · obtain ⟨h4, h⟩ := need_of h
      obtain ⟨h5, h⟩ := need_of h
      have h := some_of h
      subst h
      have t_ := tO (rfl : true = true) <| tT h1 <| tR (slices_xorshift_Next_runs n _ h2) <| tT h3 <| tO h4 <| tO h5 <| tO h5 <| tO h4 <| tN
      exact ⟨t_.ev, slices_breakPatternsOrdered_uint64_L0_st data a length modulus ((iadd .i64 idx_ 1), n3, ((l.set (0 + (idx_).toNat) (l.getD (0 + ((iadd .i64 a (isub .i64 (IntKind.i64.wrap (iand .u64 n2 (isub .u64 modulus 1))) length))).toNat) 0)).set (0 + ((iadd .i64 a (isub .i64 (IntKind.i64.wrap (iand .u64 n2 (isub .u64 modulus 1))) length))).toNat) (l.getD (0 + (idx_).toNat) 0))), .k1 t_.pf (by kernel_rfl) (by kernel_rfl), .same (by kernel_rfl)⟩
    · obtain ⟨h4, h⟩ := need_of h
      obtain ⟨h5, h⟩ := need_of h
      have h := some_of h
      subst h
      have t_ := tO (rfl : true = true) <| tT h1 <| tR (slices_xorshift_Next_runs n _ h2) <| tF h3 <| tO h4 <| tO h5 <| tO h5 <| tO h4 <| tN
      exact ⟨t_.ev, slices_breakPatternsOrdered_uint64_L0_st data a length modulus ((iadd .i64 idx_ 1), n3, ((l.set (0 + (idx_).toNat) (l.getD (0 + ((iadd .i64 a (IntKind.i64.wrap (iand .u64 n2 (isub .u64 modulus 1))))).toNat) 0)).set (0 + ((iadd .i64 a (IntKind.i64.wrap (iand .u64 n2 (isub .u64 modulus 1))))).toNat) (l.getD (0 + (idx_).toNat) 0))), .k1 t_.pf (by kernel_rfl) (by kernel_rfl), .same (by kernel_rfl)⟩
  · have h := some_of h
    subst h
    have t_ := tO (rfl : true = true) <| tF h1 <| tN
    exact ⟨t_.ev, ⟨[(33, (.av (.one (.pv (.bool false))))), (0, (.av (.one (.own 0 0 data false)))), (1, (.av (.one (.pv (.int .i64 a))))), (6, (.av (.one (.pv (.int .i64 length))))), (7, (.av (.one (.ref 0 0)))), (8, (.av (.one (.pv (.int .u64 modulus))))), (9, (.av (.one (.pv (.int .i64 idx_))))), (33, (.av (.one (.pv (.bool (decide ((idx_ : Int) ≤ (iadd .i64 (iadd .i64 a (imul .i64 (iquo .i64 length 4) 2)) 1))))))))], [(0, [(.pv (.int .u64 n))])], [(0, (.live (.ints .u64 l)))]⟩, .k0 t_.pf (by kernel_rfl), ⟨trivial, ⟨⟨rfl, ⟨.eq rfl, trivial⟩⟩, trivial⟩, ⟨⟨rfl, .eq rfl⟩, trivial⟩⟩⟩
theorem slices_breakPatternsOrdered_uint64_L0_runs (data : Nat) (a : Int) (length : Int) (modulus : Int) (s_ : Int × Int × List Int) (r_ : Int × List Int) (h : runL (slices_breakPatternsOrdered_uint64_L0_step data a length modulus) s_ = some r_) : LRuns Try.prog (lEnv Try.prog cfg 100 1000).nt 1000 (.loop (loopAt Try.prog 100 0)) (slices_breakPatternsOrdered_uint64_L0_st data a length modulus s_) (slices_breakPatternsOrdered_uint64_L0_ex data a length modulus r_).1 (slices_breakPatternsOrdered_uint64_L0_ex data a length modulus r_).2 :=
  loop_run h (slices_breakPatternsOrdered_uint64_L0_ok data a length modulus) (by intro r_; rcases r_ with ⟨r1, r2⟩ <;> simp [slices_breakPatternsOrdered_uint64_L0_ex])
/-! ### slices_breakPatternsOrdered_uint64 -/
noncomputable def slices_breakPatternsOrdered_uint64 (data : Nat) (a : Int) (b : Int) (l : List Int) : Option (List Int) :=
  bif (decide ((8 : Int) ≤ (isub .i64 b a))) then
    (slices_nextPowerOfTwo (isub .i64 b a)).bind fun n =>
    (runL (slices_breakPatternsOrdered_uint64_L0_step data a (isub .i64 b a) n) ((isub .i64 (iadd .i64 a (imul .i64 (iquo .i64 (isub .i64 b a) 4) 2)) 1), (IntKind.u64.wrap (isub .i64 b a)), l)).bind fun (n2, l_) =>
    some l_
  else
    some l
theorem slices_breakPatternsOrdered_uint64_runs (data : Nat) (a : Int) (b : Int) (l : List Int) (r_ : List Int) (h : slices_breakPatternsOrdered_uint64 data a b l = some r_) : RunsI Try.prog 100 [(.one (.own 0 0 data false)), (.one (.pv (.int .i64 a))), (.one (.pv (.int .i64 b)))] [] [(.ints .u64 l)] (slices_breakPatternsOrdered_uint64_out data a b l r_) := by
  unfold slices_breakPatternsOrdered_uint64 at h
  rcases cond_of h with ⟨h1, h⟩ | ⟨h1, h⟩
  · obtain ⟨n, h2, h⟩ := bind_of h
    obtain ⟨⟨n2, l_⟩, h3, h⟩ := bind_of h
    have h := some_of h
    subst h
    have t_ := tT h1 <| tR (slices_nextPowerOfTwo_runs (isub .i64 b a) _ h2) <| tO (rfl : true = true) <| tL (slices_breakPatternsOrdered_uint64_L0_runs data a (isub .i64 b a) n _ _ h3) <| tN
    exact runsI_of (C := cfg) (objs := []) (rows := [(.ints .u64 l)]) (sc := t_.ev) (.k0 t_.pf (by kernel_rfl))
  · have h := some_of h
    subst h
    have t_ := tF h1 <| tN
    exact runsI_of (C := cfg) (objs := []) (rows := [(.ints .u64 l)]) (sc := t_.ev) (.k0 t_.pf (by kernel_rfl))
/-! ### slices_pdqsortOrdered_uint64_C35 -/
def slices_pdqsortOrdered_uint64_C35_ex (data : Nat) (a : Int) (b : Int) (limit : Int) (wasBalanced : Bool) (wasPartitioned : Bool) (length : Int) (b2 : Bool) (l : List Int) : Int × List Int → Ex × St
  | (r1, r2) => (.normal, ⟨[(0, (.av (.one (.own 0 0 data false)))), (1, (.av (.one (.pv (.int .i64 a))))), (2, (.av (.one (.pv (.int .i64 b))))), (3, (.av (.one (.pv (.int .i64 r1))))), (8, (.av (.one (.pv (.bool wasBalanced))))), (9, (.av (.one (.pv (.bool wasPartitioned))))), (10, (.av (.one (.pv (.int .i64 length)))))], [], [(0, (.live (.ints .u64 r2)))]⟩)
noncomputable def slices_pdqsortOrdered_uint64_C35 (data : Nat) (a : Int) (b : Int) (limit : Int) (wasBalanced : Bool) (wasPartitioned : Bool) (length : Int) (b2 : Bool) (l : List Int) : Option (Int × List Int) :=
  bif b2 then
    (slices_breakPatternsOrdered_uint64 data a b l).bind fun l_ =>
    some ((isub .i64 limit 1), l_)
  else
    some (limit, l)
theorem slices_pdqsortOrdered_uint64_C35_runs (data : Nat) (a : Int) (b : Int) (limit : Int) (wasBalanced : Bool) (wasPartitioned : Bool) (length : Int) (b2 : Bool) (l : List Int) (r_ : Int × List Int) (h : slices_pdqsortOrdered_uint64_C35 data a b limit wasBalanced wasPartitioned length b2 l = some r_) : LRuns Try.prog (lEnv Try.prog cfg 92 1000).nt 1000 (.cond (.tmp 35) (condAt Try.prog 92 35).1 (condAt Try.prog 92 35).2) ⟨[(0, (.av (.one (.own 0 0 data false)))), (1, (.av (.one (.pv (.int .i64 a))))), (2, (.av (.one (.pv (.int .i64 b))))), (3, (.av (.one (.pv (.int .i64 limit))))), (8, (.av (.one (.pv (.bool wasBalanced))))), (9, (.av (.one (.pv (.bool wasPartitioned))))), (10, (.av (.one (.pv (.int .i64 length))))), (35, (.av (.one (.pv (.bool b2)))))], [], [(0, (.live (.ints .u64 l)))]⟩ (slices_pdqsortOrdered_uint64_C35_ex data a b limit wasBalanced wasPartitioned length b2 l r_).1 (slices_pdqsortOrdered_uint64_C35_ex data a b limit wasBalanced wasPartitioned length b2 l r_).2 := by
  unfold slices_pdqsortOrdered_uint64_C35 at h
  rcases cond_of h with ⟨h1, h⟩ | ⟨h1, h⟩
  · obtain ⟨l_, h2, h⟩ := bind_of h
    have h := some_of h
    subst h
    have t_ := tT h1 <| tE (.el []) <| tE (.res (slices_breakPatternsOrdered_uint64_out data a b l l_)) <| tO (slices_breakPatternsOrdered_uint64_runs data a b l _ h2) <| tN
    exact piece_ok (C := cfg) (sc := t_.ev) (.k0 t_.pf (by kernel_rfl))
  · have h := some_of h
    subst h
    have t_ := tF h1 <| tN
    exact piece_ok (C := cfg) (sc := t_.ev) (.k0 t_.pf (by kernel_rfl))
/-! ### slices_pdqsortOrdered_uint64_C50_2 -/
def slices_pdqsortOrdered_uint64_C50_2_ex (data : Nat) (a : Int) (b : Int) (limit : Int) (wasBalanced : Bool) (wasPartitioned : Bool) (length : Int) (pivot : Int) (hint : Int) (b2 : Bool) (l : List Int) : Int × Int × List Int → Ex × St
  | (r1, r2, r3) => (.normal, ⟨[(0, (.av (.one (.own 0 0 data false)))), (1, (.av (.one (.pv (.int .i64 a))))), (2, (.av (.one (.pv (.int .i64 b))))), (3, (.av (.one (.pv (.int .i64 limit))))), (8, (.av (.one (.pv (.bool wasBalanced))))), (9, (.av (.one (.pv (.bool wasPartitioned))))), (10, (.av (.one (.pv (.int .i64 length))))), (11, (.av (.one (.pv (.int .i64 r1))))), (12, (.av (.one (.pv (.int .i64 r2)))))], [], [(0, (.live (.ints .u64 r3)))]⟩)
noncomputable def slices_pdqsortOrdered_uint64_C50_2 (data : Nat) (a : Int) (b : Int) (limit : Int) (wasBalanced : Bool) (wasPartitioned : Bool) (length : Int) (pivot : Int) (hint : Int) (b2 : Bool) (l : List Int) : Option (Int × Int × List Int) :=
  bif b2 then
    (slices_reverseRangeOrdered_uint64 data a b l).bind fun l_ =>
    some ((isub .i64 (isub .i64 b 1) (isub .i64 pivot a)), 1, l_)
  else
    some (pivot, hint, l)
theorem slices_pdqsortOrdered_uint64_C50_2_runs (data : Nat) (a : Int) (b : Int) (limit : Int) (wasBalanced : Bool) (wasPartitioned : Bool) (length : Int) (pivot : Int) (hint : Int) (b2 : Bool) (l : List Int) (r_ : Int × Int × List Int) (h : slices_pdqsortOrdered_uint64_C50_2 data a b limit wasBalanced wasPartitioned length pivot hint b2 l = some r_) : LRuns Try.prog (lEnv Try.prog cfg 92 1000).nt 1000 (.cond (.tmp 50) (condAt Try.prog 92 50).1 (condAt Try.prog 92 50).2) ⟨[(0, (.av (.one (.own 0 0 data false)))), (1, (.av (.one (.pv (.int .i64 a))))), (2, (.av (.one (.pv (.int .i64 b))))), (3, (.av (.one (.pv (.int .i64 limit))))), (8, (.av (.one (.pv (.bool wasBalanced))))), (9, (.av (.one (.pv (.bool wasPartitioned))))), (10, (.av (.one (.pv (.int .i64 length))))), (11, (.av (.one (.pv (.int .i64 pivot))))), (12, (.av (.one (.pv (.int .i64 hint))))), (50, (.av (.one (.pv (.bool b2)))))], [], [(0, (.live (.ints .u64 l)))]⟩ (slices_pdqsortOrdered_uint64_C50_2_ex data a b limit wasBalanced wasPartitioned length pivot hint b2 l r_).1 (slices_pdqsortOrdered_uint64_C50_2_ex data a b limit wasBalanced wasPartitioned length pivot hint b2 l r_).2 := by
  unfold slices_pdqsortOrdered_uint64_C50_2 at h
  rcases cond_of h with ⟨h1, h⟩ | ⟨h1, h⟩
  · obtain ⟨l_, h2, h⟩ := bind_of h
    have h := some_of h
    subst h
    have t_ := tT h1 <| tE (.el []) <| tE (.res (slices_reverseRangeOrdered_uint64_out data a b l l_)) <| tO (slices_reverseRangeOrdered_uint64_runs data a b l _ h2) <| tN
    exact piece_ok (C := cfg) (sc := t_.ev) (.k0 t_.pf (by kernel_rfl))
  · have h := some_of h
    subst h
    have t_ := tF h1 <| tN
    exact piece_ok (C := cfg) (sc := t_.ev) (.k0 t_.pf (by kernel_rfl))
/-! ### slices_pdqsortOrdered_uint64_C68_2 -/
def slices_pdqsortOrdered_uint64_C68_2_ex (data : Nat) (a : Int) (b : Int) (limit : Int) (wasBalanced : Bool) (wasPartitioned : Bool) (length : Int) (pivot : Int) (b2 : Bool) (l : List Int) : (List Int) ⊕ (List Int) → Ex × St
  | .inl r1 => (.ret, ⟨[], [], [(0, (.live (.ints .u64 r1)))]⟩)
  | .inr r1 => (.normal, ⟨[(0, (.av (.one (.own 0 0 data false)))), (1, (.av (.one (.pv (.int .i64 a))))), (2, (.av (.one (.pv (.int .i64 b))))), (3, (.av (.one (.pv (.int .i64 limit))))), (8, (.av (.one (.pv (.bool wasBalanced))))), (9, (.av (.one (.pv (.bool wasPartitioned))))), (10, (.av (.one (.pv (.int .i64 length))))), (11, (.av (.one (.pv (.int .i64 pivot)))))], [], [(0, (.live (.ints .u64 r1)))]⟩)
noncomputable def slices_pdqsortOrdered_uint64_C68_2 (data : Nat) (a : Int) (b : Int) (limit : Int) (wasBalanced : Bool) (wasPartitioned : Bool) (length : Int) (pivot : Int) (b2 : Bool) (l : List Int) : Option ((List Int) ⊕ (List Int)) :=
  bif b2 then
    (slices_partialInsertionSortOrdered_uint64 data a b l).bind fun (b3, l_) =>
    bif b3 then
      some (.inl l_)
    else
      some (.inr l_)
  else
    some (.inr l)
theorem slices_pdqsortOrdered_uint64_C68_2_runs (data : Nat) (a : Int) (b : Int) (limit : Int) (wasBalanced : Bool) (wasPartitioned : Bool) (length : Int) (pivot : Int) (b2 : Bool) (l : List Int) (r_ : (List Int) ⊕ (List Int)) (h : slices_pdqsortOrdered_uint64_C68_2 data a b limit wasBalanced wasPartitioned length pivot b2 l = some r_) : LRuns Try.prog (lEnv Try.prog cfg 92 1000).nt 1000 (.cond (.tmp 68) (condAt Try.prog 92 68).1 (condAt Try.prog 92 68).2) ⟨[(0, (.av (.one (.own 0 0 data false)))), (1, (.av (.one (.pv (.int .i64 a))))), (2, (.av (.one (.pv (.int .i64 b))))), (3, (.av (.one (.pv (.int .i64 limit))))), (8, (.av (.one (.pv (.bool wasBalanced))))), (9, (.av (.one (.pv (.bool wasPartitioned))))), (10, (.av (.one (.pv (.int .i64 length))))), (11, (.av (.one (.pv (.int .i64 pivot))))), (68, (.av (.one (.pv (.bool b2)))))], [], [(0, (.live (.ints .u64 l)))]⟩ (slices_pdqsortOrdered_uint64_C68_2_ex data a b limit wasBalanced wasPartitioned length pivot b2 l r_).1 (slices_pdqsortOrdered_uint64_C68_2_ex data a b limit wasBalanced wasPartitioned length pivot b2 l r_).2 := by
  unfold slices_pdqsortOrdered_uint64_C68_2 at h
  rcases cond_of h with ⟨h1, h⟩ | ⟨h1, h⟩
  · obtain ⟨⟨b3, l_⟩, h2, h⟩ := bind_of h
    have q_2 := (slices_partialInsertionSortOrdered_uint64_runs data a b l _ h2)
    rcases cond_of h with ⟨h3, h⟩ | ⟨h3, h⟩
    · have h := some_of h
      subst h
      have t_ := tT h1 <| tE (.el []) <| tE (.res (slices_partialInsertionSortOrdered_uint64_out data a b l (b3, l_))) <| tO q_2 <| tT h3 <| tN
      exact piece_run (C := cfg) (s1 := ⟨[(72, (.av (.one (.pv (.bool true))))), (0, (.av (.one (.own 0 0 data false)))), (1, (.av (.one (.pv (.int .i64 a))))), (2, (.av (.one (.pv (.int .i64 b))))), (3, (.av (.one (.pv (.int .i64 limit))))), (8, (.av (.one (.pv (.bool wasBalanced))))), (9, (.av (.one (.pv (.bool wasPartitioned))))), (10, (.av (.one (.pv (.int .i64 length))))), (11, (.av (.one (.pv (.int .i64 pivot))))), (72, (.av (.one (.pv (.bool b3)))))], [], [(0, (.live (.ints .u64 l_)))]⟩) (sc := t_.ev) (.k0 t_.pf (by kernel_rfl)) ⟨trivial, trivial, ⟨⟨rfl, .eq rfl⟩, trivial⟩⟩
    · have h := some_of h
      subst h
      have t_ := tT h1 <| tE (.el []) <| tE (.res (slices_partialInsertionSortOrdered_uint64_out data a b l (b3, l_))) <| tO q_2 <| tF h3 <| tN
      exact piece_ok (C := cfg) (sc := t_.ev) (.k0 t_.pf (by kernel_rfl))
  · have h := some_of h
    subst h
    have t_ := tF h1 <| tN
    exact piece_ok (C := cfg) (sc := t_.ev) (.k0 t_.pf (by kernel_rfl))
/-! ### slices_pdqsortOrdered_uint64_L0_2 -/
def slices_pdqsortOrdered_uint64_L0_2_st (data : Nat) : Int × Int × Int × Bool × Bool × List Int → St
  | (a, b, limit, wasBalanced, wasPartitioned, l) => ⟨[(0, (.av (.one (.own 0 0 data false)))), (1, (.av (.one (.pv (.int .i64 a))))), (2, (.av (.one (.pv (.int .i64 b))))), (3, (.av (.one (.pv (.int .i64 limit))))), (8, (.av (.one (.pv (.bool wasBalanced))))), (9, (.av (.one (.pv (.bool wasPartitioned)))))], [], [(0, (.live (.ints .u64 l)))]⟩
def slices_pdqsortOrdered_uint64_L0_2_ex (data : Nat) : List Int → Ex × St
  | r1 => (.ret, ⟨[], [], [(0, (.live (.ints .u64 r1)))]⟩)
noncomputable def slices_pdqsortOrdered_uint64_L0_2_step (rec_slices_pdqsortOrdered_uint64_2 : Nat → Int → Int → Int → List Int → Option (List Int)) (data : Nat) : Int × Int × Int × Bool × Bool × List Int → Option ((Int × Int × Int × Bool × Bool × List Int) ⊕ (List Int))
  | (a, b, limit, wasBalanced, wasPartitioned, l) =>
  bif (decide (((isub .i64 b a) : Int) ≤ 12)) then
    (slices_insertionSortOrdered_uint64 data a b l).bind fun l_ =>
    some (.inr l_)
  else
    bif (decide ((limit : Int) = 0)) then
      (slices_heapSortOrdered_uint64 data a b l).bind fun l_ =>
      some (.inr l_)
    else
      (slices_pdqsortOrdered_uint64_C35 data a b limit wasBalanced wasPartitioned (isub .i64 b a) (!wasBalanced) l).bind fun (n, l_) =>
      (slices_choosePivotOrdered_uint64 (List.take data l_) a b).bind fun (n2, n3) =>
      (slices_pdqsortOrdered_uint64_C50_2 data a b n wasBalanced wasPartitioned (isub .i64 b a) n2 n3 (decide ((n3 : Int) = 2)) l_).bind fun (n4, n5, l_2) =>
      bif wasBalanced then
        bif wasPartitioned then
          (slices_pdqsortOrdered_uint64_C68_2 data a b n wasBalanced wasPartitioned (isub .i64 b a) n4 (decide ((n5 : Int) = 1)) l_2).bind fun z_ => match z_ with
          | .inl l_3 =>
            some (.inr l_3)
          | .inr l_3 =>
            bif (decide ((0 : Int) < a)) then
              bif decide ((0 : Int) ≤ (isub .i64 a 1)) && decide (((isub .i64 a 1) : Int) < (data : Int)) then
              bif decide ((0 : Int) ≤ n4) && decide ((n4 : Int) < (data : Int)) then
              (cmp_Less_uint64 (l_3.getD (0 + ((isub .i64 a 1)).toNat) 0) (l_3.getD (0 + (n4).toNat) 0)).bind fun b2 =>
              bif b2 then
                (slices_partitionOrdered_uint64 data a b n4 l_3).bind fun (n6, b3, l_4) =>
                (slices_pdqsortOrdered_uint64_C113_5 rec_slices_pdqsortOrdered_uint64_2 data a b n b3 n6 (isub .i64 n6 a) (isub .i64 b n6) (iquo .i64 (isub .i64 b a) 8) (decide (((isub .i64 n6 a) : Int) < (isub .i64 b n6))) l_4).bind fun (n7, n8, b4, l_5) =>
                some (.inl (n7, n8, n, b4, b3, l_5))
              else
                (slices_partitionEqualOrdered_uint64 data a b n4 l_3).bind fun (n6, l_4) =>
                some (.inl (n6, b, n, wasBalanced, wasPartitioned, l_4))
              else none
              else none
            else
              (slices_partitionOrdered_uint64 data a b n4 l_3).bind fun (n6, b2, l_4) =>
              (slices_pdqsortOrdered_uint64_C113_5 rec_slices_pdqsortOrdered_uint64_2 data a b n b2 n6 (isub .i64 n6 a) (isub .i64 b n6) (iquo .i64 (isub .i64 b a) 8) (decide (((isub .i64 n6 a) : Int) < (isub .i64 b n6))) l_4).bind fun (n7, n8, b3, l_5) =>
              some (.inl (n7, n8, n, b3, b2, l_5))
        else
          bif (decide ((0 : Int) < a)) then
            bif decide ((0 : Int) ≤ (isub .i64 a 1)) && decide (((isub .i64 a 1) : Int) < (data : Int)) then
            bif decide ((0 : Int) ≤ n4) && decide ((n4 : Int) < (data : Int)) then
            (cmp_Less_uint64 (l_2.getD (0 + ((isub .i64 a 1)).toNat) 0) (l_2.getD (0 + (n4).toNat) 0)).bind fun b2 =>
            bif b2 then
              (slices_partitionOrdered_uint64 data a b n4 l_2).bind fun (n6, b3, l_3) =>
              (slices_pdqsortOrdered_uint64_C113_5 rec_slices_pdqsortOrdered_uint64_2 data a b n b3 n6 (isub .i64 n6 a) (isub .i64 b n6) (iquo .i64 (isub .i64 b a) 8) (decide (((isub .i64 n6 a) : Int) < (isub .i64 b n6))) l_3).bind fun (n7, n8, b4, l_4) =>
              some (.inl (n7, n8, n, b4, b3, l_4))
            else
              (slices_partitionEqualOrdered_uint64 data a b n4 l_2).bind fun (n6, l_3) =>
              some (.inl (n6, b, n, wasBalanced, wasPartitioned, l_3))
            else none
            else none
          else
            (slices_partitionOrdered_uint64 data a b n4 l_2).bind fun (n6, b2, l_3) =>
            (slices_pdqsortOrdered_uint64_C113_5 rec_slices_pdqsortOrdered_uint64_2 data a b n b2 n6 (isub .i64 n6 a) (isub .i64 b n6) (iquo .i64 (isub .i64 b a) 8) (decide (((isub .i64 n6 a) : Int) < (isub .i64 b n6))) l_3).bind fun (n7, n8, b3, l_4) =>
            some (.inl (n7, n8, n, b3, b2, l_4))
      else
        bif (decide ((0 : Int) < a)) then
          bif decide ((0 : Int) ≤ (isub .i64 a 1)) && decide (((isub .i64 a 1) : Int) < (data : Int)) then
          bif decide ((0 : Int) ≤ n4) && decide ((n4 : Int) < (data : Int)) then
          (cmp_Less_uint64 (l_2.getD (0 + ((isub .i64 a 1)).toNat) 0) (l_2.getD (0 + (n4).toNat) 0)).bind fun b2 =>
          bif b2 then
            (slices_partitionOrdered_uint64 data a b n4 l_2).bind fun (n6, b3, l_3) =>
            (slices_pdqsortOrdered_uint64_C113_5 rec_slices_pdqsortOrdered_uint64_2 data a b n b3 n6 (isub .i64 n6 a) (isub .i64 b n6) (iquo .i64 (isub .i64 b a) 8) (decide (((isub .i64 n6 a) : Int) < (isub .i64 b n6))) l_3).bind fun (n7, n8, b4, l_4) =>
            some (.inl (n7, n8, n, b4, b3, l_4))
          else
            (slices_partitionEqualOrdered_uint64 data a b n4 l_2).bind fun (n6, l_3) =>
            some (.inl (n6, b, n, wasBalanced, wasPartitioned, l_3))
          else none
          else none
        else
          (slices_partitionOrdered_uint64 data a b n4 l_2).bind fun (n6, b2, l_3) =>
          (slices_pdqsortOrdered_uint64_C113_5 rec_slices_pdqsortOrdered_uint64_2 data a b n b2 n6 (isub .i64 n6 a) (isub .i64 b n6) (iquo .i64 (isub .i64 b a) 8) (decide (((isub .i64 n6 a) : Int) < (isub .i64 b n6))) l_3).bind fun (n7, n8, b3, l_4) =>
          some (.inl (n7, n8, n, b3, b2, l_4))
theorem slices_pdqsortOrdered_uint64_L0_2_ok (rec_slices_pdqsortOrdered_uint64_2 : Nat → Int → Int → Int → List Int → Option (List Int)) (hrec_slices_pdqsortOrdered_uint64_2 : ∀ data a b limit l r_, rec_slices_pdqsortOrdered_uint64_2 data a b limit l = some r_ → RunsI Try.prog 92 [(.one (.own 0 0 data false)), (.one (.pv (.int .i64 a))), (.one (.pv (.int .i64 b))), (.one (.pv (.int .i64 limit)))] [] [(.ints .u64 l)] (slices_pdqsortOrdered_uint64_2_out data a b limit l r_)) (data : Nat) (s_ : Int × Int × Int × Bool × Bool × List Int) (z_ : (Int × Int × Int × Bool × Bool × List Int) ⊕ (List Int)) (h : slices_pdqsortOrdered_uint64_L0_2_step rec_slices_pdqsortOrdered_uint64_2 data s_ = some z_) : RoundOk Try.prog cfg 92 1000 (loopAt Try.prog 92 0) (slices_pdqsortOrdered_uint64_L0_2_st data) (slices_pdqsortOrdered_uint64_L0_2_ex data) s_ z_ := by
  rcases s_ with ⟨a, b, limit, wasBalanced, wasPartitioned, l⟩
  rcases cond_of h with ⟨h1, h⟩ | ⟨h1, h⟩
  · obtain ⟨l_, h2, h⟩ := bind_of h
    have h := some_of h
    subst h
    have t_ := tT h1 <| tE (.el []) <| tE (.res (slices_insertionSortOrdered_uint64_out data a b l l_)) <| tO (slices_insertionSortOrdered_uint64_runs data a b l _ h2) <| tN
    exact ⟨t_.ev, (slices_pdqsortOrdered_uint64_L0_2_ex data l_).2, .k0 t_.pf (by kernel_rfl), .same (by kernel_rfl)⟩
  · rcases cond_of h with ⟨h2, h⟩ | ⟨h2, h⟩
    · obtain ⟨l_, h3, h⟩ := bind_of h
      have h := some_of h
      subst h
      have t_ := tF h1 <| tT h2 <| tE (.el []) <| tE (.res (slices_heapSortOrdered_uint64_out data a b l l_)) <| tO (slices_heapSortOrdered_uint64_runs data a b l _ h3) <| tN
      exact ⟨t_.ev, (slices_pdqsortOrdered_uint64_L0_2_ex data l_).2, .k0 t_.pf (by kernel_rfl), .same (by kernel_rfl)⟩
    · obtain ⟨⟨n, l_⟩, h3, h⟩ := bind_of h
      have q_3 := (slices_pdqsortOrdered_uint64_C35_runs data a b limit wasBalanced wasPartitioned (isub .i64 b a) (!wasBalanced) l _ h3)
      obtain ⟨⟨n2, n3⟩, h4, h⟩ := bind_of h
      have q_4 := (slices_choosePivotOrdered_uint64_runs (List.take data l_) a b _ h4)
      obtain ⟨⟨n4, n5, l_2⟩, h5, h⟩ := bind_of h
      have q_5 := (slices_pdqsortOrdered_uint64_C50_2_runs data a b n wasBalanced wasPartitioned (isub .i64 b a) n2 n3 (decide ((n3 : Int) = 2)) l_ _ h5)
      rcases cond_of h with ⟨h6, h⟩ | ⟨h6, h⟩
      · rcases cond_of h with ⟨h7, h⟩ | ⟨h7, h⟩
        · obtain ⟨z_, h8, h⟩ := bind_of h
          rcases z_ with l_3 | l_3
          · have h := some_of h
            subst h
            have t_ := tF h1 <| tF h2 <| tL q_3 <| tR q_4 <| tL q_5 <| tT h6 <| tT h7 <| tL (slices_pdqsortOrdered_uint64_C68_2_runs data a b n wasBalanced wasPartitioned (isub .i64 b a) n4 (decide ((n5 : Int) = 1)) l_2 _ h8) <| tN
            exact ⟨t_.ev, (slices_pdqsortOrdered_uint64_L0_2_ex data l_3).2, .k0 t_.pf (by kernel_rfl), .same (by kernel_rfl)⟩
          · have q_8 := (slices_pdqsortOrdered_uint64_C68_2_runs data a b n wasBalanced wasPartitioned (isub .i64 b a) n4 (decide ((n5 : Int) = 1)) l_2 _ h8)
            rcases cond_of h with ⟨h9, h⟩ | ⟨h9, h⟩
            · obtain ⟨h10, h⟩ := need_of h
              obtain ⟨h11, h⟩ := need_of h
              obtain ⟨b2, h12, h⟩ := bind_of h
              have q_12 := (cmp_Less_uint64_runs (l_3.getD (0 + ((isub .i64 a 1)).toNat) 0) (l_3.getD (0 + (n4).toNat) 0) _ h12)
              rcases cond_of h with ⟨h13, h⟩ | ⟨h13, h⟩
              · obtain ⟨⟨n6, b3, l_4⟩, h14, h⟩ := bind_of h
                obtain ⟨⟨n7, n8, b4, l_5⟩, h15, h⟩ := bind_of h
                have h := some_of h
                subst h
                have t_ := tF h1 <| tF h2 <| tL q_3 <| tR q_4 <| tL q_5 <| tT h6 <| tT h7 <| tL q_8 <| tT h9 <| tO h10 <| tO h11 <| tR q_12 <| tF (not_of2 h13) <| tE (.el []) <| tE (.res (slices_partitionOrdered_uint64_out data a b n4 l_3 (n6, b3, l_4))) <| tO (slices_partitionOrdered_uint64_runs data a b n4 l_3 _ h14) <| tO (rfl : true = true) <| tL (slices_pdqsortOrdered_uint64_C113_5_runs rec_slices_pdqsortOrdered_uint64_2 hrec_slices_pdqsortOrdered_uint64_2 data a b n b3 n6 (isub .i64 n6 a) (isub .i64 b n6) (iquo .i64 (isub .i64 b a) 8) (decide (((isub .i64 n6 a) : Int) < (isub .i64 b n6))) l_4 _ h15) <| tN
                exact ⟨t_.ev, slices_pdqsortOrdered_uint64_L0_2_st data (n7, n8, n, b4, b3, l_5), .k1 t_.pf (by kernel_rfl) (by kernel_rfl), .same (by kernel_rfl)⟩
              · obtain ⟨⟨n6, l_4⟩, h14, h⟩ := bind_of h
                have h := some_of h
                subst h
                have t_ := tF h1 <| tF h2 <| tL q_3 <| tR q_4 <| tL q_5 <| tT h6 <| tT h7 <| tL q_8 <| tT h9 <| tO h10 <| tO h11 <| tR q_12 <| tT (not_of h13) <| tE (.el []) <| tE (.res (slices_partitionEqualOrdered_uint64_out data a b n4 l_3 (n6, l_4))) <| tO (slices_partitionEqualOrdered_uint64_runs data a b n4 l_3 _ h14) <| tN
                exact ⟨t_.ev, slices_pdqsortOrdered_uint64_L0_2_st data (n6, b, n, wasBalanced, wasPartitioned, l_4), .k1 t_.pf (by kernel_rfl) (by kernel_rfl), .same (by kernel_rfl)⟩
            · obtain ⟨⟨n6, b2, l_4⟩, h10, h⟩ := bind_of h
              obtain ⟨⟨n7, n8, b3, l_5⟩, h11, h⟩ := bind_of h
              have h := some_of h
              subst h
              have t_ := tF h1 <| tF h2 <| tL q_3 <| tR q_4 <| tL q_5 <| tT h6 <| tT h7 <| tL q_8 <| tF h9 <| tF (rfl : false = false) <| tE (.el []) <| tE (.res (slices_partitionOrdered_uint64_out data a b n4 l_3 (n6, b2, l_4))) <| tO (slices_partitionOrdered_uint64_runs data a b n4 l_3 _ h10) <| tO (rfl : true = true) <| tL (slices_pdqsortOrdered_uint64_C113_5_runs rec_slices_pdqsortOrdered_uint64_2 hrec_slices_pdqsortOrdered_uint64_2 data a b n b2 n6 (isub .i64 n6 a) (isub .i64 b n6) (iquo .i64 (isub .i64 b a) 8) (decide (((isub .i64 n6 a) : Int) < (isub .i64 b n6))) l_4 _ h11) <| tN
              exact ⟨t_.ev, slices_pdqsortOrdered_uint64_L0_2_st data (n7, n8, n, b3, b2, l_5), .k1 t_.pf (by kernel_rfl) (by kernel_rfl), .same (by kernel_rfl)⟩
        · rcases cond_of h with ⟨h8, h⟩ | ⟨h8, h⟩
          · obtain ⟨h9, h⟩ := need_of h
            obtain ⟨h10, h⟩ := need_of h
            obtain ⟨b2, h11, h⟩ := bind_of h
            have q_11 := (cmp_Less_uint64_runs (l_2.getD (0 + ((isub .i64 a 1)).toNat) 0) (l_2.getD (0 + (n4).toNat) 0) _ h11)
            rcases cond_of h with ⟨h12, h⟩ | ⟨h12, h⟩
            · obtain ⟨⟨n6, b3, l_3⟩, h13, h⟩ := bind_of h
              obtain ⟨⟨n7, n8, b4, l_4⟩, h14, h⟩ := bind_of h
              have h := some_of h
              subst h
              have t_ := tF h1 <| tF h2 <| tL q_3 <| tR q_4 <| tL q_5 <| tT h6 <| tF h7 <| tF (rfl : false = false) <| tT h8 <| tO h9 <| tO h10 <| tR q_11 <| tF (not_of2 h12) <| tE (.el []) <| tE (.res (slices_partitionOrdered_uint64_out data a b n4 l_2 (n6, b3, l_3))) <| tO (slices_partitionOrdered_uint64_runs data a b n4 l_2 _ h13) <| tO (rfl : true = true) <| tL (slices_pdqsortOrdered_uint64_C113_5_runs rec_slices_pdqsortOrdered_uint64_2 hrec_slices_pdqsortOrdered_uint64_2 data a b n b3 n6 (isub .i64 n6 a) (isub .i64 b n6) (iquo .i64 (isub .i64 b a) 8) (decide (((isub .i64 n6 a) : Int) < (isub .i64 b n6))) l_3 _ h14) <| tN
              exact ⟨t_.ev, slices_pdqsortOrdered_uint64_L0_2_st data (n7, n8, n, b4, b3, l_4), .k1 t_.pf (by kernel_rfl) (by kernel_rfl), .same (by kernel_rfl)⟩
            · obtain ⟨⟨n6, l_3⟩, h13, h⟩ := bind_of h
              have h := some_of h
              subst h
              have t_ := tF h1 <| tF h2 <| tL q_3 <| tR q_4 <| tL q_5 <| tT h6 <| tF h7 <| tF (rfl : false = false) <| tT h8 <| tO h9 <| tO h10 <| tR q_11 <| tT (not_of h12) <| tE (.el []) <| tE (.res (slices_partitionEqualOrdered_uint64_out data a b n4 l_2 (n6, l_3))) <| tO (slices_partitionEqualOrdered_uint64_runs data a b n4 l_2 _ h13) <| tN
              exact ⟨t_.ev, slices_pdqsortOrdered_uint64_L0_2_st data (n6, b, n, wasBalanced, wasPartitioned, l_3), .k1 t_.pf (by kernel_rfl) (by kernel_rfl), .same (by kernel_rfl)⟩
          · obtain ⟨⟨n6, b2, l_3⟩, h9, h⟩ := bind_of h
            obtain ⟨⟨n7, n8, b3, l_4⟩, h10, h⟩ := bind_of h
            have h := some_of h
            subst h
            have t_ := tF h1 <| tF h2 <| tL q_3 <| tR q_4 <| tL q_5 <| tT h6 <| tF h7 <| tF (rfl : false = false) <| tF h8 <| tF (rfl : false = false) <| tE (.el []) <| tE (.res (slices_partitionOrdered_uint64_out data a b n4 l_2 (n6, b2, l_3))) <| tO (slices_partitionOrdered_uint64_runs data a b n4 l_2 _ h9) <| tO (rfl : true = true) <| tL (slices_pdqsortOrdered_uint64_C113_5_runs rec_slices_pdqsortOrdered_uint64_2 hrec_slices_pdqsortOrdered_uint64_2 data a b n b2 n6 (isub .i64 n6 a) (isub .i64 b n6) (iquo .i64 (isub .i64 b a) 8) (decide (((isub .i64 n6 a) : Int) < (isub .i64 b n6))) l_3 _ h10) <| tN
            exact ⟨t_.ev, slices_pdqsortOrdered_uint64_L0_2_st data (n7, n8, n, b3, b2, l_4), .k1 t_.pf (by kernel_rfl) (by kernel_rfl), .same (by kernel_rfl)⟩
      · rcases cond_of h with ⟨h7, h⟩ | ⟨h7, h⟩
        · obtain ⟨h8, h⟩ := need_of h
          obtain ⟨h9, h⟩ := need_of h
          obtain ⟨b2, h10, h⟩ := bind_of h
          have q_10 := (cmp_Less_uint64_runs (l_2.getD (0 + ((isub .i64 a 1)).toNat) 0) (l_2.getD (0 + (n4).toNat) 0) _ h10)
          rcases cond_of h with ⟨h11, h⟩ | ⟨h11, h⟩
          · obtain ⟨⟨n6, b3, l_3⟩, h12, h⟩ := bind_of h
            obtain ⟨⟨n7, n8, b4, l_4⟩, h13, h⟩ := bind_of h
            have h := some_of h
            subst h
            have t_ := tF h1 <| tF h2 <| tL q_3 <| tR q_4 <| tL q_5 <| tF h6 <| tF (rfl : false = false) <| tF (rfl : false = false) <| tT h7 <| tO h8 <| tO h9 <| tR q_10 <| tF (not_of2 h11) <| tE (.el []) <| tE (.res (slices_partitionOrdered_uint64_out data a b n4 l_2 (n6, b3, l_3))) <| tO (slices_partitionOrdered_uint64_runs data a b n4 l_2 _ h12) <| tO (rfl : true = true) <| tL (slices_pdqsortOrdered_uint64_C113_5_runs rec_slices_pdqsortOrdered_uint64_2 hrec_slices_pdqsortOrdered_uint64_2 data a b n b3 n6 (isub .i64 n6 a) (isub .i64 b n6) (iquo .i64 (isub .i64 b a) 8) (decide (((isub .i64 n6 a) : Int) < (isub .i64 b n6))) l_3 _ h13) <| tN
            exact ⟨t_.ev, slices_pdqsortOrdered_uint64_L0_2_st data (n7, n8, n, b4, b3, l_4), .k1 t_.pf (by kernel_rfl) (by kernel_rfl), .same (by kernel_rfl)⟩
          · obtain ⟨⟨n6, l_3⟩, h12, h⟩ := bind_of h
            have h := some_of h
            subst h
            have t_ := tF h1 <| tF h2 <| tL q_3 <| tR q_4 <| tL q_5 <| tF h6 <| tF (rfl : false = false) <| tF (rfl : false = false) <| tT h7 <| tO h8 <| tO h9 <| tR q_10 <| tT (not_of h11) <| tE (.el []) <| tE (.res (slices_partitionEqualOrdered_uint64_out data a b n4 l_2 (n6, l_3))) <| tO (slices_partitionEqualOrdered_uint64_runs data a b n4 l_2 _ h12) <| tN
            exact ⟨t_.ev, slices_pdqsortOrdered_uint64_L0_2_st data (n6, b, n, wasBalanced, wasPartitioned, l_3), .k1 t_.pf (by kernel_rfl) (by kernel_rfl), .same (by kernel_rfl)⟩
        · obtain ⟨⟨n6, b2, l_3⟩, h8, h⟩ := bind_of h
          obtain ⟨⟨n7, n8, b3, l_4⟩, h9, h⟩ := bind_of h
          have h := some_of h
          subst h
          have t_ := tF h1 <| tF h2 <| tL q_3 <| tR q_4 <| tL q_5 <| tF h6 <| tF (rfl : false = false) <| tF (rfl : false = false) <| tF h7 <| tF (rfl : false = false) <| tE (.el []) <| tE (.res (slices_partitionOrdered_uint64_out data a b n4 l_2 (n6, b2, l_3))) <| tO (slices_partitionOrdered_uint64_runs data a b n4 l_2 _ h8) <| tO (rfl : true = true) <| tL (slices_pdqsortOrdered_uint64_C113_5_runs rec_slices_pdqsortOrdered_uint64_2 hrec_slices_pdqsortOrdered_uint64_2 data a b n b2 n6 (isub .i64 n6 a) (isub .i64 b n6) (iquo .i64 (isub .i64 b a) 8) (decide (((isub .i64 n6 a) : Int) < (isub .i64 b n6))) l_3 _ h9) <| tN
          exact ⟨t_.ev, slices_pdqsortOrdered_uint64_L0_2_st data (n7, n8, n, b3, b2, l_4), .k1 t_.pf (by kernel_rfl) (by kernel_rfl), .same (by kernel_rfl)⟩
theorem slices_pdqsortOrdered_uint64_L0_2_runs (rec_slices_pdqsortOrdered_uint64_2 : Nat → Int → Int → Int → List Int → Option (List Int)) (hrec_slices_pdqsortOrdered_uint64_2 : ∀ data a b limit l r_, rec_slices_pdqsortOrdered_uint64_2 data a b limit l = some r_ → RunsI Try.prog 92 [(.one (.own 0 0 data false)), (.one (.pv (.int .i64 a))), (.one (.pv (.int .i64 b))), (.one (.pv (.int .i64 limit)))] [] [(.ints .u64 l)] (slices_pdqsortOrdered_uint64_2_out data a b limit l r_)) (data : Nat) (s_ : Int × Int × Int × Bool × Bool × List Int) (r_ : List Int) (h : runL (slices_pdqsortOrdered_uint64_L0_2_step rec_slices_pdqsortOrdered_uint64_2 data) s_ = some r_) : LRuns Try.prog (lEnv Try.prog cfg 92 1000).nt 1000 (.loop (loopAt Try.prog 92 0)) (slices_pdqsortOrdered_uint64_L0_2_st data s_) (slices_pdqsortOrdered_uint64_L0_2_ex data r_).1 (slices_pdqsortOrdered_uint64_L0_2_ex data r_).2 :=
  loop_run h (slices_pdqsortOrdered_uint64_L0_2_ok rec_slices_pdqsortOrdered_uint64_2 hrec_slices_pdqsortOrdered_uint64_2 data) (by intro r_; rcases r_ with r1 <;> simp [slices_pdqsortOrdered_uint64_L0_2_ex])
/-! ### slices_pdqsortOrdered_uint64_2 -/
noncomputable def slices_pdqsortOrdered_uint64_2_b (rec_slices_pdqsortOrdered_uint64_2 : Nat → Int → Int → Int → List Int → Option (List Int)) (data : Nat) (a : Int) (b : Int) (limit : Int) (l : List Int) : Option (List Int) :=
  (runL (slices_pdqsortOrdered_uint64_L0_2_step rec_slices_pdqsortOrdered_uint64_2 data) (a, b, limit, true, true, l)).bind fun l_ =>
  some l_
theorem slices_pdqsortOrdered_uint64_2_b_runs (rec_slices_pdqsortOrdered_uint64_2 : Nat → Int → Int → Int → List Int → Option (List Int)) (hrec_slices_pdqsortOrdered_uint64_2 : ∀ data a b limit l r_, rec_slices_pdqsortOrdered_uint64_2 data a b limit l = some r_ → RunsI Try.prog 92 [(.one (.own 0 0 data false)), (.one (.pv (.int .i64 a))), (.one (.pv (.int .i64 b))), (.one (.pv (.int .i64 limit)))] [] [(.ints .u64 l)] (slices_pdqsortOrdered_uint64_2_out data a b limit l r_)) (data : Nat) (a : Int) (b : Int) (limit : Int) (l : List Int) (r_ : List Int) (h : slices_pdqsortOrdered_uint64_2_b rec_slices_pdqsortOrdered_uint64_2 data a b limit l = some r_) : RunsI Try.prog 92 [(.one (.own 0 0 data false)), (.one (.pv (.int .i64 a))), (.one (.pv (.int .i64 b))), (.one (.pv (.int .i64 limit)))] [] [(.ints .u64 l)] (slices_pdqsortOrdered_uint64_2_out data a b limit l r_) := by
  unfold slices_pdqsortOrdered_uint64_2_b at h
  obtain ⟨l_, h1, h⟩ := bind_of h
  have h := some_of h
  subst h
  have t_ := tL (slices_pdqsortOrdered_uint64_L0_2_runs rec_slices_pdqsortOrdered_uint64_2 hrec_slices_pdqsortOrdered_uint64_2 data _ _ h1) <| tN
  exact runsI_of (C := cfg) (objs := []) (rows := [(.ints .u64 l)]) (sc := t_.ev) (.k0 t_.pf (by kernel_rfl))
noncomputable def slices_pdqsortOrdered_uint64_2 : Nat → Nat → Int → Int → Int → List Int → Option (List Int)
  | 0, _, _, _, _, _ => none
  | N + 1, data, a, b, limit, l => slices_pdqsortOrdered_uint64_2_b (slices_pdqsortOrdered_uint64_2 N) data a b limit l
theorem slices_pdqsortOrdered_uint64_2_runs : ∀ (N : Nat) (data : Nat) (a : Int) (b : Int) (limit : Int) (l : List Int) (r_ : List Int), slices_pdqsortOrdered_uint64_2 N data a b limit l = some r_ → RunsI Try.prog 92 [(.one (.own 0 0 data false)), (.one (.pv (.int .i64 a))), (.one (.pv (.int .i64 b))), (.one (.pv (.int .i64 limit)))] [] [(.ints .u64 l)] (slices_pdqsortOrdered_uint64_2_out data a b limit l r_)
  | 0, _, _, _, _, _, _, h => by cases h
  | N + 1, data, a, b, limit, l, r_, h => slices_pdqsortOrdered_uint64_2_b_runs (slices_pdqsortOrdered_uint64_2 N) (slices_pdqsortOrdered_uint64_2_runs N) data a b limit l r_ h
/-! ### slices_Sort_uint64 -/
noncomputable def slices_Sort_uint64 (N : Nat) (x : Nat) (l : List Int) : Option (List Int) :=
  (bits_Len (IntKind.u64.wrap (x : Int))).bind fun n =>
  (slices_pdqsortOrdered_uint64_2 N x 0 (x : Int) n l).bind fun l_ =>
  some l_
theorem slices_Sort_uint64_runs (N : Nat) (x : Nat) (l : List Int) (r_ : List Int) (h : slices_Sort_uint64 N x l = some r_) : RunsI Try.prog 85 [(.one (.own 0 0 x false))] [] [(.ints .u64 l)] (slices_Sort_uint64_out x l r_) := by
  unfold slices_Sort_uint64 at h
  obtain ⟨n, h1, h⟩ := bind_of h
  obtain ⟨l_, h2, h⟩ := bind_of h
  have h := some_of h
  subst h
  have t_ := tR (bits_Len_runs (IntKind.u64.wrap (x : Int)) _ h1) <| tE (.el []) <| tE (.res (slices_pdqsortOrdered_uint64_2_out x 0 (x : Int) n l l_)) <| tO (slices_pdqsortOrdered_uint64_2_runs N x 0 (x : Int) n l _ h2) <| tN
  exact runsI_of (C := cfg) (objs := []) (rows := [(.ints .u64 l)]) (sc := t_.ev) (.k0 t_.pf (by kernel_rfl))

end Go.Proofs.Ytgimaogkhblaiaa
