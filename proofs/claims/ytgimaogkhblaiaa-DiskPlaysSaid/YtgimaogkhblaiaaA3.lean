/- What functions compute, and that they do. -/
import Derived.Test.YtgimaogkhblaiaaSm
set_option linter.unusedVariables false
set_option linter.unusedSimpArgs false
set_option maxRecDepth 100000
namespace Go.Proofs.Ytgimaogkhblaiaa
open Go.Ev

/-! ### bytes_Clone -/
theorem bytes_Clone_nil  : evFn Try.prog cfg (Calld Try.prog) (LRuns Try.prog (lEnv Try.prog cfg 50 0).nt 0) 50 [(.one (.pv .nils))] [] []
    [.br true] =
  some (([(.one (.pv .nils))], [], []), obs [
    true = true]) := by kernel_rfl
theorem bytes_Clone_emp  : evFn Try.prog cfg (Calld Try.prog) (LRuns Try.prog (lEnv Try.prog cfg 50 0).nt 0) 50 [(.one (.pv .emp))] [] []
    [.br false, .br true] =
  some (([(.one (.own 0 0 0 false))], [], [(.ints .u8 [])]), obs [
    false = false,
    true = true]) := by kernel_rfl
theorem bytes_Clone_fn (l : List Int) (t : Bool) : evFn Try.prog cfg (Calld Try.prog) (LRuns Try.prog (lEnv Try.prog cfg 50 0).nt 0) 50 [(.one (.pv (.ints .u8 l t)))] [] []
    [.br false, .br false] =
  some (([(.one (.own 0 0 (([] ++ l)).length false))], [], [(.ints .u8 ([] ++ l))]), obs [
    (!(Nat.beq (l).length 0)) = true,
    false = false,
    (!(Nat.beq (l).length 0)) = true,
    (fits (([] ++ l)).length) = true]) := by kernel_rfl
theorem bytes_Clone_runs {l : List Int} {t : Bool} (hl : fits l.length = true) : Runs Try.prog 50 [.one (.pv (.ints .u8 l t))] [] [] ([.one (.pv (.ints .u8 l false))], [], []) := by
  cases l with
  | nil =>
    have h1 : Runs Try.prog 50 [.one (.pv .nils)] [] [] ([.one (.pv (.ints .u8 [] false))], [], []) := by
      have h0 : Runs Try.prog 50 [.one (.pv .nils)] [] [] ([.one (.pv .nils)], [], []) := runs_of (Says.of bytes_Clone_nil ⟨rfl, trivial⟩)
      refine h0.res rfl (Nat.zero_le _) fun y v hs hv => ⟨y, rfl, Ext.refl y, rfl, hs, nils_ints hv⟩
    have h2 : Runs Try.prog 50 [.one (.pv .emp)] [] [] ([.one (.pv (.ints .u8 [] false))], [], []) :=
      Runs.close0 (rw := .ints .u8 []) (runs_of (Says.of bytes_Clone_emp ⟨rfl, rfl, trivial⟩)) rfl
    refine h1.split h2 fun x vals hr => ?_
    match vals, hr with
    | [v], hr =>
      rcases rep_empty hr.1 with h | h
      · exact .inl ⟨h, trivial⟩
      · exact .inr ⟨h, trivial⟩
  | cons a l =>
    have H := bytes_Clone_fn (a :: l) t
    rw [List.nil_append] at H
    exact Runs.close0 (rw := .ints .u8 (a :: l)) (runs_of (Says.of H ⟨by simp [Nat.beq], rfl, by simp [Nat.beq], hl, trivial⟩)) rfl
/-! ### kinfolklaw11_DiskNil_out -/
def kinfolklaw11_DiskNil_out (n : Int) (p : List Int) (k : Int) (on_ : Bool) : Bool → Res
  | r1 => ([(.one (.pv (.bool r1)))], [], [])
/-! ### kinfolklaw11_awake_out -/
def kinfolklaw11_awake_out : Bool → Res
  | r1 => ([(.one (.pv (.bool r1)))], [], [])
/-! ### disk_New_out -/
def disk_New_out (room : Int) : Int → Res
  | r1 => ([(.one (.ref 0 0))], [[(.mp 1), (.pv (.int .i64 r1)), (.pv (.bool false)), (.pv (.bool false)), (.pv (.int .i64 0)), (.pv (.int .i64 0))], [(.maph (.int .u64) false (List.map M_uint64_uint8.pv []) [])]], [])
/-! ### disk_New -/
noncomputable def disk_New (room : Int) : Option (Int) :=
  some (if (room : Int) < 0 then 0 else room)
theorem disk_New_runs (room : Int) (r_ : Int) (h : disk_New room = some r_) : Runs Try.prog 14 [(.one (.pv (.int .i64 room)))] [] [] (disk_New_out room r_) := by
  unfold disk_New at h
  have h := some_of h
  subst h
  have t_ := tN
  have e_ : Runs Try.prog 14 [(.one (.pv (.int .i64 room)))] [] [] ([(.one (.ref 0 0))], [[(.mp 1), (.pv (.int .i64 (if (room : Int) < 0 then 0 else room))), (.pv (.bool false)), (.pv (.bool false)), (.pv (.int .i64 0)), (.pv (.int .i64 0))], [(.maph (.int .u64) false [] [])]], []) := runs_of (C := cfg) (objs := []) (sc := t_.ev) (.k0 t_.pf (by kernel_rfl))
  exact e_.out ⟨.eq rfl, trivial⟩ ⟨⟨.eq rfl, .eq rfl, .eq rfl, .eq rfl, .eq rfl, .eq rfl, trivial⟩, ⟨.maph (WkEs.to (WkEs.refl _) (by first | rfl | (simp only [M_uint64_uint8.set, M_uint64_uint8.del]; done) | (simp only [M_uint64_uint8.set, M_uint64_uint8.del, kset, kdel]; rfl) | rfl | (simp only [M_uint64_uint8.set, M_uint64_uint8.del, List.take_length]; done))), trivial⟩, trivial⟩ trivial rfl
/-! ### disk_Disk_Arm_out -/
def disk_Disk_Arm_out (writes : Int) (torn : Int) (n : Int) (b : Bool) (b2 : Bool) (n2 : Int) (n3 : Int) (m : List (Int × (List Int))) : Int → Res
  | r1 => ([], [[(.mp 1), (.pv (.int .i64 n)), (.pv (.bool b)), (.pv (.bool b2)), (.pv (.int .i64 r1)), (.pv (.int .i64 torn))], [(.maph (.int .u64) false (List.map M_uint64_uint8.pv m) [])]], [])
/-! ### disk_Disk_Arm -/
noncomputable def disk_Disk_Arm (writes : Int) (torn : Int) (n : Int) (b : Bool) (b2 : Bool) (n2 : Int) (n3 : Int) (m : List (Int × (List Int))) : Option (Int) :=
  some (if (writes : Int) < 0 then 0 else writes)
theorem disk_Disk_Arm_runs (writes : Int) (torn : Int) (n : Int) (b : Bool) (b2 : Bool) (n2 : Int) (n3 : Int) (m : List (Int × (List Int))) (r_ : Int) (h : disk_Disk_Arm writes torn n b b2 n2 n3 m = some r_) : Runs Try.prog 15 [(.one (.ref 0 0)), (.one (.pv (.int .i64 writes))), (.one (.pv (.int .i64 torn)))] [[(.mp 1), (.pv (.int .i64 n)), (.pv (.bool b)), (.pv (.bool b2)), (.pv (.int .i64 n2)), (.pv (.int .i64 n3))], [(.maph (.int .u64) false (List.map M_uint64_uint8.pv m) [])]] [] (disk_Disk_Arm_out writes torn n b b2 n2 n3 m r_) := by
  unfold disk_Disk_Arm at h
  have h := some_of h
  subst h
  have t_ := tT (rfl : true = true) <| tN
  exact runs_of (C := cfg) (objs := [[(.mp 1), (.pv (.int .i64 n)), (.pv (.bool b)), (.pv (.bool b2)), (.pv (.int .i64 n2)), (.pv (.int .i64 n3))], [(.maph (.int .u64) false (List.map M_uint64_uint8.pv m) [])]]) (sc := t_.ev) (.k0 t_.pf (by kernel_rfl))
/-! ### disk_Disk_Append_out -/
def disk_Disk_Append_out (seg : Int) (p : List Int) (n : Int) (b : Bool) (b2 : Bool) (n2 : Int) (n3 : Int) (m : List (Int × (List Int))) : Int × Bool × Int × List (Int × (List Int)) → Res
  | (r1, r2, r3, r4) => ([(.one (.pv (.int .i64 r1)))], [[(.mp 1), (.pv (.int .i64 n)), (.pv (.bool b)), (.pv (.bool r2)), (.pv (.int .i64 r3)), (.pv (.int .i64 n3))], [(.maph (.int .u64) false (List.map M_uint64_uint8.pv r4) [])]], [])
/-! ### disk_Disk_Used_out -/
def disk_Disk_Used_out (n : Int) (b : Bool) (b2 : Bool) (n2 : Int) (n3 : Int) (m : List (Int × (List Int))) : Int → Res
  | r1 => ([(.one (.pv (.int .i64 r1)))], [[(.mp 1), (.pv (.int .i64 n)), (.pv (.bool b)), (.pv (.bool b2)), (.pv (.int .i64 n2)), (.pv (.int .i64 n3))], [(.maph (.int .u64) false (List.map M_uint64_uint8.pv m) [])]], [])
/-! ### disk_Disk_Segs_out -/
def disk_Disk_Segs_out (n : Int) (b : Bool) (b2 : Bool) (n2 : Int) (n3 : Int) (m : List (Int × (List Int))) : List Int → Res
  | r1 => ([(.one (.own 0 0 (r1).length false))], [[(.mp 1), (.pv (.int .i64 n)), (.pv (.bool b)), (.pv (.bool b2)), (.pv (.int .i64 n2)), (.pv (.int .i64 n3))], [(.maph (.int .u64) false (List.map M_uint64_uint8.pv m) [])]], [(.ints .u64 r1)])
/-! ### maps_Keys_byte_out -/
def maps_Keys_byte_out (m : List (Int × (List Int))) : Unit → Res
  | _ => ([(.one (.fn 86 [(.ref 1 0)]))], [[(.maph (.int .u64) false (List.map M_uint64_uint8.pv m) [])], [(.mp 0)]], [])
/-! ### maps_Keys_byte -/
noncomputable def maps_Keys_byte (m : List (Int × (List Int))) : Option (Unit) :=
  some ()
theorem maps_Keys_byte_runs (m : List (Int × (List Int))) (r_ : Unit) (h : maps_Keys_byte m = some r_) : Runs Try.prog 71 [(.one (.mp 0))] [[(.maph (.int .u64) false (List.map M_uint64_uint8.pv m) [])]] [] (maps_Keys_byte_out m r_) := by
  unfold maps_Keys_byte at h
  have h := some_of h
  subst h
  have t_ := tN
  exact runs_of (C := cfg) (objs := [[(.maph (.int .u64) false (List.map M_uint64_uint8.pv m) [])]]) (sc := t_.ev) (.k0 t_.pf (by kernel_rfl))
/-! ### disk_Disk_Segs -/
noncomputable def disk_Disk_Segs (n : Int) (b : Bool) (b2 : Bool) (n2 : Int) (n3 : Int) (m : List (Int × (List Int))) : Option (List Int) :=
  (maps_Keys_byte m).bind fun _ =>
  (slices_Sorted_keys m).bind fun l_ =>
  some l_
theorem disk_Disk_Segs_runs (n : Int) (b : Bool) (b2 : Bool) (n2 : Int) (n3 : Int) (m : List (Int × (List Int))) (r_ : List Int) (h : disk_Disk_Segs n b b2 n2 n3 m = some r_) : Runs Try.prog 37 [(.one (.ref 0 0))] [[(.mp 1), (.pv (.int .i64 n)), (.pv (.bool b)), (.pv (.bool b2)), (.pv (.int .i64 n2)), (.pv (.int .i64 n3))], [(.maph (.int .u64) false (List.map M_uint64_uint8.pv m) [])]] [] (disk_Disk_Segs_out n b b2 n2 n3 m r_) := by
  unfold disk_Disk_Segs at h
  obtain ⟨_, h1, h⟩ := bind_of h
  obtain ⟨l_, h2, h⟩ := bind_of h
  have h := some_of h
  subst h
  have t_ := tF (rfl : false = false) <| tR (maps_Keys_byte_runs m _ h1) <| tR (slices_Sorted_keys_runs m _ h2) <| tN
  exact runs_of (C := cfg) (objs := [[(.mp 1), (.pv (.int .i64 n)), (.pv (.bool b)), (.pv (.bool b2)), (.pv (.int .i64 n2)), (.pv (.int .i64 n3))], [(.maph (.int .u64) false (List.map M_uint64_uint8.pv m) [])]]) (sc := t_.ev) (.k0 t_.pf (by kernel_rfl))
/-! ### disk_Disk_Used_L0 -/
def disk_Disk_Used_L0_st (n : Int) (n2 : Int) (b : Bool) (b2 : Bool) (n3 : Int) (n4 : Int) (m : List (Int × (List Int))) (l : List Int) : Int × Int → St
  | (n5, n6) => ⟨[(0, (.av (.one (.ref 0 0)))), (3, (.av (.one (.pv (.int .i64 n5))))), (7, (.av (.one (.own 0 0 (l).length false)))), (8, (.av (.one (.pv (.int .i64 n))))), (9, (.av (.one (.pv (.int .i64 n6)))))], [(0, [(.mp 1), (.pv (.int .i64 n2)), (.pv (.bool b)), (.pv (.bool b2)), (.pv (.int .i64 n3)), (.pv (.int .i64 n4))]), (1, [(.maph (.int .u64) false (List.map M_uint64_uint8.pv m) [])])], [(0, (.live (.ints .u64 l)))]⟩
def disk_Disk_Used_L0_ex (n : Int) (n2 : Int) (b : Bool) (b2 : Bool) (n3 : Int) (n4 : Int) (m : List (Int × (List Int))) (l : List Int) : Int → Ex × St
  | r1 => ((.exit 0), ⟨[(3, (.av (.one (.pv (.int .i64 r1)))))], [(0, [(.mp 1), (.pv (.int .i64 n2)), (.pv (.bool b)), (.pv (.bool b2)), (.pv (.int .i64 n3)), (.pv (.int .i64 n4))]), (1, [(.maph (.int .u64) false (List.map M_uint64_uint8.pv m) [])])], [(0, (.live (.ints .u64 l)))]⟩)
noncomputable def disk_Disk_Used_L0_step (n : Int) (n2 : Int) (b : Bool) (b2 : Bool) (n3 : Int) (n4 : Int) (m : List (Int × (List Int))) (l : List Int) : Int × Int → Option ((Int × Int) ⊕ (Int))
  | (n5, n6) =>
  bif (decide ((n6 : Int) < n)) then
    bif decide ((0 : Int) ≤ n6) && decide ((n6 : Int) < ((l).length : Int)) then
    match (mget (l.getD (0 + (n6).toNat) 0) m) with
    | .some l_ =>
      some (.inl ((iadd .i64 n5 ((l_).length : Int)), (iadd .i64 n6 1)))
    | .none =>
      some (.inl ((iadd .i64 n5 0), (iadd .i64 n6 1)))
    else none
  else
    some (.inr n5)
theorem disk_Disk_Used_L0_ok (n : Int) (n2 : Int) (b : Bool) (b2 : Bool) (n3 : Int) (n4 : Int) (m : List (Int × (List Int))) (l : List Int) (s_ : Int × Int) (z_ : (Int × Int) ⊕ (Int)) (h : disk_Disk_Used_L0_step n n2 b b2 n3 n4 m l s_ = some z_) : RoundOk Try.prog cfg 23 2 (loopAt Try.prog 23 0) (disk_Disk_Used_L0_st n n2 b b2 n3 n4 m l) (disk_Disk_Used_L0_ex n n2 b b2 n3 n4 m l) s_ z_ := by
  rcases s_ with ⟨n5, n6⟩
  rcases cond_of h with ⟨h1, h⟩ | ⟨h1, h⟩
  · obtain ⟨h2, h⟩ := need_of h
    cases h3 : (mget (l.getD (0 + (n6).toNat) 0) m) with
    | some l_ =>
      simp only [h3] at h
      have h := some_of h
      subst h
      have t_ := tT h1 <| tO h2 <| tT (show kget [(.int .u64 (l.getD (0 + (n6).toNat) 0))] (List.map M_uint64_uint8.pv m) = some [(.ints .u8 l_ false)] from by first | (simp only [M_uint64_uint8.set, M_uint64_uint8.del, M_uint64_uint8.get, h3, Option.map_some, Option.map_none]; done) | (simp only [M_uint64_uint8.set, M_uint64_uint8.del, M_uint64_uint8.get, h3, Option.map_some, Option.map_none]; rfl) | (rw [← List.map_nil]; simp only [M_uint64_uint8.set, M_uint64_uint8.del, M_uint64_uint8.get, h3, Option.map_some, Option.map_none]; rfl)) <| tE (.el [(.ints .u8 l_ false)]) <| tN
      exact ⟨t_.ev, disk_Disk_Used_L0_st n n2 b b2 n3 n4 m l ((iadd .i64 n5 ((l_).length : Int)), (iadd .i64 n6 1)), .k0 t_.pf (by kernel_rfl), .same (by kernel_rfl)⟩
    | none =>
      simp only [h3] at h
      have h := some_of h
      subst h
      have t_ := tT h1 <| tO h2 <| tF (show kget [(.int .u64 (l.getD (0 + (n6).toNat) 0))] (List.map M_uint64_uint8.pv m) = none from by first | (simp only [M_uint64_uint8.set, M_uint64_uint8.del, M_uint64_uint8.get, h3, Option.map_some, Option.map_none]; done) | (simp only [M_uint64_uint8.set, M_uint64_uint8.del, M_uint64_uint8.get, h3, Option.map_some, Option.map_none]; rfl) | (rw [← List.map_nil]; simp only [M_uint64_uint8.set, M_uint64_uint8.del, M_uint64_uint8.get, h3, Option.map_some, Option.map_none]; rfl)) <| tN
      exact ⟨t_.ev, disk_Disk_Used_L0_st n n2 b b2 n3 n4 m l ((iadd .i64 n5 0), (iadd .i64 n6 1)), .k0 t_.pf (by kernel_rfl), .same (by kernel_rfl)⟩
  · have h := some_of h
    subst h
    have t_ := tF h1 <| tN
    exact ⟨t_.ev, ⟨[(10, (.av (.one (.pv (.bool false))))), (0, (.av (.one (.ref 0 0)))), (3, (.av (.one (.pv (.int .i64 n5))))), (7, (.av (.one (.own 0 0 (l).length false)))), (8, (.av (.one (.pv (.int .i64 n))))), (9, (.av (.one (.pv (.int .i64 n6))))), (10, (.av (.one (.pv (.bool (decide ((n6 : Int) < n)))))))], [(0, [(.mp 1), (.pv (.int .i64 n2)), (.pv (.bool b)), (.pv (.bool b2)), (.pv (.int .i64 n3)), (.pv (.int .i64 n4))]), (1, [(.maph (.int .u64) false (List.map M_uint64_uint8.pv m) [])])], [(0, (.live (.ints .u64 l)))]⟩, .k0 t_.pf (by kernel_rfl), ⟨⟨⟨_, rfl, .eq rfl⟩, trivial⟩, ⟨⟨rfl, ⟨.eq rfl, .eq rfl, .eq rfl, .eq rfl, .eq rfl, .eq rfl, trivial⟩⟩, ⟨rfl, ⟨.eq rfl, trivial⟩⟩, trivial⟩, ⟨⟨rfl, .eq rfl⟩, trivial⟩⟩⟩
theorem disk_Disk_Used_L0_runs (n : Int) (n2 : Int) (b : Bool) (b2 : Bool) (n3 : Int) (n4 : Int) (m : List (Int × (List Int))) (l : List Int) (s_ : Int × Int) (r_ : Int) (h : runL (disk_Disk_Used_L0_step n n2 b b2 n3 n4 m l) s_ = some r_) : LRuns Try.prog (lEnv Try.prog cfg 23 2).nt 2 (.loop (loopAt Try.prog 23 0)) (disk_Disk_Used_L0_st n n2 b b2 n3 n4 m l s_) (disk_Disk_Used_L0_ex n n2 b b2 n3 n4 m l r_).1 (disk_Disk_Used_L0_ex n n2 b b2 n3 n4 m l r_).2 :=
  loop_run h (disk_Disk_Used_L0_ok n n2 b b2 n3 n4 m l) (by intro r_; rcases r_ with r1 <;> simp [disk_Disk_Used_L0_ex])
/-! ### disk_Disk_Used -/
noncomputable def disk_Disk_Used (n : Int) (b : Bool) (b2 : Bool) (n2 : Int) (n3 : Int) (m : List (Int × (List Int))) : Option (Int) :=
  (disk_Disk_Segs n b b2 n2 n3 m).bind fun l_ =>
  (runL (disk_Disk_Used_L0_step ((l_).length : Int) n b b2 n2 n3 m l_) (0, 0)).bind fun n4 =>
  some n4
theorem disk_Disk_Used_runs (n : Int) (b : Bool) (b2 : Bool) (n2 : Int) (n3 : Int) (m : List (Int × (List Int))) (r_ : Int) (h : disk_Disk_Used n b b2 n2 n3 m = some r_) : Runs Try.prog 23 [(.one (.ref 0 0))] [[(.mp 1), (.pv (.int .i64 n)), (.pv (.bool b)), (.pv (.bool b2)), (.pv (.int .i64 n2)), (.pv (.int .i64 n3))], [(.maph (.int .u64) false (List.map M_uint64_uint8.pv m) [])]] [] (disk_Disk_Used_out n b b2 n2 n3 m r_) := by
  unfold disk_Disk_Used at h
  obtain ⟨l_, h1, h⟩ := bind_of h
  obtain ⟨n4, h2, h⟩ := bind_of h
  have h := some_of h
  subst h
  have t_ := tR (disk_Disk_Segs_runs n b b2 n2 n3 m _ h1) <| tL (disk_Disk_Used_L0_runs ((l_).length : Int) n b b2 n2 n3 m l_ _ _ h2) <| tN
  exact runs_of (C := cfg) (objs := [[(.mp 1), (.pv (.int .i64 n)), (.pv (.bool b)), (.pv (.bool b2)), (.pv (.int .i64 n2)), (.pv (.int .i64 n3))], [(.maph (.int .u64) false (List.map M_uint64_uint8.pv m) [])]]) (sc := t_.ev) (.k0 t_.pf (by kernel_rfl))
/-! ### disk_Disk_goes_out -/
def disk_Disk_goes_out (n : Int) (b : Bool) (b2 : Bool) (n2 : Int) (n3 : Int) (m : List (Int × (List Int))) : Bool × Bool × Int → Res
  | (r1, r2, r3) => ([(.one (.pv (.bool r1)))], [[(.mp 1), (.pv (.int .i64 n)), (.pv (.bool b)), (.pv (.bool r2)), (.pv (.int .i64 r3)), (.pv (.int .i64 n3))], [(.maph (.int .u64) false (List.map M_uint64_uint8.pv m) [])]], [])
/-! ### disk_Disk_goes -/
noncomputable def disk_Disk_goes (n : Int) (b : Bool) (b2 : Bool) (n2 : Int) (n3 : Int) (m : List (Int × (List Int))) : Option (Bool × Bool × Int) :=
  bif (decide ((n2 : Int) = 0)) then
    some (false, b2, n2)
  else
    some ((decide (((isub .i64 n2 1) : Int) = 0)), (decide (((isub .i64 n2 1) : Int) = 0)), (isub .i64 n2 1))
theorem disk_Disk_goes_runs (n : Int) (b : Bool) (b2 : Bool) (n2 : Int) (n3 : Int) (m : List (Int × (List Int))) (r_ : Bool × Bool × Int) (h : disk_Disk_goes n b b2 n2 n3 m = some r_) : Runs Try.prog 64 [(.one (.ref 0 0))] [[(.mp 1), (.pv (.int .i64 n)), (.pv (.bool b)), (.pv (.bool b2)), (.pv (.int .i64 n2)), (.pv (.int .i64 n3))], [(.maph (.int .u64) false (List.map M_uint64_uint8.pv m) [])]] [] (disk_Disk_goes_out n b b2 n2 n3 m r_) := by
  unfold disk_Disk_goes at h
  rcases cond_of h with ⟨h1, h⟩ | ⟨h1, h⟩
  · have h := some_of h
    subst h
    have t_ := tT h1 <| tN
    exact runs_of (C := cfg) (objs := [[(.mp 1), (.pv (.int .i64 n)), (.pv (.bool b)), (.pv (.bool b2)), (.pv (.int .i64 n2)), (.pv (.int .i64 n3))], [(.maph (.int .u64) false (List.map M_uint64_uint8.pv m) [])]]) (sc := t_.ev) (.k0 t_.pf (by kernel_rfl))
  · have h := some_of h
    subst h
    have t_ := tF h1 <| tN
    exact runs_of (C := cfg) (objs := [[(.mp 1), (.pv (.int .i64 n)), (.pv (.bool b)), (.pv (.bool b2)), (.pv (.int .i64 n2)), (.pv (.int .i64 n3))], [(.maph (.int .u64) false (List.map M_uint64_uint8.pv m) [])]]) (sc := t_.ev) (.k0 t_.pf (by kernel_rfl))
/-! ### slices_Concat_byte_out -/
def slices_Concat_byte_out (slices : List E_L_uint8) : (List Int) ⊕ (List Int) → Res
  | .inl r1 => ([(.one (.own 0 0 0 false))], [], [(.ints .u8 r1)])
  | .inr r1 => ([(.one (.own 0 0 (r1).length false))], [], [(.ints .u8 r1)])
/-! ### slices_Concat_byte_L0 -/
def slices_Concat_byte_L0_st (slices : List E_L_uint8) (r : List E_L_uint8) (n : Int) : Int × Int → St
  | (size, n2) => ⟨[(0, (.av (.one (.pv (.recs 1 (List.map E_L_uint8.pv slices) false))))), (3, (.av (.one (.pv (.int .i64 size))))), (9, (.av (.one (.pv (.recs 1 (List.map E_L_uint8.pv r) false))))), (10, (.av (.one (.pv (.int .i64 n))))), (11, (.av (.one (.pv (.int .i64 n2)))))], [], []⟩
def slices_Concat_byte_L0_ex (slices : List E_L_uint8) (r : List E_L_uint8) (n : Int) : Int → Ex × St
  | r1 => ((.exit 0), ⟨[(0, (.av (.one (.pv (.recs 1 (List.map E_L_uint8.pv slices) false))))), (3, (.av (.one (.pv (.int .i64 r1)))))], [], []⟩)
noncomputable def slices_Concat_byte_L0_step (slices : List E_L_uint8) (r : List E_L_uint8) (n : Int) : Int × Int → Option ((Int × Int) ⊕ (Int))
  | (size, n2) =>
  bif (decide ((n2 : Int) < n)) then
    bif decide ((0 : Int) ≤ n2) && decide ((n2 : Int) < (((List.map E_L_uint8.pv r)).length : Int)) then
    (r[(n2).toNat]?).bind fun e_ => match e_ with
    | .mk l_ =>
    bif (decide (((iadd .i64 size ((l_).length : Int)) : Int) < 0)) then
      none
    else
      some (.inl ((iadd .i64 size ((l_).length : Int)), (iadd .i64 n2 1)))
    else none
  else
    some (.inr size)
theorem slices_Concat_byte_L0_ok (slices : List E_L_uint8) (r : List E_L_uint8) (n : Int) (s_ : Int × Int) (z_ : (Int × Int) ⊕ (Int)) (h : slices_Concat_byte_L0_step slices r n s_ = some z_) : RoundOk Try.prog cfg 65 0 (loopAt Try.prog 65 0) (slices_Concat_byte_L0_st slices r n) (slices_Concat_byte_L0_ex slices r n) s_ z_ := by
  rcases s_ with ⟨size, n2⟩
  rcases cond_of h with ⟨h1, h⟩ | ⟨h1, h⟩
  · obtain ⟨h2, h⟩ := need_of h
    obtain ⟨⟨l_⟩, h3, h⟩ := bind_of h
    rcases cond_of h with ⟨h4, h⟩ | ⟨h4, h⟩
    · cases h
    · have h := some_of h
      subst h
      have t_ := tT h1 <| tO h2 <| tE (.el [(.ints .u8 l_ false)]) <| tO (el_of (f := E_L_uint8.pv) h3) <| tF h4 <| tN
      exact ⟨t_.ev, slices_Concat_byte_L0_st slices r n ((iadd .i64 size ((l_).length : Int)), (iadd .i64 n2 1)), .k0 t_.pf (by kernel_rfl), .same (by kernel_rfl)⟩
  · have h := some_of h
    subst h
    have t_ := tF h1 <| tN
    exact ⟨t_.ev, ⟨[(12, (.av (.one (.pv (.bool false))))), (0, (.av (.one (.pv (.recs 1 (List.map E_L_uint8.pv slices) false))))), (3, (.av (.one (.pv (.int .i64 size))))), (9, (.av (.one (.pv (.recs 1 (List.map E_L_uint8.pv r) false))))), (10, (.av (.one (.pv (.int .i64 n))))), (11, (.av (.one (.pv (.int .i64 n2))))), (12, (.av (.one (.pv (.bool (decide ((n2 : Int) < n)))))))], [], []⟩, .k0 t_.pf (by kernel_rfl), ⟨⟨⟨_, rfl, .eq rfl⟩, ⟨_, rfl, .eq rfl⟩, trivial⟩, trivial, trivial⟩⟩
theorem slices_Concat_byte_L0_runs (slices : List E_L_uint8) (r : List E_L_uint8) (n : Int) (s_ : Int × Int) (r_ : Int) (h : runL (slices_Concat_byte_L0_step slices r n) s_ = some r_) : LRuns Try.prog (lEnv Try.prog cfg 65 0).nt 0 (.loop (loopAt Try.prog 65 0)) (slices_Concat_byte_L0_st slices r n s_) (slices_Concat_byte_L0_ex slices r n r_).1 (slices_Concat_byte_L0_ex slices r n r_).2 :=
  loop_run h (slices_Concat_byte_L0_ok slices r n) (by intro r_; rcases r_ with r1 <;> simp [slices_Concat_byte_L0_ex])
/-! ### slices_Grow_byte_out -/
def slices_Grow_byte_out (n : Int) : (List Int) ⊕ (Unit) → Res
  | .inl r1 => ([(.one (.own 0 0 0 false))], [], [(.ints .u8 r1)])
  | .inr _ => ([(.one (.pv .nils))], [], [])
/-! ### slices_Grow_byte -/
noncomputable def slices_Grow_byte (n : Int) : Option ((List Int) ⊕ (Unit)) :=
  bif (decide ((n : Int) < 0)) then
    none
  else
    bif (decide ((0 : Int) < (isub .i64 n 0))) then
      bif decide ((0 : Int) < (isub .i64 n 0)) && fits ((isub .i64 n 0)).toNat then
      bif decide ((0 : Int) ≤ 0) && decide ((0 : Int) ≤ 0) && decide ((0 : Int) ≤ (((List.replicate ((isub .i64 n 0)).toNat 0)).length : Int)) && decide ((0 : Int) = 0) then
      some (.inl (List.replicate ((isub .i64 n 0)).toNat 0))
      else none
      else none
    else
      some (.inr ())
theorem slices_Grow_byte_runs (n : Int) (r_ : (List Int) ⊕ (Unit)) (h : slices_Grow_byte n = some r_) : Runs Try.prog 82 [(.one (.pv .nils)), (.one (.pv (.int .i64 n)))] [] [] (slices_Grow_byte_out n r_) := by
  unfold slices_Grow_byte at h
  rcases cond_of h with ⟨h1, h⟩ | ⟨h1, h⟩
  · cases h
  · rcases cond_of h with ⟨h2, h⟩ | ⟨h2, h⟩
    · obtain ⟨h3, h⟩ := need_of h
      obtain ⟨h4, h⟩ := need_of h
      have h := some_of h
      subst h
      have t_ := tF h1 <| tT h2 <| tO (rfl : true = true) <| tO h3 <| tO h4 <| tN
      exact runs_of (C := cfg) (objs := []) (sc := t_.ev) (.k0 t_.pf (by kernel_rfl))
    · have h := some_of h
      subst h
      have t_ := tF h1 <| tF h2 <| tN
      exact runs_of (C := cfg) (objs := []) (sc := t_.ev) (.k0 t_.pf (by kernel_rfl))
/-! ### slices_Concat_byte_L1 -/
def slices_Concat_byte_L1_st (r : List E_L_uint8) (n : Int) (l : List Int) : (Unit) ⊕ (Int × List Int) → St
  | .inl _ => ⟨[(6, (.av (.one (.own 0 0 0 false)))), (25, (.av (.one (.pv (.recs 1 (List.map E_L_uint8.pv r) false))))), (26, (.av (.one (.pv (.int .i64 n))))), (27, (.av (.one (.pv (.int .i64 0)))))], [], [(0, (.live (.ints .u8 l)))]⟩
  | .inr (n2, l2) => ⟨[(6, (.av (.one (.own 0 0 (l2).length false)))), (25, (.av (.one (.pv (.recs 1 (List.map E_L_uint8.pv r) false))))), (26, (.av (.one (.pv (.int .i64 n))))), (27, (.av (.one (.pv (.int .i64 n2)))))], [], [(0, (.live (.ints .u8 l2)))]⟩
def slices_Concat_byte_L1_ex (r : List E_L_uint8) (n : Int) (l : List Int) : (Unit) ⊕ (List Int) → Ex × St
  | .inl _ => ((.exit 2), ⟨[(6, (.av (.one (.own 0 0 0 false))))], [], [(0, (.live (.ints .u8 l)))]⟩)
  | .inr r1 => ((.exit 2), ⟨[(6, (.av (.one (.own 0 0 (r1).length false))))], [], [(0, (.live (.ints .u8 r1)))]⟩)
noncomputable def slices_Concat_byte_L1_step (r : List E_L_uint8) (n : Int) (l : List Int) : (Unit) ⊕ (Int × List Int) → Option (((Unit) ⊕ (Int × List Int)) ⊕ ((Unit) ⊕ (List Int)))
  | .inl _ =>
    bif (decide ((0 : Int) < n)) then
      bif decide ((0 : Int) ≤ 0) && decide ((0 : Int) < (((List.map E_L_uint8.pv r)).length : Int)) then
      (r[0]?).bind fun e_ => match e_ with
      | .mk l_ =>
      bif Nat.ble 0 (l).length then
      bif Nat.beq 0 ((List.take 0 l)).length then
      bif fits (((List.take 0 l) ++ l_)).length then
      some (.inl (.inr (1, ((List.take 0 l) ++ l_))))
      else none
      else none
      else none
      else none
    else
      some (.inr (.inl ()))
  | .inr (n2, l2) =>
    bif (decide ((n2 : Int) < n)) then
      bif decide ((0 : Int) ≤ n2) && decide ((n2 : Int) < (((List.map E_L_uint8.pv r)).length : Int)) then
      (r[(n2).toNat]?).bind fun e_ => match e_ with
      | .mk l_ =>
      bif fits ((l2 ++ l_)).length then
      some (.inl (.inr ((iadd .i64 n2 1), (l2 ++ l_))))
      else none
      else none
    else
      some (.inr (.inr l2))
theorem slices_Concat_byte_L1_ok (r : List E_L_uint8) (n : Int) (l : List Int) (s_ : (Unit) ⊕ (Int × List Int)) (z_ : ((Unit) ⊕ (Int × List Int)) ⊕ ((Unit) ⊕ (List Int))) (h : slices_Concat_byte_L1_step r n l s_ = some z_) : RoundOk Try.prog cfg 65 0 (loopAt Try.prog 65 1) (slices_Concat_byte_L1_st r n l) (slices_Concat_byte_L1_ex r n l) s_ z_ := by
  rcases s_ with _ | ⟨n2, l2⟩
  · rcases cond_of h with ⟨h1, h⟩ | ⟨h1, h⟩
    · obtain ⟨h2, h⟩ := need_of h
      obtain ⟨⟨l_⟩, h3, h⟩ := bind_of h
      obtain ⟨h4, h⟩ := need_of h
      obtain ⟨h5, h⟩ := need_of h
      obtain ⟨h6, h⟩ := need_of h
      have h := some_of h
      subst h
      have t_ := tT h1 <| tO h2 <| tE (.el [(.ints .u8 l_ false)]) <| tO (el_of (f := E_L_uint8.pv) h3) <| tE (.el []) <| tO h4 <| tO h5 <| tO h6 <| tN
      exact ⟨t_.ev, slices_Concat_byte_L1_st r n l (.inr (1, ((List.take 0 l) ++ l_))), .k0 t_.pf (by kernel_rfl), .same (by kernel_rfl)⟩
    · have h := some_of h
      subst h
      have t_ := tF h1 <| tN
      exact ⟨t_.ev, ⟨[(28, (.av (.one (.pv (.bool false))))), (6, (.av (.one (.own 0 0 0 false)))), (25, (.av (.one (.pv (.recs 1 (List.map E_L_uint8.pv r) false))))), (26, (.av (.one (.pv (.int .i64 n))))), (27, (.av (.one (.pv (.int .i64 0))))), (28, (.av (.one (.pv (.bool (decide ((0 : Int) < n)))))))], [], [(0, (.live (.ints .u8 l)))]⟩, .k0 t_.pf (by kernel_rfl), ⟨⟨⟨_, rfl, .eq rfl⟩, trivial⟩, trivial, ⟨⟨rfl, .eq rfl⟩, trivial⟩⟩⟩
  · rcases cond_of h with ⟨h1, h⟩ | ⟨h1, h⟩
    · obtain ⟨h2, h⟩ := need_of h
      obtain ⟨⟨l_⟩, h3, h⟩ := bind_of h
      obtain ⟨h4, h⟩ := need_of h
      have h := some_of h
      subst h
      have t_ := tT h1 <| tO h2 <| tE (.el [(.ints .u8 l_ false)]) <| tO (el_of (f := E_L_uint8.pv) h3) <| tO (show (Nat.beq (l2).length (l2).length) = true from Nat.beq_refl _) <| tO h4 <| tN
      exact ⟨t_.ev, slices_Concat_byte_L1_st r n l (.inr ((iadd .i64 n2 1), (l2 ++ l_))), .k0 t_.pf (by kernel_rfl), .same (by kernel_rfl)⟩
    · have h := some_of h
      subst h
      have t_ := tF h1 <| tN
      exact ⟨t_.ev, ⟨[(28, (.av (.one (.pv (.bool false))))), (6, (.av (.one (.own 0 0 (l2).length false)))), (25, (.av (.one (.pv (.recs 1 (List.map E_L_uint8.pv r) false))))), (26, (.av (.one (.pv (.int .i64 n))))), (27, (.av (.one (.pv (.int .i64 n2))))), (28, (.av (.one (.pv (.bool (decide ((n2 : Int) < n)))))))], [], [(0, (.live (.ints .u8 l2)))]⟩, .k0 t_.pf (by kernel_rfl), ⟨⟨⟨_, rfl, .eq rfl⟩, trivial⟩, trivial, ⟨⟨rfl, .eq rfl⟩, trivial⟩⟩⟩
theorem slices_Concat_byte_L1_runs (r : List E_L_uint8) (n : Int) (l : List Int) (s_ : (Unit) ⊕ (Int × List Int)) (r_ : (Unit) ⊕ (List Int)) (h : runL (slices_Concat_byte_L1_step r n l) s_ = some r_) : LRuns Try.prog (lEnv Try.prog cfg 65 0).nt 0 (.loop (loopAt Try.prog 65 1)) (slices_Concat_byte_L1_st r n l s_) (slices_Concat_byte_L1_ex r n l r_).1 (slices_Concat_byte_L1_ex r n l r_).2 :=
  loop_run h (slices_Concat_byte_L1_ok r n l) (by intro r_; rcases r_ with _ | r1 <;> simp [slices_Concat_byte_L1_ex])
/-! ### slices_Concat_byte_L1_3 -/
def slices_Concat_byte_L1_3_st (r : List E_L_uint8) (n : Int) : Int × List Int → St
  | (n2, l) => ⟨[(6, (.av (.one (.own 0 0 (l).length false)))), (25, (.av (.one (.pv (.recs 1 (List.map E_L_uint8.pv r) false))))), (26, (.av (.one (.pv (.int .i64 n))))), (27, (.av (.one (.pv (.int .i64 n2)))))], [], [(0, (.live (.ints .u8 l)))]⟩
def slices_Concat_byte_L1_3_ex (r : List E_L_uint8) (n : Int) : List Int → Ex × St
  | r1 => ((.exit 2), ⟨[(6, (.av (.one (.own 0 0 (r1).length false))))], [], [(0, (.live (.ints .u8 r1)))]⟩)
noncomputable def slices_Concat_byte_L1_3_step (r : List E_L_uint8) (n : Int) : Int × List Int → Option ((Int × List Int) ⊕ (List Int))
  | (n2, l) =>
  bif (decide ((n2 : Int) < n)) then
    bif decide ((0 : Int) ≤ n2) && decide ((n2 : Int) < (((List.map E_L_uint8.pv r)).length : Int)) then
    (r[(n2).toNat]?).bind fun e_ => match e_ with
    | .mk l_ =>
    bif fits ((l ++ l_)).length then
    some (.inl ((iadd .i64 n2 1), (l ++ l_)))
    else none
    else none
  else
    some (.inr l)
theorem slices_Concat_byte_L1_3_ok (r : List E_L_uint8) (n : Int) (s_ : Int × List Int) (z_ : (Int × List Int) ⊕ (List Int)) (h : slices_Concat_byte_L1_3_step r n s_ = some z_) : RoundOk Try.prog cfg 65 0 (loopAt Try.prog 65 1) (slices_Concat_byte_L1_3_st r n) (slices_Concat_byte_L1_3_ex r n) s_ z_ := by
  rcases s_ with ⟨n2, l⟩
  rcases cond_of h with ⟨h1, h⟩ | ⟨h1, h⟩
  · obtain ⟨h2, h⟩ := need_of h
    obtain ⟨⟨l_⟩, h3, h⟩ := bind_of h
    obtain ⟨h4, h⟩ := need_of h
    have h := some_of h
    subst h
    have t_ := tT h1 <| tO h2 <| tE (.el [(.ints .u8 l_ false)]) <| tO (el_of (f := E_L_uint8.pv) h3) <| tO (show (Nat.beq (l).length (l).length) = true from Nat.beq_refl _) <| tO h4 <| tN
    exact ⟨t_.ev, slices_Concat_byte_L1_3_st r n ((iadd .i64 n2 1), (l ++ l_)), .k0 t_.pf (by kernel_rfl), .same (by kernel_rfl)⟩
  · have h := some_of h
    subst h
    have t_ := tF h1 <| tN
    exact ⟨t_.ev, ⟨[(28, (.av (.one (.pv (.bool false))))), (6, (.av (.one (.own 0 0 (l).length false)))), (25, (.av (.one (.pv (.recs 1 (List.map E_L_uint8.pv r) false))))), (26, (.av (.one (.pv (.int .i64 n))))), (27, (.av (.one (.pv (.int .i64 n2))))), (28, (.av (.one (.pv (.bool (decide ((n2 : Int) < n)))))))], [], [(0, (.live (.ints .u8 l)))]⟩, .k0 t_.pf (by kernel_rfl), ⟨⟨⟨_, rfl, .eq rfl⟩, trivial⟩, trivial, ⟨⟨rfl, .eq rfl⟩, trivial⟩⟩⟩
theorem slices_Concat_byte_L1_3_runs (r : List E_L_uint8) (n : Int) (s_ : Int × List Int) (r_ : List Int) (h : runL (slices_Concat_byte_L1_3_step r n) s_ = some r_) : LRuns Try.prog (lEnv Try.prog cfg 65 0).nt 0 (.loop (loopAt Try.prog 65 1)) (slices_Concat_byte_L1_3_st r n s_) (slices_Concat_byte_L1_3_ex r n r_).1 (slices_Concat_byte_L1_3_ex r n r_).2 :=
  loop_run h (slices_Concat_byte_L1_3_ok r n) (by intro r_; rcases r_ with r1 <;> simp [slices_Concat_byte_L1_3_ex])
/-! ### slices_Concat_byte -/
noncomputable def slices_Concat_byte (slices : List E_L_uint8) : Option ((List Int) ⊕ (List Int)) :=
  (runL (slices_Concat_byte_L0_step slices slices (((List.map E_L_uint8.pv slices)).length : Int)) (0, 0)).bind fun n =>
  (slices_Grow_byte n).bind fun z_ => match z_ with
  | .inl l_ =>
    (runL (slices_Concat_byte_L1_step slices (((List.map E_L_uint8.pv slices)).length : Int) l_) (.inl ())).bind fun z_ => match z_ with
    | .inl _ =>
      some (.inl l_)
    | .inr l_2 =>
      some (.inr l_2)
  | .inr _ =>
    (runL (slices_Concat_byte_L1_3_step slices (((List.map E_L_uint8.pv slices)).length : Int)) (0, [])).bind fun l_ =>
    some (.inr l_)
theorem slices_Concat_byte_runs (slices : List E_L_uint8) (r_ : (List Int) ⊕ (List Int)) (h : slices_Concat_byte slices = some r_) : Runs Try.prog 65 [(.one (.pv (.recs 1 (List.map E_L_uint8.pv slices) false)))] [] [] (slices_Concat_byte_out slices r_) := by
  unfold slices_Concat_byte at h
  obtain ⟨n, h1, h⟩ := bind_of h
  have q_1 := (slices_Concat_byte_L0_runs slices slices (((List.map E_L_uint8.pv slices)).length : Int) _ _ h1)
  obtain ⟨z_, h2, h⟩ := bind_of h
  rcases z_ with l_ | _
  · obtain ⟨z_, h3, h⟩ := bind_of h
    rcases z_ with _ | l_2
    · have h := some_of h
      subst h
      have t_ := tL q_1 <| tR (slices_Grow_byte_runs n _ h2) <| tL (slices_Concat_byte_L1_runs slices (((List.map E_L_uint8.pv slices)).length : Int) l_ _ _ h3) <| tN
      exact runs_of (C := cfg) (objs := []) (sc := t_.ev) (.k0 t_.pf (by kernel_rfl))
    · have h := some_of h
      subst h
      have t_ := tL q_1 <| tR (slices_Grow_byte_runs n _ h2) <| tL (slices_Concat_byte_L1_runs slices (((List.map E_L_uint8.pv slices)).length : Int) l_ _ _ h3) <| tN
      exact runs_of (C := cfg) (objs := []) (sc := t_.ev) (.k0 t_.pf (by kernel_rfl))
  · obtain ⟨l_, h3, h⟩ := bind_of h
    have h := some_of h
    subst h
    have t_ := tL q_1 <| tR (slices_Grow_byte_runs n _ h2) <| tL (LRuns.coe (s0 := ⟨[(6, (.av (.one (.own 0 0 0 false)))), (25, (.av (.one (.pv (.recs 1 (List.map E_L_uint8.pv slices) false))))), (26, (.av (.one (.pv (.int .i64 (((List.map E_L_uint8.pv slices)).length : Int)))))), (27, (.av (.one (.pv (.int .i64 0)))))], [], [(0, (.live (.ints .u8 [])))]⟩) (slices_Concat_byte_L1_3_runs slices (((List.map E_L_uint8.pv slices)).length : Int) _ _ h3) ⟨⟨⟨_, rfl, .own (by first | rfl | (simp only [List.take_length]; done) | (simp only [List.take_length, List.length_map, List.length_append, List.drop_zero, List.map_append, List.map_take, List.map_drop, List.map_replicate, List.map_cons, List.map_nil, List.append_nil, List.nil_append, E_L_uint8.pv, E_L_uint8.upd]; done) | (simp; done))⟩, ⟨_, rfl, .eq rfl⟩, ⟨_, rfl, .eq rfl⟩, ⟨_, rfl, .eq rfl⟩, trivial⟩, trivial, ⟨⟨rfl, .eq rfl⟩, trivial⟩⟩) <| tN
    exact runs_of (C := cfg) (objs := []) (sc := t_.ev) (.k0 t_.pf (by kernel_rfl))
/-! ### disk_Disk_Append -/
noncomputable def disk_Disk_Append (seg : Int) (p : List Int) (n : Int) (b : Bool) (b2 : Bool) (n2 : Int) (n3 : Int) (m : List (Int × (List Int))) : Option (Int × Bool × Int × List (Int × (List Int))) :=
  bif b2 then
    some (10, b2, n2, m)
  else
    bif b then
      some (8, b2, n2, m)
    else
      (disk_Disk_Used n b b2 n2 n3 m).bind fun n4 =>
      bif (decide (((isub .i64 n n4) : Int) < ((p).length : Int))) then
        some (8, b2, n2, m)
      else
        (disk_Disk_goes n b b2 n2 n3 m).bind fun (b3, b4, n5) =>
        bif b3 then
          bif decide ((0 : Int) ≤ 0) && decide ((0 : Int) ≤ (if (((p).length : Int) : Int) < (if (n3 : Int) < 0 then 0 else n3) then ((p).length : Int) else (if (n3 : Int) < 0 then 0 else n3))) && decide (((if (((p).length : Int) : Int) < (if (n3 : Int) < 0 then 0 else n3) then ((p).length : Int) else (if (n3 : Int) < 0 then 0 else n3)) : Int) ≤ ((p).length : Int)) && decide (((if (((p).length : Int) : Int) < (if (n3 : Int) < 0 then 0 else n3) then ((p).length : Int) else (if (n3 : Int) < 0 then 0 else n3)) : Int) = (if (((p).length : Int) : Int) < (if (n3 : Int) < 0 then 0 else n3) then ((p).length : Int) else (if (n3 : Int) < 0 then 0 else n3))) then
          match (mget seg m) with
          | .some l_ =>
            (slices_Concat_byte [(E_L_uint8.mk l_), (E_L_uint8.mk (List.take ((if (((p).length : Int) : Int) < (if (n3 : Int) < 0 then 0 else n3) then ((p).length : Int) else (if (n3 : Int) < 0 then 0 else n3)) - 0).toNat p))]).bind fun z_ => match z_ with
            | .inl l_2 =>
              some (10, b4, n5, (mset seg (List.take 0 l_2) m))
            | .inr l_2 =>
              some (10, b4, n5, (mset seg l_2 m))
          | .none =>
            (slices_Concat_byte [(E_L_uint8.mk []), (E_L_uint8.mk (List.take ((if (((p).length : Int) : Int) < (if (n3 : Int) < 0 then 0 else n3) then ((p).length : Int) else (if (n3 : Int) < 0 then 0 else n3)) - 0).toNat p))]).bind fun z_ => match z_ with
            | .inl l_ =>
              some (10, b4, n5, (mset seg (List.take 0 l_) m))
            | .inr l_ =>
              some (10, b4, n5, (mset seg l_ m))
          else none
        else
          match (mget seg m) with
          | .some l_ =>
            (slices_Concat_byte [(E_L_uint8.mk l_), (E_L_uint8.mk p)]).bind fun z_ => match z_ with
            | .inl l_2 =>
              some (0, b4, n5, (mset seg (List.take 0 l_2) m))
            | .inr l_2 =>
              some (0, b4, n5, (mset seg l_2 m))
          | .none =>
            (slices_Concat_byte [(E_L_uint8.mk []), (E_L_uint8.mk p)]).bind fun z_ => match z_ with
            | .inl l_ =>
              some (0, b4, n5, (mset seg (List.take 0 l_) m))
            | .inr l_ =>
              some (0, b4, n5, (mset seg l_ m))
theorem disk_Disk_Append_runs (seg : Int) (p : List Int) (n : Int) (b : Bool) (b2 : Bool) (n2 : Int) (n3 : Int) (m : List (Int × (List Int))) (r_ : Int × Bool × Int × List (Int × (List Int))) (h : disk_Disk_Append seg p n b b2 n2 n3 m = some r_) : Runs Try.prog 17 [(.one (.ref 0 0)), (.one (.pv (.int .u64 seg))), (.one (.pv (.ints .u8 p false)))] [[(.mp 1), (.pv (.int .i64 n)), (.pv (.bool b)), (.pv (.bool b2)), (.pv (.int .i64 n2)), (.pv (.int .i64 n3))], [(.maph (.int .u64) false (List.map M_uint64_uint8.pv m) [])]] [] (disk_Disk_Append_out seg p n b b2 n2 n3 m r_) := by
  unfold disk_Disk_Append at h
  rcases cond_of h with ⟨h1, h⟩ | ⟨h1, h⟩
  · have h := some_of h
    subst h
    have t_ := tF (rfl : false = false) <| tT h1 <| tN
    exact runs_of (C := cfg) (objs := [[(.mp 1), (.pv (.int .i64 n)), (.pv (.bool b)), (.pv (.bool b2)), (.pv (.int .i64 n2)), (.pv (.int .i64 n3))], [(.maph (.int .u64) false (List.map M_uint64_uint8.pv m) [])]]) (sc := t_.ev) (.k0 t_.pf (by kernel_rfl))
  · rcases cond_of h with ⟨h2, h⟩ | ⟨h2, h⟩
    · have h := some_of h
      subst h
      have t_ := tF (rfl : false = false) <| tF h1 <| tT h2 <| tT (rfl : true = true) <| tN
      exact runs_of (C := cfg) (objs := [[(.mp 1), (.pv (.int .i64 n)), (.pv (.bool b)), (.pv (.bool b2)), (.pv (.int .i64 n2)), (.pv (.int .i64 n3))], [(.maph (.int .u64) false (List.map M_uint64_uint8.pv m) [])]]) (sc := t_.ev) (.k0 t_.pf (by kernel_rfl))
    · obtain ⟨n4, h3, h⟩ := bind_of h
      rcases cond_of h with ⟨h4, h⟩ | ⟨h4, h⟩
      · have h := some_of h
        subst h
        have t_ := tF (rfl : false = false) <| tF h1 <| tF h2 <| tR (disk_Disk_Used_runs n b b2 n2 n3 m _ h3) <| tR (disk_Disk_Used_runs n b b2 n2 n3 m _ h3) <| tT h4 <| tN
        exact runs_of (C := cfg) (objs := [[(.mp 1), (.pv (.int .i64 n)), (.pv (.bool b)), (.pv (.bool b2)), (.pv (.int .i64 n2)), (.pv (.int .i64 n3))], [(.maph (.int .u64) false (List.map M_uint64_uint8.pv m) [])]]) (sc := t_.ev) (.k1 t_.pf (by kernel_rfl) (by kernel_rfl))
      · obtain ⟨⟨b3, b4, n5⟩, h5, h⟩ := bind_of h
        rcases cond_of h with ⟨h6, h⟩ | ⟨h6, h⟩
        · obtain ⟨h7, h⟩ := need_of h
          cases h8 : (mget seg m) with
          | some l_ =>
            simp only [h8] at h
            have p8_ := fun {sc_ : List Ev} {Q_ : Prop} (t_ : Tell sc_ Q_) => tF (rfl : false = false) <| tF h1 <| tF h2 <| tR (disk_Disk_Used_runs n b b2 n2 n3 m _ h3) <| tR (disk_Disk_Used_runs n b b2 n2 n3 m _ h3) <| tF h4 <| tR (disk_Disk_goes_runs n b b2 n2 n3 m _ h5) <| tT h6 <| tO h7 <| tT (show kget [(.int .u64 seg)] (List.map M_uint64_uint8.pv m) = some [(.ints .u8 l_ false)] from by first | (simp only [M_uint64_uint8.set, M_uint64_uint8.del, M_uint64_uint8.get, h8, Option.map_some, Option.map_none]; done) | (simp only [M_uint64_uint8.set, M_uint64_uint8.del, M_uint64_uint8.get, h8, Option.map_some, Option.map_none]; rfl) | (rw [← List.map_nil]; simp only [M_uint64_uint8.set, M_uint64_uint8.del, M_uint64_uint8.get, h8, Option.map_some, Option.map_none]; rfl)) <| tE (.el [(.ints .u8 l_ false)]) <| tT (show kget [(.int .u64 seg)] (List.map M_uint64_uint8.pv m) = some [(.ints .u8 l_ false)] from by first | (simp only [M_uint64_uint8.set, M_uint64_uint8.del, M_uint64_uint8.get, h8, Option.map_some, Option.map_none]; done) | (simp only [M_uint64_uint8.set, M_uint64_uint8.del, M_uint64_uint8.get, h8, Option.map_some, Option.map_none]; rfl) | (rw [← List.map_nil]; simp only [M_uint64_uint8.set, M_uint64_uint8.del, M_uint64_uint8.get, h8, Option.map_some, Option.map_none]; rfl)) <| tE (.el [(.ints .u8 l_ false)]) <| t_
            obtain ⟨z_, h9, h⟩ := bind_of h
            rcases z_ with l_2 | l_2
            · have h := some_of h
              subst h
              have t_ := p8_ <| tR (Runs.coe (as' := [(.one (.pv (.recs 1 [[(.ints .u8 l_ false)], [(.ints .u8 (List.take ((if (((p).length : Int) : Int) < (if (n3 : Int) < 0 then 0 else n3) then ((p).length : Int) else (if (n3 : Int) < 0 then 0 else n3)) - 0).toNat p) false)]] true)))]) (objs' := []) (rows' := []) (slices_Concat_byte_runs [(E_L_uint8.mk l_), (E_L_uint8.mk (List.take ((if (((p).length : Int) : Int) < (if (n3 : Int) < 0 then 0 else n3) then ((p).length : Int) else (if (n3 : Int) < 0 then 0 else n3)) - 0).toNat p))] _ h9) ⟨.pv (.recs (.cons (.cons (.eq rfl) (.nil)) (.cons (.cons (.eq rfl) (.nil)) (.nil)))), trivial⟩ trivial trivial) <| tR (Runs.coe (as' := [(.one (.pv (.recs 1 [[(.ints .u8 l_ false)], [(.ints .u8 (List.take ((if (((p).length : Int) : Int) < (if (n3 : Int) < 0 then 0 else n3) then ((p).length : Int) else (if (n3 : Int) < 0 then 0 else n3)) - 0).toNat p) false)]] true)))]) (objs' := []) (rows' := []) (slices_Concat_byte_runs [(E_L_uint8.mk l_), (E_L_uint8.mk (List.take ((if (((p).length : Int) : Int) < (if (n3 : Int) < 0 then 0 else n3) then ((p).length : Int) else (if (n3 : Int) < 0 then 0 else n3)) - 0).toNat p))] _ h9) ⟨.pv (.recs (.cons (.cons (.eq rfl) (.nil)) (.cons (.cons (.eq rfl) (.nil)) (.nil)))), trivial⟩ trivial trivial) <| tN
              have e_ : Runs Try.prog 17 [(.one (.ref 0 0)), (.one (.pv (.int .u64 seg))), (.one (.pv (.ints .u8 p false)))] [[(.mp 1), (.pv (.int .i64 n)), (.pv (.bool b)), (.pv (.bool b2)), (.pv (.int .i64 n2)), (.pv (.int .i64 n3))], [(.maph (.int .u64) false (List.map M_uint64_uint8.pv m) [])]] [] ([(.one (.pv (.int .i64 10)))], [[(.mp 1), (.pv (.int .i64 n)), (.pv (.bool b)), (.pv (.bool b4)), (.pv (.int .i64 n5)), (.pv (.int .i64 n3))], [(.maph (.int .u64) false (kset [(.int .u64 seg)] [(.ints .u8 (List.take 0 l_2) false)] (List.map M_uint64_uint8.pv m)) [])]], []) := runs_of (C := cfg) (objs := [[(.mp 1), (.pv (.int .i64 n)), (.pv (.bool b)), (.pv (.bool b2)), (.pv (.int .i64 n2)), (.pv (.int .i64 n3))], [(.maph (.int .u64) false (List.map M_uint64_uint8.pv m) [])]]) (sc := t_.ev) (.k1 t_.pf (by kernel_rfl) (by kernel_rfl))
              exact e_.out ⟨.eq rfl, trivial⟩ ⟨⟨.eq rfl, .eq rfl, .eq rfl, .eq rfl, .eq rfl, .eq rfl, trivial⟩, ⟨.maph (WkEs.to (WkEs.set (.cons (.eq rfl) (.nil)) (WkEs.refl _)) (by first | rfl | (simp only [M_uint64_uint8.set, M_uint64_uint8.del]; done) | (simp only [M_uint64_uint8.set, M_uint64_uint8.del, kset, kdel]; rfl) | rfl | (simp only [M_uint64_uint8.set, M_uint64_uint8.del, List.take_length]; done))), trivial⟩, trivial⟩ trivial rfl
            · have h := some_of h
              subst h
              have t_ := p8_ <| tR (Runs.coe (as' := [(.one (.pv (.recs 1 [[(.ints .u8 l_ false)], [(.ints .u8 (List.take ((if (((p).length : Int) : Int) < (if (n3 : Int) < 0 then 0 else n3) then ((p).length : Int) else (if (n3 : Int) < 0 then 0 else n3)) - 0).toNat p) false)]] true)))]) (objs' := []) (rows' := []) (slices_Concat_byte_runs [(E_L_uint8.mk l_), (E_L_uint8.mk (List.take ((if (((p).length : Int) : Int) < (if (n3 : Int) < 0 then 0 else n3) then ((p).length : Int) else (if (n3 : Int) < 0 then 0 else n3)) - 0).toNat p))] _ h9) ⟨.pv (.recs (.cons (.cons (.eq rfl) (.nil)) (.cons (.cons (.eq rfl) (.nil)) (.nil)))), trivial⟩ trivial trivial) <| tR (Runs.coe (as' := [(.one (.pv (.recs 1 [[(.ints .u8 l_ false)], [(.ints .u8 (List.take ((if (((p).length : Int) : Int) < (if (n3 : Int) < 0 then 0 else n3) then ((p).length : Int) else (if (n3 : Int) < 0 then 0 else n3)) - 0).toNat p) false)]] true)))]) (objs' := []) (rows' := []) (slices_Concat_byte_runs [(E_L_uint8.mk l_), (E_L_uint8.mk (List.take ((if (((p).length : Int) : Int) < (if (n3 : Int) < 0 then 0 else n3) then ((p).length : Int) else (if (n3 : Int) < 0 then 0 else n3)) - 0).toNat p))] _ h9) ⟨.pv (.recs (.cons (.cons (.eq rfl) (.nil)) (.cons (.cons (.eq rfl) (.nil)) (.nil)))), trivial⟩ trivial trivial) <| tN
              have e_ : Runs Try.prog 17 [(.one (.ref 0 0)), (.one (.pv (.int .u64 seg))), (.one (.pv (.ints .u8 p false)))] [[(.mp 1), (.pv (.int .i64 n)), (.pv (.bool b)), (.pv (.bool b2)), (.pv (.int .i64 n2)), (.pv (.int .i64 n3))], [(.maph (.int .u64) false (List.map M_uint64_uint8.pv m) [])]] [] ([(.one (.pv (.int .i64 10)))], [[(.mp 1), (.pv (.int .i64 n)), (.pv (.bool b)), (.pv (.bool b4)), (.pv (.int .i64 n5)), (.pv (.int .i64 n3))], [(.maph (.int .u64) false (kset [(.int .u64 seg)] [(.ints .u8 (List.take (l_2).length l_2) false)] (List.map M_uint64_uint8.pv m)) [])]], []) := runs_of (C := cfg) (objs := [[(.mp 1), (.pv (.int .i64 n)), (.pv (.bool b)), (.pv (.bool b2)), (.pv (.int .i64 n2)), (.pv (.int .i64 n3))], [(.maph (.int .u64) false (List.map M_uint64_uint8.pv m) [])]]) (sc := t_.ev) (.k1 t_.pf (by kernel_rfl) (by kernel_rfl))
              exact e_.out ⟨.eq rfl, trivial⟩ ⟨⟨.eq rfl, .eq rfl, .eq rfl, .eq rfl, .eq rfl, .eq rfl, trivial⟩, ⟨.maph (WkEs.to (WkEs.set (.cons (.ints (by first | rfl | (simp only [List.take_length]; done) | (simp only [List.take_length, List.length_map, List.length_append, List.drop_zero, List.map_append, List.map_take, List.map_drop, List.map_replicate, List.map_cons, List.map_nil, List.append_nil, List.nil_append, E_L_uint8.pv, E_L_uint8.upd]; done) | (simp; done))) (.nil)) (WkEs.refl _)) (by first | rfl | (simp only [M_uint64_uint8.set, M_uint64_uint8.del]; done) | (simp only [M_uint64_uint8.set, M_uint64_uint8.del, kset, kdel]; rfl) | rfl | (simp only [M_uint64_uint8.set, M_uint64_uint8.del, List.take_length]; done))), trivial⟩, trivial⟩ trivial rfl
          | none =>
            simp only [h8] at h
            have p8_ := fun {sc_ : List Ev} {Q_ : Prop} (t_ : Tell sc_ Q_) => tF (rfl : false = false) <| tF h1 <| tF h2 <| tR (disk_Disk_Used_runs n b b2 n2 n3 m _ h3) <| tR (disk_Disk_Used_runs n b b2 n2 n3 m _ h3) <| tF h4 <| tR (disk_Disk_goes_runs n b b2 n2 n3 m _ h5) <| tT h6 <| tO h7 <| tF (show kget [(.int .u64 seg)] (List.map M_uint64_uint8.pv m) = none from by first | (simp only [M_uint64_uint8.set, M_uint64_uint8.del, M_uint64_uint8.get, h8, Option.map_some, Option.map_none]; done) | (simp only [M_uint64_uint8.set, M_uint64_uint8.del, M_uint64_uint8.get, h8, Option.map_some, Option.map_none]; rfl) | (rw [← List.map_nil]; simp only [M_uint64_uint8.set, M_uint64_uint8.del, M_uint64_uint8.get, h8, Option.map_some, Option.map_none]; rfl)) <| tF (show kget [(.int .u64 seg)] (List.map M_uint64_uint8.pv m) = none from by first | (simp only [M_uint64_uint8.set, M_uint64_uint8.del, M_uint64_uint8.get, h8, Option.map_some, Option.map_none]; done) | (simp only [M_uint64_uint8.set, M_uint64_uint8.del, M_uint64_uint8.get, h8, Option.map_some, Option.map_none]; rfl) | (rw [← List.map_nil]; simp only [M_uint64_uint8.set, M_uint64_uint8.del, M_uint64_uint8.get, h8, Option.map_some, Option.map_none]; rfl)) <| t_
            obtain ⟨z_, h9, h⟩ := bind_of h
            rcases z_ with l_ | l_
            · have h := some_of h
              subst h
              have t_ := p8_ <| tR (Runs.coe (as' := [(.one (.pv (.recs 1 [[.nils], [(.ints .u8 (List.take ((if (((p).length : Int) : Int) < (if (n3 : Int) < 0 then 0 else n3) then ((p).length : Int) else (if (n3 : Int) < 0 then 0 else n3)) - 0).toNat p) false)]] true)))]) (objs' := []) (rows' := []) (slices_Concat_byte_runs [(E_L_uint8.mk []), (E_L_uint8.mk (List.take ((if (((p).length : Int) : Int) < (if (n3 : Int) < 0 then 0 else n3) then ((p).length : Int) else (if (n3 : Int) < 0 then 0 else n3)) - 0).toNat p))] _ h9) ⟨.pv (.recs (.cons (.cons (.nilsI) (.nil)) (.cons (.cons (.eq rfl) (.nil)) (.nil)))), trivial⟩ trivial trivial) <| tR (Runs.coe (as' := [(.one (.pv (.recs 1 [[.nils], [(.ints .u8 (List.take ((if (((p).length : Int) : Int) < (if (n3 : Int) < 0 then 0 else n3) then ((p).length : Int) else (if (n3 : Int) < 0 then 0 else n3)) - 0).toNat p) false)]] true)))]) (objs' := []) (rows' := []) (slices_Concat_byte_runs [(E_L_uint8.mk []), (E_L_uint8.mk (List.take ((if (((p).length : Int) : Int) < (if (n3 : Int) < 0 then 0 else n3) then ((p).length : Int) else (if (n3 : Int) < 0 then 0 else n3)) - 0).toNat p))] _ h9) ⟨.pv (.recs (.cons (.cons (.nilsI) (.nil)) (.cons (.cons (.eq rfl) (.nil)) (.nil)))), trivial⟩ trivial trivial) <| tN
              have e_ : Runs Try.prog 17 [(.one (.ref 0 0)), (.one (.pv (.int .u64 seg))), (.one (.pv (.ints .u8 p false)))] [[(.mp 1), (.pv (.int .i64 n)), (.pv (.bool b)), (.pv (.bool b2)), (.pv (.int .i64 n2)), (.pv (.int .i64 n3))], [(.maph (.int .u64) false (List.map M_uint64_uint8.pv m) [])]] [] ([(.one (.pv (.int .i64 10)))], [[(.mp 1), (.pv (.int .i64 n)), (.pv (.bool b)), (.pv (.bool b4)), (.pv (.int .i64 n5)), (.pv (.int .i64 n3))], [(.maph (.int .u64) false (kset [(.int .u64 seg)] [(.ints .u8 (List.take 0 l_) false)] (List.map M_uint64_uint8.pv m)) [])]], []) := runs_of (C := cfg) (objs := [[(.mp 1), (.pv (.int .i64 n)), (.pv (.bool b)), (.pv (.bool b2)), (.pv (.int .i64 n2)), (.pv (.int .i64 n3))], [(.maph (.int .u64) false (List.map M_uint64_uint8.pv m) [])]]) (sc := t_.ev) (.k1 t_.pf (by kernel_rfl) (by kernel_rfl))
              exact e_.out ⟨.eq rfl, trivial⟩ ⟨⟨.eq rfl, .eq rfl, .eq rfl, .eq rfl, .eq rfl, .eq rfl, trivial⟩, ⟨.maph (WkEs.to (WkEs.set (.cons (.eq rfl) (.nil)) (WkEs.refl _)) (by first | rfl | (simp only [M_uint64_uint8.set, M_uint64_uint8.del]; done) | (simp only [M_uint64_uint8.set, M_uint64_uint8.del, kset, kdel]; rfl) | rfl | (simp only [M_uint64_uint8.set, M_uint64_uint8.del, List.take_length]; done))), trivial⟩, trivial⟩ trivial rfl
            · have h := some_of h
              subst h
              have t_ := p8_ <| tR (Runs.coe (as' := [(.one (.pv (.recs 1 [[.nils], [(.ints .u8 (List.take ((if (((p).length : Int) : Int) < (if (n3 : Int) < 0 then 0 else n3) then ((p).length : Int) else (if (n3 : Int) < 0 then 0 else n3)) - 0).toNat p) false)]] true)))]) (objs' := []) (rows' := []) (slices_Concat_byte_runs [(E_L_uint8.mk []), (E_L_uint8.mk (List.take ((if (((p).length : Int) : Int) < (if (n3 : Int) < 0 then 0 else n3) then ((p).length : Int) else (if (n3 : Int) < 0 then 0 else n3)) - 0).toNat p))] _ h9) ⟨.pv (.recs (.cons (.cons (.nilsI) (.nil)) (.cons (.cons (.eq rfl) (.nil)) (.nil)))), trivial⟩ trivial trivial) <| tR (Runs.coe (as' := [(.one (.pv (.recs 1 [[.nils], [(.ints .u8 (List.take ((if (((p).length : Int) : Int) < (if (n3 : Int) < 0 then 0 else n3) then ((p).length : Int) else (if (n3 : Int) < 0 then 0 else n3)) - 0).toNat p) false)]] true)))]) (objs' := []) (rows' := []) (slices_Concat_byte_runs [(E_L_uint8.mk []), (E_L_uint8.mk (List.take ((if (((p).length : Int) : Int) < (if (n3 : Int) < 0 then 0 else n3) then ((p).length : Int) else (if (n3 : Int) < 0 then 0 else n3)) - 0).toNat p))] _ h9) ⟨.pv (.recs (.cons (.cons (.nilsI) (.nil)) (.cons (.cons (.eq rfl) (.nil)) (.nil)))), trivial⟩ trivial trivial) <| tN
              have e_ : Runs Try.prog 17 [(.one (.ref 0 0)), (.one (.pv (.int .u64 seg))), (.one (.pv (.ints .u8 p false)))] [[(.mp 1), (.pv (.int .i64 n)), (.pv (.bool b)), (.pv (.bool b2)), (.pv (.int .i64 n2)), (.pv (.int .i64 n3))], [(.maph (.int .u64) false (List.map M_uint64_uint8.pv m) [])]] [] ([(.one (.pv (.int .i64 10)))], [[(.mp 1), (.pv (.int .i64 n)), (.pv (.bool b)), (.pv (.bool b4)), (.pv (.int .i64 n5)), (.pv (.int .i64 n3))], [(.maph (.int .u64) false (kset [(.int .u64 seg)] [(.ints .u8 (List.take (l_).length l_) false)] (List.map M_uint64_uint8.pv m)) [])]], []) := runs_of (C := cfg) (objs := [[(.mp 1), (.pv (.int .i64 n)), (.pv (.bool b)), (.pv (.bool b2)), (.pv (.int .i64 n2)), (.pv (.int .i64 n3))], [(.maph (.int .u64) false (List.map M_uint64_uint8.pv m) [])]]) (sc := t_.ev) (.k1 t_.pf (by kernel_rfl) (by kernel_rfl))
              exact e_.out ⟨.eq rfl, trivial⟩ ⟨⟨.eq rfl, .eq rfl, .eq rfl, .eq rfl, .eq rfl, .eq rfl, trivial⟩, ⟨.maph (WkEs.to (WkEs.set (.cons (.ints (by first | rfl | (simp only [List.take_length]; done) | (simp only [List.take_length, List.length_map, List.length_append, List.drop_zero, List.map_append, List.map_take, List.map_drop, List.map_replicate, List.map_cons, List.map_nil, List.append_nil, List.nil_append, E_L_uint8.pv, E_L_uint8.upd]; done) | (simp; done))) (.nil)) (WkEs.refl _)) (by first | rfl | (simp only [M_uint64_uint8.set, M_uint64_uint8.del]; done) | (simp only [M_uint64_uint8.set, M_uint64_uint8.del, kset, kdel]; rfl) | rfl | (simp only [M_uint64_uint8.set, M_uint64_uint8.del, List.take_length]; done))), trivial⟩, trivial⟩ trivial rfl
        · cases h7 : (mget seg m) with
          | some l_ =>
            simp only [h7] at h
            have p7_ := fun {sc_ : List Ev} {Q_ : Prop} (t_ : Tell sc_ Q_) => tF (rfl : false = false) <| tF h1 <| tF h2 <| tR (disk_Disk_Used_runs n b b2 n2 n3 m _ h3) <| tR (disk_Disk_Used_runs n b b2 n2 n3 m _ h3) <| tF h4 <| tR (disk_Disk_goes_runs n b b2 n2 n3 m _ h5) <| tF h6 <| tT (show kget [(.int .u64 seg)] (List.map M_uint64_uint8.pv m) = some [(.ints .u8 l_ false)] from by first | (simp only [M_uint64_uint8.set, M_uint64_uint8.del, M_uint64_uint8.get, h7, Option.map_some, Option.map_none]; done) | (simp only [M_uint64_uint8.set, M_uint64_uint8.del, M_uint64_uint8.get, h7, Option.map_some, Option.map_none]; rfl) | (rw [← List.map_nil]; simp only [M_uint64_uint8.set, M_uint64_uint8.del, M_uint64_uint8.get, h7, Option.map_some, Option.map_none]; rfl)) <| tE (.el [(.ints .u8 l_ false)]) <| tT (show kget [(.int .u64 seg)] (List.map M_uint64_uint8.pv m) = some [(.ints .u8 l_ false)] from by first | (simp only [M_uint64_uint8.set, M_uint64_uint8.del, M_uint64_uint8.get, h7, Option.map_some, Option.map_none]; done) | (simp only [M_uint64_uint8.set, M_uint64_uint8.del, M_uint64_uint8.get, h7, Option.map_some, Option.map_none]; rfl) | (rw [← List.map_nil]; simp only [M_uint64_uint8.set, M_uint64_uint8.del, M_uint64_uint8.get, h7, Option.map_some, Option.map_none]; rfl)) <| tE (.el [(.ints .u8 l_ false)]) <| t_
            obtain ⟨z_, h8, h⟩ := bind_of h
            rcases z_ with l_2 | l_2
            · have h := some_of h
              subst h
              have t_ := p7_ <| tR (Runs.coe (as' := [(.one (.pv (.recs 1 [[(.ints .u8 l_ false)], [(.ints .u8 p false)]] true)))]) (objs' := []) (rows' := []) (slices_Concat_byte_runs [(E_L_uint8.mk l_), (E_L_uint8.mk p)] _ h8) ⟨.pv (.recs (.cons (.cons (.eq rfl) (.nil)) (.cons (.cons (.eq rfl) (.nil)) (.nil)))), trivial⟩ trivial trivial) <| tR (Runs.coe (as' := [(.one (.pv (.recs 1 [[(.ints .u8 l_ false)], [(.ints .u8 p false)]] true)))]) (objs' := []) (rows' := []) (slices_Concat_byte_runs [(E_L_uint8.mk l_), (E_L_uint8.mk p)] _ h8) ⟨.pv (.recs (.cons (.cons (.eq rfl) (.nil)) (.cons (.cons (.eq rfl) (.nil)) (.nil)))), trivial⟩ trivial trivial) <| tN
              have e_ : Runs Try.prog 17 [(.one (.ref 0 0)), (.one (.pv (.int .u64 seg))), (.one (.pv (.ints .u8 p false)))] [[(.mp 1), (.pv (.int .i64 n)), (.pv (.bool b)), (.pv (.bool b2)), (.pv (.int .i64 n2)), (.pv (.int .i64 n3))], [(.maph (.int .u64) false (List.map M_uint64_uint8.pv m) [])]] [] ([(.one (.pv (.int .i64 0)))], [[(.mp 1), (.pv (.int .i64 n)), (.pv (.bool b)), (.pv (.bool b4)), (.pv (.int .i64 n5)), (.pv (.int .i64 n3))], [(.maph (.int .u64) false (kset [(.int .u64 seg)] [(.ints .u8 (List.take 0 l_2) false)] (List.map M_uint64_uint8.pv m)) [])]], []) := runs_of (C := cfg) (objs := [[(.mp 1), (.pv (.int .i64 n)), (.pv (.bool b)), (.pv (.bool b2)), (.pv (.int .i64 n2)), (.pv (.int .i64 n3))], [(.maph (.int .u64) false (List.map M_uint64_uint8.pv m) [])]]) (sc := t_.ev) (.k1 t_.pf (by kernel_rfl) (by kernel_rfl))
              exact e_.out ⟨.eq rfl, trivial⟩ ⟨⟨.eq rfl, .eq rfl, .eq rfl, .eq rfl, .eq rfl, .eq rfl, trivial⟩, ⟨.maph (WkEs.to (WkEs.set (.cons (.eq rfl) (.nil)) (WkEs.refl _)) (by first | rfl | (simp only [M_uint64_uint8.set, M_uint64_uint8.del]; done) | (simp only [M_uint64_uint8.set, M_uint64_uint8.del, kset, kdel]; rfl) | rfl | (simp only [M_uint64_uint8.set, M_uint64_uint8.del, List.take_length]; done))), trivial⟩, trivial⟩ trivial rfl
            · have h := some_of h
              subst h
              have t_ := p7_ <| tR (Runs.coe (as' := [(.one (.pv (.recs 1 [[(.ints .u8 l_ false)], [(.ints .u8 p false)]] true)))]) (objs' := []) (rows' := []) (slices_Concat_byte_runs [(E_L_uint8.mk l_), (E_L_uint8.mk p)] _ h8) ⟨.pv (.recs (.cons (.cons (.eq rfl) (.nil)) (.cons (.cons (.eq rfl) (.nil)) (.nil)))), trivial⟩ trivial trivial) <| tR (Runs.coe (as' := [(.one (.pv (.recs 1 [[(.ints .u8 l_ false)], [(.ints .u8 p false)]] true)))]) (objs' := []) (rows' := []) (slices_Concat_byte_runs [(E_L_uint8.mk l_), (E_L_uint8.mk p)] _ h8) ⟨.pv (.recs (.cons (.cons (.eq rfl) (.nil)) (.cons (.cons (.eq rfl) (.nil)) (.nil)))), trivial⟩ trivial trivial) <| tN
              have e_ : Runs Try.prog 17 [(.one (.ref 0 0)), (.one (.pv (.int .u64 seg))), (.one (.pv (.ints .u8 p false)))] [[(.mp 1), (.pv (.int .i64 n)), (.pv (.bool b)), (.pv (.bool b2)), (.pv (.int .i64 n2)), (.pv (.int .i64 n3))], [(.maph (.int .u64) false (List.map M_uint64_uint8.pv m) [])]] [] ([(.one (.pv (.int .i64 0)))], [[(.mp 1), (.pv (.int .i64 n)), (.pv (.bool b)), (.pv (.bool b4)), (.pv (.int .i64 n5)), (.pv (.int .i64 n3))], [(.maph (.int .u64) false (kset [(.int .u64 seg)] [(.ints .u8 (List.take (l_2).length l_2) false)] (List.map M_uint64_uint8.pv m)) [])]], []) := runs_of (C := cfg) (objs := [[(.mp 1), (.pv (.int .i64 n)), (.pv (.bool b)), (.pv (.bool b2)), (.pv (.int .i64 n2)), (.pv (.int .i64 n3))], [(.maph (.int .u64) false (List.map M_uint64_uint8.pv m) [])]]) (sc := t_.ev) (.k1 t_.pf (by kernel_rfl) (by kernel_rfl))
              exact e_.out ⟨.eq rfl, trivial⟩ ⟨⟨.eq rfl, .eq rfl, .eq rfl, .eq rfl, .eq rfl, .eq rfl, trivial⟩, ⟨.maph (WkEs.to (WkEs.set (.cons (.ints (by first | rfl | (simp only [List.take_length]; done) | (simp only [List.take_length, List.length_map, List.length_append, List.drop_zero, List.map_append, List.map_take, List.map_drop, List.map_replicate, List.map_cons, List.map_nil, List.append_nil, List.nil_append, E_L_uint8.pv, E_L_uint8.upd]; done) | (simp; done))) (.nil)) (WkEs.refl _)) (by first | rfl | (simp only [M_uint64_uint8.set, M_uint64_uint8.del]; done) | (simp only [M_uint64_uint8.set, M_uint64_uint8.del, kset, kdel]; rfl) | rfl | (simp only [M_uint64_uint8.set, M_uint64_uint8.del, List.take_length]; done))), trivial⟩, trivial⟩ trivial rfl
          | none =>
            simp only [h7] at h
            have p7_ := fun {sc_ : List Ev} {Q_ : Prop} (t_ : Tell sc_ Q_) => tF (rfl : false = false) <| tF h1 <| tF h2 <| tR (disk_Disk_Used_runs n b b2 n2 n3 m _ h3) <| tR (disk_Disk_Used_runs n b b2 n2 n3 m _ h3) <| tF h4 <| tR (disk_Disk_goes_runs n b b2 n2 n3 m _ h5) <| tF h6 <| tF (show kget [(.int .u64 seg)] (List.map M_uint64_uint8.pv m) = none from by first | (simp only [M_uint64_uint8.set, M_uint64_uint8.del, M_uint64_uint8.get, h7, Option.map_some, Option.map_none]; done) | (simp only [M_uint64_uint8.set, M_uint64_uint8.del, M_uint64_uint8.get, h7, Option.map_some, Option.map_none]; rfl) | (rw [← List.map_nil]; simp only [M_uint64_uint8.set, M_uint64_uint8.del, M_uint64_uint8.get, h7, Option.map_some, Option.map_none]; rfl)) <| tF (show kget [(.int .u64 seg)] (List.map M_uint64_uint8.pv m) = none from by first | (simp only [M_uint64_uint8.set, M_uint64_uint8.del, M_uint64_uint8.get, h7, Option.map_some, Option.map_none]; done) | (simp only [M_uint64_uint8.set, M_uint64_uint8.del, M_uint64_uint8.get, h7, Option.map_some, Option.map_none]; rfl) | (rw [← List.map_nil]; simp only [M_uint64_uint8.set, M_uint64_uint8.del, M_uint64_uint8.get, h7, Option.map_some, Option.map_none]; rfl)) <| t_
            obtain ⟨z_, h8, h⟩ := bind_of h
            rcases z_ with l_ | l_
            · have h := some_of h
              subst h
              have t_ := p7_ <| tR (Runs.coe (as' := [(.one (.pv (.recs 1 [[.nils], [(.ints .u8 p false)]] true)))]) (objs' := []) (rows' := []) (slices_Concat_byte_runs [(E_L_uint8.mk []), (E_L_uint8.mk p)] _ h8) ⟨.pv (.recs (.cons (.cons (.nilsI) (.nil)) (.cons (.cons (.eq rfl) (.nil)) (.nil)))), trivial⟩ trivial trivial) <| tR (Runs.coe (as' := [(.one (.pv (.recs 1 [[.nils], [(.ints .u8 p false)]] true)))]) (objs' := []) (rows' := []) (slices_Concat_byte_runs [(E_L_uint8.mk []), (E_L_uint8.mk p)] _ h8) ⟨.pv (.recs (.cons (.cons (.nilsI) (.nil)) (.cons (.cons (.eq rfl) (.nil)) (.nil)))), trivial⟩ trivial trivial) <| tN
              have e_ : Runs Try.prog 17 [(.one (.ref 0 0)), (.one (.pv (.int .u64 seg))), (.one (.pv (.ints .u8 p false)))] [[(.mp 1), (.pv (.int .i64 n)), (.pv (.bool b)), (.pv (.bool b2)), (.pv (.int .i64 n2)), (.pv (.int .i64 n3))], [(.maph (.int .u64) false (List.map M_uint64_uint8.pv m) [])]] [] ([(.one (.pv (.int .i64 0)))], [[(.mp 1), (.pv (.int .i64 n)), (.pv (.bool b)), (.pv (.bool b4)), (.pv (.int .i64 n5)), (.pv (.int .i64 n3))], [(.maph (.int .u64) false (kset [(.int .u64 seg)] [(.ints .u8 (List.take 0 l_) false)] (List.map M_uint64_uint8.pv m)) [])]], []) := runs_of (C := cfg) (objs := [[(.mp 1), (.pv (.int .i64 n)), (.pv (.bool b)), (.pv (.bool b2)), (.pv (.int .i64 n2)), (.pv (.int .i64 n3))], [(.maph (.int .u64) false (List.map M_uint64_uint8.pv m) [])]]) (sc := t_.ev) (.k1 t_.pf (by kernel_rfl) (by kernel_rfl))
              exact e_.out ⟨.eq rfl, trivial⟩ ⟨⟨.eq rfl, .eq rfl, .eq rfl, .eq rfl, .eq rfl, .eq rfl, trivial⟩, ⟨.maph (WkEs.to (WkEs.set (.cons (.eq rfl) (.nil)) (WkEs.refl _)) (by first | rfl | (simp only [M_uint64_uint8.set, M_uint64_uint8.del]; done) | (simp only [M_uint64_uint8.set, M_uint64_uint8.del, kset, kdel]; rfl) | rfl | (simp only [M_uint64_uint8.set, M_uint64_uint8.del, List.take_length]; done))), trivial⟩, trivial⟩ trivial rfl
            · have h := some_of h
              subst h
              have t_ := p7_ <| tR (Runs.coe (as' := [(.one (.pv (.recs 1 [[.nils], [(.ints .u8 p false)]] true)))]) (objs' := []) (rows' := []) (slices_Concat_byte_runs [(E_L_uint8.mk []), (E_L_uint8.mk p)] _ h8) ⟨.pv (.recs (.cons (.cons (.nilsI) (.nil)) (.cons (.cons (.eq rfl) (.nil)) (.nil)))), trivial⟩ trivial trivial) <| tR (Runs.coe (as' := [(.one (.pv (.recs 1 [[.nils], [(.ints .u8 p false)]] true)))]) (objs' := []) (rows' := []) (slices_Concat_byte_runs [(E_L_uint8.mk []), (E_L_uint8.mk p)] _ h8) ⟨.pv (.recs (.cons (.cons (.nilsI) (.nil)) (.cons (.cons (.eq rfl) (.nil)) (.nil)))), trivial⟩ trivial trivial) <| tN
              have e_ : Runs Try.prog 17 [(.one (.ref 0 0)), (.one (.pv (.int .u64 seg))), (.one (.pv (.ints .u8 p false)))] [[(.mp 1), (.pv (.int .i64 n)), (.pv (.bool b)), (.pv (.bool b2)), (.pv (.int .i64 n2)), (.pv (.int .i64 n3))], [(.maph (.int .u64) false (List.map M_uint64_uint8.pv m) [])]] [] ([(.one (.pv (.int .i64 0)))], [[(.mp 1), (.pv (.int .i64 n)), (.pv (.bool b)), (.pv (.bool b4)), (.pv (.int .i64 n5)), (.pv (.int .i64 n3))], [(.maph (.int .u64) false (kset [(.int .u64 seg)] [(.ints .u8 (List.take (l_).length l_) false)] (List.map M_uint64_uint8.pv m)) [])]], []) := runs_of (C := cfg) (objs := [[(.mp 1), (.pv (.int .i64 n)), (.pv (.bool b)), (.pv (.bool b2)), (.pv (.int .i64 n2)), (.pv (.int .i64 n3))], [(.maph (.int .u64) false (List.map M_uint64_uint8.pv m) [])]]) (sc := t_.ev) (.k1 t_.pf (by kernel_rfl) (by kernel_rfl))
              exact e_.out ⟨.eq rfl, trivial⟩ ⟨⟨.eq rfl, .eq rfl, .eq rfl, .eq rfl, .eq rfl, .eq rfl, trivial⟩, ⟨.maph (WkEs.to (WkEs.set (.cons (.ints (by first | rfl | (simp only [List.take_length]; done) | (simp only [List.take_length, List.length_map, List.length_append, List.drop_zero, List.map_append, List.map_take, List.map_drop, List.map_replicate, List.map_cons, List.map_nil, List.append_nil, List.nil_append, E_L_uint8.pv, E_L_uint8.upd]; done) | (simp; done))) (.nil)) (WkEs.refl _)) (by first | rfl | (simp only [M_uint64_uint8.set, M_uint64_uint8.del]; done) | (simp only [M_uint64_uint8.set, M_uint64_uint8.del, kset, kdel]; rfl) | rfl | (simp only [M_uint64_uint8.set, M_uint64_uint8.del, List.take_length]; done))), trivial⟩, trivial⟩ trivial rfl
/-! ### disk_Disk_Read_out -/
def disk_Disk_Read_out (seg : Int) (n : Int) (b : Bool) (b2 : Bool) (n2 : Int) (n3 : Int) (m : List (Int × (List Int))) : List Int × Bool → Res
  | (r1, r2) => ([(.one (.pv (.ints .u8 r1 false))), (.one (.pv (.bool r2)))], [[(.mp 1), (.pv (.int .i64 n)), (.pv (.bool b)), (.pv (.bool b2)), (.pv (.int .i64 n2)), (.pv (.int .i64 n3))], [(.maph (.int .u64) false (List.map M_uint64_uint8.pv m) [])]], [])
/-! ### disk_Disk_Read -/
noncomputable def disk_Disk_Read (seg : Int) (n : Int) (b : Bool) (b2 : Bool) (n2 : Int) (n3 : Int) (m : List (Int × (List Int))) : Option (List Int × Bool) :=
  match (mget seg m) with
  | .some l_ =>
    bif fits (l_).length then
    some (l_, true)
    else none
  | .none =>
    some ([], false)
theorem disk_Disk_Read_runs (seg : Int) (n : Int) (b : Bool) (b2 : Bool) (n2 : Int) (n3 : Int) (m : List (Int × (List Int))) (r_ : List Int × Bool) (h : disk_Disk_Read seg n b b2 n2 n3 m = some r_) : Runs Try.prog 18 [(.one (.ref 0 0)), (.one (.pv (.int .u64 seg)))] [[(.mp 1), (.pv (.int .i64 n)), (.pv (.bool b)), (.pv (.bool b2)), (.pv (.int .i64 n2)), (.pv (.int .i64 n3))], [(.maph (.int .u64) false (List.map M_uint64_uint8.pv m) [])]] [] (disk_Disk_Read_out seg n b b2 n2 n3 m r_) := by
  unfold disk_Disk_Read at h
  cases h1 : (mget seg m) with
  | some l_ =>
    simp only [h1] at h
    obtain ⟨h2, h⟩ := need_of h
    have h := some_of h
    subst h
    have t_ := tF (rfl : false = false) <| tT (show kget [(.int .u64 seg)] (List.map M_uint64_uint8.pv m) = some [(.ints .u8 l_ false)] from by first | (simp only [M_uint64_uint8.set, M_uint64_uint8.del, M_uint64_uint8.get, h1, Option.map_some, Option.map_none]; done) | (simp only [M_uint64_uint8.set, M_uint64_uint8.del, M_uint64_uint8.get, h1, Option.map_some, Option.map_none]; rfl) | (rw [← List.map_nil]; simp only [M_uint64_uint8.set, M_uint64_uint8.del, M_uint64_uint8.get, h1, Option.map_some, Option.map_none]; rfl)) <| tE (.el [(.ints .u8 l_ false)]) <| tR (bytes_Clone_runs (l := l_) (t := false) h2) <| tN
    exact runs_of (C := cfg) (objs := [[(.mp 1), (.pv (.int .i64 n)), (.pv (.bool b)), (.pv (.bool b2)), (.pv (.int .i64 n2)), (.pv (.int .i64 n3))], [(.maph (.int .u64) false (List.map M_uint64_uint8.pv m) [])]]) (sc := t_.ev) (.k0 t_.pf (by kernel_rfl))
  | none =>
    simp only [h1] at h
    have h := some_of h
    subst h
    have t_ := tF (rfl : false = false) <| tF (show kget [(.int .u64 seg)] (List.map M_uint64_uint8.pv m) = none from by first | (simp only [M_uint64_uint8.set, M_uint64_uint8.del, M_uint64_uint8.get, h1, Option.map_some, Option.map_none]; done) | (simp only [M_uint64_uint8.set, M_uint64_uint8.del, M_uint64_uint8.get, h1, Option.map_some, Option.map_none]; rfl) | (rw [← List.map_nil]; simp only [M_uint64_uint8.set, M_uint64_uint8.del, M_uint64_uint8.get, h1, Option.map_some, Option.map_none]; rfl)) <| tR (Runs.coe (as' := [.one (.pv .nils)]) (objs' := []) (rows' := []) (bytes_Clone_runs (l := []) (t := false) (by decide)) ⟨.pv .nilsI, trivial⟩ trivial trivial) <| tN
    exact runs_of (C := cfg) (objs := [[(.mp 1), (.pv (.int .i64 n)), (.pv (.bool b)), (.pv (.bool b2)), (.pv (.int .i64 n2)), (.pv (.int .i64 n3))], [(.maph (.int .u64) false (List.map M_uint64_uint8.pv m) [])]]) (sc := t_.ev) (.k0 t_.pf (by kernel_rfl))
/-! ### disk_Disk_Up_out -/
def disk_Disk_Up_out (n : Int) (b : Bool) (b2 : Bool) (n2 : Int) (n3 : Int) (m : List (Int × (List Int))) : Bool → Res
  | r1 => ([(.one (.pv (.bool r1)))], [[(.mp 1), (.pv (.int .i64 n)), (.pv (.bool b)), (.pv (.bool b2)), (.pv (.int .i64 n2)), (.pv (.int .i64 n3))], [(.maph (.int .u64) false (List.map M_uint64_uint8.pv m) [])]], [])
/-! ### disk_Disk_Up -/
noncomputable def disk_Disk_Up (n : Int) (b : Bool) (b2 : Bool) (n2 : Int) (n3 : Int) (m : List (Int × (List Int))) : Option (Bool) :=
  some (!b2)
theorem disk_Disk_Up_runs (n : Int) (b : Bool) (b2 : Bool) (n2 : Int) (n3 : Int) (m : List (Int × (List Int))) (r_ : Bool) (h : disk_Disk_Up n b b2 n2 n3 m = some r_) : Runs Try.prog 20 [(.one (.ref 0 0))] [[(.mp 1), (.pv (.int .i64 n)), (.pv (.bool b)), (.pv (.bool b2)), (.pv (.int .i64 n2)), (.pv (.int .i64 n3))], [(.maph (.int .u64) false (List.map M_uint64_uint8.pv m) [])]] [] (disk_Disk_Up_out n b b2 n2 n3 m r_) := by
  unfold disk_Disk_Up at h
  have h := some_of h
  subst h
  have t_ := tT (rfl : true = true) <| tN
  exact runs_of (C := cfg) (objs := [[(.mp 1), (.pv (.int .i64 n)), (.pv (.bool b)), (.pv (.bool b2)), (.pv (.int .i64 n2)), (.pv (.int .i64 n3))], [(.maph (.int .u64) false (List.map M_uint64_uint8.pv m) [])]]) (sc := t_.ev) (.k0 t_.pf (by kernel_rfl))
/-! ### kinfolklaw11_awake -/
noncomputable def kinfolklaw11_awake : Option (Bool) :=
  (disk_New 9).bind fun n =>
  (disk_Disk_Arm 2 1 n false false 0 0 []).bind fun n2 =>
  (disk_Disk_Append 1 [97] n false false n2 1 []).bind fun (n3, b, n4, m_) =>
  (disk_Disk_Append 1 [98, 99] n false b n4 1 m_).bind fun (n5, b2, n6, m_2) =>
  (disk_Disk_Read 1 n false b2 n6 1 m_2).bind fun (l_, b3) =>
  bif (decide ((n3 : Int) = 0)) then
    bif (decide ((n5 : Int) = 10)) then
      bif b3 then
        bif (decide ((Ev.strOf l_) = (⟨#[97, 98]⟩ : ByteArray))) then
          (disk_Disk_Up n false b2 n6 1 m_2).bind fun b4 =>
          some (!b4)
        else
          some false
      else
        some false
    else
      some false
  else
    some false
theorem kinfolklaw11_awake_runs (r_ : Bool) (h : kinfolklaw11_awake = some r_) : Runs Try.prog 13 [] [] [] (kinfolklaw11_awake_out r_) := by
  unfold kinfolklaw11_awake at h
  obtain ⟨n, h1, h⟩ := bind_of h
  obtain ⟨n2, h2, h⟩ := bind_of h
  have q_2 := (disk_Disk_Arm_runs 2 1 n false false 0 0 [] _ h2)
  obtain ⟨⟨n3, b, n4, m_⟩, h3, h⟩ := bind_of h
  have q_3 := (Runs.coe (as' := [(.one (.ref 0 0)), (.one (.pv (.int .u64 1))), (.one (.pv (.ints .u8 [97] true)))]) (objs' := [[(.mp 1), (.pv (.int .i64 n)), (.pv (.bool false)), (.pv (.bool false)), (.pv (.int .i64 n2)), (.pv (.int .i64 1))], [(.maph (.int .u64) false (List.map M_uint64_uint8.pv []) [])]]) (rows' := []) (disk_Disk_Append_runs 1 [97] n false false n2 1 [] _ h3) ⟨.eq rfl, .eq rfl, .pv (.ints rfl), trivial⟩ ⟨⟨.eq rfl, .eq rfl, .eq rfl, .eq rfl, .eq rfl, .eq rfl, trivial⟩, ⟨.eq rfl, trivial⟩, trivial⟩ trivial)
  obtain ⟨⟨n5, b2, n6, m_2⟩, h4, h⟩ := bind_of h
  have q_4 := (Runs.coe (as' := [(.one (.ref 0 0)), (.one (.pv (.int .u64 1))), (.one (.pv (.ints .u8 [98, 99] true)))]) (objs' := [[(.mp 1), (.pv (.int .i64 n)), (.pv (.bool false)), (.pv (.bool b)), (.pv (.int .i64 n4)), (.pv (.int .i64 1))], [(.maph (.int .u64) false (List.map M_uint64_uint8.pv m_) [])]]) (rows' := []) (disk_Disk_Append_runs 1 [98, 99] n false b n4 1 m_ _ h4) ⟨.eq rfl, .eq rfl, .pv (.ints rfl), trivial⟩ ⟨⟨.eq rfl, .eq rfl, .eq rfl, .eq rfl, .eq rfl, .eq rfl, trivial⟩, ⟨.eq rfl, trivial⟩, trivial⟩ trivial)
  obtain ⟨⟨l_, b3⟩, h5, h⟩ := bind_of h
  have q_5 := (disk_Disk_Read_runs 1 n false b2 n6 1 m_2 _ h5)
  rcases cond_of h with ⟨h6, h⟩ | ⟨h6, h⟩
  · rcases cond_of h with ⟨h7, h⟩ | ⟨h7, h⟩
    · rcases cond_of h with ⟨h8, h⟩ | ⟨h8, h⟩
      · rcases cond_of h with ⟨h9, h⟩ | ⟨h9, h⟩
        · obtain ⟨b4, h10, h⟩ := bind_of h
          have h := some_of h
          subst h
          have t_ := tR (disk_New_runs 9 _ h1) <| tR q_2 <| tR q_3 <| tR q_4 <| tR q_5 <| tT h6 <| tT h7 <| tT h8 <| tT h9 <| tR (disk_Disk_Up_runs n false b2 n6 1 m_2 _ h10) <| tN
          exact runs_of (C := cfg) (objs := []) (sc := t_.ev) (.k0 t_.pf (by kernel_rfl))
        · have h := some_of h
          subst h
          have t_ := tR (disk_New_runs 9 _ h1) <| tR q_2 <| tR q_3 <| tR q_4 <| tR q_5 <| tT h6 <| tT h7 <| tT h8 <| tF h9 <| tN
          exact runs_of (C := cfg) (objs := []) (sc := t_.ev) (.k0 t_.pf (by kernel_rfl))
      · have h := some_of h
        subst h
        have t_ := tR (disk_New_runs 9 _ h1) <| tR q_2 <| tR q_3 <| tR q_4 <| tR q_5 <| tT h6 <| tT h7 <| tF h8 <| tF (rfl : false = false) <| tN
        exact runs_of (C := cfg) (objs := []) (sc := t_.ev) (.k0 t_.pf (by kernel_rfl))
    · have h := some_of h
      subst h
      have t_ := tR (disk_New_runs 9 _ h1) <| tR q_2 <| tR q_3 <| tR q_4 <| tR q_5 <| tT h6 <| tF h7 <| tF (rfl : false = false) <| tF (rfl : false = false) <| tN
      exact runs_of (C := cfg) (objs := []) (sc := t_.ev) (.k0 t_.pf (by kernel_rfl))
  · have h := some_of h
    subst h
    have t_ := tR (disk_New_runs 9 _ h1) <| tR q_2 <| tR q_3 <| tR q_4 <| tR q_5 <| tF h6 <| tF (rfl : false = false) <| tF (rfl : false = false) <| tF (rfl : false = false) <| tN
    exact runs_of (C := cfg) (objs := []) (sc := t_.ev) (.k0 t_.pf (by kernel_rfl))
/-! ### disk_Disk_Full_out -/
def disk_Disk_Full_out (on_ : Bool) : Unit → Res
  | _ => ([], [], [])
/-! ### disk_Disk_Full -/
noncomputable def disk_Disk_Full (on_ : Bool) : Option (Unit) :=
  some ()
theorem disk_Disk_Full_runs (on_ : Bool) (r_ : Unit) (h : disk_Disk_Full on_ = some r_) : Runs Try.prog 35 [(.one (.pv .nilp)), (.one (.pv (.bool on_)))] [] [] (disk_Disk_Full_out on_ r_) := by
  unfold disk_Disk_Full at h
  have h := some_of h
  subst h
  have t_ := tF (rfl : false = false) <| tN
  exact runs_of (C := cfg) (objs := []) (sc := t_.ev) (.k0 t_.pf (by kernel_rfl))
/-! ### disk_Disk_Arm_2_out -/
def disk_Disk_Arm_2_out (writes : Int) (torn : Int) : Unit → Res
  | _ => ([], [], [])
/-! ### disk_Disk_Arm_2 -/
noncomputable def disk_Disk_Arm_2 (writes : Int) (torn : Int) : Option (Unit) :=
  some ()
theorem disk_Disk_Arm_2_runs (writes : Int) (torn : Int) (r_ : Unit) (h : disk_Disk_Arm_2 writes torn = some r_) : Runs Try.prog 15 [(.one (.pv .nilp)), (.one (.pv (.int .i64 writes))), (.one (.pv (.int .i64 torn)))] [] [] (disk_Disk_Arm_2_out writes torn r_) := by
  unfold disk_Disk_Arm_2 at h
  have h := some_of h
  subst h
  have t_ := tF (rfl : false = false) <| tN
  exact runs_of (C := cfg) (objs := []) (sc := t_.ev) (.k0 t_.pf (by kernel_rfl))
/-! ### disk_Disk_Off_out -/
def disk_Disk_Off_out : Unit → Res
  | _ => ([], [], [])
/-! ### disk_Disk_Off -/
noncomputable def disk_Disk_Off : Option (Unit) :=
  some ()
theorem disk_Disk_Off_runs (r_ : Unit) (h : disk_Disk_Off = some r_) : Runs Try.prog 36 [(.one (.pv .nilp))] [] [] (disk_Disk_Off_out r_) := by
  unfold disk_Disk_Off at h
  have h := some_of h
  subst h
  have t_ := tF (rfl : false = false) <| tN
  exact runs_of (C := cfg) (objs := []) (sc := t_.ev) (.k0 t_.pf (by kernel_rfl))
/-! ### disk_Disk_On_out -/
def disk_Disk_On_out : Unit → Res
  | _ => ([], [], [])
/-! ### disk_Disk_On -/
noncomputable def disk_Disk_On : Option (Unit) :=
  some ()
theorem disk_Disk_On_runs (r_ : Unit) (h : disk_Disk_On = some r_) : Runs Try.prog 21 [(.one (.pv .nilp))] [] [] (disk_Disk_On_out r_) := by
  unfold disk_Disk_On at h
  have h := some_of h
  subst h
  have t_ := tF (rfl : false = false) <| tN
  exact runs_of (C := cfg) (objs := []) (sc := t_.ev) (.k0 t_.pf (by kernel_rfl))
/-! ### disk_Disk_Read_2_out -/
def disk_Disk_Read_2_out (seg : Int) : Unit → Res
  | _ => ([(.one (.pv (.ints .u8 [] false))), (.one (.pv (.bool false)))], [], [])
/-! ### disk_Disk_Read_2 -/
noncomputable def disk_Disk_Read_2 (seg : Int) : Option (Unit) :=
  some ()
theorem disk_Disk_Read_2_runs (seg : Int) (r_ : Unit) (h : disk_Disk_Read_2 seg = some r_) : Runs Try.prog 18 [(.one (.pv .nilp)), (.one (.pv (.int .u64 seg)))] [] [] (disk_Disk_Read_2_out seg r_) := by
  unfold disk_Disk_Read_2 at h
  have h := some_of h
  subst h
  have t_ := tT (rfl : true = true) <| tN
  have e_ : Runs Try.prog 18 [(.one (.pv .nilp)), (.one (.pv (.int .u64 seg)))] [] [] ([(.one (.pv .nils)), (.one (.pv (.bool false)))], [], []) := runs_of (C := cfg) (objs := []) (sc := t_.ev) (.k0 t_.pf (by kernel_rfl))
  exact e_.out ⟨.pv (.nilsI), .eq rfl, trivial⟩ trivial trivial rfl
/-! ### kinfolklaw11_cut_out -/
def kinfolklaw11_cut_out (p : List Int) : List Int → Res
  | r1 => ([(.one (.pv (.ints .u8 r1 false)))], [], [])
/-! ### kinfolklaw11_cut -/
noncomputable def kinfolklaw11_cut (p : List Int) : Option (List Int) :=
  bif decide ((0 : Int) ≤ 0) && decide ((0 : Int) ≤ (if (40 : Int) < ((p).length : Int) then 40 else ((p).length : Int))) && decide (((if (40 : Int) < ((p).length : Int) then 40 else ((p).length : Int)) : Int) ≤ ((p).length : Int)) && decide (((if (40 : Int) < ((p).length : Int) then 40 else ((p).length : Int)) : Int) = (if (40 : Int) < ((p).length : Int) then 40 else ((p).length : Int))) then
  bif fits ((List.take ((if (40 : Int) < ((p).length : Int) then 40 else ((p).length : Int)) - 0).toNat p)).length then
  some (List.take ((if (40 : Int) < ((p).length : Int) then 40 else ((p).length : Int)) - 0).toNat p)
  else none
  else none
theorem kinfolklaw11_cut_runs (p : List Int) (r_ : List Int) (h : kinfolklaw11_cut p = some r_) : Runs Try.prog 16 [(.one (.pv (.ints .u8 p false)))] [] [] (kinfolklaw11_cut_out p r_) := by
  unfold kinfolklaw11_cut at h
  obtain ⟨h1, h⟩ := need_of h
  obtain ⟨h2, h⟩ := need_of h
  have h := some_of h
  subst h
  have t_ := tO h1 <| tR (bytes_Clone_runs (l := (List.take ((if (40 : Int) < ((p).length : Int) then 40 else ((p).length : Int)) - 0).toNat p)) (t := false) h2) <| tN
  exact runs_of (C := cfg) (objs := []) (sc := t_.ev) (.k0 t_.pf (by kernel_rfl))
/-! ### disk_Disk_Append_2_out -/
def disk_Disk_Append_2_out (seg : Int) (p : List Int) : Unit → Res
  | _ => ([(.one (.pv (.int .i64 2)))], [], [])
/-! ### disk_Disk_Append_2 -/
noncomputable def disk_Disk_Append_2 (seg : Int) (p : List Int) : Option (Unit) :=
  some ()
theorem disk_Disk_Append_2_runs (seg : Int) (p : List Int) (r_ : Unit) (h : disk_Disk_Append_2 seg p = some r_) : Runs Try.prog 17 [(.one (.pv .nilp)), (.one (.pv (.int .u64 seg))), (.one (.pv (.ints .u8 p false)))] [] [] (disk_Disk_Append_2_out seg p r_) := by
  unfold disk_Disk_Append_2 at h
  have h := some_of h
  subst h
  have t_ := tT (rfl : true = true) <| tN
  exact runs_of (C := cfg) (objs := []) (sc := t_.ev) (.k0 t_.pf (by kernel_rfl))
/-! ### disk_Disk_Drop_out -/
def disk_Disk_Drop_out (seg : Int) : Unit → Res
  | _ => ([(.one (.pv (.int .i64 2)))], [], [])
/-! ### disk_Disk_Drop -/
noncomputable def disk_Disk_Drop (seg : Int) : Option (Unit) :=
  some ()
theorem disk_Disk_Drop_runs (seg : Int) (r_ : Unit) (h : disk_Disk_Drop seg = some r_) : Runs Try.prog 24 [(.one (.pv .nilp)), (.one (.pv (.int .u64 seg)))] [] [] (disk_Disk_Drop_out seg r_) := by
  unfold disk_Disk_Drop at h
  have h := some_of h
  subst h
  have t_ := tT (rfl : true = true) <| tN
  exact runs_of (C := cfg) (objs := []) (sc := t_.ev) (.k0 t_.pf (by kernel_rfl))
/-! ### disk_Disk_Segs_2_out -/
def disk_Disk_Segs_2_out : Unit → Res
  | _ => ([(.one (.pv (.ints .u64 [] false)))], [], [])
/-! ### disk_Disk_Segs_2 -/
noncomputable def disk_Disk_Segs_2 : Option (Unit) :=
  some ()
theorem disk_Disk_Segs_2_runs (r_ : Unit) (h : disk_Disk_Segs_2 = some r_) : Runs Try.prog 37 [(.one (.pv .nilp))] [] [] (disk_Disk_Segs_2_out r_) := by
  unfold disk_Disk_Segs_2 at h
  have h := some_of h
  subst h
  have t_ := tT (rfl : true = true) <| tN
  have e_ : Runs Try.prog 37 [(.one (.pv .nilp))] [] [] ([(.one (.pv .nils))], [], []) := runs_of (C := cfg) (objs := []) (sc := t_.ev) (.k0 t_.pf (by kernel_rfl))
  exact e_.out ⟨.pv (.nilsI), trivial⟩ trivial trivial rfl
/-! ### disk_Disk_Used_2_out -/
def disk_Disk_Used_2_out : Unit → Res
  | _ => ([(.one (.pv (.int .i64 0)))], [], [])
/-! ### disk_Disk_Used_L0_2 -/
def disk_Disk_Used_L0_2_st : Unit → St
  | _ => ⟨[(0, (.av (.one (.pv .nilp)))), (3, (.av (.one (.pv (.int .i64 0))))), (7, (.av (.one (.pv (.ints .u64 [] false))))), (8, (.av (.one (.pv (.int .i64 0))))), (9, (.av (.one (.pv (.int .i64 0)))))], [], []⟩
def disk_Disk_Used_L0_2_ex : Unit → Ex × St
  | _ => ((.exit 0), ⟨[(3, (.av (.one (.pv (.int .i64 0)))))], [], []⟩)
noncomputable def disk_Disk_Used_L0_2_step : Unit → Option ((Unit) ⊕ (Unit))
  | _ =>
  some (.inr ())
theorem disk_Disk_Used_L0_2_ok (s_ : Unit) (z_ : (Unit) ⊕ (Unit)) (h : disk_Disk_Used_L0_2_step s_ = some z_) : RoundOk Try.prog cfg 23 0 (loopAt Try.prog 23 0) (disk_Disk_Used_L0_2_st) (disk_Disk_Used_L0_2_ex) s_ z_ := by
  rcases s_ with _
  have h := some_of h
  subst h
  have t_ := tF (rfl : false = false) <| tN
  exact ⟨t_.ev, ⟨[(10, (.av (.one (.pv (.bool false))))), (0, (.av (.one (.pv .nilp)))), (3, (.av (.one (.pv (.int .i64 0))))), (7, (.av (.one (.pv (.ints .u64 [] false))))), (8, (.av (.one (.pv (.int .i64 0))))), (9, (.av (.one (.pv (.int .i64 0))))), (10, (.av (.one (.pv (.bool false)))))], [], []⟩, .k0 t_.pf (by kernel_rfl), ⟨⟨⟨_, rfl, .eq rfl⟩, trivial⟩, trivial, trivial⟩⟩
theorem disk_Disk_Used_L0_2_runs (s_ : Unit) (r_ : Unit) (h : runL (disk_Disk_Used_L0_2_step) s_ = some r_) : LRuns Try.prog (lEnv Try.prog cfg 23 0).nt 0 (.loop (loopAt Try.prog 23 0)) (disk_Disk_Used_L0_2_st s_) (disk_Disk_Used_L0_2_ex r_).1 (disk_Disk_Used_L0_2_ex r_).2 :=
  loop_run h (disk_Disk_Used_L0_2_ok) (by intro r_; rcases r_ with _ <;> simp [disk_Disk_Used_L0_2_ex])
/-! ### disk_Disk_Used_2 -/
noncomputable def disk_Disk_Used_2 : Option (Unit) :=
  (disk_Disk_Segs_2).bind fun _ =>
  (runL (disk_Disk_Used_L0_2_step) ()).bind fun _ =>
  some ()
theorem disk_Disk_Used_2_runs (r_ : Unit) (h : disk_Disk_Used_2 = some r_) : Runs Try.prog 23 [(.one (.pv .nilp))] [] [] (disk_Disk_Used_2_out r_) := by
  unfold disk_Disk_Used_2 at h
  obtain ⟨_, h1, h⟩ := bind_of h
  obtain ⟨_, h2, h⟩ := bind_of h
  have h := some_of h
  subst h
  have t_ := tR (disk_Disk_Segs_2_runs _ h1) <| tL (disk_Disk_Used_L0_2_runs _ _ h2) <| tN
  exact runs_of (C := cfg) (objs := []) (sc := t_.ev) (.k0 t_.pf (by kernel_rfl))
/-! ### disk_Disk_Room_out -/
def disk_Disk_Room_out : Unit → Res
  | _ => ([(.one (.pv (.int .i64 0)))], [], [])
/-! ### disk_Disk_Room -/
noncomputable def disk_Disk_Room : Option (Unit) :=
  some ()
theorem disk_Disk_Room_runs (r_ : Unit) (h : disk_Disk_Room = some r_) : Runs Try.prog 38 [(.one (.pv .nilp))] [] [] (disk_Disk_Room_out r_) := by
  unfold disk_Disk_Room at h
  have h := some_of h
  subst h
  have t_ := tT (rfl : true = true) <| tN
  exact runs_of (C := cfg) (objs := []) (sc := t_.ev) (.k0 t_.pf (by kernel_rfl))
/-! ### disk_Disk_Armed_out -/
def disk_Disk_Armed_out : Unit → Res
  | _ => ([(.one (.pv (.int .i64 0)))], [], [])
/-! ### disk_Disk_Armed -/
noncomputable def disk_Disk_Armed : Option (Unit) :=
  some ()
theorem disk_Disk_Armed_runs (r_ : Unit) (h : disk_Disk_Armed = some r_) : Runs Try.prog 22 [(.one (.pv .nilp))] [] [] (disk_Disk_Armed_out r_) := by
  unfold disk_Disk_Armed at h
  have h := some_of h
  subst h
  have t_ := tT (rfl : true = true) <| tN
  exact runs_of (C := cfg) (objs := []) (sc := t_.ev) (.k0 t_.pf (by kernel_rfl))
/-! ### disk_Disk_Up_2_out -/
def disk_Disk_Up_2_out : Unit → Res
  | _ => ([(.one (.pv (.bool false)))], [], [])
/-! ### disk_Disk_Up_2 -/
noncomputable def disk_Disk_Up_2 : Option (Unit) :=
  some ()
theorem disk_Disk_Up_2_runs (r_ : Unit) (h : disk_Disk_Up_2 = some r_) : Runs Try.prog 20 [(.one (.pv .nilp))] [] [] (disk_Disk_Up_2_out r_) := by
  unfold disk_Disk_Up_2 at h
  have h := some_of h
  subst h
  have t_ := tF (rfl : false = false) <| tN
  exact runs_of (C := cfg) (objs := []) (sc := t_.ev) (.k0 t_.pf (by kernel_rfl))
/-! ### disk_Disk_Copy_out -/
def disk_Disk_Copy_out : Unit → Res
  | _ => ([(.one (.pv .nilp))], [], [])
/-! ### disk_Disk_Copy -/
noncomputable def disk_Disk_Copy : Option (Unit) :=
  some ()
theorem disk_Disk_Copy_runs (r_ : Unit) (h : disk_Disk_Copy = some r_) : Runs Try.prog 30 [(.one (.pv .nilp))] [] [] (disk_Disk_Copy_out r_) := by
  unfold disk_Disk_Copy at h
  have h := some_of h
  subst h
  have t_ := tT (rfl : true = true) <| tN
  exact runs_of (C := cfg) (objs := []) (sc := t_.ev) (.k0 t_.pf (by kernel_rfl))
/-! ### disk_Same_out -/
def disk_Same_out : Bool → Res
  | r1 => ([(.one (.pv (.bool r1)))], [], [])
/-! ### slices_Equal_uint64_out -/
def slices_Equal_uint64_out (s1 : List Int) (s2 : List Int) : Bool → Res
  | r1 => ([(.one (.pv (.bool r1)))], [], [])
/-! ### slices_Equal_uint64_L0 -/
def slices_Equal_uint64_L0_st (s1 : List Int) (s2 : List Int) (n : Int) : Int → St
  | n2 => ⟨[(0, (.av (.one (.pv (.ints .u64 s1 false))))), (1, (.av (.one (.pv (.ints .u64 s2 false))))), (12, (.av (.one (.pv (.int .i64 n))))), (13, (.av (.one (.pv (.int .i64 n2)))))], [], []⟩
def slices_Equal_uint64_L0_ex (s1 : List Int) (s2 : List Int) (n : Int) : (Unit) ⊕ (Unit) → Ex × St
  | .inl _ => (.ret, ⟨[(4, (.av (.one (.pv (.bool false)))))], [], []⟩)
  | .inr _ => ((.exit 0), ⟨[], [], []⟩)
noncomputable def slices_Equal_uint64_L0_step (s1 : List Int) (s2 : List Int) (n : Int) : Int → Option ((Int) ⊕ ((Unit) ⊕ (Unit)))
  | n2 =>
  bif (decide ((n2 : Int) < n)) then
    bif decide ((0 : Int) ≤ n2) && decide ((n2 : Int) < ((s1).length : Int)) then
    bif decide ((0 : Int) ≤ n2) && decide ((n2 : Int) < ((s2).length : Int)) then
    bif (decide (((s1.getD (n2).toNat 0) : Int) = (s2.getD (n2).toNat 0))) then
      some (.inl (iadd .i64 n2 1))
    else
      some (.inr (.inl ()))
    else none
    else none
  else
    some (.inr (.inr ()))
theorem slices_Equal_uint64_L0_ok (s1 : List Int) (s2 : List Int) (n : Int) (n2 : Int) (z_ : (Int) ⊕ ((Unit) ⊕ (Unit))) (h : slices_Equal_uint64_L0_step s1 s2 n n2 = some z_) : RoundOk Try.prog cfg 47 0 (loopAt Try.prog 47 0) (slices_Equal_uint64_L0_st s1 s2 n) (slices_Equal_uint64_L0_ex s1 s2 n) n2 z_ := by
  rcases cond_of h with ⟨h1, h⟩ | ⟨h1, h⟩
  · obtain ⟨h2, h⟩ := need_of h
    obtain ⟨h3, h⟩ := need_of h
    rcases cond_of h with ⟨h4, h⟩ | ⟨h4, h⟩
    · have h := some_of h
      subst h
      have t_ := tT h1 <| tO h2 <| tO h3 <| tF (not_of2 h4) <| tN
      exact ⟨t_.ev, slices_Equal_uint64_L0_st s1 s2 n (iadd .i64 n2 1), .k0 t_.pf (by kernel_rfl), .same (by kernel_rfl)⟩
    · have h := some_of h
      subst h
      have t_ := tT h1 <| tO h2 <| tO h3 <| tT (not_of h4) <| tN
      exact ⟨t_.ev, (slices_Equal_uint64_L0_ex s1 s2 n (.inl ())).2, .k0 t_.pf (by kernel_rfl), .same (by kernel_rfl)⟩
  · have h := some_of h
    subst h
    have t_ := tF h1 <| tN
    exact ⟨t_.ev, ⟨[(14, (.av (.one (.pv (.bool false))))), (0, (.av (.one (.pv (.ints .u64 s1 false))))), (1, (.av (.one (.pv (.ints .u64 s2 false))))), (12, (.av (.one (.pv (.int .i64 n))))), (13, (.av (.one (.pv (.int .i64 n2))))), (14, (.av (.one (.pv (.bool (decide ((n2 : Int) < n)))))))], [], []⟩, .k0 t_.pf (by kernel_rfl), ⟨trivial, trivial, trivial⟩⟩
theorem slices_Equal_uint64_L0_runs (s1 : List Int) (s2 : List Int) (n : Int) (s_ : Int) (r_ : (Unit) ⊕ (Unit)) (h : runL (slices_Equal_uint64_L0_step s1 s2 n) s_ = some r_) : LRuns Try.prog (lEnv Try.prog cfg 47 0).nt 0 (.loop (loopAt Try.prog 47 0)) (slices_Equal_uint64_L0_st s1 s2 n s_) (slices_Equal_uint64_L0_ex s1 s2 n r_).1 (slices_Equal_uint64_L0_ex s1 s2 n r_).2 :=
  loop_run h (slices_Equal_uint64_L0_ok s1 s2 n) (by intro r_; rcases r_ with _ | _ <;> simp [slices_Equal_uint64_L0_ex])
/-! ### slices_Equal_uint64 -/
noncomputable def slices_Equal_uint64 (s1 : List Int) (s2 : List Int) : Option (Bool) :=
  bif (decide ((((s1).length : Int) : Int) = ((s2).length : Int))) then
    (runL (slices_Equal_uint64_L0_step s1 s2 ((s1).length : Int)) 0).bind fun z_ => match z_ with
    | .inl _ =>
      some false
    | .inr _ =>
      some true
  else
    some false
theorem slices_Equal_uint64_runs (s1 : List Int) (s2 : List Int) (r_ : Bool) (h : slices_Equal_uint64 s1 s2 = some r_) : Runs Try.prog 47 [(.one (.pv (.ints .u64 s1 false))), (.one (.pv (.ints .u64 s2 false)))] [] [] (slices_Equal_uint64_out s1 s2 r_) := by
  unfold slices_Equal_uint64 at h
  rcases cond_of h with ⟨h1, h⟩ | ⟨h1, h⟩
  · obtain ⟨z_, h2, h⟩ := bind_of h
    rcases z_ with _ | _
    · have h := some_of h
      subst h
      have t_ := tF (not_of2 h1) <| tL (slices_Equal_uint64_L0_runs s1 s2 ((s1).length : Int) _ _ h2) <| tN
      exact runs_of (C := cfg) (objs := []) (sc := t_.ev) (.k0 t_.pf (by kernel_rfl))
    · have h := some_of h
      subst h
      have t_ := tF (not_of2 h1) <| tL (slices_Equal_uint64_L0_runs s1 s2 ((s1).length : Int) _ _ h2) <| tN
      exact runs_of (C := cfg) (objs := []) (sc := t_.ev) (.k0 t_.pf (by kernel_rfl))
  · have h := some_of h
    subst h
    have t_ := tT (not_of h1) <| tN
    exact runs_of (C := cfg) (objs := []) (sc := t_.ev) (.k0 t_.pf (by kernel_rfl))
/-! ### disk_Same_L0 -/
def disk_Same_L0_st : Unit → St
  | _ => ⟨[(0, (.av (.one (.pv .nilp)))), (1, (.av (.one (.pv .nilp)))), (15, (.av (.one (.pv (.ints .u64 [] false))))), (16, (.av (.one (.pv (.int .i64 0))))), (17, (.av (.one (.pv (.int .i64 0)))))], [], []⟩
def disk_Same_L0_ex : Unit → Ex × St
  | _ => ((.exit 0), ⟨[], [], []⟩)
noncomputable def disk_Same_L0_step : Unit → Option ((Unit) ⊕ (Unit))
  | _ =>
  some (.inr ())
theorem disk_Same_L0_ok (s_ : Unit) (z_ : (Unit) ⊕ (Unit)) (h : disk_Same_L0_step s_ = some z_) : RoundOk Try.prog cfg 32 0 (loopAt Try.prog 32 0) (disk_Same_L0_st) (disk_Same_L0_ex) s_ z_ := by
  rcases s_ with _
  have h := some_of h
  subst h
  have t_ := tF (rfl : false = false) <| tN
  exact ⟨t_.ev, ⟨[(18, (.av (.one (.pv (.bool false))))), (0, (.av (.one (.pv .nilp)))), (1, (.av (.one (.pv .nilp)))), (15, (.av (.one (.pv (.ints .u64 [] false))))), (16, (.av (.one (.pv (.int .i64 0))))), (17, (.av (.one (.pv (.int .i64 0))))), (18, (.av (.one (.pv (.bool false)))))], [], []⟩, .k0 t_.pf (by kernel_rfl), ⟨trivial, trivial, trivial⟩⟩
theorem disk_Same_L0_runs (s_ : Unit) (r_ : Unit) (h : runL (disk_Same_L0_step) s_ = some r_) : LRuns Try.prog (lEnv Try.prog cfg 32 0).nt 0 (.loop (loopAt Try.prog 32 0)) (disk_Same_L0_st s_) (disk_Same_L0_ex r_).1 (disk_Same_L0_ex r_).2 :=
  loop_run h (disk_Same_L0_ok) (by intro r_; rcases r_ with _ <;> simp [disk_Same_L0_ex])
/-! ### disk_Same -/
noncomputable def disk_Same : Option (Bool) :=
  (disk_Disk_Segs_2).bind fun _ =>
  (slices_Equal_uint64 [] []).bind fun b =>
  bif b then
    (runL (disk_Same_L0_step) ()).bind fun _ =>
    some true
  else
    some false
theorem disk_Same_runs (r_ : Bool) (h : disk_Same = some r_) : Runs Try.prog 32 [(.one (.pv .nilp)), (.one (.pv .nilp))] [] [] (disk_Same_out r_) := by
  unfold disk_Same at h
  obtain ⟨_, h1, h⟩ := bind_of h
  obtain ⟨b, h2, h⟩ := bind_of h
  rcases cond_of h with ⟨h3, h⟩ | ⟨h3, h⟩
  · obtain ⟨_, h4, h⟩ := bind_of h
    have h := some_of h
    subst h
    have t_ := tR (disk_Disk_Segs_2_runs _ h1) <| tR (disk_Disk_Segs_2_runs _ h1) <| tR (slices_Equal_uint64_runs [] [] _ h2) <| tF (not_of2 h3) <| tL (disk_Same_L0_runs _ _ h4) <| tN
    exact runs_of (C := cfg) (objs := []) (sc := t_.ev) (.k0 t_.pf (by kernel_rfl))
  · have h := some_of h
    subst h
    have t_ := tR (disk_Disk_Segs_2_runs _ h1) <| tR (disk_Disk_Segs_2_runs _ h1) <| tR (slices_Equal_uint64_runs [] [] _ h2) <| tT (not_of h3) <| tN
    exact runs_of (C := cfg) (objs := []) (sc := t_.ev) (.k0 t_.pf (by kernel_rfl))
/-! ### disk_Same_2_out -/
def disk_Same_2_out (n : Int) (b : Bool) (b2 : Bool) (n2 : Int) (n3 : Int) (m : List (Int × (List Int))) : Bool → Res
  | r1 => ([(.one (.pv (.bool r1)))], [[(.mp 1), (.pv (.int .i64 n)), (.pv (.bool b)), (.pv (.bool b2)), (.pv (.int .i64 n2)), (.pv (.int .i64 n3))], [(.maph (.int .u64) false (List.map M_uint64_uint8.pv m) [])]], [])
/-! ### disk_Same_L0_2 -/
def disk_Same_L0_2_st (n : Int) (b : Bool) (b2 : Bool) (n2 : Int) (n3 : Int) (m : List (Int × (List Int))) : Unit → St
  | _ => ⟨[(0, (.av (.one (.pv .nilp)))), (1, (.av (.one (.ref 0 0)))), (15, (.av (.one (.pv (.ints .u64 [] false))))), (16, (.av (.one (.pv (.int .i64 0))))), (17, (.av (.one (.pv (.int .i64 0)))))], [(0, [(.mp 1), (.pv (.int .i64 n)), (.pv (.bool b)), (.pv (.bool b2)), (.pv (.int .i64 n2)), (.pv (.int .i64 n3))]), (1, [(.maph (.int .u64) false (List.map M_uint64_uint8.pv m) [])])], []⟩
def disk_Same_L0_2_ex (n : Int) (b : Bool) (b2 : Bool) (n2 : Int) (n3 : Int) (m : List (Int × (List Int))) : Unit → Ex × St
  | _ => ((.exit 0), ⟨[], [(0, [(.mp 1), (.pv (.int .i64 n)), (.pv (.bool b)), (.pv (.bool b2)), (.pv (.int .i64 n2)), (.pv (.int .i64 n3))]), (1, [(.maph (.int .u64) false (List.map M_uint64_uint8.pv m) [])])], []⟩)
noncomputable def disk_Same_L0_2_step (n : Int) (b : Bool) (b2 : Bool) (n2 : Int) (n3 : Int) (m : List (Int × (List Int))) : Unit → Option ((Unit) ⊕ (Unit))
  | _ =>
  some (.inr ())
theorem disk_Same_L0_2_ok (n : Int) (b : Bool) (b2 : Bool) (n2 : Int) (n3 : Int) (m : List (Int × (List Int))) (s_ : Unit) (z_ : (Unit) ⊕ (Unit)) (h : disk_Same_L0_2_step n b b2 n2 n3 m s_ = some z_) : RoundOk Try.prog cfg 32 2 (loopAt Try.prog 32 0) (disk_Same_L0_2_st n b b2 n2 n3 m) (disk_Same_L0_2_ex n b b2 n2 n3 m) s_ z_ := by
  rcases s_ with _
  have h := some_of h
  subst h
  have t_ := tF (rfl : false = false) <| tN
  exact ⟨t_.ev, ⟨[(18, (.av (.one (.pv (.bool false))))), (0, (.av (.one (.pv .nilp)))), (1, (.av (.one (.ref 0 0)))), (15, (.av (.one (.pv (.ints .u64 [] false))))), (16, (.av (.one (.pv (.int .i64 0))))), (17, (.av (.one (.pv (.int .i64 0))))), (18, (.av (.one (.pv (.bool false)))))], [(0, [(.mp 1), (.pv (.int .i64 n)), (.pv (.bool b)), (.pv (.bool b2)), (.pv (.int .i64 n2)), (.pv (.int .i64 n3))]), (1, [(.maph (.int .u64) false (List.map M_uint64_uint8.pv m) [])])], []⟩, .k0 t_.pf (by kernel_rfl), ⟨trivial, ⟨⟨rfl, ⟨.eq rfl, .eq rfl, .eq rfl, .eq rfl, .eq rfl, .eq rfl, trivial⟩⟩, ⟨rfl, ⟨.eq rfl, trivial⟩⟩, trivial⟩, trivial⟩⟩
theorem disk_Same_L0_2_runs (n : Int) (b : Bool) (b2 : Bool) (n2 : Int) (n3 : Int) (m : List (Int × (List Int))) (s_ : Unit) (r_ : Unit) (h : runL (disk_Same_L0_2_step n b b2 n2 n3 m) s_ = some r_) : LRuns Try.prog (lEnv Try.prog cfg 32 2).nt 2 (.loop (loopAt Try.prog 32 0)) (disk_Same_L0_2_st n b b2 n2 n3 m s_) (disk_Same_L0_2_ex n b b2 n2 n3 m r_).1 (disk_Same_L0_2_ex n b b2 n2 n3 m r_).2 :=
  loop_run h (disk_Same_L0_2_ok n b b2 n2 n3 m) (by intro r_; rcases r_ with _ <;> simp [disk_Same_L0_2_ex])
/-! ### disk_Same_2 -/
noncomputable def disk_Same_2 (n : Int) (b : Bool) (b2 : Bool) (n2 : Int) (n3 : Int) (m : List (Int × (List Int))) : Option (Bool) :=
  (disk_Disk_Segs_2).bind fun _ =>
  (disk_Disk_Segs n b b2 n2 n3 m).bind fun l_ =>
  (slices_Equal_uint64 [] l_).bind fun b3 =>
  bif b3 then
    (runL (disk_Same_L0_2_step n b b2 n2 n3 m) ()).bind fun _ =>
    some true
  else
    some false
theorem disk_Same_2_runs (n : Int) (b : Bool) (b2 : Bool) (n2 : Int) (n3 : Int) (m : List (Int × (List Int))) (r_ : Bool) (h : disk_Same_2 n b b2 n2 n3 m = some r_) : Runs Try.prog 32 [(.one (.pv .nilp)), (.one (.ref 0 0))] [[(.mp 1), (.pv (.int .i64 n)), (.pv (.bool b)), (.pv (.bool b2)), (.pv (.int .i64 n2)), (.pv (.int .i64 n3))], [(.maph (.int .u64) false (List.map M_uint64_uint8.pv m) [])]] [] (disk_Same_2_out n b b2 n2 n3 m r_) := by
  unfold disk_Same_2 at h
  obtain ⟨_, h1, h⟩ := bind_of h
  obtain ⟨l_, h2, h⟩ := bind_of h
  obtain ⟨b3, h3, h⟩ := bind_of h
  have q_3 := (Runs.coe (as' := [(.one (.pv (.ints .u64 [] false))), (.one (.pv (.ints .u64 (List.take (l_).length l_) false)))]) (objs' := []) (rows' := []) (slices_Equal_uint64_runs [] l_ _ h3) ⟨.eq rfl, .pv (.ints (by first | rfl | (simp only [List.take_length]; done) | (simp only [List.take_length, List.length_map, List.length_append, List.drop_zero, List.map_append, List.map_take, List.map_drop, List.map_replicate, List.map_cons, List.map_nil, List.append_nil, List.nil_append, E_L_uint8.pv, E_L_uint8.upd]; done) | (simp; done))), trivial⟩ trivial trivial)
  rcases cond_of h with ⟨h4, h⟩ | ⟨h4, h⟩
  · obtain ⟨_, h5, h⟩ := bind_of h
    have h := some_of h
    subst h
    have t_ := tR (disk_Disk_Segs_2_runs _ h1) <| tR (disk_Disk_Segs_runs n b b2 n2 n3 m _ h2) <| tR q_3 <| tF (not_of2 h4) <| tL (disk_Same_L0_2_runs n b b2 n2 n3 m _ _ h5) <| tN
    exact runs_of (C := cfg) (objs := [[(.mp 1), (.pv (.int .i64 n)), (.pv (.bool b)), (.pv (.bool b2)), (.pv (.int .i64 n2)), (.pv (.int .i64 n3))], [(.maph (.int .u64) false (List.map M_uint64_uint8.pv m) [])]]) (sc := t_.ev) (.k0 t_.pf (by kernel_rfl))
  · have h := some_of h
    subst h
    have t_ := tR (disk_Disk_Segs_2_runs _ h1) <| tR (disk_Disk_Segs_runs n b b2 n2 n3 m _ h2) <| tR q_3 <| tT (not_of h4) <| tN
    exact runs_of (C := cfg) (objs := [[(.mp 1), (.pv (.int .i64 n)), (.pv (.bool b)), (.pv (.bool b2)), (.pv (.int .i64 n2)), (.pv (.int .i64 n3))], [(.maph (.int .u64) false (List.map M_uint64_uint8.pv m) [])]]) (sc := t_.ev) (.k0 t_.pf (by kernel_rfl))
/-! ### disk_Disk_Room_2_out -/
def disk_Disk_Room_2_out (n : Int) (b : Bool) (b2 : Bool) (n2 : Int) (n3 : Int) (m : List (Int × (List Int))) : Unit → Res
  | _ => ([(.one (.pv (.int .i64 n)))], [[(.mp 1), (.pv (.int .i64 n)), (.pv (.bool b)), (.pv (.bool b2)), (.pv (.int .i64 n2)), (.pv (.int .i64 n3))], [(.maph (.int .u64) false (List.map M_uint64_uint8.pv m) [])]], [])
/-! ### disk_Disk_Room_2 -/
noncomputable def disk_Disk_Room_2 (n : Int) (b : Bool) (b2 : Bool) (n2 : Int) (n3 : Int) (m : List (Int × (List Int))) : Option (Unit) :=
  some ()
theorem disk_Disk_Room_2_runs (n : Int) (b : Bool) (b2 : Bool) (n2 : Int) (n3 : Int) (m : List (Int × (List Int))) (r_ : Unit) (h : disk_Disk_Room_2 n b b2 n2 n3 m = some r_) : Runs Try.prog 38 [(.one (.ref 0 0))] [[(.mp 1), (.pv (.int .i64 n)), (.pv (.bool b)), (.pv (.bool b2)), (.pv (.int .i64 n2)), (.pv (.int .i64 n3))], [(.maph (.int .u64) false (List.map M_uint64_uint8.pv m) [])]] [] (disk_Disk_Room_2_out n b b2 n2 n3 m r_) := by
  unfold disk_Disk_Room_2 at h
  have h := some_of h
  subst h
  have t_ := tF (rfl : false = false) <| tN
  exact runs_of (C := cfg) (objs := [[(.mp 1), (.pv (.int .i64 n)), (.pv (.bool b)), (.pv (.bool b2)), (.pv (.int .i64 n2)), (.pv (.int .i64 n3))], [(.maph (.int .u64) false (List.map M_uint64_uint8.pv m) [])]]) (sc := t_.ev) (.k0 t_.pf (by kernel_rfl))
/-! ### kinfolklaw11_DiskNil -/
noncomputable def kinfolklaw11_DiskNil (n : Int) (p : List Int) (k : Int) (on_ : Bool) : Option (Bool) :=
  (kinfolklaw11_awake).bind fun b =>
  bif b then
    (disk_Disk_Full on_).bind fun _ =>
    (disk_Disk_Arm_2 k k).bind fun _ =>
    (disk_Disk_Off).bind fun _ =>
    (disk_Disk_On).bind fun _ =>
    (disk_Disk_Read_2 n).bind fun _ =>
    (kinfolklaw11_cut p).bind fun l_ =>
    (disk_Disk_Append_2 n l_).bind fun _ =>
    (disk_Disk_Drop n).bind fun _ =>
    (disk_Disk_Segs_2).bind fun _ =>
    (disk_Disk_Used_2).bind fun _ =>
    (disk_Disk_Room).bind fun _ =>
    (disk_Disk_Armed).bind fun _ =>
    (disk_Disk_Up_2).bind fun _ =>
    (disk_Disk_Copy).bind fun _ =>
    (disk_Same).bind fun b2 =>
    bif b2 then
      (disk_New 5).bind fun n2 =>
      (disk_Same_2 n2 false false 0 0 []).bind fun b3 =>
      bif b3 then
        (disk_New k).bind fun n3 =>
        (disk_Disk_Room_2 n3 false false 0 0 []).bind fun _ =>
        some (decide ((n3 : Int) = (if (k : Int) < 0 then 0 else k)))
      else
        some false
    else
      some false
  else
    some false
theorem kinfolklaw11_DiskNil_runs (n : Int) (p : List Int) (k : Int) (on_ : Bool) (r_ : Bool) (h : kinfolklaw11_DiskNil n p k on_ = some r_) : Runs Try.prog 7 [(.one (.pv (.int .u64 n))), (.one (.pv (.ints .u8 p false))), (.one (.pv (.int .i64 k))), (.one (.pv (.bool on_)))] [] [] (kinfolklaw11_DiskNil_out n p k on_ r_) := by
  unfold kinfolklaw11_DiskNil at h
  obtain ⟨b, h1, h⟩ := bind_of h
  rcases cond_of h with ⟨h2, h⟩ | ⟨h2, h⟩
  · obtain ⟨_, h3, h⟩ := bind_of h
    obtain ⟨_, h4, h⟩ := bind_of h
    obtain ⟨_, h5, h⟩ := bind_of h
    obtain ⟨_, h6, h⟩ := bind_of h
    obtain ⟨_, h7, h⟩ := bind_of h
    obtain ⟨l_, h8, h⟩ := bind_of h
    obtain ⟨_, h9, h⟩ := bind_of h
    obtain ⟨_, h10, h⟩ := bind_of h
    obtain ⟨_, h11, h⟩ := bind_of h
    obtain ⟨_, h12, h⟩ := bind_of h
    obtain ⟨_, h13, h⟩ := bind_of h
    obtain ⟨_, h14, h⟩ := bind_of h
    obtain ⟨_, h15, h⟩ := bind_of h
    obtain ⟨_, h16, h⟩ := bind_of h
    obtain ⟨b2, h17, h⟩ := bind_of h
    have p17_ := fun {sc_ : List Ev} {Q_ : Prop} (t_ : Tell sc_ Q_) => tR (kinfolklaw11_awake_runs _ h1) <| tF (not_of2 h2) <| tR (disk_Disk_Full_runs on_ _ h3) <| tR (disk_Disk_Arm_2_runs k k _ h4) <| tR (disk_Disk_Off_runs _ h5) <| tR (disk_Disk_On_runs _ h6) <| tR (disk_Disk_Read_2_runs n _ h7) <| tR (kinfolklaw11_cut_runs p _ h8) <| tR (disk_Disk_Append_2_runs n l_ _ h9) <| tT (rfl : true = true) <| tR (disk_Disk_Drop_runs n _ h10) <| tT (rfl : true = true) <| tT (rfl : true = true) <| tR (disk_Disk_Segs_2_runs _ h11) <| tR (disk_Disk_Used_2_runs _ h12) <| tR (disk_Disk_Room_runs _ h13) <| tR (disk_Disk_Armed_runs _ h14) <| tT (rfl : true = true) <| tR (disk_Disk_Up_2_runs _ h15) <| tT (rfl : true = true) <| tR (disk_Disk_Copy_runs _ h16) <| tT (rfl : true = true) <| tR (disk_Same_runs _ h17) <| t_
    rcases cond_of h with ⟨h18, h⟩ | ⟨h18, h⟩
    · obtain ⟨n2, h19, h⟩ := bind_of h
      obtain ⟨b3, h20, h⟩ := bind_of h
      rcases cond_of h with ⟨h21, h⟩ | ⟨h21, h⟩
      · obtain ⟨n3, h22, h⟩ := bind_of h
        obtain ⟨_, h23, h⟩ := bind_of h
        have h := some_of h
        subst h
        have t_ := p17_ <| tT h18 <| tR (disk_New_runs 5 _ h19) <| tR (disk_Same_2_runs n2 false false 0 0 [] _ h20) <| tT h21 <| tR (disk_New_runs k _ h22) <| tR (disk_Disk_Room_2_runs n3 false false 0 0 [] _ h23) <| tN
        exact runs_of (C := cfg) (objs := []) (sc := t_.ev) (.k0 t_.pf (by kernel_rfl))
      · have h := some_of h
        subst h
        have t_ := p17_ <| tT h18 <| tR (disk_New_runs 5 _ h19) <| tR (disk_Same_2_runs n2 false false 0 0 [] _ h20) <| tF h21 <| tN
        exact runs_of (C := cfg) (objs := []) (sc := t_.ev) (.k0 t_.pf (by kernel_rfl))
    · have h := some_of h
      subst h
      have t_ := p17_ <| tF h18 <| tF (rfl : false = false) <| tN
      exact runs_of (C := cfg) (objs := []) (sc := t_.ev) (.k0 t_.pf (by kernel_rfl))
  · have h := some_of h
    subst h
    have t_ := tR (kinfolklaw11_awake_runs _ h1) <| tT (not_of h2) <| tN
    exact runs_of (C := cfg) (objs := []) (sc := t_.ev) (.k0 t_.pf (by kernel_rfl))
/-! ### kinfolklaw11_DiskTorn_out -/
def kinfolklaw11_DiskTorn_out (l : List E_L_uint8) (k : Int) (torn : Int) : Bool → Res
  | r1 => ([(.one (.pv (.bool r1)))], [], [])
/-! ### kinfolklaw11_DiskTorn_L0_2 -/
def kinfolklaw11_DiskTorn_L0_2_st (l : List E_L_uint8) (torn : Int) (n : Int) (r : List E_L_uint8) (n2 : Int) (n3 : Int) (n5 : Int) : Int × Bool × Int × List (Int × (List Int)) × List Int → St
  | (n6, b, n4, m, l2) => ⟨[(0, (.av (.one (.pv (.recs 1 (List.map E_L_uint8.pv l) false))))), (2, (.av (.one (.pv (.int .i64 torn))))), (7, (.av (.one (.ref 0 0)))), (8, (.av (.one (.pv (.int .i64 n))))), (9, (.av (.one (.own 0 0 (l2).length false)))), (31, (.av (.one (.pv (.recs 1 (List.map E_L_uint8.pv r) false))))), (32, (.av (.one (.pv (.int .i64 n2))))), (33, (.av (.one (.pv (.int .i64 n6)))))], [(0, [(.mp 1), (.pv (.int .i64 n3)), (.pv (.bool false)), (.pv (.bool b)), (.pv (.int .i64 n4)), (.pv (.int .i64 n5))]), (1, [(.maph (.int .u64) false (List.map M_uint64_uint8.pv m) [])])], [(0, (.live (.ints .u8 l2)))]⟩
def kinfolklaw11_DiskTorn_L0_2_ex (l : List E_L_uint8) (torn : Int) (n : Int) (r : List E_L_uint8) (n2 : Int) (n3 : Int) (n5 : Int) : (Unit) ⊕ (Bool × Int × List (Int × (List Int)) × List Int) → Ex × St
  | .inl _ => (.ret, ⟨[(6, (.av (.one (.pv (.bool false)))))], [], []⟩)
  | .inr (r1, r2, r3, r4) => ((.exit 0), ⟨[(0, (.av (.one (.pv (.recs 1 (List.map E_L_uint8.pv l) false))))), (7, (.av (.one (.ref 0 0)))), (8, (.av (.one (.pv (.int .i64 n))))), (9, (.av (.one (.own 0 0 (r4).length false))))], [(0, [(.mp 1), (.pv (.int .i64 n3)), (.pv (.bool false)), (.pv (.bool r1)), (.pv (.int .i64 r2)), (.pv (.int .i64 n5))]), (1, [(.maph (.int .u64) false (List.map M_uint64_uint8.pv r3) [])])], [(0, (.live (.ints .u8 r4)))]⟩)
noncomputable def kinfolklaw11_DiskTorn_L0_2_step (l : List E_L_uint8) (torn : Int) (n : Int) (r : List E_L_uint8) (n2 : Int) (n3 : Int) (n5 : Int) : Int × Bool × Int × List (Int × (List Int)) × List Int → Option ((Int × Bool × Int × List (Int × (List Int)) × List Int) ⊕ ((Unit) ⊕ (Bool × Int × List (Int × (List Int)) × List Int)))
  | (n6, b, n4, m, l2) =>
  bif (decide ((n6 : Int) < n2)) then
    bif decide ((0 : Int) ≤ n6) && decide ((n6 : Int) < (((List.map E_L_uint8.pv r)).length : Int)) then
    (r[(n6).toNat]?).bind fun e_ => match e_ with
    | .mk l_ =>
    (kinfolklaw11_cut l_).bind fun l_2 =>
    (disk_Disk_Append 7 l_2 n3 false b n4 n5 m).bind fun (n7, b2, n8, m_) =>
    bif (decide (((iadd .i64 n6 1) : Int) < n)) then
      bif fits ((l2 ++ l_2)).length then
      bif ((decide ((n7 : Int) = 0)) == (decide (((iadd .i64 n6 1) : Int) < n))) then
        bif (decide ((n7 : Int) = 0)) then
          some (.inl ((iadd .i64 n6 1), b2, n8, m_, (l2 ++ l_2)))
        else
          bif (decide ((n7 : Int) = 10)) then
            some (.inl ((iadd .i64 n6 1), b2, n8, m_, (l2 ++ l_2)))
          else
            some (.inr (.inl ()))
      else
        some (.inr (.inl ()))
      else none
    else
      bif (decide (((iadd .i64 n6 1) : Int) = n)) then
        bif decide ((0 : Int) ≤ 0) && decide ((0 : Int) ≤ (if (((l_2).length : Int) : Int) < (if (torn : Int) < 0 then 0 else torn) then ((l_2).length : Int) else (if (torn : Int) < 0 then 0 else torn))) && decide (((if (((l_2).length : Int) : Int) < (if (torn : Int) < 0 then 0 else torn) then ((l_2).length : Int) else (if (torn : Int) < 0 then 0 else torn)) : Int) ≤ ((l_2).length : Int)) && decide (((if (((l_2).length : Int) : Int) < (if (torn : Int) < 0 then 0 else torn) then ((l_2).length : Int) else (if (torn : Int) < 0 then 0 else torn)) : Int) = (if (((l_2).length : Int) : Int) < (if (torn : Int) < 0 then 0 else torn) then ((l_2).length : Int) else (if (torn : Int) < 0 then 0 else torn))) then
        bif fits ((l2 ++ (List.take ((if (((l_2).length : Int) : Int) < (if (torn : Int) < 0 then 0 else torn) then ((l_2).length : Int) else (if (torn : Int) < 0 then 0 else torn)) - 0).toNat l_2))).length then
        bif ((decide ((n7 : Int) = 0)) == (decide (((iadd .i64 n6 1) : Int) < n))) then
          bif (decide ((n7 : Int) = 0)) then
            some (.inl ((iadd .i64 n6 1), b2, n8, m_, (l2 ++ (List.take ((if (((l_2).length : Int) : Int) < (if (torn : Int) < 0 then 0 else torn) then ((l_2).length : Int) else (if (torn : Int) < 0 then 0 else torn)) - 0).toNat l_2))))
          else
            bif (decide ((n7 : Int) = 10)) then
              some (.inl ((iadd .i64 n6 1), b2, n8, m_, (l2 ++ (List.take ((if (((l_2).length : Int) : Int) < (if (torn : Int) < 0 then 0 else torn) then ((l_2).length : Int) else (if (torn : Int) < 0 then 0 else torn)) - 0).toNat l_2))))
            else
              some (.inr (.inl ()))
        else
          some (.inr (.inl ()))
        else none
        else none
      else
        bif ((decide ((n7 : Int) = 0)) == (decide (((iadd .i64 n6 1) : Int) < n))) then
          bif (decide ((n7 : Int) = 0)) then
            some (.inl ((iadd .i64 n6 1), b2, n8, m_, l2))
          else
            bif (decide ((n7 : Int) = 10)) then
              some (.inl ((iadd .i64 n6 1), b2, n8, m_, l2))
            else
              some (.inr (.inl ()))
        else
          some (.inr (.inl ()))
    else none
  else
    some (.inr (.inr (b, n4, m, l2)))
theorem kinfolklaw11_DiskTorn_L0_2_ok (l : List E_L_uint8) (torn : Int) (n : Int) (r : List E_L_uint8) (n2 : Int) (n3 : Int) (n5 : Int) (s_ : Int × Bool × Int × List (Int × (List Int)) × List Int) (z_ : (Int × Bool × Int × List (Int × (List Int)) × List Int) ⊕ ((Unit) ⊕ (Bool × Int × List (Int × (List Int)) × List Int))) (h : kinfolklaw11_DiskTorn_L0_2_step l torn n r n2 n3 n5 s_ = some z_) : RoundOk Try.prog cfg 3 0 (loopAt Try.prog 3 0) (kinfolklaw11_DiskTorn_L0_2_st l torn n r n2 n3 n5) (kinfolklaw11_DiskTorn_L0_2_ex l torn n r n2 n3 n5) s_ z_ := by
  rcases s_ with ⟨n6, b, n4, m, l2⟩
  rcases cond_of h with ⟨h1, h⟩ | ⟨h1, h⟩
  · obtain ⟨h2, h⟩ := need_of h
    obtain ⟨⟨l_⟩, h3, h⟩ := bind_of h
    obtain ⟨l_2, h4, h⟩ := bind_of h
    obtain ⟨⟨n7, b2, n8, m_⟩, h5, h⟩ := bind_of h
    have q_5 := (disk_Disk_Append_runs 7 l_2 n3 false b n4 n5 m _ h5)
    rcases cond_of h with ⟨h6, h⟩ | ⟨h6, h⟩
    · obtain ⟨h7, h⟩ := need_of h
      rcases cond_of h with ⟨h8, h⟩ | ⟨h8, h⟩
      · rcases cond_of h with ⟨h9, h⟩ | ⟨h9, h⟩
        · have h := some_of h
          subst h
          have t_ := tT h1 <| tO h2 <| tE (.el [(.ints .u8 l_ false)]) <| tO (el_of (f := E_L_uint8.pv) h3) <| tR (kinfolklaw11_cut_runs l_ _ h4) <| tR q_5 <| tT h6 <| tO (show (Nat.beq (l2).length (l2).length) = true from Nat.beq_refl _) <| tO h7 <| tF (not_of2 h8) <| tF (not_of2 h9) <| tF (rfl : false = false) <| tN
          exact ⟨t_.ev, kinfolklaw11_DiskTorn_L0_2_st l torn n r n2 n3 n5 ((iadd .i64 n6 1), b2, n8, m_, (l2 ++ l_2)), .k0 t_.pf (by kernel_rfl), .same (by kernel_rfl)⟩
        · rcases cond_of h with ⟨h10, h⟩ | ⟨h10, h⟩
          · have h := some_of h
            subst h
            have t_ := tT h1 <| tO h2 <| tE (.el [(.ints .u8 l_ false)]) <| tO (el_of (f := E_L_uint8.pv) h3) <| tR (kinfolklaw11_cut_runs l_ _ h4) <| tR q_5 <| tT h6 <| tO (show (Nat.beq (l2).length (l2).length) = true from Nat.beq_refl _) <| tO h7 <| tF (not_of2 h8) <| tT (not_of h9) <| tF (not_of2 h10) <| tN
            exact ⟨t_.ev, kinfolklaw11_DiskTorn_L0_2_st l torn n r n2 n3 n5 ((iadd .i64 n6 1), b2, n8, m_, (l2 ++ l_2)), .k0 t_.pf (by kernel_rfl), .same (by kernel_rfl)⟩
          · have h := some_of h
            subst h
            have t_ := tT h1 <| tO h2 <| tE (.el [(.ints .u8 l_ false)]) <| tO (el_of (f := E_L_uint8.pv) h3) <| tR (kinfolklaw11_cut_runs l_ _ h4) <| tR q_5 <| tT h6 <| tO (show (Nat.beq (l2).length (l2).length) = true from Nat.beq_refl _) <| tO h7 <| tF (not_of2 h8) <| tT (not_of h9) <| tT (not_of h10) <| tN
            exact ⟨t_.ev, (kinfolklaw11_DiskTorn_L0_2_ex l torn n r n2 n3 n5 (.inl ())).2, .k0 t_.pf (by kernel_rfl), .same (by kernel_rfl)⟩
      · have h := some_of h
        subst h
        have t_ := tT h1 <| tO h2 <| tE (.el [(.ints .u8 l_ false)]) <| tO (el_of (f := E_L_uint8.pv) h3) <| tR (kinfolklaw11_cut_runs l_ _ h4) <| tR q_5 <| tT h6 <| tO (show (Nat.beq (l2).length (l2).length) = true from Nat.beq_refl _) <| tO h7 <| tT (not_of h8) <| tT (rfl : true = true) <| tN
        exact ⟨t_.ev, (kinfolklaw11_DiskTorn_L0_2_ex l torn n r n2 n3 n5 (.inl ())).2, .k0 t_.pf (by kernel_rfl), .same (by kernel_rfl)⟩
    · rcases cond_of h with ⟨h7, h⟩ | ⟨h7, h⟩
      · obtain ⟨h8, h⟩ := need_of h
        obtain ⟨h9, h⟩ := need_of h
        rcases cond_of h with ⟨h10, h⟩ | ⟨h10, h⟩
        · rcases cond_of h with ⟨h11, h⟩ | ⟨h11, h⟩
          · have h := some_of h
            subst h
            have t_ := tT h1 <| tO h2 <| tE (.el [(.ints .u8 l_ false)]) <| tO (el_of (f := E_L_uint8.pv) h3) <| tR (kinfolklaw11_cut_runs l_ _ h4) <| tR q_5 <| tF h6 <| tT h7 <| tO h8 <| tO (show (Nat.beq (l2).length (l2).length) = true from Nat.beq_refl _) <| tO h9 <| tF (not_of2 h10) <| tF (not_of2 h11) <| tF (rfl : false = false) <| tN
            exact ⟨t_.ev, kinfolklaw11_DiskTorn_L0_2_st l torn n r n2 n3 n5 ((iadd .i64 n6 1), b2, n8, m_, (l2 ++ (List.take ((if (((l_2).length : Int) : Int) < (if (torn : Int) < 0 then 0 else torn) then ((l_2).length : Int) else (if (torn : Int) < 0 then 0 else torn)) - 0).toNat l_2))), .k0 t_.pf (by kernel_rfl), .same (by kernel_rfl)⟩
          · rcases cond_of h with ⟨h12, h⟩ | ⟨h12, h⟩
            · have h := some_of h
              subst h
              have t_ := tT h1 <| tO h2 <| tE (.el [(.ints .u8 l_ false)]) <| tO (el_of (f := E_L_uint8.pv) h3) <| tR (kinfolklaw11_cut_runs l_ _ h4) <| tR q_5 <| tF h6 <| tT h7 <| tO h8 <| tO (show (Nat.beq (l2).length (l2).length) = true from Nat.beq_refl _) <| tO h9 <| tF (not_of2 h10) <| tT (not_of h11) <| tF (not_of2 h12) <| tN
              exact ⟨t_.ev, kinfolklaw11_DiskTorn_L0_2_st l torn n r n2 n3 n5 ((iadd .i64 n6 1), b2, n8, m_, (l2 ++ (List.take ((if (((l_2).length : Int) : Int) < (if (torn : Int) < 0 then 0 else torn) then ((l_2).length : Int) else (if (torn : Int) < 0 then 0 else torn)) - 0).toNat l_2))), .k0 t_.pf (by kernel_rfl), .same (by kernel_rfl)⟩
            · have h := some_of h
              subst h
              have t_ := tT h1 <| tO h2 <| tE (.el [(.ints .u8 l_ false)]) <| tO (el_of (f := E_L_uint8.pv) h3) <| tR (kinfolklaw11_cut_runs l_ _ h4) <| tR q_5 <| tF h6 <| tT h7 <| tO h8 <| tO (show (Nat.beq (l2).length (l2).length) = true from Nat.beq_refl _) <| tO h9 <| tF (not_of2 h10) <| tT (not_of h11) <| tT (not_of h12) <| tN
              exact ⟨t_.ev, (kinfolklaw11_DiskTorn_L0_2_ex l torn n r n2 n3 n5 (.inl ())).2, .k0 t_.pf (by kernel_rfl), .same (by kernel_rfl)⟩
        · have h := some_of h
          subst h
          have t_ := tT h1 <| tO h2 <| tE (.el [(.ints .u8 l_ false)]) <| tO (el_of (f := E_L_uint8.pv) h3) <| tR (kinfolklaw11_cut_runs l_ _ h4) <| tR q_5 <| tF h6 <| tT h7 <| tO h8 <| tO (show (Nat.beq (l2).length (l2).length) = true from Nat.beq_refl _) <| tO h9 <| tT (not_of h10) <| tT (rfl : true = true) <| tN
          exact ⟨t_.ev, (kinfolklaw11_DiskTorn_L0_2_ex l torn n r n2 n3 n5 (.inl ())).2, .k0 t_.pf (by kernel_rfl), .same (by kernel_rfl)⟩
      · rcases cond_of h with ⟨h8, h⟩ | ⟨h8, h⟩
        · rcases cond_of h with ⟨h9, h⟩ | ⟨h9, h⟩
          · have h := some_of h
            subst h
            have t_ := tT h1 <| tO h2 <| tE (.el [(.ints .u8 l_ false)]) <| tO (el_of (f := E_L_uint8.pv) h3) <| tR (kinfolklaw11_cut_runs l_ _ h4) <| tR q_5 <| tF h6 <| tF h7 <| tF (not_of2 h8) <| tF (not_of2 h9) <| tF (rfl : false = false) <| tN
            exact ⟨t_.ev, kinfolklaw11_DiskTorn_L0_2_st l torn n r n2 n3 n5 ((iadd .i64 n6 1), b2, n8, m_, l2), .k0 t_.pf (by kernel_rfl), .same (by kernel_rfl)⟩
          · rcases cond_of h with ⟨h10, h⟩ | ⟨h10, h⟩
            · have h := some_of h
              subst h
              have t_ := tT h1 <| tO h2 <| tE (.el [(.ints .u8 l_ false)]) <| tO (el_of (f := E_L_uint8.pv) h3) <| tR (kinfolklaw11_cut_runs l_ _ h4) <| tR q_5 <| tF h6 <| tF h7 <| tF (not_of2 h8) <| tT (not_of h9) <| tF (not_of2 h10) <| tN
              exact ⟨t_.ev, kinfolklaw11_DiskTorn_L0_2_st l torn n r n2 n3 n5 ((iadd .i64 n6 1), b2, n8, m_, l2), .k0 t_.pf (by kernel_rfl), .same (by kernel_rfl)⟩
            · have h := some_of h
              subst h
              have t_ := tT h1 <| tO h2 <| tE (.el [(.ints .u8 l_ false)]) <| tO (el_of (f := E_L_uint8.pv) h3) <| tR (kinfolklaw11_cut_runs l_ _ h4) <| tR q_5 <| tF h6 <| tF h7 <| tF (not_of2 h8) <| tT (not_of h9) <| tT (not_of h10) <| tN
              exact ⟨t_.ev, (kinfolklaw11_DiskTorn_L0_2_ex l torn n r n2 n3 n5 (.inl ())).2, .k0 t_.pf (by kernel_rfl), .same (by kernel_rfl)⟩
        · have h := some_of h
          subst h
          have t_ := tT h1 <| tO h2 <| tE (.el [(.ints .u8 l_ false)]) <| tO (el_of (f := E_L_uint8.pv) h3) <| tR (kinfolklaw11_cut_runs l_ _ h4) <| tR q_5 <| tF h6 <| tF h7 <| tT (not_of h8) <| tT (rfl : true = true) <| tN
          exact ⟨t_.ev, (kinfolklaw11_DiskTorn_L0_2_ex l torn n r n2 n3 n5 (.inl ())).2, .k0 t_.pf (by kernel_rfl), .same (by kernel_rfl)⟩
  · have h := some_of h
    subst h
    have t_ := tF h1 <| tN
    exact ⟨t_.ev, ⟨[(34, (.av (.one (.pv (.bool false))))), (0, (.av (.one (.pv (.recs 1 (List.map E_L_uint8.pv l) false))))), (2, (.av (.one (.pv (.int .i64 torn))))), (7, (.av (.one (.ref 0 0)))), (8, (.av (.one (.pv (.int .i64 n))))), (9, (.av (.one (.own 0 0 (l2).length false)))), (31, (.av (.one (.pv (.recs 1 (List.map E_L_uint8.pv r) false))))), (32, (.av (.one (.pv (.int .i64 n2))))), (33, (.av (.one (.pv (.int .i64 n6))))), (34, (.av (.one (.pv (.bool (decide ((n6 : Int) < n2)))))))], [(0, [(.mp 1), (.pv (.int .i64 n3)), (.pv (.bool false)), (.pv (.bool b)), (.pv (.int .i64 n4)), (.pv (.int .i64 n5))]), (1, [(.maph (.int .u64) false (List.map M_uint64_uint8.pv m) [])])], [(0, (.live (.ints .u8 l2)))]⟩, .k0 t_.pf (by kernel_rfl), ⟨⟨⟨_, rfl, .eq rfl⟩, ⟨_, rfl, .eq rfl⟩, ⟨_, rfl, .eq rfl⟩, ⟨_, rfl, .eq rfl⟩, trivial⟩, ⟨⟨rfl, ⟨.eq rfl, .eq rfl, .eq rfl, .eq rfl, .eq rfl, .eq rfl, trivial⟩⟩, ⟨rfl, ⟨.eq rfl, trivial⟩⟩, trivial⟩, ⟨⟨rfl, .eq rfl⟩, trivial⟩⟩⟩
theorem kinfolklaw11_DiskTorn_L0_2_runs (l : List E_L_uint8) (torn : Int) (n : Int) (r : List E_L_uint8) (n2 : Int) (n3 : Int) (n5 : Int) (s_ : Int × Bool × Int × List (Int × (List Int)) × List Int) (r_ : (Unit) ⊕ (Bool × Int × List (Int × (List Int)) × List Int)) (h : runL (kinfolklaw11_DiskTorn_L0_2_step l torn n r n2 n3 n5) s_ = some r_) : LRuns Try.prog (lEnv Try.prog cfg 3 0).nt 0 (.loop (loopAt Try.prog 3 0)) (kinfolklaw11_DiskTorn_L0_2_st l torn n r n2 n3 n5 s_) (kinfolklaw11_DiskTorn_L0_2_ex l torn n r n2 n3 n5 r_).1 (kinfolklaw11_DiskTorn_L0_2_ex l torn n r n2 n3 n5 r_).2 :=
  loop_run h (kinfolklaw11_DiskTorn_L0_2_ok l torn n r n2 n3 n5) (by intro r_; rcases r_ with _ | ⟨r1, r2, r3, r4⟩ <;> simp [kinfolklaw11_DiskTorn_L0_2_ex])
/-! ### bytes_Equal_out -/
def bytes_Equal_out (a : List Int) (b : List Int) : Bool → Res
  | r1 => ([(.one (.pv (.bool r1)))], [], [])
/-! ### bytes_Equal -/
noncomputable def bytes_Equal (a : List Int) (b : List Int) : Option (Bool) :=
  some (decide ((Ev.strOf a) = (Ev.strOf b)))
theorem bytes_Equal_runs (a : List Int) (b : List Int) (r_ : Bool) (h : bytes_Equal a b = some r_) : Runs Try.prog 19 [(.one (.pv (.ints .u8 a false))), (.one (.pv (.ints .u8 b false)))] [] [] (bytes_Equal_out a b r_) := by
  unfold bytes_Equal at h
  have h := some_of h
  subst h
  have t_ := tN
  exact runs_of (C := cfg) (objs := []) (sc := t_.ev) (.k0 t_.pf (by kernel_rfl))
/-! ### disk_Disk_On_2_out -/
def disk_Disk_On_2_out (n : Int) (b : Bool) (b2 : Bool) (n2 : Int) (n3 : Int) (m : List (Int × (List Int))) : Unit → Res
  | _ => ([], [[(.mp 1), (.pv (.int .i64 n)), (.pv (.bool b)), (.pv (.bool false)), (.pv (.int .i64 0)), (.pv (.int .i64 n3))], [(.maph (.int .u64) false (List.map M_uint64_uint8.pv m) [])]], [])
/-! ### disk_Disk_On_2 -/
noncomputable def disk_Disk_On_2 (n : Int) (b : Bool) (b2 : Bool) (n2 : Int) (n3 : Int) (m : List (Int × (List Int))) : Option (Unit) :=
  some ()
theorem disk_Disk_On_2_runs (n : Int) (b : Bool) (b2 : Bool) (n2 : Int) (n3 : Int) (m : List (Int × (List Int))) (r_ : Unit) (h : disk_Disk_On_2 n b b2 n2 n3 m = some r_) : Runs Try.prog 21 [(.one (.ref 0 0))] [[(.mp 1), (.pv (.int .i64 n)), (.pv (.bool b)), (.pv (.bool b2)), (.pv (.int .i64 n2)), (.pv (.int .i64 n3))], [(.maph (.int .u64) false (List.map M_uint64_uint8.pv m) [])]] [] (disk_Disk_On_2_out n b b2 n2 n3 m r_) := by
  unfold disk_Disk_On_2 at h
  have h := some_of h
  subst h
  have t_ := tT (rfl : true = true) <| tN
  exact runs_of (C := cfg) (objs := [[(.mp 1), (.pv (.int .i64 n)), (.pv (.bool b)), (.pv (.bool b2)), (.pv (.int .i64 n2)), (.pv (.int .i64 n3))], [(.maph (.int .u64) false (List.map M_uint64_uint8.pv m) [])]]) (sc := t_.ev) (.k0 t_.pf (by kernel_rfl))
/-! ### disk_Disk_Armed_2_out -/
def disk_Disk_Armed_2_out (n : Int) (b : Bool) (b2 : Bool) (n2 : Int) (n3 : Int) (m : List (Int × (List Int))) : Unit → Res
  | _ => ([(.one (.pv (.int .i64 n2)))], [[(.mp 1), (.pv (.int .i64 n)), (.pv (.bool b)), (.pv (.bool b2)), (.pv (.int .i64 n2)), (.pv (.int .i64 n3))], [(.maph (.int .u64) false (List.map M_uint64_uint8.pv m) [])]], [])
/-! ### disk_Disk_Armed_2 -/
noncomputable def disk_Disk_Armed_2 (n : Int) (b : Bool) (b2 : Bool) (n2 : Int) (n3 : Int) (m : List (Int × (List Int))) : Option (Unit) :=
  some ()
theorem disk_Disk_Armed_2_runs (n : Int) (b : Bool) (b2 : Bool) (n2 : Int) (n3 : Int) (m : List (Int × (List Int))) (r_ : Unit) (h : disk_Disk_Armed_2 n b b2 n2 n3 m = some r_) : Runs Try.prog 22 [(.one (.ref 0 0))] [[(.mp 1), (.pv (.int .i64 n)), (.pv (.bool b)), (.pv (.bool b2)), (.pv (.int .i64 n2)), (.pv (.int .i64 n3))], [(.maph (.int .u64) false (List.map M_uint64_uint8.pv m) [])]] [] (disk_Disk_Armed_2_out n b b2 n2 n3 m r_) := by
  unfold disk_Disk_Armed_2 at h
  have h := some_of h
  subst h
  have t_ := tF (rfl : false = false) <| tN
  exact runs_of (C := cfg) (objs := [[(.mp 1), (.pv (.int .i64 n)), (.pv (.bool b)), (.pv (.bool b2)), (.pv (.int .i64 n2)), (.pv (.int .i64 n3))], [(.maph (.int .u64) false (List.map M_uint64_uint8.pv m) [])]]) (sc := t_.ev) (.k0 t_.pf (by kernel_rfl))

end Go.Proofs.Ytgimaogkhblaiaa
