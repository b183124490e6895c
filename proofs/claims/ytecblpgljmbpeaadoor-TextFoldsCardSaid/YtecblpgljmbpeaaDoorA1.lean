/- What functions compute, and that they do. -/
import Derived.Test.YtecblpgljmbpeaaDoorCfg
import Derived.Test.YtecblpgljmbpeaaDoorM1
set_option linter.unusedVariables false
set_option linter.unusedSimpArgs false
set_option maxRecDepth 100000
namespace Go.Proofs.YtecblpgljmbpeaaDoor
open Go.Ev

/-! ### kinfolklaw08_TextChecks_out -/
def kinfolklaw08_TextChecks_out (s : ByteArray) (most : Int) : Bool → Res
  | r1 => ([(.one (.pv (.bool r1)))], [], [])
/-! ### kinfolklaw08_awake_out -/
def kinfolklaw08_awake_out : Bool → Res
  | r1 => ([(.one (.pv (.bool r1)))], [], [])
/-! ### text_Quote_out -/
def text_Quote_out (s : ByteArray) : ByteArray → Res
  | r1 => ([(.one (.pv (.str r1)))], [], [])
/-! ### text_bare_out -/
def text_bare_out (b : Int) : Bool → Res
  | r1 => ([(.one (.pv (.bool r1)))], [], [])
/-! ### text_bare -/
noncomputable def text_bare (b : Int) : Option (Bool) :=
  bif (decide ((32 : Int) < b)) then
    bif (decide ((b : Int) ≤ 126)) then
      bif (decide ((b : Int) = 92)) then
        some false
      else
        bif (decide ((b : Int) = 34)) then
          some false
        else
          some (!(decide ((b : Int) = 59)))
    else
      some false
  else
    some false
theorem text_bare_runs (b : Int) (r_ : Bool) (h : text_bare b = some r_) : Runs Tryd.prog 26 [(.one (.pv (.int .u8 b)))] [] [] (text_bare_out b r_) := by
  unfold text_bare at h
  rcases cond_of h with ⟨h1, h⟩ | ⟨h1, h⟩
  · rcases cond_of h with ⟨h2, h⟩ | ⟨h2, h⟩
    · rcases cond_of h with ⟨h3, h⟩ | ⟨h3, h⟩
      · have h := some_of h
        subst h
        exact runs_of (C := cfg) (objs := []) (sc := [.br true, .br true, .br false, .br false]) (.k0 (an_ h1 (an_ h2 (an_ (not_of2 h3) (an_ (rfl : false = false) trivial)))) (by kernel_rfl))
      · rcases cond_of h with ⟨h4, h⟩ | ⟨h4, h⟩
        · have h := some_of h
          subst h
          exact runs_of (C := cfg) (objs := []) (sc := [.br true, .br true, .br true, .br false]) (.k0 (an_ h1 (an_ h2 (an_ (not_of h3) (an_ (not_of2 h4) trivial)))) (by kernel_rfl))
        · have h := some_of h
          subst h
          exact runs_of (C := cfg) (objs := []) (sc := [.br true, .br true, .br true, .br true]) (.k0 (an_ h1 (an_ h2 (an_ (not_of h3) (an_ (not_of h4) trivial)))) (by kernel_rfl))
    · have h := some_of h
      subst h
      exact runs_of (C := cfg) (objs := []) (sc := [.br true, .br false, .br false, .br false]) (.k0 (an_ h1 (an_ h2 (an_ (rfl : false = false) (an_ (rfl : false = false) trivial)))) (by kernel_rfl))
  · have h := some_of h
    subst h
    exact runs_of (C := cfg) (objs := []) (sc := [.br false, .br false, .br false, .br false]) (.k0 (an_ h1 (an_ (rfl : false = false) (an_ (rfl : false = false) (an_ (rfl : false = false) trivial)))) (by kernel_rfl))
/-! ### text_Quote_L0_2 -/
def text_Quote_L0_2_st (k : Nat) (n : Int) (l : List Int) : Int × List Int → St
  | (n2, l2) => ⟨[(3, (.av (.one (.own 0 0 (l2).length false)))), (9, (.av (.one (.own 1 0 k false)))), (10, (.av (.one (.pv (.int .i64 n))))), (11, (.av (.one (.pv (.int .i64 n2)))))], [], [(0, (.live (.ints .u8 l2))), (1, (.live (.ints .u8 l)))]⟩
def text_Quote_L0_2_ex (k : Nat) (n : Int) (l : List Int) : List Int → Ex × St
  | r1 => ((.exit 0), ⟨[(3, (.av (.one (.own 0 0 (r1).length false))))], [], [(0, (.live (.ints .u8 r1))), (1, (.live (.ints .u8 l)))]⟩)
noncomputable def text_Quote_L0_2_step (k : Nat) (n : Int) (l : List Int) : Int × List Int → Option ((Int × List Int) ⊕ (List Int))
  | (n2, l2) =>
  bif (decide ((n2 : Int) < n)) then
    bif decide ((0 : Int) ≤ n2) && decide ((n2 : Int) < (k : Int)) then
    (text_bare (l.getD (0 + (n2).toNat) 0)).bind fun b =>
    bif b then
      bif fits ((l2 ++ [(l.getD (0 + (n2).toNat) 0)])).length then
      some (.inl ((iadd .i64 n2 1), (l2 ++ [(l.getD (0 + (n2).toNat) 0)])))
      else none
    else
      bif (decide (((l.getD (0 + (n2).toNat) 0) : Int) = 92)) then
        bif fits ((l2 ++ [92, 92])).length then
        some (.inl ((iadd .i64 n2 1), (l2 ++ [92, 92])))
        else none
      else
        bif decide ((0 : Int) ≤ (ishr .u8 (l.getD (0 + (n2).toNat) 0) 4)) && decide (((ishr .u8 (l.getD (0 + (n2).toNat) 0) 4) : Int) < ((⟨#[48, 49, 50, 51, 52, 53, 54, 55, 56, 57, 97, 98, 99, 100, 101, 102]⟩ : ByteArray).size : Int)) then
        bif decide ((0 : Int) ≤ (iand .u8 (l.getD (0 + (n2).toNat) 0) 15)) && decide (((iand .u8 (l.getD (0 + (n2).toNat) 0) 15) : Int) < ((⟨#[48, 49, 50, 51, 52, 53, 54, 55, 56, 57, 97, 98, 99, 100, 101, 102]⟩ : ByteArray).size : Int)) then
        bif fits ((l2 ++ [92, (((⟨#[48, 49, 50, 51, 52, 53, 54, 55, 56, 57, 97, 98, 99, 100, 101, 102]⟩ : ByteArray).data.getD ((ishr .u8 (l.getD (0 + (n2).toNat) 0) 4)).toNat 0).toNat : Int), (((⟨#[48, 49, 50, 51, 52, 53, 54, 55, 56, 57, 97, 98, 99, 100, 101, 102]⟩ : ByteArray).data.getD ((iand .u8 (l.getD (0 + (n2).toNat) 0) 15)).toNat 0).toNat : Int)])).length then
        some (.inl ((iadd .i64 n2 1), (l2 ++ [92, (((⟨#[48, 49, 50, 51, 52, 53, 54, 55, 56, 57, 97, 98, 99, 100, 101, 102]⟩ : ByteArray).data.getD ((ishr .u8 (l.getD (0 + (n2).toNat) 0) 4)).toNat 0).toNat : Int), (((⟨#[48, 49, 50, 51, 52, 53, 54, 55, 56, 57, 97, 98, 99, 100, 101, 102]⟩ : ByteArray).data.getD ((iand .u8 (l.getD (0 + (n2).toNat) 0) 15)).toNat 0).toNat : Int)])))
        else none
        else none
        else none
    else none
  else
    some (.inr l2)
theorem text_Quote_L0_2_ok (k : Nat) (n : Int) (l : List Int) (s_ : Int × List Int) (z_ : (Int × List Int) ⊕ (List Int)) (h : text_Quote_L0_2_step k n l s_ = some z_) : RoundOk Tryd.prog cfg 15 0 (loopAt Tryd.prog 15 0) (text_Quote_L0_2_st k n l) (text_Quote_L0_2_ex k n l) s_ z_ := by
  rcases s_ with ⟨n2, l2⟩
  rcases cond_of h with ⟨h1, h⟩ | ⟨h1, h⟩
  · obtain ⟨h2, h⟩ := need_of h
    obtain ⟨b, h3, h⟩ := bind_of h
    rcases cond_of h with ⟨h4, h⟩ | ⟨h4, h⟩
    · obtain ⟨h5, h⟩ := need_of h
      have h := some_of h
      subst h
      exact ⟨[.br true, .res (text_bare_out (l.getD (0 + (n2).toNat) 0) b), .br true], text_Quote_L0_2_st k n l ((iadd .i64 n2 1), (l2 ++ [(l.getD (0 + (n2).toNat) 0)])), .k0 (an_ h1 (an_ h2 (an_ (text_bare_runs (l.getD (0 + (n2).toNat) 0) _ h3) (an_ h4 (an_ (show (Nat.beq (l2).length (l2).length) = true from Nat.beq_refl _) (an_ h5 trivial)))))) (by kernel_rfl), .same (by kernel_rfl)⟩
    · rcases cond_of h with ⟨h5, h⟩ | ⟨h5, h⟩
      · obtain ⟨h6, h⟩ := need_of h
        have h := some_of h
        subst h
        exact ⟨[.br true, .res (text_bare_out (l.getD (0 + (n2).toNat) 0) b), .br false, .br true], text_Quote_L0_2_st k n l ((iadd .i64 n2 1), (l2 ++ [92, 92])), .k0 (an_ h1 (an_ h2 (an_ (text_bare_runs (l.getD (0 + (n2).toNat) 0) _ h3) (an_ h4 (an_ h5 (an_ (show (Nat.beq (l2).length (l2).length) = true from Nat.beq_refl _) (an_ h6 trivial))))))) (by kernel_rfl), .same (by kernel_rfl)⟩
      · obtain ⟨h6, h⟩ := need_of h
        obtain ⟨h7, h⟩ := need_of h
        obtain ⟨h8, h⟩ := need_of h
        have h := some_of h
        subst h
        exact ⟨[.br true, .res (text_bare_out (l.getD (0 + (n2).toNat) 0) b), .br false, .br false], text_Quote_L0_2_st k n l ((iadd .i64 n2 1), (l2 ++ [92, (((⟨#[48, 49, 50, 51, 52, 53, 54, 55, 56, 57, 97, 98, 99, 100, 101, 102]⟩ : ByteArray).data.getD ((ishr .u8 (l.getD (0 + (n2).toNat) 0) 4)).toNat 0).toNat : Int), (((⟨#[48, 49, 50, 51, 52, 53, 54, 55, 56, 57, 97, 98, 99, 100, 101, 102]⟩ : ByteArray).data.getD ((iand .u8 (l.getD (0 + (n2).toNat) 0) 15)).toNat 0).toNat : Int)])), .k0 (an_ h1 (an_ h2 (an_ (text_bare_runs (l.getD (0 + (n2).toNat) 0) _ h3) (an_ h4 (an_ h5 (an_ (rfl : true = true) (an_ h6 (an_ h7 (an_ (show (Nat.beq (l2).length (l2).length) = true from Nat.beq_refl _) (an_ h8 trivial)))))))))) (by kernel_rfl), .same (by kernel_rfl)⟩
  · have h := some_of h
    subst h
    exact ⟨[.br false], ⟨[(12, (.av (.one (.pv (.bool false))))), (3, (.av (.one (.own 0 0 (l2).length false)))), (9, (.av (.one (.own 1 0 k false)))), (10, (.av (.one (.pv (.int .i64 n))))), (11, (.av (.one (.pv (.int .i64 n2))))), (12, (.av (.one (.pv (.bool (decide ((n2 : Int) < n)))))))], [], [(0, (.live (.ints .u8 l2))), (1, (.live (.ints .u8 l)))]⟩, .k0 (an_ h1 trivial) (by kernel_rfl), ⟨⟨⟨_, rfl, .eq rfl⟩, trivial⟩, trivial, ⟨⟨rfl, .eq rfl⟩, ⟨rfl, .eq rfl⟩, trivial⟩⟩⟩
theorem text_Quote_L0_2_runs (k : Nat) (n : Int) (l : List Int) (s_ : Int × List Int) (r_ : List Int) (h : runL (text_Quote_L0_2_step k n l) s_ = some r_) : LRuns Tryd.prog (lEnv Tryd.prog cfg 15 0).nt 0 (.loop (loopAt Tryd.prog 15 0)) (text_Quote_L0_2_st k n l s_) (text_Quote_L0_2_ex k n l r_).1 (text_Quote_L0_2_ex k n l r_).2 :=
  loop_run h (text_Quote_L0_2_ok k n l) (by intro r_; rcases r_ with r1 <;> simp [text_Quote_L0_2_ex])
/-! ### text_Quote -/
noncomputable def text_Quote (s : ByteArray) : Option (ByteArray) :=
  bif (decide (s = (⟨#[]⟩ : ByteArray))) then
    some (⟨#[92, 45]⟩ : ByteArray)
  else
    bif decide (s.size ≤ 140737488355328) then
    (runL (text_Quote_L0_2_step ((bytesL s).length) ((bytesL s).length : Int) (bytesL s)) (0, [])).bind fun l_ =>
    some (strOf (List.take (l_).length l_))
    else none
theorem text_Quote_runs (s : ByteArray) (r_ : ByteArray) (h : text_Quote s = some r_) : Runs Tryd.prog 15 [(.one (.pv (.str s)))] [] [] (text_Quote_out s r_) := by
  unfold text_Quote at h
  rcases cond_of h with ⟨h1, h⟩ | ⟨h1, h⟩
  · have h := some_of h
    subst h
    exact runs_of (C := cfg) (objs := []) (sc := [.br true]) (.k0 (an_ h1 trivial) (by kernel_rfl))
  · obtain ⟨h2, h⟩ := need_of h
    obtain ⟨l_, h3, h⟩ := bind_of h
    have h := some_of h
    subst h
    exact runs_of (C := cfg) (objs := []) (sc := [.br false, .lp (text_Quote_L0_2_ex ((bytesL s).length) ((bytesL s).length : Int) (bytesL s) l_).1 (text_Quote_L0_2_ex ((bytesL s).length) ((bytesL s).length : Int) (bytesL s) l_).2]) (.k0 (an_ h1 (an_ h2 (an_ (LRuns.coe (s0 := ⟨[(3, (.av (.one (.own 0 0 0 false)))), (9, (.av (.one (.own 1 0 (bytesL s).length false)))), (10, (.av (.one (.pv (.int .i64 ((bytesL s).length : Int)))))), (11, (.av (.one (.pv (.int .i64 0)))))], [], [(0, (.live (.ints .u8 []))), (1, (.live (.ints .u8 (bytesL s))))]⟩) (text_Quote_L0_2_runs ((bytesL s).length) ((bytesL s).length : Int) (bytesL s) _ _ h3) ⟨⟨⟨_, rfl, .own (by first | rfl | (simp only [List.take_length]; done) | (simp only [List.take_length, List.length_append, List.drop_zero, List.map_append, List.map_take, List.map_drop, List.map_replicate, List.map_cons, List.map_nil, List.append_nil, List.nil_append]; done) | (simp; done))⟩, ⟨_, rfl, .eq rfl⟩, ⟨_, rfl, .eq rfl⟩, ⟨_, rfl, .eq rfl⟩, trivial⟩, trivial, ⟨⟨rfl, .eq rfl⟩, ⟨rfl, .eq rfl⟩, trivial⟩⟩) trivial))) (by kernel_rfl))
/-! ### text_Check_out -/
def text_Check_out (s : ByteArray) (most : Int) : Int → Res
  | r1 => ([(.one (.pv (.int .i64 r1)))], [], [])
/-! ### strings_ContainsFunc_out -/
def strings_ContainsFunc_out (s : ByteArray) : Bool → Res
  | r1 => ([(.one (.pv (.bool r1)))], [], [])
/-! ### strings_IndexFunc_out -/
def strings_IndexFunc_out (s : ByteArray) : Int → Res
  | r1 => ([(.one (.pv (.int .i64 r1)))], [], [])
/-! ### strings_indexFunc_out -/
def strings_indexFunc_out (s : ByteArray) (truth : Bool) : Int → Res
  | r1 => ([(.one (.pv (.int .i64 r1)))], [], [])
/-! ### text_Check_1_out -/
def text_Check_1_out (r : Int) : Bool → Res
  | r1 => ([(.one (.pv (.bool r1)))], [], [])
/-! ### text_plain_out -/
def text_plain_out (r : Int) : Bool → Res
  | r1 => ([(.one (.pv (.bool r1)))], [], [])
/-! ### text_plain -/
noncomputable def text_plain (r : Int) : Option (Bool) :=
  bif (decide ((32 : Int) ≤ r)) then
    some (!(decide ((r : Int) = 127)))
  else
    some false
theorem text_plain_runs (r : Int) (r_ : Bool) (h : text_plain r = some r_) : Runs Tryd.prog 22 [(.one (.pv (.int .i32 r)))] [] [] (text_plain_out r r_) := by
  unfold text_plain at h
  rcases cond_of h with ⟨h1, h⟩ | ⟨h1, h⟩
  · have h := some_of h
    subst h
    exact runs_of (C := cfg) (objs := []) (sc := [.br true]) (.k0 (an_ h1 trivial) (by kernel_rfl))
  · have h := some_of h
    subst h
    exact runs_of (C := cfg) (objs := []) (sc := [.br false]) (.k0 (an_ h1 trivial) (by kernel_rfl))
/-! ### text_Check_1 -/
noncomputable def text_Check_1 (r : Int) : Option (Bool) :=
  (text_plain r).bind fun b =>
  some (!b)
theorem text_Check_1_runs (r : Int) (r_ : Bool) (h : text_Check_1 r = some r_) : Runs Tryd.prog 21 [(.one (.pv (.int .i32 r)))] [] [] (text_Check_1_out r r_) := by
  unfold text_Check_1 at h
  obtain ⟨b, h1, h⟩ := bind_of h
  have h := some_of h
  subst h
  exact runs_of (C := cfg) (objs := []) (sc := [.res (text_plain_out r b)]) (.k0 (an_ (text_plain_runs r _ h1) trivial) (by kernel_rfl))
/-! ### strings_indexFunc_L0 -/
def strings_indexFunc_L0_st (truth : Bool) (s : ByteArray) : Nat → St
  | k => ⟨[(1, (.av (.one (.fn 21 [])))), (2, (.av (.one (.pv (.bool truth))))), (10, (.av (.one (.ref 0 0))))], [(0, [(.sit s k)])], []⟩
def strings_indexFunc_L0_ex (truth : Bool) (s : ByteArray) : (Int) ⊕ (Nat) → Ex × St
  | .inl r1 => (.ret, ⟨[(6, (.av (.one (.pv (.int .i64 r1)))))], [], []⟩)
  | .inr r1 => ((.exit 0), ⟨[], [(0, [(.sit s r1)])], []⟩)
noncomputable def strings_indexFunc_L0_step (truth : Bool) (s : ByteArray) : Nat → Option ((Nat) ⊕ ((Int) ⊕ (Nat)))
  | k =>
  bif (decide ((k : Nat) < s.size)) then
    (text_Check_1 ((Utf8.decode s k).1 : Int)).bind fun b =>
    bif (b == truth) then
      some (.inr (.inl (k : Int)))
    else
      some (.inl (k + (Utf8.decode s k).2))
  else
    some (.inr (.inr k))
theorem strings_indexFunc_L0_ok (truth : Bool) (s : ByteArray) (k : Nat) (z_ : (Nat) ⊕ ((Int) ⊕ (Nat))) (h : strings_indexFunc_L0_step truth s k = some z_) : RoundOk Tryd.prog cfg 33 0 (loopAt Tryd.prog 33 0) (strings_indexFunc_L0_st truth s) (strings_indexFunc_L0_ex truth s) k z_ := by
  rcases cond_of h with ⟨h1, h⟩ | ⟨h1, h⟩
  · obtain ⟨b, h2, h⟩ := bind_of h
    rcases cond_of h with ⟨h3, h⟩ | ⟨h3, h⟩
    · have h := some_of h
      subst h
      exact ⟨[.br true, .br true, .res (text_Check_1_out ((Utf8.decode s k).1 : Int) b), .br true], (strings_indexFunc_L0_ex truth s (.inl (k : Int))).2, .k0 (an_ h1 (an_ (rfl : true = true) (an_ (text_Check_1_runs ((Utf8.decode s k).1 : Int) _ h2) (an_ h3 trivial)))) (by kernel_rfl), .same (by kernel_rfl)⟩
    · have h := some_of h
      subst h
      exact ⟨[.br true, .br true, .res (text_Check_1_out ((Utf8.decode s k).1 : Int) b), .br false], strings_indexFunc_L0_st truth s (k + (Utf8.decode s k).2), .k0 (an_ h1 (an_ (rfl : true = true) (an_ (text_Check_1_runs ((Utf8.decode s k).1 : Int) _ h2) (an_ h3 trivial)))) (by kernel_rfl), .same (by kernel_rfl)⟩
  · have h := some_of h
    subst h
    exact ⟨[.br false, .br false], ⟨[(12, (.av (.one (.pv (.bool false))))), (1, (.av (.one (.fn 21 [])))), (2, (.av (.one (.pv (.bool truth))))), (10, (.av (.one (.ref 0 0)))), (11, (.tup [(.one (.pv (.bool false)))])), (12, (.av (.one (.pv (.bool false)))))], [(0, [(.sit s k)])], []⟩, .k0 (an_ h1 (an_ (rfl : false = false) trivial)) (by kernel_rfl), ⟨trivial, ⟨⟨rfl, ⟨.eq rfl, trivial⟩⟩, trivial⟩, trivial⟩⟩
theorem strings_indexFunc_L0_runs (truth : Bool) (s : ByteArray) (s_ : Nat) (r_ : (Int) ⊕ (Nat)) (h : runL (strings_indexFunc_L0_step truth s) s_ = some r_) : LRuns Tryd.prog (lEnv Tryd.prog cfg 33 0).nt 0 (.loop (loopAt Tryd.prog 33 0)) (strings_indexFunc_L0_st truth s s_) (strings_indexFunc_L0_ex truth s r_).1 (strings_indexFunc_L0_ex truth s r_).2 :=
  loop_run h (strings_indexFunc_L0_ok truth s) (by intro r_; rcases r_ with r1 | r1 <;> simp [strings_indexFunc_L0_ex])
/-! ### strings_indexFunc -/
noncomputable def strings_indexFunc (s : ByteArray) (truth : Bool) : Option (Int) :=
  (runL (strings_indexFunc_L0_step truth s) 0).bind fun z_ => match z_ with
  | .inl n =>
    some n
  | .inr k =>
    some (-1)
theorem strings_indexFunc_runs (s : ByteArray) (truth : Bool) (r_ : Int) (h : strings_indexFunc s truth = some r_) : Runs Tryd.prog 33 [(.one (.pv (.str s))), (.one (.fn 21 [])), (.one (.pv (.bool truth)))] [] [] (strings_indexFunc_out s truth r_) := by
  unfold strings_indexFunc at h
  obtain ⟨z_, h1, h⟩ := bind_of h
  rcases z_ with n | k
  · have h := some_of h
    subst h
    exact runs_of (C := cfg) (objs := []) (sc := [.lp (strings_indexFunc_L0_ex truth s (.inl n)).1 (strings_indexFunc_L0_ex truth s (.inl n)).2]) (.k0 (an_ (strings_indexFunc_L0_runs truth s _ _ h1) trivial) (by kernel_rfl))
  · have h := some_of h
    subst h
    exact runs_of (C := cfg) (objs := []) (sc := [.lp (strings_indexFunc_L0_ex truth s (.inr k)).1 (strings_indexFunc_L0_ex truth s (.inr k)).2]) (.k0 (an_ (strings_indexFunc_L0_runs truth s _ _ h1) trivial) (by kernel_rfl))
/-! ### strings_IndexFunc -/
noncomputable def strings_IndexFunc (s : ByteArray) : Option (Int) :=
  (strings_indexFunc s true).bind fun n =>
  some n
theorem strings_IndexFunc_runs (s : ByteArray) (r_ : Int) (h : strings_IndexFunc s = some r_) : Runs Tryd.prog 30 [(.one (.pv (.str s))), (.one (.fn 21 []))] [] [] (strings_IndexFunc_out s r_) := by
  unfold strings_IndexFunc at h
  obtain ⟨n, h1, h⟩ := bind_of h
  have h := some_of h
  subst h
  exact runs_of (C := cfg) (objs := []) (sc := [.res (strings_indexFunc_out s true n)]) (.k0 (an_ (strings_indexFunc_runs s true _ h1) trivial) (by kernel_rfl))
/-! ### strings_ContainsFunc -/
noncomputable def strings_ContainsFunc (s : ByteArray) : Option (Bool) :=
  (strings_IndexFunc s).bind fun n =>
  some (decide ((0 : Int) ≤ n))
theorem strings_ContainsFunc_runs (s : ByteArray) (r_ : Bool) (h : strings_ContainsFunc s = some r_) : Runs Tryd.prog 20 [(.one (.pv (.str s))), (.one (.fn 21 []))] [] [] (strings_ContainsFunc_out s r_) := by
  unfold strings_ContainsFunc at h
  obtain ⟨n, h1, h⟩ := bind_of h
  have h := some_of h
  subst h
  exact runs_of (C := cfg) (objs := []) (sc := [.res (strings_IndexFunc_out s n)]) (.k0 (an_ (strings_IndexFunc_runs s _ h1) trivial) (by kernel_rfl))
/-! ### text_Check -/
noncomputable def text_Check (s : ByteArray) (most : Int) : Option (Int) :=
  bif (decide ((most : Int) < (s.size : Int))) then
    some 9
  else
    (utf8_ValidString s).bind fun b =>
    bif b then
      (strings_ContainsFunc s).bind fun b2 =>
      bif b2 then
        some 7
      else
        some 0
    else
      some 7
theorem text_Check_runs (s : ByteArray) (most : Int) (r_ : Int) (h : text_Check s most = some r_) : Runs Tryd.prog 9 [(.one (.pv (.str s))), (.one (.pv (.int .i64 most)))] [] [] (text_Check_out s most r_) := by
  unfold text_Check at h
  rcases cond_of h with ⟨h1, h⟩ | ⟨h1, h⟩
  · have h := some_of h
    subst h
    exact runs_of (C := cfg) (objs := []) (sc := [.br true]) (.k0 (an_ h1 trivial) (by kernel_rfl))
  · obtain ⟨b, h2, h⟩ := bind_of h
    rcases cond_of h with ⟨h3, h⟩ | ⟨h3, h⟩
    · obtain ⟨b2, h4, h⟩ := bind_of h
      rcases cond_of h with ⟨h5, h⟩ | ⟨h5, h⟩
      · have h := some_of h
        subst h
        exact runs_of (C := cfg) (objs := []) (sc := [.br false, .res (utf8_ValidString_out s b), .br false, .res (strings_ContainsFunc_out s b2), .br true]) (.k0 (an_ h1 (an_ (utf8_ValidString_runs s _ h2) (an_ (not_of2 h3) (an_ (strings_ContainsFunc_runs s _ h4) (an_ h5 trivial))))) (by kernel_rfl))
      · have h := some_of h
        subst h
        exact runs_of (C := cfg) (objs := []) (sc := [.br false, .res (utf8_ValidString_out s b), .br false, .res (strings_ContainsFunc_out s b2), .br false]) (.k0 (an_ h1 (an_ (utf8_ValidString_runs s _ h2) (an_ (not_of2 h3) (an_ (strings_ContainsFunc_runs s _ h4) (an_ h5 trivial))))) (by kernel_rfl))
    · have h := some_of h
      subst h
      exact runs_of (C := cfg) (objs := []) (sc := [.br false, .res (utf8_ValidString_out s b), .br true, .br true]) (.k0 (an_ h1 (an_ (utf8_ValidString_runs s _ h2) (an_ (not_of h3) (an_ (rfl : true = true) trivial)))) (by kernel_rfl))
/-! ### kinfolklaw08_awake -/
noncomputable def kinfolklaw08_awake : Option (Bool) :=
  (text_Quote (⟨#[97, 59, 98]⟩ : ByteArray)).bind fun s =>
  bif (decide (s = (⟨#[97, 92, 51, 98, 98]⟩ : ByteArray))) then
    (text_Check (⟨#[97]⟩ : ByteArray) 1).bind fun n =>
    some (decide ((n : Int) = 0))
  else
    some false
theorem kinfolklaw08_awake_runs (r_ : Bool) (h : kinfolklaw08_awake = some r_) : Runs Tryd.prog 7 [] [] [] (kinfolklaw08_awake_out r_) := by
  unfold kinfolklaw08_awake at h
  obtain ⟨s, h1, h⟩ := bind_of h
  rcases cond_of h with ⟨h2, h⟩ | ⟨h2, h⟩
  · obtain ⟨n, h3, h⟩ := bind_of h
    have h := some_of h
    subst h
    exact runs_of (C := cfg) (objs := []) (sc := [.res (text_Quote_out (⟨#[97, 59, 98]⟩ : ByteArray) s), .br true, .res (text_Check_out (⟨#[97]⟩ : ByteArray) 1 n)]) (.k0 (an_ (text_Quote_runs (⟨#[97, 59, 98]⟩ : ByteArray) _ h1) (an_ h2 (an_ (text_Check_runs (⟨#[97]⟩ : ByteArray) 1 _ h3) trivial))) (by kernel_rfl))
  · have h := some_of h
    subst h
    exact runs_of (C := cfg) (objs := []) (sc := [.res (text_Quote_out (⟨#[97, 59, 98]⟩ : ByteArray) s), .br false]) (.k0 (an_ (text_Quote_runs (⟨#[97, 59, 98]⟩ : ByteArray) _ h1) (an_ h2 trivial)) (by kernel_rfl))
/-! ### kinfolklaw08_few_out -/
def kinfolklaw08_few_out (s : ByteArray) : ByteArray → Res
  | r1 => ([(.one (.pv (.str r1)))], [], [])
/-! ### kinfolklaw08_few -/
noncomputable def kinfolklaw08_few (s : ByteArray) : Option (ByteArray) :=
  bif decide ((0 : Int) ≤ 0) && decide ((0 : Int) ≤ (if (120 : Int) < (s.size : Int) then 120 else (s.size : Int))) && decide (((if (120 : Int) < (s.size : Int) then 120 else (s.size : Int)) : Int) ≤ (s.size : Int)) then
  some (s.extract 0 ((if (120 : Int) < (s.size : Int) then 120 else (s.size : Int))).toNat)
  else none
theorem kinfolklaw08_few_runs (s : ByteArray) (r_ : ByteArray) (h : kinfolklaw08_few s = some r_) : Runs Tryd.prog 8 [(.one (.pv (.str s)))] [] [] (kinfolklaw08_few_out s r_) := by
  unfold kinfolklaw08_few at h
  obtain ⟨h1, h⟩ := need_of h
  have h := some_of h
  subst h
  exact runs_of (C := cfg) (objs := []) (sc := []) (.k0 (an_ h1 trivial) (by kernel_rfl))
/-! ### kinfolkref08_Check_out -/
def kinfolkref08_Check_out (s : ByteArray) (most : Int) : Int → Res
  | r1 => ([(.one (.pv (.int .i64 r1)))], [], [])
/-! ### kinfolkref08_sign_2_out -/
def kinfolkref08_sign_2_out (s : ByteArray) (at_ : Int) : Int × Int × Bool → Res
  | (r1, r2, r3) => ([(.one (.pv (.int .i64 r1))), (.one (.pv (.int .i64 r2))), (.one (.pv (.bool r3)))], [], [])
/-! ### kinfolkref08_sign_C29 -/
def kinfolkref08_sign_C29_ex (s : ByteArray) (at_ : Int) (b : Int) (b2 : Bool) : (Int × Int × Int) ⊕ (Unit) → Ex × St
  | .inl (r1, r2, r3) => (.normal, ⟨[(0, (.av (.one (.pv (.str s))))), (1, (.av (.one (.pv (.int .i64 at_))))), (8, (.av (.one (.pv (.int .i64 r1))))), (9, (.av (.one (.pv (.int .i64 r2))))), (10, (.av (.one (.pv (.int .i64 r3)))))], [], []⟩)
  | .inr _ => (.ret, ⟨[(4, (.av (.one (.pv (.int .i64 0))))), (5, (.av (.one (.pv (.int .i64 1))))), (6, (.av (.one (.pv (.bool false)))))], [], []⟩)
noncomputable def kinfolkref08_sign_C29 (s : ByteArray) (at_ : Int) (b : Int) (b2 : Bool) : Option ((Int × Int × Int) ⊕ (Unit)) :=
  bif b2 then
    some (.inl (3, 2048, (isub .i64 b 224)))
  else
    bif (decide ((240 : Int) ≤ b)) then
      bif (decide ((b : Int) < 248)) then
        some (.inl (4, 65536, (isub .i64 b 240)))
      else
        some (.inr ())
    else
      some (.inr ())
theorem kinfolkref08_sign_C29_runs (s : ByteArray) (at_ : Int) (b : Int) (b2 : Bool) (r_ : (Int × Int × Int) ⊕ (Unit)) (h : kinfolkref08_sign_C29 s at_ b b2 = some r_) : LRuns Tryd.prog (lEnv Tryd.prog cfg 23 0).nt 0 (.cond (.tmp 29) (condAt Tryd.prog 23 29).1 (condAt Tryd.prog 23 29).2) ⟨[(0, (.av (.one (.pv (.str s))))), (1, (.av (.one (.pv (.int .i64 at_))))), (7, (.av (.one (.pv (.int .i64 b))))), (29, (.av (.one (.pv (.bool b2)))))], [], []⟩ (kinfolkref08_sign_C29_ex s at_ b b2 r_).1 (kinfolkref08_sign_C29_ex s at_ b b2 r_).2 := by
  unfold kinfolkref08_sign_C29 at h
  rcases cond_of h with ⟨h1, h⟩ | ⟨h1, h⟩
  · have h := some_of h
    subst h
    exact piece_ok (C := cfg) (sc := [.br true]) (.k0 (an_ h1 trivial) (by kernel_rfl))
  · rcases cond_of h with ⟨h2, h⟩ | ⟨h2, h⟩
    · rcases cond_of h with ⟨h3, h⟩ | ⟨h3, h⟩
      · have h := some_of h
        subst h
        exact piece_ok (C := cfg) (sc := [.br false, .br true, .br true]) (.k0 (an_ h1 (an_ h2 (an_ h3 trivial))) (by kernel_rfl))
      · have h := some_of h
        subst h
        exact piece_ok (C := cfg) (sc := [.br false, .br true, .br false]) (.k0 (an_ h1 (an_ h2 (an_ h3 trivial))) (by kernel_rfl))
    · have h := some_of h
      subst h
      exact piece_ok (C := cfg) (sc := [.br false, .br false, .br false]) (.k0 (an_ h1 (an_ h2 (an_ (rfl : false = false) trivial))) (by kernel_rfl))
/-! ### kinfolkref08_sign_C20 -/
def kinfolkref08_sign_C20_ex (s : ByteArray) (at_ : Int) (b : Int) (b2 : Bool) : (Int × Int × Int) ⊕ (Unit) → Ex × St
  | .inl (r1, r2, r3) => (.normal, ⟨[(0, (.av (.one (.pv (.str s))))), (1, (.av (.one (.pv (.int .i64 at_))))), (8, (.av (.one (.pv (.int .i64 r1))))), (9, (.av (.one (.pv (.int .i64 r2))))), (10, (.av (.one (.pv (.int .i64 r3)))))], [], []⟩)
  | .inr _ => (.ret, ⟨[(4, (.av (.one (.pv (.int .i64 0))))), (5, (.av (.one (.pv (.int .i64 1))))), (6, (.av (.one (.pv (.bool false)))))], [], []⟩)
noncomputable def kinfolkref08_sign_C20 (s : ByteArray) (at_ : Int) (b : Int) (b2 : Bool) : Option ((Int × Int × Int) ⊕ (Unit)) :=
  bif b2 then
    some (.inl (2, 128, (isub .i64 b 192)))
  else
    bif (decide ((224 : Int) ≤ b)) then
      (kinfolkref08_sign_C29 s at_ b (decide ((b : Int) < 240))).bind fun z_ => match z_ with
      | .inl (n, n2, n3) =>
        some (.inl (n, n2, n3))
      | .inr _ =>
        some (.inr ())
    else
      bif (decide ((240 : Int) ≤ b)) then
        bif (decide ((b : Int) < 248)) then
          some (.inl (4, 65536, (isub .i64 b 240)))
        else
          some (.inr ())
      else
        some (.inr ())
theorem kinfolkref08_sign_C20_runs (s : ByteArray) (at_ : Int) (b : Int) (b2 : Bool) (r_ : (Int × Int × Int) ⊕ (Unit)) (h : kinfolkref08_sign_C20 s at_ b b2 = some r_) : LRuns Tryd.prog (lEnv Tryd.prog cfg 23 0).nt 0 (.cond (.tmp 20) (condAt Tryd.prog 23 20).1 (condAt Tryd.prog 23 20).2) ⟨[(0, (.av (.one (.pv (.str s))))), (1, (.av (.one (.pv (.int .i64 at_))))), (7, (.av (.one (.pv (.int .i64 b))))), (20, (.av (.one (.pv (.bool b2)))))], [], []⟩ (kinfolkref08_sign_C20_ex s at_ b b2 r_).1 (kinfolkref08_sign_C20_ex s at_ b b2 r_).2 := by
  unfold kinfolkref08_sign_C20 at h
  rcases cond_of h with ⟨h1, h⟩ | ⟨h1, h⟩
  · have h := some_of h
    subst h
    exact piece_ok (C := cfg) (sc := [.br true]) (.k0 (an_ h1 trivial) (by kernel_rfl))
  · rcases cond_of h with ⟨h2, h⟩ | ⟨h2, h⟩
    · obtain ⟨z_, h3, h⟩ := bind_of h
      rcases z_ with ⟨n, n2, n3⟩ | _
      · have h := some_of h
        subst h
        exact piece_ok (C := cfg) (sc := [.br false, .br true, .lp (kinfolkref08_sign_C29_ex s at_ b (decide ((b : Int) < 240)) (.inl (n, n2, n3))).1 (kinfolkref08_sign_C29_ex s at_ b (decide ((b : Int) < 240)) (.inl (n, n2, n3))).2]) (.k0 (an_ h1 (an_ h2 (an_ (kinfolkref08_sign_C29_runs s at_ b (decide ((b : Int) < 240)) _ h3) trivial))) (by kernel_rfl))
      · have h := some_of h
        subst h
        exact piece_ok (C := cfg) (sc := [.br false, .br true, .lp (kinfolkref08_sign_C29_ex s at_ b (decide ((b : Int) < 240)) (.inr ())).1 (kinfolkref08_sign_C29_ex s at_ b (decide ((b : Int) < 240)) (.inr ())).2]) (.k0 (an_ h1 (an_ h2 (an_ (kinfolkref08_sign_C29_runs s at_ b (decide ((b : Int) < 240)) _ h3) trivial))) (by kernel_rfl))
    · rcases cond_of h with ⟨h3, h⟩ | ⟨h3, h⟩
      · rcases cond_of h with ⟨h4, h⟩ | ⟨h4, h⟩
        · have h := some_of h
          subst h
          exact piece_ok (C := cfg) (sc := [.br false, .br false, .br false, .br true, .br true]) (.k0 (an_ h1 (an_ h2 (an_ (rfl : false = false) (an_ h3 (an_ h4 trivial))))) (by kernel_rfl))
        · have h := some_of h
          subst h
          exact piece_ok (C := cfg) (sc := [.br false, .br false, .br false, .br true, .br false]) (.k0 (an_ h1 (an_ h2 (an_ (rfl : false = false) (an_ h3 (an_ h4 trivial))))) (by kernel_rfl))
      · have h := some_of h
        subst h
        exact piece_ok (C := cfg) (sc := [.br false, .br false, .br false, .br false, .br false]) (.k0 (an_ h1 (an_ h2 (an_ (rfl : false = false) (an_ h3 (an_ (rfl : false = false) trivial))))) (by kernel_rfl))
/-! ### kinfolkref08_sign_L0 -/
def kinfolkref08_sign_L0_st (s : ByteArray) (at_ : Int) (n : Int) (least : Int) : Int × Int → St
  | (x, i) => ⟨[(0, (.av (.one (.pv (.str s))))), (1, (.av (.one (.pv (.int .i64 at_))))), (8, (.av (.one (.pv (.int .i64 n))))), (9, (.av (.one (.pv (.int .i64 least))))), (10, (.av (.one (.pv (.int .i64 x))))), (11, (.av (.one (.pv (.int .i64 i)))))], [], []⟩
def kinfolkref08_sign_L0_ex (s : ByteArray) (at_ : Int) (n : Int) (least : Int) : (Unit) ⊕ (Int) → Ex × St
  | .inl _ => (.ret, ⟨[(4, (.av (.one (.pv (.int .i64 0))))), (5, (.av (.one (.pv (.int .i64 1))))), (6, (.av (.one (.pv (.bool false)))))], [], []⟩)
  | .inr r1 => ((.exit 1), ⟨[(8, (.av (.one (.pv (.int .i64 n))))), (9, (.av (.one (.pv (.int .i64 least))))), (10, (.av (.one (.pv (.int .i64 r1)))))], [], []⟩)
noncomputable def kinfolkref08_sign_L0_step (s : ByteArray) (at_ : Int) (n : Int) (least : Int) : Int × Int → Option ((Int × Int) ⊕ ((Unit) ⊕ (Int)))
  | (x, i) =>
  bif (decide ((i : Int) < n)) then
    bif (decide (((s.size : Int) : Int) ≤ (iadd .i64 at_ i))) then
      some (.inr (.inl ()))
    else
      bif decide ((0 : Int) ≤ (iadd .i64 at_ i)) && decide (((iadd .i64 at_ i) : Int) < (s.size : Int)) then
      bif (decide ((((s.data.getD ((iadd .i64 at_ i)).toNat 0).toNat : Int) : Int) < 128)) then
        some (.inr (.inl ()))
      else
        bif (decide ((191 : Int) < ((s.data.getD ((iadd .i64 at_ i)).toNat 0).toNat : Int))) then
          some (.inr (.inl ()))
        else
          some (.inl ((isub .i64 (iadd .i64 (imul .i64 64 x) (IntKind.i64.wrap ((s.data.getD ((iadd .i64 at_ i)).toNat 0).toNat : Int))) 128), (iadd .i64 i 1)))
      else none
  else
    some (.inr (.inr x))
theorem kinfolkref08_sign_L0_ok (s : ByteArray) (at_ : Int) (n : Int) (least : Int) (s_ : Int × Int) (z_ : (Int × Int) ⊕ ((Unit) ⊕ (Int))) (h : kinfolkref08_sign_L0_step s at_ n least s_ = some z_) : RoundOk Tryd.prog cfg 23 0 (loopAt Tryd.prog 23 0) (kinfolkref08_sign_L0_st s at_ n least) (kinfolkref08_sign_L0_ex s at_ n least) s_ z_ := by
  rcases s_ with ⟨x, i⟩
  rcases cond_of h with ⟨h1, h⟩ | ⟨h1, h⟩
  · rcases cond_of h with ⟨h2, h⟩ | ⟨h2, h⟩
    · have h := some_of h
      subst h
      exact ⟨[.br true, .br true, .br true, .br true], (kinfolkref08_sign_L0_ex s at_ n least (.inl ())).2, .k0 (an_ h1 (an_ h2 (an_ (rfl : true = true) (an_ (rfl : true = true) trivial)))) (by kernel_rfl), .same (by kernel_rfl)⟩
    · obtain ⟨h3, h⟩ := need_of h
      rcases cond_of h with ⟨h4, h⟩ | ⟨h4, h⟩
      · have h := some_of h
        subst h
        exact ⟨[.br true, .br false, .br true, .br true], (kinfolkref08_sign_L0_ex s at_ n least (.inl ())).2, .k0 (an_ h1 (an_ h2 (an_ h3 (an_ h4 (an_ (rfl : true = true) trivial))))) (by kernel_rfl), .same (by kernel_rfl)⟩
      · rcases cond_of h with ⟨h5, h⟩ | ⟨h5, h⟩
        · have h := some_of h
          subst h
          exact ⟨[.br true, .br false, .br false, .br true], (kinfolkref08_sign_L0_ex s at_ n least (.inl ())).2, .k0 (an_ h1 (an_ h2 (an_ h3 (an_ h4 (an_ h3 (an_ h5 trivial)))))) (by kernel_rfl), .same (by kernel_rfl)⟩
        · have h := some_of h
          subst h
          exact ⟨[.br true, .br false, .br false, .br false], kinfolkref08_sign_L0_st s at_ n least ((isub .i64 (iadd .i64 (imul .i64 64 x) (IntKind.i64.wrap ((s.data.getD ((iadd .i64 at_ i)).toNat 0).toNat : Int))) 128), (iadd .i64 i 1)), .k0 (an_ h1 (an_ h2 (an_ h3 (an_ h4 (an_ h3 (an_ h5 (an_ h3 trivial))))))) (by kernel_rfl), .same (by kernel_rfl)⟩
  · have h := some_of h
    subst h
    exact ⟨[.br false], ⟨[(49, (.av (.one (.pv (.bool false))))), (0, (.av (.one (.pv (.str s))))), (1, (.av (.one (.pv (.int .i64 at_))))), (8, (.av (.one (.pv (.int .i64 n))))), (9, (.av (.one (.pv (.int .i64 least))))), (10, (.av (.one (.pv (.int .i64 x))))), (11, (.av (.one (.pv (.int .i64 i))))), (49, (.av (.one (.pv (.bool (decide ((i : Int) < n)))))))], [], []⟩, .k0 (an_ h1 trivial) (by kernel_rfl), ⟨⟨⟨_, rfl, .eq rfl⟩, ⟨_, rfl, .eq rfl⟩, ⟨_, rfl, .eq rfl⟩, trivial⟩, trivial, trivial⟩⟩
theorem kinfolkref08_sign_L0_runs (s : ByteArray) (at_ : Int) (n : Int) (least : Int) (s_ : Int × Int) (r_ : (Unit) ⊕ (Int)) (h : runL (kinfolkref08_sign_L0_step s at_ n least) s_ = some r_) : LRuns Tryd.prog (lEnv Tryd.prog cfg 23 0).nt 0 (.loop (loopAt Tryd.prog 23 0)) (kinfolkref08_sign_L0_st s at_ n least s_) (kinfolkref08_sign_L0_ex s at_ n least r_).1 (kinfolkref08_sign_L0_ex s at_ n least r_).2 :=
  loop_run h (kinfolkref08_sign_L0_ok s at_ n least) (by intro r_; rcases r_ with _ | r1 <;> simp [kinfolkref08_sign_L0_ex])
/-! ### kinfolkref08_sign_L0_2 -/
def kinfolkref08_sign_L0_2_st (s : ByteArray) (at_ : Int) : Int × Int → St
  | (x, i) => ⟨[(0, (.av (.one (.pv (.str s))))), (1, (.av (.one (.pv (.int .i64 at_))))), (8, (.av (.one (.pv (.int .i64 4))))), (9, (.av (.one (.pv (.int .i64 65536))))), (10, (.av (.one (.pv (.int .i64 x))))), (11, (.av (.one (.pv (.int .i64 i)))))], [], []⟩
def kinfolkref08_sign_L0_2_ex (s : ByteArray) (at_ : Int) : (Unit) ⊕ (Int) → Ex × St
  | .inl _ => (.ret, ⟨[(4, (.av (.one (.pv (.int .i64 0))))), (5, (.av (.one (.pv (.int .i64 1))))), (6, (.av (.one (.pv (.bool false)))))], [], []⟩)
  | .inr r1 => ((.exit 1), ⟨[(8, (.av (.one (.pv (.int .i64 4))))), (9, (.av (.one (.pv (.int .i64 65536))))), (10, (.av (.one (.pv (.int .i64 r1)))))], [], []⟩)
noncomputable def kinfolkref08_sign_L0_2_step (s : ByteArray) (at_ : Int) : Int × Int → Option ((Int × Int) ⊕ ((Unit) ⊕ (Int)))
  | (x, i) =>
  bif (decide ((i : Int) < 4)) then
    bif (decide (((s.size : Int) : Int) ≤ (iadd .i64 at_ i))) then
      some (.inr (.inl ()))
    else
      bif decide ((0 : Int) ≤ (iadd .i64 at_ i)) && decide (((iadd .i64 at_ i) : Int) < (s.size : Int)) then
      bif (decide ((((s.data.getD ((iadd .i64 at_ i)).toNat 0).toNat : Int) : Int) < 128)) then
        some (.inr (.inl ()))
      else
        bif (decide ((191 : Int) < ((s.data.getD ((iadd .i64 at_ i)).toNat 0).toNat : Int))) then
          some (.inr (.inl ()))
        else
          some (.inl ((isub .i64 (iadd .i64 (imul .i64 64 x) (IntKind.i64.wrap ((s.data.getD ((iadd .i64 at_ i)).toNat 0).toNat : Int))) 128), (iadd .i64 i 1)))
      else none
  else
    some (.inr (.inr x))
theorem kinfolkref08_sign_L0_2_ok (s : ByteArray) (at_ : Int) (s_ : Int × Int) (z_ : (Int × Int) ⊕ ((Unit) ⊕ (Int))) (h : kinfolkref08_sign_L0_2_step s at_ s_ = some z_) : RoundOk Tryd.prog cfg 23 0 (loopAt Tryd.prog 23 0) (kinfolkref08_sign_L0_2_st s at_) (kinfolkref08_sign_L0_2_ex s at_) s_ z_ := by
  rcases s_ with ⟨x, i⟩
  rcases cond_of h with ⟨h1, h⟩ | ⟨h1, h⟩
  · rcases cond_of h with ⟨h2, h⟩ | ⟨h2, h⟩
    · have h := some_of h
      subst h
      exact ⟨[.br true, .br true, .br true, .br true], (kinfolkref08_sign_L0_2_ex s at_ (.inl ())).2, .k0 (an_ h1 (an_ h2 (an_ (rfl : true = true) (an_ (rfl : true = true) trivial)))) (by kernel_rfl), .same (by kernel_rfl)⟩
    · obtain ⟨h3, h⟩ := need_of h
      rcases cond_of h with ⟨h4, h⟩ | ⟨h4, h⟩
      · have h := some_of h
        subst h
        exact ⟨[.br true, .br false, .br true, .br true], (kinfolkref08_sign_L0_2_ex s at_ (.inl ())).2, .k0 (an_ h1 (an_ h2 (an_ h3 (an_ h4 (an_ (rfl : true = true) trivial))))) (by kernel_rfl), .same (by kernel_rfl)⟩
      · rcases cond_of h with ⟨h5, h⟩ | ⟨h5, h⟩
        · have h := some_of h
          subst h
          exact ⟨[.br true, .br false, .br false, .br true], (kinfolkref08_sign_L0_2_ex s at_ (.inl ())).2, .k0 (an_ h1 (an_ h2 (an_ h3 (an_ h4 (an_ h3 (an_ h5 trivial)))))) (by kernel_rfl), .same (by kernel_rfl)⟩
        · have h := some_of h
          subst h
          exact ⟨[.br true, .br false, .br false, .br false], kinfolkref08_sign_L0_2_st s at_ ((isub .i64 (iadd .i64 (imul .i64 64 x) (IntKind.i64.wrap ((s.data.getD ((iadd .i64 at_ i)).toNat 0).toNat : Int))) 128), (iadd .i64 i 1)), .k0 (an_ h1 (an_ h2 (an_ h3 (an_ h4 (an_ h3 (an_ h5 (an_ h3 trivial))))))) (by kernel_rfl), .same (by kernel_rfl)⟩
  · have h := some_of h
    subst h
    exact ⟨[.br false], ⟨[(49, (.av (.one (.pv (.bool false))))), (0, (.av (.one (.pv (.str s))))), (1, (.av (.one (.pv (.int .i64 at_))))), (8, (.av (.one (.pv (.int .i64 4))))), (9, (.av (.one (.pv (.int .i64 65536))))), (10, (.av (.one (.pv (.int .i64 x))))), (11, (.av (.one (.pv (.int .i64 i))))), (49, (.av (.one (.pv (.bool (decide ((i : Int) < 4)))))))], [], []⟩, .k0 (an_ h1 trivial) (by kernel_rfl), ⟨⟨⟨_, rfl, .eq rfl⟩, ⟨_, rfl, .eq rfl⟩, ⟨_, rfl, .eq rfl⟩, trivial⟩, trivial, trivial⟩⟩
theorem kinfolkref08_sign_L0_2_runs (s : ByteArray) (at_ : Int) (s_ : Int × Int) (r_ : (Unit) ⊕ (Int)) (h : runL (kinfolkref08_sign_L0_2_step s at_) s_ = some r_) : LRuns Tryd.prog (lEnv Tryd.prog cfg 23 0).nt 0 (.loop (loopAt Tryd.prog 23 0)) (kinfolkref08_sign_L0_2_st s at_ s_) (kinfolkref08_sign_L0_2_ex s at_ r_).1 (kinfolkref08_sign_L0_2_ex s at_ r_).2 :=
  loop_run h (kinfolkref08_sign_L0_2_ok s at_) (by intro r_; rcases r_ with _ | r1 <;> simp [kinfolkref08_sign_L0_2_ex])
/-! ### kinfolkref08_sign_2 -/
noncomputable def kinfolkref08_sign_2 (s : ByteArray) (at_ : Int) : Option (Int × Int × Bool) :=
  bif decide ((0 : Int) ≤ at_) && decide ((at_ : Int) < (s.size : Int)) then
  bif (decide (((IntKind.i64.wrap ((s.data.getD (at_).toNat 0).toNat : Int)) : Int) < 128)) then
    some ((IntKind.i64.wrap ((s.data.getD (at_).toNat 0).toNat : Int)), 1, true)
  else
    bif (decide ((192 : Int) ≤ (IntKind.i64.wrap ((s.data.getD (at_).toNat 0).toNat : Int)))) then
      (kinfolkref08_sign_C20 s at_ (IntKind.i64.wrap ((s.data.getD (at_).toNat 0).toNat : Int)) (decide (((IntKind.i64.wrap ((s.data.getD (at_).toNat 0).toNat : Int)) : Int) < 224))).bind fun z_ => match z_ with
      | .inl (n, n2, n3) =>
        (runL (kinfolkref08_sign_L0_step s at_ n n2) (n3, 1)).bind fun z_ => match z_ with
        | .inl _ =>
          some (0, 1, false)
        | .inr n4 =>
          bif (decide ((n4 : Int) < n2)) then
            some (0, 1, false)
          else
            bif (decide ((1114111 : Int) < n4)) then
              some (0, 1, false)
            else
              bif (decide ((55296 : Int) ≤ n4)) then
                bif (decide ((n4 : Int) < 57344)) then
                  some (0, 1, false)
                else
                  some (n4, n, true)
              else
                some (n4, n, true)
      | .inr _ =>
        some (0, 1, false)
    else
      bif (decide ((224 : Int) ≤ (IntKind.i64.wrap ((s.data.getD (at_).toNat 0).toNat : Int)))) then
        (kinfolkref08_sign_C29 s at_ (IntKind.i64.wrap ((s.data.getD (at_).toNat 0).toNat : Int)) (decide (((IntKind.i64.wrap ((s.data.getD (at_).toNat 0).toNat : Int)) : Int) < 240))).bind fun z_ => match z_ with
        | .inl (n, n2, n3) =>
          (runL (kinfolkref08_sign_L0_step s at_ n n2) (n3, 1)).bind fun z_ => match z_ with
          | .inl _ =>
            some (0, 1, false)
          | .inr n4 =>
            bif (decide ((n4 : Int) < n2)) then
              some (0, 1, false)
            else
              bif (decide ((1114111 : Int) < n4)) then
                some (0, 1, false)
              else
                bif (decide ((55296 : Int) ≤ n4)) then
                  bif (decide ((n4 : Int) < 57344)) then
                    some (0, 1, false)
                  else
                    some (n4, n, true)
                else
                  some (n4, n, true)
        | .inr _ =>
          some (0, 1, false)
      else
        bif (decide ((240 : Int) ≤ (IntKind.i64.wrap ((s.data.getD (at_).toNat 0).toNat : Int)))) then
          bif (decide (((IntKind.i64.wrap ((s.data.getD (at_).toNat 0).toNat : Int)) : Int) < 248)) then
            (runL (kinfolkref08_sign_L0_2_step s at_) ((isub .i64 (IntKind.i64.wrap ((s.data.getD (at_).toNat 0).toNat : Int)) 240), 1)).bind fun z_ => match z_ with
            | .inl _ =>
              some (0, 1, false)
            | .inr n =>
              bif (decide ((n : Int) < 65536)) then
                some (0, 1, false)
              else
                bif (decide ((1114111 : Int) < n)) then
                  some (0, 1, false)
                else
                  bif (decide ((55296 : Int) ≤ n)) then
                    bif (decide ((n : Int) < 57344)) then
                      some (0, 1, false)
                    else
                      some (n, 4, true)
                  else
                    some (n, 4, true)
          else
            some (0, 1, false)
        else
          some (0, 1, false)
  else none
theorem kinfolkref08_sign_2_runs (s : ByteArray) (at_ : Int) (r_ : Int × Int × Bool) (h : kinfolkref08_sign_2 s at_ = some r_) : Runs Tryd.prog 23 [(.one (.pv (.str s))), (.one (.pv (.int .i64 at_)))] [] [] (kinfolkref08_sign_2_out s at_ r_) := by
  unfold kinfolkref08_sign_2 at h
  obtain ⟨h1, h⟩ := need_of h
  rcases cond_of h with ⟨h2, h⟩ | ⟨h2, h⟩
  · have h := some_of h
    subst h
    exact runs_of (C := cfg) (objs := []) (sc := [.br true]) (.k0 (an_ h1 (an_ h2 trivial)) (by kernel_rfl))
  · rcases cond_of h with ⟨h3, h⟩ | ⟨h3, h⟩
    · obtain ⟨z_, h4, h⟩ := bind_of h
      rcases z_ with ⟨n, n2, n3⟩ | _
      · obtain ⟨z_, h5, h⟩ := bind_of h
        rcases z_ with _ | n4
        · have h := some_of h
          subst h
          exact runs_of (C := cfg) (objs := []) (sc := [.br false, .br true, .lp (kinfolkref08_sign_C20_ex s at_ (IntKind.i64.wrap ((s.data.getD (at_).toNat 0).toNat : Int)) (decide (((IntKind.i64.wrap ((s.data.getD (at_).toNat 0).toNat : Int)) : Int) < 224)) (.inl (n, n2, n3))).1 (kinfolkref08_sign_C20_ex s at_ (IntKind.i64.wrap ((s.data.getD (at_).toNat 0).toNat : Int)) (decide (((IntKind.i64.wrap ((s.data.getD (at_).toNat 0).toNat : Int)) : Int) < 224)) (.inl (n, n2, n3))).2, .lp (kinfolkref08_sign_L0_ex s at_ n n2 (.inl ())).1 (kinfolkref08_sign_L0_ex s at_ n n2 (.inl ())).2]) (.k0 (an_ h1 (an_ h2 (an_ h3 (an_ (kinfolkref08_sign_C20_runs s at_ (IntKind.i64.wrap ((s.data.getD (at_).toNat 0).toNat : Int)) (decide (((IntKind.i64.wrap ((s.data.getD (at_).toNat 0).toNat : Int)) : Int) < 224)) _ h4) (an_ (kinfolkref08_sign_L0_runs s at_ n n2 _ _ h5) trivial))))) (by kernel_rfl))
        · rcases cond_of h with ⟨h6, h⟩ | ⟨h6, h⟩
          · have h := some_of h
            subst h
            exact runs_of (C := cfg) (objs := []) (sc := [.br false, .br true, .lp (kinfolkref08_sign_C20_ex s at_ (IntKind.i64.wrap ((s.data.getD (at_).toNat 0).toNat : Int)) (decide (((IntKind.i64.wrap ((s.data.getD (at_).toNat 0).toNat : Int)) : Int) < 224)) (.inl (n, n2, n3))).1 (kinfolkref08_sign_C20_ex s at_ (IntKind.i64.wrap ((s.data.getD (at_).toNat 0).toNat : Int)) (decide (((IntKind.i64.wrap ((s.data.getD (at_).toNat 0).toNat : Int)) : Int) < 224)) (.inl (n, n2, n3))).2, .lp (kinfolkref08_sign_L0_ex s at_ n n2 (.inr n4)).1 (kinfolkref08_sign_L0_ex s at_ n n2 (.inr n4)).2, .br true, .br true, .br true]) (.k0 (an_ h1 (an_ h2 (an_ h3 (an_ (kinfolkref08_sign_C20_runs s at_ (IntKind.i64.wrap ((s.data.getD (at_).toNat 0).toNat : Int)) (decide (((IntKind.i64.wrap ((s.data.getD (at_).toNat 0).toNat : Int)) : Int) < 224)) _ h4) (an_ (kinfolkref08_sign_L0_runs s at_ n n2 _ _ h5) (an_ h6 (an_ (rfl : true = true) (an_ (rfl : true = true) trivial)))))))) (by kernel_rfl))
          · rcases cond_of h with ⟨h7, h⟩ | ⟨h7, h⟩
            · have h := some_of h
              subst h
              exact runs_of (C := cfg) (objs := []) (sc := [.br false, .br true, .lp (kinfolkref08_sign_C20_ex s at_ (IntKind.i64.wrap ((s.data.getD (at_).toNat 0).toNat : Int)) (decide (((IntKind.i64.wrap ((s.data.getD (at_).toNat 0).toNat : Int)) : Int) < 224)) (.inl (n, n2, n3))).1 (kinfolkref08_sign_C20_ex s at_ (IntKind.i64.wrap ((s.data.getD (at_).toNat 0).toNat : Int)) (decide (((IntKind.i64.wrap ((s.data.getD (at_).toNat 0).toNat : Int)) : Int) < 224)) (.inl (n, n2, n3))).2, .lp (kinfolkref08_sign_L0_ex s at_ n n2 (.inr n4)).1 (kinfolkref08_sign_L0_ex s at_ n n2 (.inr n4)).2, .br false, .br true, .br true]) (.k0 (an_ h1 (an_ h2 (an_ h3 (an_ (kinfolkref08_sign_C20_runs s at_ (IntKind.i64.wrap ((s.data.getD (at_).toNat 0).toNat : Int)) (decide (((IntKind.i64.wrap ((s.data.getD (at_).toNat 0).toNat : Int)) : Int) < 224)) _ h4) (an_ (kinfolkref08_sign_L0_runs s at_ n n2 _ _ h5) (an_ h6 (an_ h7 (an_ (rfl : true = true) trivial)))))))) (by kernel_rfl))
            · rcases cond_of h with ⟨h8, h⟩ | ⟨h8, h⟩
              · rcases cond_of h with ⟨h9, h⟩ | ⟨h9, h⟩
                · have h := some_of h
                  subst h
                  exact runs_of (C := cfg) (objs := []) (sc := [.br false, .br true, .lp (kinfolkref08_sign_C20_ex s at_ (IntKind.i64.wrap ((s.data.getD (at_).toNat 0).toNat : Int)) (decide (((IntKind.i64.wrap ((s.data.getD (at_).toNat 0).toNat : Int)) : Int) < 224)) (.inl (n, n2, n3))).1 (kinfolkref08_sign_C20_ex s at_ (IntKind.i64.wrap ((s.data.getD (at_).toNat 0).toNat : Int)) (decide (((IntKind.i64.wrap ((s.data.getD (at_).toNat 0).toNat : Int)) : Int) < 224)) (.inl (n, n2, n3))).2, .lp (kinfolkref08_sign_L0_ex s at_ n n2 (.inr n4)).1 (kinfolkref08_sign_L0_ex s at_ n n2 (.inr n4)).2, .br false, .br false, .br true, .br true]) (.k0 (an_ h1 (an_ h2 (an_ h3 (an_ (kinfolkref08_sign_C20_runs s at_ (IntKind.i64.wrap ((s.data.getD (at_).toNat 0).toNat : Int)) (decide (((IntKind.i64.wrap ((s.data.getD (at_).toNat 0).toNat : Int)) : Int) < 224)) _ h4) (an_ (kinfolkref08_sign_L0_runs s at_ n n2 _ _ h5) (an_ h6 (an_ h7 (an_ h8 (an_ h9 trivial))))))))) (by kernel_rfl))
                · have h := some_of h
                  subst h
                  exact runs_of (C := cfg) (objs := []) (sc := [.br false, .br true, .lp (kinfolkref08_sign_C20_ex s at_ (IntKind.i64.wrap ((s.data.getD (at_).toNat 0).toNat : Int)) (decide (((IntKind.i64.wrap ((s.data.getD (at_).toNat 0).toNat : Int)) : Int) < 224)) (.inl (n, n2, n3))).1 (kinfolkref08_sign_C20_ex s at_ (IntKind.i64.wrap ((s.data.getD (at_).toNat 0).toNat : Int)) (decide (((IntKind.i64.wrap ((s.data.getD (at_).toNat 0).toNat : Int)) : Int) < 224)) (.inl (n, n2, n3))).2, .lp (kinfolkref08_sign_L0_ex s at_ n n2 (.inr n4)).1 (kinfolkref08_sign_L0_ex s at_ n n2 (.inr n4)).2, .br false, .br false, .br true, .br false]) (.k0 (an_ h1 (an_ h2 (an_ h3 (an_ (kinfolkref08_sign_C20_runs s at_ (IntKind.i64.wrap ((s.data.getD (at_).toNat 0).toNat : Int)) (decide (((IntKind.i64.wrap ((s.data.getD (at_).toNat 0).toNat : Int)) : Int) < 224)) _ h4) (an_ (kinfolkref08_sign_L0_runs s at_ n n2 _ _ h5) (an_ h6 (an_ h7 (an_ h8 (an_ h9 trivial))))))))) (by kernel_rfl))
              · have h := some_of h
                subst h
                exact runs_of (C := cfg) (objs := []) (sc := [.br false, .br true, .lp (kinfolkref08_sign_C20_ex s at_ (IntKind.i64.wrap ((s.data.getD (at_).toNat 0).toNat : Int)) (decide (((IntKind.i64.wrap ((s.data.getD (at_).toNat 0).toNat : Int)) : Int) < 224)) (.inl (n, n2, n3))).1 (kinfolkref08_sign_C20_ex s at_ (IntKind.i64.wrap ((s.data.getD (at_).toNat 0).toNat : Int)) (decide (((IntKind.i64.wrap ((s.data.getD (at_).toNat 0).toNat : Int)) : Int) < 224)) (.inl (n, n2, n3))).2, .lp (kinfolkref08_sign_L0_ex s at_ n n2 (.inr n4)).1 (kinfolkref08_sign_L0_ex s at_ n n2 (.inr n4)).2, .br false, .br false, .br false, .br false]) (.k0 (an_ h1 (an_ h2 (an_ h3 (an_ (kinfolkref08_sign_C20_runs s at_ (IntKind.i64.wrap ((s.data.getD (at_).toNat 0).toNat : Int)) (decide (((IntKind.i64.wrap ((s.data.getD (at_).toNat 0).toNat : Int)) : Int) < 224)) _ h4) (an_ (kinfolkref08_sign_L0_runs s at_ n n2 _ _ h5) (an_ h6 (an_ h7 (an_ h8 (an_ (rfl : false = false) trivial))))))))) (by kernel_rfl))
      · have h := some_of h
        subst h
        exact runs_of (C := cfg) (objs := []) (sc := [.br false, .br true, .lp (kinfolkref08_sign_C20_ex s at_ (IntKind.i64.wrap ((s.data.getD (at_).toNat 0).toNat : Int)) (decide (((IntKind.i64.wrap ((s.data.getD (at_).toNat 0).toNat : Int)) : Int) < 224)) (.inr ())).1 (kinfolkref08_sign_C20_ex s at_ (IntKind.i64.wrap ((s.data.getD (at_).toNat 0).toNat : Int)) (decide (((IntKind.i64.wrap ((s.data.getD (at_).toNat 0).toNat : Int)) : Int) < 224)) (.inr ())).2]) (.k0 (an_ h1 (an_ h2 (an_ h3 (an_ (kinfolkref08_sign_C20_runs s at_ (IntKind.i64.wrap ((s.data.getD (at_).toNat 0).toNat : Int)) (decide (((IntKind.i64.wrap ((s.data.getD (at_).toNat 0).toNat : Int)) : Int) < 224)) _ h4) trivial)))) (by kernel_rfl))
    · rcases cond_of h with ⟨h4, h⟩ | ⟨h4, h⟩
      · obtain ⟨z_, h5, h⟩ := bind_of h
        rcases z_ with ⟨n, n2, n3⟩ | _
        · obtain ⟨z_, h6, h⟩ := bind_of h
          rcases z_ with _ | n4
          · have h := some_of h
            subst h
            exact runs_of (C := cfg) (objs := []) (sc := [.br false, .br false, .br false, .br true, .lp (kinfolkref08_sign_C29_ex s at_ (IntKind.i64.wrap ((s.data.getD (at_).toNat 0).toNat : Int)) (decide (((IntKind.i64.wrap ((s.data.getD (at_).toNat 0).toNat : Int)) : Int) < 240)) (.inl (n, n2, n3))).1 (kinfolkref08_sign_C29_ex s at_ (IntKind.i64.wrap ((s.data.getD (at_).toNat 0).toNat : Int)) (decide (((IntKind.i64.wrap ((s.data.getD (at_).toNat 0).toNat : Int)) : Int) < 240)) (.inl (n, n2, n3))).2, .lp (kinfolkref08_sign_L0_ex s at_ n n2 (.inl ())).1 (kinfolkref08_sign_L0_ex s at_ n n2 (.inl ())).2]) (.k0 (an_ h1 (an_ h2 (an_ h3 (an_ (rfl : false = false) (an_ h4 (an_ (kinfolkref08_sign_C29_runs s at_ (IntKind.i64.wrap ((s.data.getD (at_).toNat 0).toNat : Int)) (decide (((IntKind.i64.wrap ((s.data.getD (at_).toNat 0).toNat : Int)) : Int) < 240)) _ h5) (an_ (kinfolkref08_sign_L0_runs s at_ n n2 _ _ h6) trivial))))))) (by kernel_rfl))
          · rcases cond_of h with ⟨h7, h⟩ | ⟨h7, h⟩
            · have h := some_of h
              subst h
              exact runs_of (C := cfg) (objs := []) (sc := [.br false, .br false, .br false, .br true, .lp (kinfolkref08_sign_C29_ex s at_ (IntKind.i64.wrap ((s.data.getD (at_).toNat 0).toNat : Int)) (decide (((IntKind.i64.wrap ((s.data.getD (at_).toNat 0).toNat : Int)) : Int) < 240)) (.inl (n, n2, n3))).1 (kinfolkref08_sign_C29_ex s at_ (IntKind.i64.wrap ((s.data.getD (at_).toNat 0).toNat : Int)) (decide (((IntKind.i64.wrap ((s.data.getD (at_).toNat 0).toNat : Int)) : Int) < 240)) (.inl (n, n2, n3))).2, .lp (kinfolkref08_sign_L0_ex s at_ n n2 (.inr n4)).1 (kinfolkref08_sign_L0_ex s at_ n n2 (.inr n4)).2, .br true, .br true, .br true]) (.k0 (an_ h1 (an_ h2 (an_ h3 (an_ (rfl : false = false) (an_ h4 (an_ (kinfolkref08_sign_C29_runs s at_ (IntKind.i64.wrap ((s.data.getD (at_).toNat 0).toNat : Int)) (decide (((IntKind.i64.wrap ((s.data.getD (at_).toNat 0).toNat : Int)) : Int) < 240)) _ h5) (an_ (kinfolkref08_sign_L0_runs s at_ n n2 _ _ h6) (an_ h7 (an_ (rfl : true = true) (an_ (rfl : true = true) trivial)))))))))) (by kernel_rfl))
            · rcases cond_of h with ⟨h8, h⟩ | ⟨h8, h⟩
              · have h := some_of h
                subst h
                exact runs_of (C := cfg) (objs := []) (sc := [.br false, .br false, .br false, .br true, .lp (kinfolkref08_sign_C29_ex s at_ (IntKind.i64.wrap ((s.data.getD (at_).toNat 0).toNat : Int)) (decide (((IntKind.i64.wrap ((s.data.getD (at_).toNat 0).toNat : Int)) : Int) < 240)) (.inl (n, n2, n3))).1 (kinfolkref08_sign_C29_ex s at_ (IntKind.i64.wrap ((s.data.getD (at_).toNat 0).toNat : Int)) (decide (((IntKind.i64.wrap ((s.data.getD (at_).toNat 0).toNat : Int)) : Int) < 240)) (.inl (n, n2, n3))).2, .lp (kinfolkref08_sign_L0_ex s at_ n n2 (.inr n4)).1 (kinfolkref08_sign_L0_ex s at_ n n2 (.inr n4)).2, .br false, .br true, .br true]) (.k0 (an_ h1 (an_ h2 (an_ h3 (an_ (rfl : false = false) (an_ h4 (an_ (kinfolkref08_sign_C29_runs s at_ (IntKind.i64.wrap ((s.data.getD (at_).toNat 0).toNat : Int)) (decide (((IntKind.i64.wrap ((s.data.getD (at_).toNat 0).toNat : Int)) : Int) < 240)) _ h5) (an_ (kinfolkref08_sign_L0_runs s at_ n n2 _ _ h6) (an_ h7 (an_ h8 (an_ (rfl : true = true) trivial)))))))))) (by kernel_rfl))
              · rcases cond_of h with ⟨h9, h⟩ | ⟨h9, h⟩
                · rcases cond_of h with ⟨h10, h⟩ | ⟨h10, h⟩
                  · have h := some_of h
                    subst h
                    exact runs_of (C := cfg) (objs := []) (sc := [.br false, .br false, .br false, .br true, .lp (kinfolkref08_sign_C29_ex s at_ (IntKind.i64.wrap ((s.data.getD (at_).toNat 0).toNat : Int)) (decide (((IntKind.i64.wrap ((s.data.getD (at_).toNat 0).toNat : Int)) : Int) < 240)) (.inl (n, n2, n3))).1 (kinfolkref08_sign_C29_ex s at_ (IntKind.i64.wrap ((s.data.getD (at_).toNat 0).toNat : Int)) (decide (((IntKind.i64.wrap ((s.data.getD (at_).toNat 0).toNat : Int)) : Int) < 240)) (.inl (n, n2, n3))).2, .lp (kinfolkref08_sign_L0_ex s at_ n n2 (.inr n4)).1 (kinfolkref08_sign_L0_ex s at_ n n2 (.inr n4)).2, .br false, .br false, .br true, .br true]) (.k0 (an_ h1 (an_ h2 (an_ h3 (an_ (rfl : false = false) (an_ h4 (an_ (kinfolkref08_sign_C29_runs s at_ (IntKind.i64.wrap ((s.data.getD (at_).toNat 0).toNat : Int)) (decide (((IntKind.i64.wrap ((s.data.getD (at_).toNat 0).toNat : Int)) : Int) < 240)) _ h5) (an_ (kinfolkref08_sign_L0_runs s at_ n n2 _ _ h6) (an_ h7 (an_ h8 (an_ h9 (an_ h10 trivial))))))))))) (by kernel_rfl))
                  · have h := some_of h
                    subst h
                    exact runs_of (C := cfg) (objs := []) (sc := [.br false, .br false, .br false, .br true, .lp (kinfolkref08_sign_C29_ex s at_ (IntKind.i64.wrap ((s.data.getD (at_).toNat 0).toNat : Int)) (decide (((IntKind.i64.wrap ((s.data.getD (at_).toNat 0).toNat : Int)) : Int) < 240)) (.inl (n, n2, n3))).1 (kinfolkref08_sign_C29_ex s at_ (IntKind.i64.wrap ((s.data.getD (at_).toNat 0).toNat : Int)) (decide (((IntKind.i64.wrap ((s.data.getD (at_).toNat 0).toNat : Int)) : Int) < 240)) (.inl (n, n2, n3))).2, .lp (kinfolkref08_sign_L0_ex s at_ n n2 (.inr n4)).1 (kinfolkref08_sign_L0_ex s at_ n n2 (.inr n4)).2, .br false, .br false, .br true, .br false]) (.k0 (an_ h1 (an_ h2 (an_ h3 (an_ (rfl : false = false) (an_ h4 (an_ (kinfolkref08_sign_C29_runs s at_ (IntKind.i64.wrap ((s.data.getD (at_).toNat 0).toNat : Int)) (decide (((IntKind.i64.wrap ((s.data.getD (at_).toNat 0).toNat : Int)) : Int) < 240)) _ h5) (an_ (kinfolkref08_sign_L0_runs s at_ n n2 _ _ h6) (an_ h7 (an_ h8 (an_ h9 (an_ h10 trivial))))))))))) (by kernel_rfl))
                · have h := some_of h
                  subst h
                  exact runs_of (C := cfg) (objs := []) (sc := [.br false, .br false, .br false, .br true, .lp (kinfolkref08_sign_C29_ex s at_ (IntKind.i64.wrap ((s.data.getD (at_).toNat 0).toNat : Int)) (decide (((IntKind.i64.wrap ((s.data.getD (at_).toNat 0).toNat : Int)) : Int) < 240)) (.inl (n, n2, n3))).1 (kinfolkref08_sign_C29_ex s at_ (IntKind.i64.wrap ((s.data.getD (at_).toNat 0).toNat : Int)) (decide (((IntKind.i64.wrap ((s.data.getD (at_).toNat 0).toNat : Int)) : Int) < 240)) (.inl (n, n2, n3))).2, .lp (kinfolkref08_sign_L0_ex s at_ n n2 (.inr n4)).1 (kinfolkref08_sign_L0_ex s at_ n n2 (.inr n4)).2, .br false, .br false, .br false, .br false]) (.k0 (an_ h1 (an_ h2 (an_ h3 (an_ (rfl : false = false) (an_ h4 (an_ (kinfolkref08_sign_C29_runs s at_ (IntKind.i64.wrap ((s.data.getD (at_).toNat 0).toNat : Int)) (decide (((IntKind.i64.wrap ((s.data.getD (at_).toNat 0).toNat : Int)) : Int) < 240)) _ h5) (an_ (kinfolkref08_sign_L0_runs s at_ n n2 _ _ h6) (an_ h7 (an_ h8 (an_ h9 (an_ (rfl : false = false) trivial))))))))))) (by kernel_rfl))
        · have h := some_of h
          subst h
          exact runs_of (C := cfg) (objs := []) (sc := [.br false, .br false, .br false, .br true, .lp (kinfolkref08_sign_C29_ex s at_ (IntKind.i64.wrap ((s.data.getD (at_).toNat 0).toNat : Int)) (decide (((IntKind.i64.wrap ((s.data.getD (at_).toNat 0).toNat : Int)) : Int) < 240)) (.inr ())).1 (kinfolkref08_sign_C29_ex s at_ (IntKind.i64.wrap ((s.data.getD (at_).toNat 0).toNat : Int)) (decide (((IntKind.i64.wrap ((s.data.getD (at_).toNat 0).toNat : Int)) : Int) < 240)) (.inr ())).2]) (.k0 (an_ h1 (an_ h2 (an_ h3 (an_ (rfl : false = false) (an_ h4 (an_ (kinfolkref08_sign_C29_runs s at_ (IntKind.i64.wrap ((s.data.getD (at_).toNat 0).toNat : Int)) (decide (((IntKind.i64.wrap ((s.data.getD (at_).toNat 0).toNat : Int)) : Int) < 240)) _ h5) trivial)))))) (by kernel_rfl))
      · rcases cond_of h with ⟨h5, h⟩ | ⟨h5, h⟩
        · rcases cond_of h with ⟨h6, h⟩ | ⟨h6, h⟩
          · obtain ⟨z_, h7, h⟩ := bind_of h
            rcases z_ with _ | n
            · have h := some_of h
              subst h
              exact runs_of (C := cfg) (objs := []) (sc := [.br false, .br false, .br false, .br false, .br false, .br true, .br true, .lp (kinfolkref08_sign_L0_2_ex s at_ (.inl ())).1 (kinfolkref08_sign_L0_2_ex s at_ (.inl ())).2]) (.k0 (an_ h1 (an_ h2 (an_ h3 (an_ (rfl : false = false) (an_ h4 (an_ (rfl : false = false) (an_ h5 (an_ h6 (an_ (kinfolkref08_sign_L0_2_runs s at_ _ _ h7) trivial))))))))) (by kernel_rfl))
            · rcases cond_of h with ⟨h8, h⟩ | ⟨h8, h⟩
              · have h := some_of h
                subst h
                exact runs_of (C := cfg) (objs := []) (sc := [.br false, .br false, .br false, .br false, .br false, .br true, .br true, .lp (kinfolkref08_sign_L0_2_ex s at_ (.inr n)).1 (kinfolkref08_sign_L0_2_ex s at_ (.inr n)).2, .br true, .br true, .br true]) (.k0 (an_ h1 (an_ h2 (an_ h3 (an_ (rfl : false = false) (an_ h4 (an_ (rfl : false = false) (an_ h5 (an_ h6 (an_ (kinfolkref08_sign_L0_2_runs s at_ _ _ h7) (an_ h8 (an_ (rfl : true = true) (an_ (rfl : true = true) trivial)))))))))))) (by kernel_rfl))
              · rcases cond_of h with ⟨h9, h⟩ | ⟨h9, h⟩
                · have h := some_of h
                  subst h
                  exact runs_of (C := cfg) (objs := []) (sc := [.br false, .br false, .br false, .br false, .br false, .br true, .br true, .lp (kinfolkref08_sign_L0_2_ex s at_ (.inr n)).1 (kinfolkref08_sign_L0_2_ex s at_ (.inr n)).2, .br false, .br true, .br true]) (.k0 (an_ h1 (an_ h2 (an_ h3 (an_ (rfl : false = false) (an_ h4 (an_ (rfl : false = false) (an_ h5 (an_ h6 (an_ (kinfolkref08_sign_L0_2_runs s at_ _ _ h7) (an_ h8 (an_ h9 (an_ (rfl : true = true) trivial)))))))))))) (by kernel_rfl))
                · rcases cond_of h with ⟨h10, h⟩ | ⟨h10, h⟩
                  · rcases cond_of h with ⟨h11, h⟩ | ⟨h11, h⟩
                    · have h := some_of h
                      subst h
                      exact runs_of (C := cfg) (objs := []) (sc := [.br false, .br false, .br false, .br false, .br false, .br true, .br true, .lp (kinfolkref08_sign_L0_2_ex s at_ (.inr n)).1 (kinfolkref08_sign_L0_2_ex s at_ (.inr n)).2, .br false, .br false, .br true, .br true]) (.k0 (an_ h1 (an_ h2 (an_ h3 (an_ (rfl : false = false) (an_ h4 (an_ (rfl : false = false) (an_ h5 (an_ h6 (an_ (kinfolkref08_sign_L0_2_runs s at_ _ _ h7) (an_ h8 (an_ h9 (an_ h10 (an_ h11 trivial))))))))))))) (by kernel_rfl))
                    · have h := some_of h
                      subst h
                      exact runs_of (C := cfg) (objs := []) (sc := [.br false, .br false, .br false, .br false, .br false, .br true, .br true, .lp (kinfolkref08_sign_L0_2_ex s at_ (.inr n)).1 (kinfolkref08_sign_L0_2_ex s at_ (.inr n)).2, .br false, .br false, .br true, .br false]) (.k0 (an_ h1 (an_ h2 (an_ h3 (an_ (rfl : false = false) (an_ h4 (an_ (rfl : false = false) (an_ h5 (an_ h6 (an_ (kinfolkref08_sign_L0_2_runs s at_ _ _ h7) (an_ h8 (an_ h9 (an_ h10 (an_ h11 trivial))))))))))))) (by kernel_rfl))
                  · have h := some_of h
                    subst h
                    exact runs_of (C := cfg) (objs := []) (sc := [.br false, .br false, .br false, .br false, .br false, .br true, .br true, .lp (kinfolkref08_sign_L0_2_ex s at_ (.inr n)).1 (kinfolkref08_sign_L0_2_ex s at_ (.inr n)).2, .br false, .br false, .br false, .br false]) (.k0 (an_ h1 (an_ h2 (an_ h3 (an_ (rfl : false = false) (an_ h4 (an_ (rfl : false = false) (an_ h5 (an_ h6 (an_ (kinfolkref08_sign_L0_2_runs s at_ _ _ h7) (an_ h8 (an_ h9 (an_ h10 (an_ (rfl : false = false) trivial))))))))))))) (by kernel_rfl))
          · have h := some_of h
            subst h
            exact runs_of (C := cfg) (objs := []) (sc := [.br false, .br false, .br false, .br false, .br false, .br true, .br false]) (.k0 (an_ h1 (an_ h2 (an_ h3 (an_ (rfl : false = false) (an_ h4 (an_ (rfl : false = false) (an_ h5 (an_ h6 trivial)))))))) (by kernel_rfl))
        · have h := some_of h
          subst h
          exact runs_of (C := cfg) (objs := []) (sc := [.br false, .br false, .br false, .br false, .br false, .br false, .br false]) (.k0 (an_ h1 (an_ h2 (an_ h3 (an_ (rfl : false = false) (an_ h4 (an_ (rfl : false = false) (an_ h5 (an_ (rfl : false = false) trivial)))))))) (by kernel_rfl))
/-! ### kinfolkref08_Check_L0 -/
def kinfolkref08_Check_L0_st (s : ByteArray) : Int → St
  | at_ => ⟨[(0, (.av (.one (.pv (.str s))))), (5, (.av (.one (.pv (.int .i64 at_)))))], [], []⟩
def kinfolkref08_Check_L0_ex (s : ByteArray) : (Unit) ⊕ (Unit) → Ex × St
  | .inl _ => (.ret, ⟨[(4, (.av (.one (.pv (.int .i64 7)))))], [], []⟩)
  | .inr _ => ((.exit 0), ⟨[], [], []⟩)
noncomputable def kinfolkref08_Check_L0_step (s : ByteArray) : Int → Option ((Int) ⊕ ((Unit) ⊕ (Unit)))
  | at_ =>
  bif (decide ((at_ : Int) < (s.size : Int))) then
    (kinfolkref08_sign_2 s at_).bind fun (n, n2, b) =>
    bif b then
      bif (decide ((n : Int) < 32)) then
        some (.inr (.inl ()))
      else
        bif (decide ((n : Int) = 127)) then
          some (.inr (.inl ()))
        else
          some (.inl (iadd .i64 at_ n2))
    else
      some (.inr (.inl ()))
  else
    some (.inr (.inr ()))
theorem kinfolkref08_Check_L0_ok (s : ByteArray) (at_ : Int) (z_ : (Int) ⊕ ((Unit) ⊕ (Unit))) (h : kinfolkref08_Check_L0_step s at_ = some z_) : RoundOk Tryd.prog cfg 10 0 (loopAt Tryd.prog 10 0) (kinfolkref08_Check_L0_st s) (kinfolkref08_Check_L0_ex s) at_ z_ := by
  rcases cond_of h with ⟨h1, h⟩ | ⟨h1, h⟩
  · obtain ⟨⟨n, n2, b⟩, h2, h⟩ := bind_of h
    rcases cond_of h with ⟨h3, h⟩ | ⟨h3, h⟩
    · rcases cond_of h with ⟨h4, h⟩ | ⟨h4, h⟩
      · have h := some_of h
        subst h
        exact ⟨[.br true, .res (kinfolkref08_sign_2_out s at_ (n, n2, b)), .br false, .br true, .br true], (kinfolkref08_Check_L0_ex s (.inl ())).2, .k0 (an_ h1 (an_ (kinfolkref08_sign_2_runs s at_ _ h2) (an_ (not_of2 h3) (an_ h4 (an_ (rfl : true = true) trivial))))) (by kernel_rfl), .same (by kernel_rfl)⟩
      · rcases cond_of h with ⟨h5, h⟩ | ⟨h5, h⟩
        · have h := some_of h
          subst h
          exact ⟨[.br true, .res (kinfolkref08_sign_2_out s at_ (n, n2, b)), .br false, .br false, .br true], (kinfolkref08_Check_L0_ex s (.inl ())).2, .k0 (an_ h1 (an_ (kinfolkref08_sign_2_runs s at_ _ h2) (an_ (not_of2 h3) (an_ h4 (an_ h5 trivial))))) (by kernel_rfl), .same (by kernel_rfl)⟩
        · have h := some_of h
          subst h
          exact ⟨[.br true, .res (kinfolkref08_sign_2_out s at_ (n, n2, b)), .br false, .br false, .br false], kinfolkref08_Check_L0_st s (iadd .i64 at_ n2), .k0 (an_ h1 (an_ (kinfolkref08_sign_2_runs s at_ _ h2) (an_ (not_of2 h3) (an_ h4 (an_ h5 trivial))))) (by kernel_rfl), .same (by kernel_rfl)⟩
    · have h := some_of h
      subst h
      exact ⟨[.br true, .res (kinfolkref08_sign_2_out s at_ (n, n2, b)), .br true, .br true, .br true], (kinfolkref08_Check_L0_ex s (.inl ())).2, .k0 (an_ h1 (an_ (kinfolkref08_sign_2_runs s at_ _ h2) (an_ (not_of h3) (an_ (rfl : true = true) (an_ (rfl : true = true) trivial))))) (by kernel_rfl), .same (by kernel_rfl)⟩
  · have h := some_of h
    subst h
    exact ⟨[.br false], ⟨[(16, (.av (.one (.pv (.bool false))))), (0, (.av (.one (.pv (.str s))))), (5, (.av (.one (.pv (.int .i64 at_))))), (16, (.av (.one (.pv (.bool (decide ((at_ : Int) < (s.size : Int))))))))], [], []⟩, .k0 (an_ h1 trivial) (by kernel_rfl), ⟨trivial, trivial, trivial⟩⟩
theorem kinfolkref08_Check_L0_runs (s : ByteArray) (s_ : Int) (r_ : (Unit) ⊕ (Unit)) (h : runL (kinfolkref08_Check_L0_step s) s_ = some r_) : LRuns Tryd.prog (lEnv Tryd.prog cfg 10 0).nt 0 (.loop (loopAt Tryd.prog 10 0)) (kinfolkref08_Check_L0_st s s_) (kinfolkref08_Check_L0_ex s r_).1 (kinfolkref08_Check_L0_ex s r_).2 :=
  loop_run h (kinfolkref08_Check_L0_ok s) (by intro r_; rcases r_ with _ | _ <;> simp [kinfolkref08_Check_L0_ex])
/-! ### kinfolkref08_Check -/
noncomputable def kinfolkref08_Check (s : ByteArray) (most : Int) : Option (Int) :=
  bif (decide ((most : Int) < (s.size : Int))) then
    some 9
  else
    (runL (kinfolkref08_Check_L0_step s) 0).bind fun z_ => match z_ with
    | .inl _ =>
      some 7
    | .inr _ =>
      some 0
theorem kinfolkref08_Check_runs (s : ByteArray) (most : Int) (r_ : Int) (h : kinfolkref08_Check s most = some r_) : Runs Tryd.prog 10 [(.one (.pv (.str s))), (.one (.pv (.int .i64 most)))] [] [] (kinfolkref08_Check_out s most r_) := by
  unfold kinfolkref08_Check at h
  rcases cond_of h with ⟨h1, h⟩ | ⟨h1, h⟩
  · have h := some_of h
    subst h
    exact runs_of (C := cfg) (objs := []) (sc := [.br true]) (.k0 (an_ h1 trivial) (by kernel_rfl))
  · obtain ⟨z_, h2, h⟩ := bind_of h
    rcases z_ with _ | _
    · have h := some_of h
      subst h
      exact runs_of (C := cfg) (objs := []) (sc := [.br false, .lp (kinfolkref08_Check_L0_ex s (.inl ())).1 (kinfolkref08_Check_L0_ex s (.inl ())).2]) (.k0 (an_ h1 (an_ (kinfolkref08_Check_L0_runs s _ _ h2) trivial)) (by kernel_rfl))
    · have h := some_of h
      subst h
      exact runs_of (C := cfg) (objs := []) (sc := [.br false, .lp (kinfolkref08_Check_L0_ex s (.inr ())).1 (kinfolkref08_Check_L0_ex s (.inr ())).2]) (.k0 (an_ h1 (an_ (kinfolkref08_Check_L0_runs s _ _ h2) trivial)) (by kernel_rfl))
/-! ### text_Runes_out -/
def text_Runes_out (s : ByteArray) : Int → Res
  | r1 => ([(.one (.pv (.int .i64 r1)))], [], [])
/-! ### utf8_RuneCountInString_out -/
def utf8_RuneCountInString_out (s : ByteArray) : Int → Res
  | r1 => ([(.one (.pv (.int .i64 r1)))], [], [])
/-! ### utf8_RuneCountInString_L0 -/
def utf8_RuneCountInString_L0_st (s : ByteArray) : Int × Nat → St
  | (n, k) => ⟨[(2, (.av (.one (.pv (.int .i64 n))))), (4, (.av (.one (.ref 0 0))))], [(0, [(.sit s k)])], []⟩
def utf8_RuneCountInString_L0_ex (s : ByteArray) : Int × Nat → Ex × St
  | (r1, r2) => ((.exit 0), ⟨[(2, (.av (.one (.pv (.int .i64 r1)))))], [(0, [(.sit s r2)])], []⟩)
noncomputable def utf8_RuneCountInString_L0_step (s : ByteArray) : Int × Nat → Option ((Int × Nat) ⊕ (Int × Nat))
  | (n, k) =>
  bif (decide ((k : Nat) < s.size)) then
    some (.inl ((iadd .i64 n 1), (k + (Utf8.decode s k).2)))
  else
    some (.inr (n, k))
theorem utf8_RuneCountInString_L0_ok (s : ByteArray) (s_ : Int × Nat) (z_ : (Int × Nat) ⊕ (Int × Nat)) (h : utf8_RuneCountInString_L0_step s s_ = some z_) : RoundOk Tryd.prog cfg 24 0 (loopAt Tryd.prog 24 0) (utf8_RuneCountInString_L0_st s) (utf8_RuneCountInString_L0_ex s) s_ z_ := by
  rcases s_ with ⟨n, k⟩
  rcases cond_of h with ⟨h1, h⟩ | ⟨h1, h⟩
  · have h := some_of h
    subst h
    exact ⟨[.br true, .br true], utf8_RuneCountInString_L0_st s ((iadd .i64 n 1), (k + (Utf8.decode s k).2)), .k0 (an_ h1 (an_ (rfl : true = true) trivial)) (by kernel_rfl), .same (by kernel_rfl)⟩
  · have h := some_of h
    subst h
    exact ⟨[.br false, .br false], ⟨[(6, (.av (.one (.pv (.bool false))))), (2, (.av (.one (.pv (.int .i64 n))))), (4, (.av (.one (.ref 0 0)))), (6, (.av (.one (.pv (.bool false)))))], [(0, [(.sit s k)])], []⟩, .k0 (an_ h1 (an_ (rfl : false = false) trivial)) (by kernel_rfl), ⟨⟨⟨_, rfl, .eq rfl⟩, trivial⟩, ⟨⟨rfl, ⟨.eq rfl, trivial⟩⟩, trivial⟩, trivial⟩⟩
theorem utf8_RuneCountInString_L0_runs (s : ByteArray) (s_ : Int × Nat) (r_ : Int × Nat) (h : runL (utf8_RuneCountInString_L0_step s) s_ = some r_) : LRuns Tryd.prog (lEnv Tryd.prog cfg 24 0).nt 0 (.loop (loopAt Tryd.prog 24 0)) (utf8_RuneCountInString_L0_st s s_) (utf8_RuneCountInString_L0_ex s r_).1 (utf8_RuneCountInString_L0_ex s r_).2 :=
  loop_run h (utf8_RuneCountInString_L0_ok s) (by intro r_; rcases r_ with ⟨r1, r2⟩ <;> simp [utf8_RuneCountInString_L0_ex])
/-! ### utf8_RuneCountInString -/
noncomputable def utf8_RuneCountInString (s : ByteArray) : Option (Int) :=
  (runL (utf8_RuneCountInString_L0_step s) (0, 0)).bind fun (n, k) =>
  some n
theorem utf8_RuneCountInString_runs (s : ByteArray) (r_ : Int) (h : utf8_RuneCountInString s = some r_) : Runs Tryd.prog 24 [(.one (.pv (.str s)))] [] [] (utf8_RuneCountInString_out s r_) := by
  unfold utf8_RuneCountInString at h
  obtain ⟨⟨n, k⟩, h1, h⟩ := bind_of h
  have h := some_of h
  subst h
  exact runs_of (C := cfg) (objs := []) (sc := [.lp (utf8_RuneCountInString_L0_ex s (n, k)).1 (utf8_RuneCountInString_L0_ex s (n, k)).2]) (.k0 (an_ (utf8_RuneCountInString_L0_runs s _ _ h1) trivial) (by kernel_rfl))
/-! ### text_Runes -/
noncomputable def text_Runes (s : ByteArray) : Option (Int) :=
  (utf8_RuneCountInString s).bind fun n =>
  some n
theorem text_Runes_runs (s : ByteArray) (r_ : Int) (h : text_Runes s = some r_) : Runs Tryd.prog 11 [(.one (.pv (.str s)))] [] [] (text_Runes_out s r_) := by
  unfold text_Runes at h
  obtain ⟨n, h1, h⟩ := bind_of h
  have h := some_of h
  subst h
  exact runs_of (C := cfg) (objs := []) (sc := [.res (utf8_RuneCountInString_out s n)]) (.k0 (an_ (utf8_RuneCountInString_runs s _ h1) trivial) (by kernel_rfl))
/-! ### kinfolkref08_Runes_out -/
def kinfolkref08_Runes_out (s : ByteArray) : Int → Res
  | r1 => ([(.one (.pv (.int .i64 r1)))], [], [])
/-! ### kinfolkref08_Runes_L0 -/
def kinfolkref08_Runes_L0_st (s : ByteArray) : Int × Int → St
  | (k, at_) => ⟨[(0, (.av (.one (.pv (.str s))))), (3, (.av (.one (.pv (.int .i64 k))))), (4, (.av (.one (.pv (.int .i64 at_)))))], [], []⟩
def kinfolkref08_Runes_L0_ex (s : ByteArray) : Int → Ex × St
  | r1 => ((.exit 0), ⟨[(3, (.av (.one (.pv (.int .i64 r1)))))], [], []⟩)
noncomputable def kinfolkref08_Runes_L0_step (s : ByteArray) : Int × Int → Option ((Int × Int) ⊕ (Int))
  | (k, at_) =>
  bif (decide ((at_ : Int) < (s.size : Int))) then
    (kinfolkref08_sign_2 s at_).bind fun (n, n2, b) =>
    some (.inl ((iadd .i64 k 1), (iadd .i64 at_ n2)))
  else
    some (.inr k)
theorem kinfolkref08_Runes_L0_ok (s : ByteArray) (s_ : Int × Int) (z_ : (Int × Int) ⊕ (Int)) (h : kinfolkref08_Runes_L0_step s s_ = some z_) : RoundOk Tryd.prog cfg 12 0 (loopAt Tryd.prog 12 0) (kinfolkref08_Runes_L0_st s) (kinfolkref08_Runes_L0_ex s) s_ z_ := by
  rcases s_ with ⟨k, at_⟩
  rcases cond_of h with ⟨h1, h⟩ | ⟨h1, h⟩
  · obtain ⟨⟨n, n2, b⟩, h2, h⟩ := bind_of h
    have h := some_of h
    subst h
    exact ⟨[.br true, .res (kinfolkref08_sign_2_out s at_ (n, n2, b))], kinfolkref08_Runes_L0_st s ((iadd .i64 k 1), (iadd .i64 at_ n2)), .k0 (an_ h1 (an_ (kinfolkref08_sign_2_runs s at_ _ h2) trivial)) (by kernel_rfl), .same (by kernel_rfl)⟩
  · have h := some_of h
    subst h
    exact ⟨[.br false], ⟨[(11, (.av (.one (.pv (.bool false))))), (0, (.av (.one (.pv (.str s))))), (3, (.av (.one (.pv (.int .i64 k))))), (4, (.av (.one (.pv (.int .i64 at_))))), (11, (.av (.one (.pv (.bool (decide ((at_ : Int) < (s.size : Int))))))))], [], []⟩, .k0 (an_ h1 trivial) (by kernel_rfl), ⟨⟨⟨_, rfl, .eq rfl⟩, trivial⟩, trivial, trivial⟩⟩
theorem kinfolkref08_Runes_L0_runs (s : ByteArray) (s_ : Int × Int) (r_ : Int) (h : runL (kinfolkref08_Runes_L0_step s) s_ = some r_) : LRuns Tryd.prog (lEnv Tryd.prog cfg 12 0).nt 0 (.loop (loopAt Tryd.prog 12 0)) (kinfolkref08_Runes_L0_st s s_) (kinfolkref08_Runes_L0_ex s r_).1 (kinfolkref08_Runes_L0_ex s r_).2 :=
  loop_run h (kinfolkref08_Runes_L0_ok s) (by intro r_; rcases r_ with r1 <;> simp [kinfolkref08_Runes_L0_ex])
/-! ### kinfolkref08_Runes -/
noncomputable def kinfolkref08_Runes (s : ByteArray) : Option (Int) :=
  (runL (kinfolkref08_Runes_L0_step s) (0, 0)).bind fun n =>
  some n
theorem kinfolkref08_Runes_runs (s : ByteArray) (r_ : Int) (h : kinfolkref08_Runes s = some r_) : Runs Tryd.prog 12 [(.one (.pv (.str s)))] [] [] (kinfolkref08_Runes_out s r_) := by
  unfold kinfolkref08_Runes at h
  obtain ⟨n, h1, h⟩ := bind_of h
  have h := some_of h
  subst h
  exact runs_of (C := cfg) (objs := []) (sc := [.lp (kinfolkref08_Runes_L0_ex s n).1 (kinfolkref08_Runes_L0_ex s n).2]) (.k0 (an_ (kinfolkref08_Runes_L0_runs s _ _ h1) trivial) (by kernel_rfl))
/-! ### kinfolklaw08_TextChecks -/
noncomputable def kinfolklaw08_TextChecks (s : ByteArray) (most : Int) : Option (Bool) :=
  (kinfolklaw08_awake).bind fun b =>
  bif b then
    (kinfolklaw08_few s).bind fun s2 =>
    (text_Check s2 most).bind fun n =>
    (kinfolkref08_Check s2 most).bind fun n2 =>
    bif (decide ((n : Int) = n2)) then
      (text_Runes s2).bind fun n3 =>
      (kinfolkref08_Runes s2).bind fun n4 =>
      bif (decide ((n3 : Int) = n4)) then
        some (decide ((n3 : Int) ≤ (s2.size : Int)))
      else
        some false
    else
      some false
  else
    some false
theorem kinfolklaw08_TextChecks_runs (s : ByteArray) (most : Int) (r_ : Bool) (h : kinfolklaw08_TextChecks s most = some r_) : Runs Tryd.prog 3 [(.one (.pv (.str s))), (.one (.pv (.int .i64 most)))] [] [] (kinfolklaw08_TextChecks_out s most r_) := by
  unfold kinfolklaw08_TextChecks at h
  obtain ⟨b, h1, h⟩ := bind_of h
  rcases cond_of h with ⟨h2, h⟩ | ⟨h2, h⟩
  · obtain ⟨s2, h3, h⟩ := bind_of h
    obtain ⟨n, h4, h⟩ := bind_of h
    obtain ⟨n2, h5, h⟩ := bind_of h
    rcases cond_of h with ⟨h6, h⟩ | ⟨h6, h⟩
    · obtain ⟨n3, h7, h⟩ := bind_of h
      obtain ⟨n4, h8, h⟩ := bind_of h
      rcases cond_of h with ⟨h9, h⟩ | ⟨h9, h⟩
      · have h := some_of h
        subst h
        exact runs_of (C := cfg) (objs := []) (sc := [.res (kinfolklaw08_awake_out b), .br false, .res (kinfolklaw08_few_out s s2), .res (text_Check_out s2 most n), .res (kinfolkref08_Check_out s2 most n2), .br true, .res (text_Runes_out s2 n3), .res (kinfolkref08_Runes_out s2 n4), .br true, .res (text_Runes_out s2 n3)]) (.k0 (an_ (kinfolklaw08_awake_runs _ h1) (an_ (not_of2 h2) (an_ (kinfolklaw08_few_runs s _ h3) (an_ (text_Check_runs s2 most _ h4) (an_ (kinfolkref08_Check_runs s2 most _ h5) (an_ h6 (an_ (text_Runes_runs s2 _ h7) (an_ (kinfolkref08_Runes_runs s2 _ h8) (an_ h9 (an_ (text_Runes_runs s2 _ h7) trivial)))))))))) (by kernel_rfl))
      · have h := some_of h
        subst h
        exact runs_of (C := cfg) (objs := []) (sc := [.res (kinfolklaw08_awake_out b), .br false, .res (kinfolklaw08_few_out s s2), .res (text_Check_out s2 most n), .res (kinfolkref08_Check_out s2 most n2), .br true, .res (text_Runes_out s2 n3), .res (kinfolkref08_Runes_out s2 n4), .br false]) (.k0 (an_ (kinfolklaw08_awake_runs _ h1) (an_ (not_of2 h2) (an_ (kinfolklaw08_few_runs s _ h3) (an_ (text_Check_runs s2 most _ h4) (an_ (kinfolkref08_Check_runs s2 most _ h5) (an_ h6 (an_ (text_Runes_runs s2 _ h7) (an_ (kinfolkref08_Runes_runs s2 _ h8) (an_ h9 trivial))))))))) (by kernel_rfl))
    · have h := some_of h
      subst h
      exact runs_of (C := cfg) (objs := []) (sc := [.res (kinfolklaw08_awake_out b), .br false, .res (kinfolklaw08_few_out s s2), .res (text_Check_out s2 most n), .res (kinfolkref08_Check_out s2 most n2), .br false, .br false]) (.k0 (an_ (kinfolklaw08_awake_runs _ h1) (an_ (not_of2 h2) (an_ (kinfolklaw08_few_runs s _ h3) (an_ (text_Check_runs s2 most _ h4) (an_ (kinfolkref08_Check_runs s2 most _ h5) (an_ h6 (an_ (rfl : false = false) trivial))))))) (by kernel_rfl))
  · have h := some_of h
    subst h
    exact runs_of (C := cfg) (objs := []) (sc := [.res (kinfolklaw08_awake_out b), .br true]) (.k0 (an_ (kinfolklaw08_awake_runs _ h1) (an_ (not_of h2) trivial)) (by kernel_rfl))
/-! ### kinfolklaw08_TextJoins_out -/
def kinfolklaw08_TextJoins_out (a : ByteArray) (b : ByteArray) : Bool → Res
  | r1 => ([(.one (.pv (.bool r1)))], [], [])
/-! ### kinfolklaw08_TextJoins_L0 -/
def kinfolklaw08_TextJoins_L0_st (a : ByteArray) (n : Int) : Int × Int → St
  | (good, n2) => ⟨[(0, (.av (.one (.pv (.str a))))), (5, (.av (.one (.pv (.int .i64 good))))), (40, (.av (.one (.pv (.int .i64 n))))), (41, (.av (.one (.pv (.int .i64 n2)))))], [], []⟩
def kinfolklaw08_TextJoins_L0_ex (a : ByteArray) (n : Int) : Int → Ex × St
  | r1 => ((.exit 0), ⟨[(0, (.av (.one (.pv (.str a))))), (5, (.av (.one (.pv (.int .i64 r1)))))], [], []⟩)
noncomputable def kinfolklaw08_TextJoins_L0_step (a : ByteArray) (n : Int) : Int × Int → Option ((Int × Int) ⊕ (Int))
  | (good, n2) =>
  bif (decide ((n2 : Int) < n)) then
    bif decide ((0 : Int) ≤ 0) && decide ((0 : Int) ≤ n2) && decide ((n2 : Int) ≤ (a.size : Int)) then
    (text_Check (a.extract 0 (n2).toNat) 200).bind fun n3 =>
    bif (decide ((n3 : Int) = 0)) then
      some (.inl ((iadd .i64 good 1), (iadd .i64 n2 1)))
    else
      some (.inl (good, (iadd .i64 n2 1)))
    else none
  else
    some (.inr good)
theorem kinfolklaw08_TextJoins_L0_ok (a : ByteArray) (n : Int) (s_ : Int × Int) (z_ : (Int × Int) ⊕ (Int)) (h : kinfolklaw08_TextJoins_L0_step a n s_ = some z_) : RoundOk Tryd.prog cfg 4 0 (loopAt Tryd.prog 4 0) (kinfolklaw08_TextJoins_L0_st a n) (kinfolklaw08_TextJoins_L0_ex a n) s_ z_ := by
  rcases s_ with ⟨good, n2⟩
  rcases cond_of h with ⟨h1, h⟩ | ⟨h1, h⟩
  · obtain ⟨h2, h⟩ := need_of h
    obtain ⟨n3, h3, h⟩ := bind_of h
    rcases cond_of h with ⟨h4, h⟩ | ⟨h4, h⟩
    · have h := some_of h
      subst h
      exact ⟨[.br true, .res (text_Check_out (a.extract 0 (n2).toNat) 200 n3), .br true], kinfolklaw08_TextJoins_L0_st a n ((iadd .i64 good 1), (iadd .i64 n2 1)), .k0 (an_ h1 (an_ h2 (an_ (text_Check_runs (a.extract 0 (n2).toNat) 200 _ h3) (an_ h4 trivial)))) (by kernel_rfl), .same (by kernel_rfl)⟩
    · have h := some_of h
      subst h
      exact ⟨[.br true, .res (text_Check_out (a.extract 0 (n2).toNat) 200 n3), .br false], kinfolklaw08_TextJoins_L0_st a n (good, (iadd .i64 n2 1)), .k0 (an_ h1 (an_ h2 (an_ (text_Check_runs (a.extract 0 (n2).toNat) 200 _ h3) (an_ h4 trivial)))) (by kernel_rfl), .same (by kernel_rfl)⟩
  · have h := some_of h
    subst h
    exact ⟨[.br false], ⟨[(42, (.av (.one (.pv (.bool false))))), (0, (.av (.one (.pv (.str a))))), (5, (.av (.one (.pv (.int .i64 good))))), (40, (.av (.one (.pv (.int .i64 n))))), (41, (.av (.one (.pv (.int .i64 n2))))), (42, (.av (.one (.pv (.bool (decide ((n2 : Int) < n)))))))], [], []⟩, .k0 (an_ h1 trivial) (by kernel_rfl), ⟨⟨⟨_, rfl, .eq rfl⟩, ⟨_, rfl, .eq rfl⟩, trivial⟩, trivial, trivial⟩⟩
theorem kinfolklaw08_TextJoins_L0_runs (a : ByteArray) (n : Int) (s_ : Int × Int) (r_ : Int) (h : runL (kinfolklaw08_TextJoins_L0_step a n) s_ = some r_) : LRuns Tryd.prog (lEnv Tryd.prog cfg 4 0).nt 0 (.loop (loopAt Tryd.prog 4 0)) (kinfolklaw08_TextJoins_L0_st a n s_) (kinfolklaw08_TextJoins_L0_ex a n r_).1 (kinfolklaw08_TextJoins_L0_ex a n r_).2 :=
  loop_run h (kinfolklaw08_TextJoins_L0_ok a n) (by intro r_; rcases r_ with r1 <;> simp [kinfolklaw08_TextJoins_L0_ex])
/-! ### kinfolklaw08_TextJoins -/
noncomputable def kinfolklaw08_TextJoins (a : ByteArray) (b : ByteArray) : Option (Bool) :=
  (kinfolklaw08_awake).bind fun b2 =>
  bif b2 then
    (kinfolklaw08_few a).bind fun s =>
    (kinfolklaw08_few b).bind fun s2 =>
    (text_Check s 200).bind fun n =>
    bif (decide ((n : Int) = 0)) then
      (text_Check s2 200).bind fun n2 =>
      bif (decide ((n2 : Int) = 0)) then
        bif decide (s.size + s2.size ≤ 140737488355328) then
        (text_Check (s ++ s2) 400).bind fun n3 =>
        bif (decide ((n3 : Int) = 0)) then
          (text_Runes (s ++ s2)).bind fun n4 =>
          (text_Runes s).bind fun n5 =>
          (text_Runes s2).bind fun n6 =>
          bif (decide ((n4 : Int) = (iadd .i64 n5 n6))) then
            (runL (kinfolklaw08_TextJoins_L0_step s (iadd .i64 (s.size : Int) 1)) (0, 0)).bind fun n7 =>
            some (decide ((n7 : Int) = (iadd .i64 n5 1)))
          else
            some false
        else
          some false
        else none
      else
        (runL (kinfolklaw08_TextJoins_L0_step s (iadd .i64 (s.size : Int) 1)) (0, 0)).bind fun n3 =>
        (text_Runes s).bind fun n4 =>
        some (decide ((n3 : Int) = (iadd .i64 n4 1)))
    else
      (runL (kinfolklaw08_TextJoins_L0_step s (iadd .i64 (s.size : Int) 1)) (0, 0)).bind fun n2 =>
      some true
  else
    some false
theorem kinfolklaw08_TextJoins_runs (a : ByteArray) (b : ByteArray) (r_ : Bool) (h : kinfolklaw08_TextJoins a b = some r_) : Runs Tryd.prog 4 [(.one (.pv (.str a))), (.one (.pv (.str b)))] [] [] (kinfolklaw08_TextJoins_out a b r_) := by
  unfold kinfolklaw08_TextJoins at h
  obtain ⟨b2, h1, h⟩ := bind_of h
  rcases cond_of h with ⟨h2, h⟩ | ⟨h2, h⟩
  · obtain ⟨s, h3, h⟩ := bind_of h
    obtain ⟨s2, h4, h⟩ := bind_of h
    obtain ⟨n, h5, h⟩ := bind_of h
    rcases cond_of h with ⟨h6, h⟩ | ⟨h6, h⟩
    · obtain ⟨n2, h7, h⟩ := bind_of h
      rcases cond_of h with ⟨h8, h⟩ | ⟨h8, h⟩
      · obtain ⟨h9, h⟩ := need_of h
        obtain ⟨n3, h10, h⟩ := bind_of h
        rcases cond_of h with ⟨h11, h⟩ | ⟨h11, h⟩
        · obtain ⟨n4, h12, h⟩ := bind_of h
          obtain ⟨n5, h13, h⟩ := bind_of h
          obtain ⟨n6, h14, h⟩ := bind_of h
          rcases cond_of h with ⟨h15, h⟩ | ⟨h15, h⟩
          · obtain ⟨n7, h16, h⟩ := bind_of h
            have h := some_of h
            subst h
            exact runs_of (C := cfg) (objs := []) (sc := [.res (kinfolklaw08_awake_out b2), .br false, .res (kinfolklaw08_few_out a s), .res (kinfolklaw08_few_out b s2), .res (text_Check_out s 200 n), .br true, .res (text_Check_out s2 200 n2), .br true, .res (text_Check_out (s ++ s2) 400 n3), .br false, .res (text_Runes_out (s ++ s2) n4), .res (text_Runes_out s n5), .res (text_Runes_out s2 n6), .br false, .lp (kinfolklaw08_TextJoins_L0_ex s (iadd .i64 (s.size : Int) 1) n7).1 (kinfolklaw08_TextJoins_L0_ex s (iadd .i64 (s.size : Int) 1) n7).2, .res (text_Check_out s 200 n), .br false, .res (text_Runes_out s n5)]) (.k0 (an_ (kinfolklaw08_awake_runs _ h1) (an_ (not_of2 h2) (an_ (kinfolklaw08_few_runs a _ h3) (an_ (kinfolklaw08_few_runs b _ h4) (an_ (text_Check_runs s 200 _ h5) (an_ h6 (an_ (text_Check_runs s2 200 _ h7) (an_ h8 (an_ h9 (an_ (text_Check_runs (s ++ s2) 400 _ h10) (an_ (not_of2 h11) (an_ h9 (an_ (text_Runes_runs (s ++ s2) _ h12) (an_ (text_Runes_runs s _ h13) (an_ (text_Runes_runs s2 _ h14) (an_ (not_of2 h15) (an_ (kinfolklaw08_TextJoins_L0_runs s (iadd .i64 (s.size : Int) 1) _ _ h16) (an_ (text_Check_runs s 200 _ h5) (an_ (not_of2 h6) (an_ (text_Runes_runs s _ h13) trivial)))))))))))))))))))) (by kernel_rfl))
          · have h := some_of h
            subst h
            exact runs_of (C := cfg) (objs := []) (sc := [.res (kinfolklaw08_awake_out b2), .br false, .res (kinfolklaw08_few_out a s), .res (kinfolklaw08_few_out b s2), .res (text_Check_out s 200 n), .br true, .res (text_Check_out s2 200 n2), .br true, .res (text_Check_out (s ++ s2) 400 n3), .br false, .res (text_Runes_out (s ++ s2) n4), .res (text_Runes_out s n5), .res (text_Runes_out s2 n6), .br true]) (.k0 (an_ (kinfolklaw08_awake_runs _ h1) (an_ (not_of2 h2) (an_ (kinfolklaw08_few_runs a _ h3) (an_ (kinfolklaw08_few_runs b _ h4) (an_ (text_Check_runs s 200 _ h5) (an_ h6 (an_ (text_Check_runs s2 200 _ h7) (an_ h8 (an_ h9 (an_ (text_Check_runs (s ++ s2) 400 _ h10) (an_ (not_of2 h11) (an_ h9 (an_ (text_Runes_runs (s ++ s2) _ h12) (an_ (text_Runes_runs s _ h13) (an_ (text_Runes_runs s2 _ h14) (an_ (not_of h15) trivial)))))))))))))))) (by kernel_rfl))
        · have h := some_of h
          subst h
          exact runs_of (C := cfg) (objs := []) (sc := [.res (kinfolklaw08_awake_out b2), .br false, .res (kinfolklaw08_few_out a s), .res (kinfolklaw08_few_out b s2), .res (text_Check_out s 200 n), .br true, .res (text_Check_out s2 200 n2), .br true, .res (text_Check_out (s ++ s2) 400 n3), .br true, .br true]) (.k0 (an_ (kinfolklaw08_awake_runs _ h1) (an_ (not_of2 h2) (an_ (kinfolklaw08_few_runs a _ h3) (an_ (kinfolklaw08_few_runs b _ h4) (an_ (text_Check_runs s 200 _ h5) (an_ h6 (an_ (text_Check_runs s2 200 _ h7) (an_ h8 (an_ h9 (an_ (text_Check_runs (s ++ s2) 400 _ h10) (an_ (not_of h11) (an_ (rfl : true = true) trivial)))))))))))) (by kernel_rfl))
      · obtain ⟨n3, h9, h⟩ := bind_of h
        obtain ⟨n4, h10, h⟩ := bind_of h
        have h := some_of h
        subst h
        exact runs_of (C := cfg) (objs := []) (sc := [.res (kinfolklaw08_awake_out b2), .br false, .res (kinfolklaw08_few_out a s), .res (kinfolklaw08_few_out b s2), .res (text_Check_out s 200 n), .br true, .res (text_Check_out s2 200 n2), .br false, .lp (kinfolklaw08_TextJoins_L0_ex s (iadd .i64 (s.size : Int) 1) n3).1 (kinfolklaw08_TextJoins_L0_ex s (iadd .i64 (s.size : Int) 1) n3).2, .res (text_Check_out s 200 n), .br false, .res (text_Runes_out s n4)]) (.k0 (an_ (kinfolklaw08_awake_runs _ h1) (an_ (not_of2 h2) (an_ (kinfolklaw08_few_runs a _ h3) (an_ (kinfolklaw08_few_runs b _ h4) (an_ (text_Check_runs s 200 _ h5) (an_ h6 (an_ (text_Check_runs s2 200 _ h7) (an_ h8 (an_ (kinfolklaw08_TextJoins_L0_runs s (iadd .i64 (s.size : Int) 1) _ _ h9) (an_ (text_Check_runs s 200 _ h5) (an_ (not_of2 h6) (an_ (text_Runes_runs s _ h10) trivial)))))))))))) (by kernel_rfl))
    · obtain ⟨n2, h7, h⟩ := bind_of h
      have h := some_of h
      subst h
      exact runs_of (C := cfg) (objs := []) (sc := [.res (kinfolklaw08_awake_out b2), .br false, .res (kinfolklaw08_few_out a s), .res (kinfolklaw08_few_out b s2), .res (text_Check_out s 200 n), .br false, .br false, .lp (kinfolklaw08_TextJoins_L0_ex s (iadd .i64 (s.size : Int) 1) n2).1 (kinfolklaw08_TextJoins_L0_ex s (iadd .i64 (s.size : Int) 1) n2).2, .res (text_Check_out s 200 n), .br true]) (.k0 (an_ (kinfolklaw08_awake_runs _ h1) (an_ (not_of2 h2) (an_ (kinfolklaw08_few_runs a _ h3) (an_ (kinfolklaw08_few_runs b _ h4) (an_ (text_Check_runs s 200 _ h5) (an_ h6 (an_ (rfl : false = false) (an_ (kinfolklaw08_TextJoins_L0_runs s (iadd .i64 (s.size : Int) 1) _ _ h7) (an_ (text_Check_runs s 200 _ h5) (an_ (not_of h6) trivial)))))))))) (by kernel_rfl))
  · have h := some_of h
    subst h
    exact runs_of (C := cfg) (objs := []) (sc := [.res (kinfolklaw08_awake_out b2), .br true]) (.k0 (an_ (kinfolklaw08_awake_runs _ h1) (an_ (not_of h2) trivial)) (by kernel_rfl))
/-! ### kinfolklaw08_TextFolds_out -/
def kinfolklaw08_TextFolds_out (s : ByteArray) : Bool → Res
  | r1 => ([(.one (.pv (.bool r1)))], [], [])
/-! ### text_Fold_out -/
def text_Fold_out (s : ByteArray) : ByteArray → Res
  | r1 => ([(.one (.pv (.str r1)))], [], [])
/-! ### text_Fold_L0_2 -/
def text_Fold_L0_2_st (k : Nat) (n : Int) (l : List Int) : Bool × Int × List Int → St
  | (blank, n2, l2) => ⟨[(3, (.av (.one (.own 0 0 (l2).length false)))), (4, (.av (.one (.pv (.bool blank))))), (8, (.av (.one (.own 1 0 k false)))), (9, (.av (.one (.pv (.int .i64 n))))), (10, (.av (.one (.pv (.int .i64 n2)))))], [], [(0, (.live (.ints .u8 l2))), (1, (.live (.ints .u8 l)))]⟩
def text_Fold_L0_2_ex (k : Nat) (n : Int) (l : List Int) : List Int → Ex × St
  | r1 => ((.exit 0), ⟨[(3, (.av (.one (.own 0 0 (r1).length false))))], [], [(0, (.live (.ints .u8 r1))), (1, (.live (.ints .u8 l)))]⟩)
noncomputable def text_Fold_L0_2_step (k : Nat) (n : Int) (l : List Int) : Bool × Int × List Int → Option ((Bool × Int × List Int) ⊕ (List Int))
  | (blank, n2, l2) =>
  bif (decide ((n2 : Int) < n)) then
    bif decide ((0 : Int) ≤ n2) && decide ((n2 : Int) < (k : Int)) then
    bif (decide (((l.getD (0 + (n2).toNat) 0) : Int) = 32)) then
      bif blank then
        some (.inl ((decide (((l.getD (0 + (n2).toNat) 0) : Int) = 32)), (iadd .i64 n2 1), l2))
      else
        bif fits ((l2 ++ [(l.getD (0 + (n2).toNat) 0)])).length then
        some (.inl ((decide (((l.getD (0 + (n2).toNat) 0) : Int) = 32)), (iadd .i64 n2 1), (l2 ++ [(l.getD (0 + (n2).toNat) 0)])))
        else none
    else
      bif fits ((l2 ++ [(l.getD (0 + (n2).toNat) 0)])).length then
      some (.inl ((decide (((l.getD (0 + (n2).toNat) 0) : Int) = 32)), (iadd .i64 n2 1), (l2 ++ [(l.getD (0 + (n2).toNat) 0)])))
      else none
    else none
  else
    some (.inr l2)
theorem text_Fold_L0_2_ok (k : Nat) (n : Int) (l : List Int) (s_ : Bool × Int × List Int) (z_ : (Bool × Int × List Int) ⊕ (List Int)) (h : text_Fold_L0_2_step k n l s_ = some z_) : RoundOk Tryd.prog cfg 13 0 (loopAt Tryd.prog 13 0) (text_Fold_L0_2_st k n l) (text_Fold_L0_2_ex k n l) s_ z_ := by
  rcases s_ with ⟨blank, n2, l2⟩
  rcases cond_of h with ⟨h1, h⟩ | ⟨h1, h⟩
  · obtain ⟨h2, h⟩ := need_of h
    rcases cond_of h with ⟨h3, h⟩ | ⟨h3, h⟩
    · rcases cond_of h with ⟨h4, h⟩ | ⟨h4, h⟩
      · have h := some_of h
        subst h
        exact ⟨[.br true, .br false, .br false], text_Fold_L0_2_st k n l ((decide (((l.getD (0 + (n2).toNat) 0) : Int) = 32)), (iadd .i64 n2 1), l2), .k0 (an_ h1 (an_ h2 (an_ (not_of2 h3) (an_ (not_of2 h4) trivial)))) (by kernel_rfl), .same (by kernel_rfl)⟩
      · obtain ⟨h5, h⟩ := need_of h
        have h := some_of h
        subst h
        exact ⟨[.br true, .br false, .br true], text_Fold_L0_2_st k n l ((decide (((l.getD (0 + (n2).toNat) 0) : Int) = 32)), (iadd .i64 n2 1), (l2 ++ [(l.getD (0 + (n2).toNat) 0)])), .k0 (an_ h1 (an_ h2 (an_ (not_of2 h3) (an_ (not_of h4) (an_ (show (Nat.beq (l2).length (l2).length) = true from Nat.beq_refl _) (an_ h5 trivial)))))) (by kernel_rfl), .same (by kernel_rfl)⟩
    · obtain ⟨h4, h⟩ := need_of h
      have h := some_of h
      subst h
      exact ⟨[.br true, .br true, .br true], text_Fold_L0_2_st k n l ((decide (((l.getD (0 + (n2).toNat) 0) : Int) = 32)), (iadd .i64 n2 1), (l2 ++ [(l.getD (0 + (n2).toNat) 0)])), .k0 (an_ h1 (an_ h2 (an_ (not_of h3) (an_ (rfl : true = true) (an_ (show (Nat.beq (l2).length (l2).length) = true from Nat.beq_refl _) (an_ h4 trivial)))))) (by kernel_rfl), .same (by kernel_rfl)⟩
  · have h := some_of h
    subst h
    exact ⟨[.br false], ⟨[(11, (.av (.one (.pv (.bool false))))), (3, (.av (.one (.own 0 0 (l2).length false)))), (4, (.av (.one (.pv (.bool blank))))), (8, (.av (.one (.own 1 0 k false)))), (9, (.av (.one (.pv (.int .i64 n))))), (10, (.av (.one (.pv (.int .i64 n2))))), (11, (.av (.one (.pv (.bool (decide ((n2 : Int) < n)))))))], [], [(0, (.live (.ints .u8 l2))), (1, (.live (.ints .u8 l)))]⟩, .k0 (an_ h1 trivial) (by kernel_rfl), ⟨⟨⟨_, rfl, .eq rfl⟩, trivial⟩, trivial, ⟨⟨rfl, .eq rfl⟩, ⟨rfl, .eq rfl⟩, trivial⟩⟩⟩
theorem text_Fold_L0_2_runs (k : Nat) (n : Int) (l : List Int) (s_ : Bool × Int × List Int) (r_ : List Int) (h : runL (text_Fold_L0_2_step k n l) s_ = some r_) : LRuns Tryd.prog (lEnv Tryd.prog cfg 13 0).nt 0 (.loop (loopAt Tryd.prog 13 0)) (text_Fold_L0_2_st k n l s_) (text_Fold_L0_2_ex k n l r_).1 (text_Fold_L0_2_ex k n l r_).2 :=
  loop_run h (text_Fold_L0_2_ok k n l) (by intro r_; rcases r_ with r1 <;> simp [text_Fold_L0_2_ex])
/-! ### strings_TrimSuffix_out -/
def strings_TrimSuffix_out (s : ByteArray) (suffix : ByteArray) : ByteArray → Res
  | r1 => ([(.one (.pv (.str r1)))], [], [])
/-! ### stringslite_TrimSuffix_out -/
def stringslite_TrimSuffix_out (s : ByteArray) (suffix : ByteArray) : ByteArray → Res
  | r1 => ([(.one (.pv (.str r1)))], [], [])
/-! ### stringslite_HasSuffix_out -/
def stringslite_HasSuffix_out (s : ByteArray) (suffix : ByteArray) : Bool → Res
  | r1 => ([(.one (.pv (.bool r1)))], [], [])
/-! ### stringslite_HasSuffix -/
noncomputable def stringslite_HasSuffix (s : ByteArray) (suffix : ByteArray) : Option (Bool) :=
  bif (decide (((suffix.size : Int) : Int) ≤ (s.size : Int))) then
    bif decide ((0 : Int) ≤ (isub .i64 (s.size : Int) (suffix.size : Int))) && decide (((isub .i64 (s.size : Int) (suffix.size : Int)) : Int) ≤ (s.size : Int)) && decide (((s.size : Int) : Int) ≤ (s.size : Int)) then
    some (decide ((s.extract ((isub .i64 (s.size : Int) (suffix.size : Int))).toNat ((s.size : Int)).toNat) = suffix))
    else none
  else
    some false
theorem stringslite_HasSuffix_runs (s : ByteArray) (suffix : ByteArray) (r_ : Bool) (h : stringslite_HasSuffix s suffix = some r_) : Runs Tryd.prog 34 [(.one (.pv (.str s))), (.one (.pv (.str suffix)))] [] [] (stringslite_HasSuffix_out s suffix r_) := by
  unfold stringslite_HasSuffix at h
  rcases cond_of h with ⟨h1, h⟩ | ⟨h1, h⟩
  · obtain ⟨h2, h⟩ := need_of h
    have h := some_of h
    subst h
    exact runs_of (C := cfg) (objs := []) (sc := [.br true]) (.k0 (an_ h1 (an_ h2 trivial)) (by kernel_rfl))
  · have h := some_of h
    subst h
    exact runs_of (C := cfg) (objs := []) (sc := [.br false]) (.k0 (an_ h1 trivial) (by kernel_rfl))
/-! ### stringslite_TrimSuffix -/
noncomputable def stringslite_TrimSuffix (s : ByteArray) (suffix : ByteArray) : Option (ByteArray) :=
  (stringslite_HasSuffix s suffix).bind fun b =>
  bif b then
    bif decide ((0 : Int) ≤ 0) && decide ((0 : Int) ≤ (isub .i64 (s.size : Int) (suffix.size : Int))) && decide (((isub .i64 (s.size : Int) (suffix.size : Int)) : Int) ≤ (s.size : Int)) then
    some (s.extract 0 ((isub .i64 (s.size : Int) (suffix.size : Int))).toNat)
    else none
  else
    some s
theorem stringslite_TrimSuffix_runs (s : ByteArray) (suffix : ByteArray) (r_ : ByteArray) (h : stringslite_TrimSuffix s suffix = some r_) : Runs Tryd.prog 31 [(.one (.pv (.str s))), (.one (.pv (.str suffix)))] [] [] (stringslite_TrimSuffix_out s suffix r_) := by
  unfold stringslite_TrimSuffix at h
  obtain ⟨b, h1, h⟩ := bind_of h
  rcases cond_of h with ⟨h2, h⟩ | ⟨h2, h⟩
  · obtain ⟨h3, h⟩ := need_of h
    have h := some_of h
    subst h
    exact runs_of (C := cfg) (objs := []) (sc := [.res (stringslite_HasSuffix_out s suffix b), .br true]) (.k0 (an_ (stringslite_HasSuffix_runs s suffix _ h1) (an_ h2 (an_ h3 trivial))) (by kernel_rfl))
  · have h := some_of h
    subst h
    exact runs_of (C := cfg) (objs := []) (sc := [.res (stringslite_HasSuffix_out s suffix b), .br false]) (.k0 (an_ (stringslite_HasSuffix_runs s suffix _ h1) (an_ h2 trivial)) (by kernel_rfl))
/-! ### strings_TrimSuffix -/
noncomputable def strings_TrimSuffix (s : ByteArray) (suffix : ByteArray) : Option (ByteArray) :=
  (stringslite_TrimSuffix s suffix).bind fun s2 =>
  some s2
theorem strings_TrimSuffix_runs (s : ByteArray) (suffix : ByteArray) (r_ : ByteArray) (h : strings_TrimSuffix s suffix = some r_) : Runs Tryd.prog 25 [(.one (.pv (.str s))), (.one (.pv (.str suffix)))] [] [] (strings_TrimSuffix_out s suffix r_) := by
  unfold strings_TrimSuffix at h
  obtain ⟨s2, h1, h⟩ := bind_of h
  have h := some_of h
  subst h
  exact runs_of (C := cfg) (objs := []) (sc := [.res (stringslite_TrimSuffix_out s suffix s2)]) (.k0 (an_ (stringslite_TrimSuffix_runs s suffix _ h1) trivial) (by kernel_rfl))
/-! ### text_Fold -/
noncomputable def text_Fold (s : ByteArray) : Option (ByteArray) :=
  bif decide (s.size ≤ 140737488355328) then
  (runL (text_Fold_L0_2_step ((bytesL s).length) ((bytesL s).length : Int) (bytesL s)) (true, 0, [])).bind fun l_ =>
  (strings_TrimSuffix (strOf (List.take (l_).length l_)) (⟨#[32]⟩ : ByteArray)).bind fun s2 =>
  some s2
  else none
theorem text_Fold_runs (s : ByteArray) (r_ : ByteArray) (h : text_Fold s = some r_) : Runs Tryd.prog 13 [(.one (.pv (.str s)))] [] [] (text_Fold_out s r_) := by
  unfold text_Fold at h
  obtain ⟨h1, h⟩ := need_of h
  obtain ⟨l_, h2, h⟩ := bind_of h
  obtain ⟨s2, h3, h⟩ := bind_of h
  have h := some_of h
  subst h
  exact runs_of (C := cfg) (objs := []) (sc := [.lp (text_Fold_L0_2_ex ((bytesL s).length) ((bytesL s).length : Int) (bytesL s) l_).1 (text_Fold_L0_2_ex ((bytesL s).length) ((bytesL s).length : Int) (bytesL s) l_).2, .res (strings_TrimSuffix_out (strOf (List.take (l_).length l_)) (⟨#[32]⟩ : ByteArray) s2)]) (.k0 (an_ h1 (an_ (LRuns.coe (s0 := ⟨[(3, (.av (.one (.own 0 0 0 false)))), (4, (.av (.one (.pv (.bool true))))), (8, (.av (.one (.own 1 0 (bytesL s).length false)))), (9, (.av (.one (.pv (.int .i64 ((bytesL s).length : Int)))))), (10, (.av (.one (.pv (.int .i64 0)))))], [], [(0, (.live (.ints .u8 []))), (1, (.live (.ints .u8 (bytesL s))))]⟩) (text_Fold_L0_2_runs ((bytesL s).length) ((bytesL s).length : Int) (bytesL s) _ _ h2) ⟨⟨⟨_, rfl, .own (by first | rfl | (simp only [List.take_length]; done) | (simp only [List.take_length, List.length_append, List.drop_zero, List.map_append, List.map_take, List.map_drop, List.map_replicate, List.map_cons, List.map_nil, List.append_nil, List.nil_append]; done) | (simp; done))⟩, ⟨_, rfl, .eq rfl⟩, ⟨_, rfl, .eq rfl⟩, ⟨_, rfl, .eq rfl⟩, ⟨_, rfl, .eq rfl⟩, trivial⟩, trivial, ⟨⟨rfl, .eq rfl⟩, ⟨rfl, .eq rfl⟩, trivial⟩⟩) (an_ (strings_TrimSuffix_runs (strOf (List.take (l_).length l_)) (⟨#[32]⟩ : ByteArray) _ h3) trivial))) (by kernel_rfl))
/-! ### kinfolkref08_Fold_out -/
def kinfolkref08_Fold_out (s : ByteArray) : ByteArray → Res
  | r1 => ([(.one (.pv (.str r1)))], [], [])
/-! ### kinfolkref08_Fold_L0 -/
def kinfolkref08_Fold_L0_st : ByteArray → St
  | s => ⟨[(0, (.av (.one (.pv (.str s)))))], [], []⟩
def kinfolkref08_Fold_L0_ex : ByteArray → Ex × St
  | r1 => ((.exit 0), ⟨[(0, (.av (.one (.pv (.str r1)))))], [], []⟩)
noncomputable def kinfolkref08_Fold_L0_step : ByteArray → Option ((ByteArray) ⊕ (ByteArray))
  | s =>
  bif (decide ((0 : Int) < (s.size : Int))) then
    bif decide ((0 : Int) ≤ 0) && decide ((0 : Int) < (s.size : Int)) then
    bif (decide ((((s.data.getD 0 0).toNat : Int) : Int) = 32)) then
      bif decide ((0 : Int) ≤ 1) && decide ((1 : Int) ≤ (s.size : Int)) && decide (((s.size : Int) : Int) ≤ (s.size : Int)) then
      some (.inl (s.extract 1 ((s.size : Int)).toNat))
      else none
    else
      some (.inr s)
    else none
  else
    some (.inr s)
theorem kinfolkref08_Fold_L0_ok (s : ByteArray) (z_ : (ByteArray) ⊕ (ByteArray)) (h : kinfolkref08_Fold_L0_step s = some z_) : RoundOk Tryd.prog cfg 14 0 (loopAt Tryd.prog 14 0) (kinfolkref08_Fold_L0_st) (kinfolkref08_Fold_L0_ex) s z_ := by
  rcases cond_of h with ⟨h1, h⟩ | ⟨h1, h⟩
  · obtain ⟨h2, h⟩ := need_of h
    rcases cond_of h with ⟨h3, h⟩ | ⟨h3, h⟩
    · obtain ⟨h4, h⟩ := need_of h
      have h := some_of h
      subst h
      exact ⟨[.br true, .br true], kinfolkref08_Fold_L0_st (s.extract 1 ((s.size : Int)).toNat), .k0 (an_ h1 (an_ h2 (an_ h3 (an_ h4 trivial)))) (by kernel_rfl), .same (by kernel_rfl)⟩
    · have h := some_of h
      subst h
      exact ⟨[.br true, .br false], ⟨[(11, (.av (.one (.pv (.bool false))))), (0, (.av (.one (.pv (.str s))))), (11, (.av (.one (.pv (.bool (decide ((((s.data.getD 0 0).toNat : Int) : Int) = 32)))))))], [], []⟩, .k0 (an_ h1 (an_ h2 (an_ h3 trivial))) (by kernel_rfl), ⟨⟨⟨_, rfl, .eq rfl⟩, trivial⟩, trivial, trivial⟩⟩
  · have h := some_of h
    subst h
    exact ⟨[.br false, .br false], ⟨[(11, (.av (.one (.pv (.bool false))))), (0, (.av (.one (.pv (.str s))))), (11, (.av (.one (.pv (.bool false)))))], [], []⟩, .k0 (an_ h1 (an_ (rfl : false = false) trivial)) (by kernel_rfl), ⟨⟨⟨_, rfl, .eq rfl⟩, trivial⟩, trivial, trivial⟩⟩
theorem kinfolkref08_Fold_L0_runs (s_ : ByteArray) (r_ : ByteArray) (h : runL (kinfolkref08_Fold_L0_step) s_ = some r_) : LRuns Tryd.prog (lEnv Tryd.prog cfg 14 0).nt 0 (.loop (loopAt Tryd.prog 14 0)) (kinfolkref08_Fold_L0_st s_) (kinfolkref08_Fold_L0_ex r_).1 (kinfolkref08_Fold_L0_ex r_).2 :=
  loop_run h (kinfolkref08_Fold_L0_ok) (by intro r_; rcases r_ with r1 <;> simp [kinfolkref08_Fold_L0_ex])
/-! ### kinfolkref08_Fold_L1 -/
def kinfolkref08_Fold_L1_st : ByteArray → St
  | s => ⟨[(0, (.av (.one (.pv (.str s)))))], [], []⟩
def kinfolkref08_Fold_L1_ex : ByteArray → Ex × St
  | r1 => ((.exit 2), ⟨[(0, (.av (.one (.pv (.str r1)))))], [], []⟩)
noncomputable def kinfolkref08_Fold_L1_step : ByteArray → Option ((ByteArray) ⊕ (ByteArray))
  | s =>
  bif (decide ((0 : Int) < (s.size : Int))) then
    bif decide ((0 : Int) ≤ (isub .i64 (s.size : Int) 1)) && decide (((isub .i64 (s.size : Int) 1) : Int) < (s.size : Int)) then
    bif (decide ((((s.data.getD ((isub .i64 (s.size : Int) 1)).toNat 0).toNat : Int) : Int) = 32)) then
      bif decide ((0 : Int) ≤ 0) && decide ((0 : Int) ≤ (isub .i64 (s.size : Int) 1)) && decide (((isub .i64 (s.size : Int) 1) : Int) ≤ (s.size : Int)) then
      some (.inl (s.extract 0 ((isub .i64 (s.size : Int) 1)).toNat))
      else none
    else
      some (.inr s)
    else none
  else
    some (.inr s)
theorem kinfolkref08_Fold_L1_ok (s : ByteArray) (z_ : (ByteArray) ⊕ (ByteArray)) (h : kinfolkref08_Fold_L1_step s = some z_) : RoundOk Tryd.prog cfg 14 0 (loopAt Tryd.prog 14 1) (kinfolkref08_Fold_L1_st) (kinfolkref08_Fold_L1_ex) s z_ := by
  rcases cond_of h with ⟨h1, h⟩ | ⟨h1, h⟩
  · obtain ⟨h2, h⟩ := need_of h
    rcases cond_of h with ⟨h3, h⟩ | ⟨h3, h⟩
    · obtain ⟨h4, h⟩ := need_of h
      have h := some_of h
      subst h
      exact ⟨[.br true, .br true], kinfolkref08_Fold_L1_st (s.extract 0 ((isub .i64 (s.size : Int) 1)).toNat), .k0 (an_ h1 (an_ h2 (an_ h3 (an_ h4 trivial)))) (by kernel_rfl), .same (by kernel_rfl)⟩
    · have h := some_of h
      subst h
      exact ⟨[.br true, .br false], ⟨[(24, (.av (.one (.pv (.bool false))))), (0, (.av (.one (.pv (.str s))))), (24, (.av (.one (.pv (.bool (decide ((((s.data.getD ((isub .i64 (s.size : Int) 1)).toNat 0).toNat : Int) : Int) = 32)))))))], [], []⟩, .k0 (an_ h1 (an_ h2 (an_ h3 trivial))) (by kernel_rfl), ⟨⟨⟨_, rfl, .eq rfl⟩, trivial⟩, trivial, trivial⟩⟩
  · have h := some_of h
    subst h
    exact ⟨[.br false, .br false], ⟨[(24, (.av (.one (.pv (.bool false))))), (0, (.av (.one (.pv (.str s))))), (24, (.av (.one (.pv (.bool false)))))], [], []⟩, .k0 (an_ h1 (an_ (rfl : false = false) trivial)) (by kernel_rfl), ⟨⟨⟨_, rfl, .eq rfl⟩, trivial⟩, trivial, trivial⟩⟩
theorem kinfolkref08_Fold_L1_runs (s_ : ByteArray) (r_ : ByteArray) (h : runL (kinfolkref08_Fold_L1_step) s_ = some r_) : LRuns Tryd.prog (lEnv Tryd.prog cfg 14 0).nt 0 (.loop (loopAt Tryd.prog 14 1)) (kinfolkref08_Fold_L1_st s_) (kinfolkref08_Fold_L1_ex r_).1 (kinfolkref08_Fold_L1_ex r_).2 :=
  loop_run h (kinfolkref08_Fold_L1_ok) (by intro r_; rcases r_ with r1 <;> simp [kinfolkref08_Fold_L1_ex])
/-! ### kinfolkref08_Fold_L2 -/
def kinfolkref08_Fold_L2_st (s : ByteArray) : Int → St
  | i => ⟨[(0, (.av (.one (.pv (.str s))))), (3, (.av (.one (.pv (.int .i64 i)))))], [], []⟩
def kinfolkref08_Fold_L2_ex (s : ByteArray) : (ByteArray) ⊕ (Unit) → Ex × St
  | .inl r1 => (.ret, ⟨[(2, (.av (.one (.pv (.str r1)))))], [], []⟩)
  | .inr _ => ((.exit 4), ⟨[(0, (.av (.one (.pv (.str s)))))], [], []⟩)
noncomputable def kinfolkref08_Fold_L2_step (rec_kinfolkref08_Fold : ByteArray → Option (ByteArray)) (s : ByteArray) : Int → Option ((Int) ⊕ ((ByteArray) ⊕ (Unit)))
  | i =>
  bif (decide (((iadd .i64 i 1) : Int) < (s.size : Int))) then
    bif decide ((0 : Int) ≤ i) && decide ((i : Int) < (s.size : Int)) then
    bif (decide ((((s.data.getD (i).toNat 0).toNat : Int) : Int) = 32)) then
      bif decide ((0 : Int) ≤ (iadd .i64 i 1)) && decide (((iadd .i64 i 1) : Int) < (s.size : Int)) then
      bif (decide ((((s.data.getD ((iadd .i64 i 1)).toNat 0).toNat : Int) : Int) = 32)) then
        bif decide ((0 : Int) ≤ 0) && decide ((0 : Int) ≤ i) && decide ((i : Int) ≤ (s.size : Int)) then
        bif decide ((0 : Int) ≤ (iadd .i64 i 1)) && decide (((iadd .i64 i 1) : Int) ≤ (s.size : Int)) && decide (((s.size : Int) : Int) ≤ (s.size : Int)) then
        bif decide ((s.extract 0 (i).toNat).size + (s.extract ((iadd .i64 i 1)).toNat ((s.size : Int)).toNat).size ≤ 140737488355328) then
        (rec_kinfolkref08_Fold ((s.extract 0 (i).toNat) ++ (s.extract ((iadd .i64 i 1)).toNat ((s.size : Int)).toNat))).bind fun s2 =>
        some (.inr (.inl s2))
        else none
        else none
        else none
      else
        some (.inl (iadd .i64 i 1))
      else none
    else
      some (.inl (iadd .i64 i 1))
    else none
  else
    some (.inr (.inr ()))
theorem kinfolkref08_Fold_L2_ok (rec_kinfolkref08_Fold : ByteArray → Option (ByteArray)) (hrec_kinfolkref08_Fold : ∀ s r_, rec_kinfolkref08_Fold s = some r_ → Runs Tryd.prog 14 [(.one (.pv (.str s)))] [] [] (kinfolkref08_Fold_out s r_)) (s : ByteArray) (i : Int) (z_ : (Int) ⊕ ((ByteArray) ⊕ (Unit))) (h : kinfolkref08_Fold_L2_step rec_kinfolkref08_Fold s i = some z_) : RoundOk Tryd.prog cfg 14 0 (loopAt Tryd.prog 14 2) (kinfolkref08_Fold_L2_st s) (kinfolkref08_Fold_L2_ex s) i z_ := by
  rcases cond_of h with ⟨h1, h⟩ | ⟨h1, h⟩
  · obtain ⟨h2, h⟩ := need_of h
    rcases cond_of h with ⟨h3, h⟩ | ⟨h3, h⟩
    · obtain ⟨h4, h⟩ := need_of h
      rcases cond_of h with ⟨h5, h⟩ | ⟨h5, h⟩
      · obtain ⟨h6, h⟩ := need_of h
        obtain ⟨h7, h⟩ := need_of h
        obtain ⟨h8, h⟩ := need_of h
        obtain ⟨s2, h9, h⟩ := bind_of h
        have h := some_of h
        subst h
        exact ⟨[.br true, .br true, .br true, .res (kinfolkref08_Fold_out ((s.extract 0 (i).toNat) ++ (s.extract ((iadd .i64 i 1)).toNat ((s.size : Int)).toNat)) s2)], (kinfolkref08_Fold_L2_ex s (.inl s2)).2, .k0 (an_ h1 (an_ h2 (an_ h3 (an_ h4 (an_ h5 (an_ h6 (an_ h7 (an_ h8 (an_ (hrec_kinfolkref08_Fold ((s.extract 0 (i).toNat) ++ (s.extract ((iadd .i64 i 1)).toNat ((s.size : Int)).toNat)) _ h9) trivial))))))))) (by kernel_rfl), .same (by kernel_rfl)⟩
      · have h := some_of h
        subst h
        exact ⟨[.br true, .br true, .br false], kinfolkref08_Fold_L2_st s (iadd .i64 i 1), .k0 (an_ h1 (an_ h2 (an_ h3 (an_ h4 (an_ h5 trivial))))) (by kernel_rfl), .same (by kernel_rfl)⟩
    · have h := some_of h
      subst h
      exact ⟨[.br true, .br false, .br false], kinfolkref08_Fold_L2_st s (iadd .i64 i 1), .k0 (an_ h1 (an_ h2 (an_ h3 (an_ (rfl : false = false) trivial)))) (by kernel_rfl), .same (by kernel_rfl)⟩
  · have h := some_of h
    subst h
    exact ⟨[.br false], ⟨[(34, (.av (.one (.pv (.bool false))))), (0, (.av (.one (.pv (.str s))))), (3, (.av (.one (.pv (.int .i64 i))))), (34, (.av (.one (.pv (.bool (decide (((iadd .i64 i 1) : Int) < (s.size : Int))))))))], [], []⟩, .k0 (an_ h1 trivial) (by kernel_rfl), ⟨⟨⟨_, rfl, .eq rfl⟩, trivial⟩, trivial, trivial⟩⟩
theorem kinfolkref08_Fold_L2_runs (rec_kinfolkref08_Fold : ByteArray → Option (ByteArray)) (hrec_kinfolkref08_Fold : ∀ s r_, rec_kinfolkref08_Fold s = some r_ → Runs Tryd.prog 14 [(.one (.pv (.str s)))] [] [] (kinfolkref08_Fold_out s r_)) (s : ByteArray) (s_ : Int) (r_ : (ByteArray) ⊕ (Unit)) (h : runL (kinfolkref08_Fold_L2_step rec_kinfolkref08_Fold s) s_ = some r_) : LRuns Tryd.prog (lEnv Tryd.prog cfg 14 0).nt 0 (.loop (loopAt Tryd.prog 14 2)) (kinfolkref08_Fold_L2_st s s_) (kinfolkref08_Fold_L2_ex s r_).1 (kinfolkref08_Fold_L2_ex s r_).2 :=
  loop_run h (kinfolkref08_Fold_L2_ok rec_kinfolkref08_Fold hrec_kinfolkref08_Fold s) (by intro r_; rcases r_ with r1 | _ <;> simp [kinfolkref08_Fold_L2_ex])
/-! ### kinfolkref08_Fold -/
noncomputable def kinfolkref08_Fold_b (rec_kinfolkref08_Fold : ByteArray → Option (ByteArray)) (s : ByteArray) : Option (ByteArray) :=
  (runL (kinfolkref08_Fold_L0_step) s).bind fun s2 =>
  (runL (kinfolkref08_Fold_L1_step) s2).bind fun s3 =>
  (runL (kinfolkref08_Fold_L2_step rec_kinfolkref08_Fold s3) 0).bind fun z_ => match z_ with
  | .inl s4 =>
    some s4
  | .inr _ =>
    some s3
theorem kinfolkref08_Fold_b_runs (rec_kinfolkref08_Fold : ByteArray → Option (ByteArray)) (hrec_kinfolkref08_Fold : ∀ s r_, rec_kinfolkref08_Fold s = some r_ → Runs Tryd.prog 14 [(.one (.pv (.str s)))] [] [] (kinfolkref08_Fold_out s r_)) (s : ByteArray) (r_ : ByteArray) (h : kinfolkref08_Fold_b rec_kinfolkref08_Fold s = some r_) : Runs Tryd.prog 14 [(.one (.pv (.str s)))] [] [] (kinfolkref08_Fold_out s r_) := by
  unfold kinfolkref08_Fold_b at h
  obtain ⟨s2, h1, h⟩ := bind_of h
  obtain ⟨s3, h2, h⟩ := bind_of h
  obtain ⟨z_, h3, h⟩ := bind_of h
  rcases z_ with s4 | _
  · have h := some_of h
    subst h
    exact runs_of (C := cfg) (objs := []) (sc := [.lp (kinfolkref08_Fold_L0_ex s2).1 (kinfolkref08_Fold_L0_ex s2).2, .lp (kinfolkref08_Fold_L1_ex s3).1 (kinfolkref08_Fold_L1_ex s3).2, .lp (kinfolkref08_Fold_L2_ex s3 (.inl s4)).1 (kinfolkref08_Fold_L2_ex s3 (.inl s4)).2]) (.k0 (an_ (kinfolkref08_Fold_L0_runs _ _ h1) (an_ (kinfolkref08_Fold_L1_runs _ _ h2) (an_ (kinfolkref08_Fold_L2_runs rec_kinfolkref08_Fold hrec_kinfolkref08_Fold s3 _ _ h3) trivial))) (by kernel_rfl))
  · have h := some_of h
    subst h
    exact runs_of (C := cfg) (objs := []) (sc := [.lp (kinfolkref08_Fold_L0_ex s2).1 (kinfolkref08_Fold_L0_ex s2).2, .lp (kinfolkref08_Fold_L1_ex s3).1 (kinfolkref08_Fold_L1_ex s3).2, .lp (kinfolkref08_Fold_L2_ex s3 (.inr ())).1 (kinfolkref08_Fold_L2_ex s3 (.inr ())).2]) (.k0 (an_ (kinfolkref08_Fold_L0_runs _ _ h1) (an_ (kinfolkref08_Fold_L1_runs _ _ h2) (an_ (kinfolkref08_Fold_L2_runs rec_kinfolkref08_Fold hrec_kinfolkref08_Fold s3 _ _ h3) trivial))) (by kernel_rfl))
noncomputable def kinfolkref08_Fold : Nat → ByteArray → Option (ByteArray)
  | 0, _ => none
  | N + 1, s => kinfolkref08_Fold_b (kinfolkref08_Fold N) s
theorem kinfolkref08_Fold_runs : ∀ (N : Nat) (s : ByteArray) (r_ : ByteArray), kinfolkref08_Fold N s = some r_ → Runs Tryd.prog 14 [(.one (.pv (.str s)))] [] [] (kinfolkref08_Fold_out s r_)
  | 0, _, _, h => by cases h
  | N + 1, s, r_, h => kinfolkref08_Fold_b_runs (kinfolkref08_Fold N) (kinfolkref08_Fold_runs N) s r_ h
/-! ### kinfolklaw08_TextFolds -/
noncomputable def kinfolklaw08_TextFolds (N : Nat) (s : ByteArray) : Option (Bool) :=
  (kinfolklaw08_awake).bind fun b =>
  bif b then
    (kinfolklaw08_few s).bind fun s2 =>
    (text_Fold s2).bind fun s3 =>
    (kinfolkref08_Fold N s2).bind fun s4 =>
    bif (decide (s3 = s4)) then
      (text_Fold s3).bind fun s5 =>
      bif (decide (s5 = s3)) then
        bif decide ((⟨#[32]⟩ : ByteArray).size + s2.size ≤ 140737488355328) then
        bif decide (((⟨#[32]⟩ : ByteArray) ++ s2).size + (⟨#[32, 32]⟩ : ByteArray).size ≤ 140737488355328) then
        (text_Fold (((⟨#[32]⟩ : ByteArray) ++ s2) ++ (⟨#[32, 32]⟩ : ByteArray))).bind fun s6 =>
        bif (decide (s6 = s3)) then
          (text_Check s2 200).bind fun n =>
          bif (decide ((n : Int) = 0)) then
            (text_Check s3 200).bind fun n2 =>
            some (decide ((n2 : Int) = 0))
          else
            some true
        else
          some false
        else none
        else none
      else
        some false
    else
      some false
  else
    some false
theorem kinfolklaw08_TextFolds_runs (N : Nat) (s : ByteArray) (r_ : Bool) (h : kinfolklaw08_TextFolds N s = some r_) : Runs Tryd.prog 5 [(.one (.pv (.str s)))] [] [] (kinfolklaw08_TextFolds_out s r_) := by
  unfold kinfolklaw08_TextFolds at h
  obtain ⟨b, h1, h⟩ := bind_of h
  rcases cond_of h with ⟨h2, h⟩ | ⟨h2, h⟩
  · obtain ⟨s2, h3, h⟩ := bind_of h
    obtain ⟨s3, h4, h⟩ := bind_of h
    obtain ⟨s4, h5, h⟩ := bind_of h
    rcases cond_of h with ⟨h6, h⟩ | ⟨h6, h⟩
    · obtain ⟨s5, h7, h⟩ := bind_of h
      rcases cond_of h with ⟨h8, h⟩ | ⟨h8, h⟩
      · obtain ⟨h9, h⟩ := need_of h
        obtain ⟨h10, h⟩ := need_of h
        obtain ⟨s6, h11, h⟩ := bind_of h
        rcases cond_of h with ⟨h12, h⟩ | ⟨h12, h⟩
        · obtain ⟨n, h13, h⟩ := bind_of h
          rcases cond_of h with ⟨h14, h⟩ | ⟨h14, h⟩
          · obtain ⟨n2, h15, h⟩ := bind_of h
            have h := some_of h
            subst h
            exact runs_of (C := cfg) (objs := []) (sc := [.res (kinfolklaw08_awake_out b), .br false, .res (kinfolklaw08_few_out s s2), .res (text_Fold_out s2 s3), .res (kinfolkref08_Fold_out s2 s4), .br true, .res (text_Fold_out s3 s5), .br true, .res (text_Fold_out (((⟨#[32]⟩ : ByteArray) ++ s2) ++ (⟨#[32, 32]⟩ : ByteArray)) s6), .br true, .res (text_Check_out s2 200 n), .br false, .res (text_Check_out s3 200 n2)]) (.k0 (an_ (kinfolklaw08_awake_runs _ h1) (an_ (not_of2 h2) (an_ (kinfolklaw08_few_runs s _ h3) (an_ (text_Fold_runs s2 _ h4) (an_ (kinfolkref08_Fold_runs N s2 _ h5) (an_ h6 (an_ (text_Fold_runs s3 _ h7) (an_ h8 (an_ h9 (an_ h10 (an_ (text_Fold_runs (((⟨#[32]⟩ : ByteArray) ++ s2) ++ (⟨#[32, 32]⟩ : ByteArray)) _ h11) (an_ h12 (an_ (text_Check_runs s2 200 _ h13) (an_ (not_of2 h14) (an_ (text_Check_runs s3 200 _ h15) trivial))))))))))))))) (by kernel_rfl))
          · have h := some_of h
            subst h
            exact runs_of (C := cfg) (objs := []) (sc := [.res (kinfolklaw08_awake_out b), .br false, .res (kinfolklaw08_few_out s s2), .res (text_Fold_out s2 s3), .res (kinfolkref08_Fold_out s2 s4), .br true, .res (text_Fold_out s3 s5), .br true, .res (text_Fold_out (((⟨#[32]⟩ : ByteArray) ++ s2) ++ (⟨#[32, 32]⟩ : ByteArray)) s6), .br true, .res (text_Check_out s2 200 n), .br true]) (.k0 (an_ (kinfolklaw08_awake_runs _ h1) (an_ (not_of2 h2) (an_ (kinfolklaw08_few_runs s _ h3) (an_ (text_Fold_runs s2 _ h4) (an_ (kinfolkref08_Fold_runs N s2 _ h5) (an_ h6 (an_ (text_Fold_runs s3 _ h7) (an_ h8 (an_ h9 (an_ h10 (an_ (text_Fold_runs (((⟨#[32]⟩ : ByteArray) ++ s2) ++ (⟨#[32, 32]⟩ : ByteArray)) _ h11) (an_ h12 (an_ (text_Check_runs s2 200 _ h13) (an_ (not_of h14) trivial)))))))))))))) (by kernel_rfl))
        · have h := some_of h
          subst h
          exact runs_of (C := cfg) (objs := []) (sc := [.res (kinfolklaw08_awake_out b), .br false, .res (kinfolklaw08_few_out s s2), .res (text_Fold_out s2 s3), .res (kinfolkref08_Fold_out s2 s4), .br true, .res (text_Fold_out s3 s5), .br true, .res (text_Fold_out (((⟨#[32]⟩ : ByteArray) ++ s2) ++ (⟨#[32, 32]⟩ : ByteArray)) s6), .br false]) (.k0 (an_ (kinfolklaw08_awake_runs _ h1) (an_ (not_of2 h2) (an_ (kinfolklaw08_few_runs s _ h3) (an_ (text_Fold_runs s2 _ h4) (an_ (kinfolkref08_Fold_runs N s2 _ h5) (an_ h6 (an_ (text_Fold_runs s3 _ h7) (an_ h8 (an_ h9 (an_ h10 (an_ (text_Fold_runs (((⟨#[32]⟩ : ByteArray) ++ s2) ++ (⟨#[32, 32]⟩ : ByteArray)) _ h11) (an_ h12 trivial)))))))))))) (by kernel_rfl))
      · have h := some_of h
        subst h
        exact runs_of (C := cfg) (objs := []) (sc := [.res (kinfolklaw08_awake_out b), .br false, .res (kinfolklaw08_few_out s s2), .res (text_Fold_out s2 s3), .res (kinfolkref08_Fold_out s2 s4), .br true, .res (text_Fold_out s3 s5), .br false, .br false]) (.k0 (an_ (kinfolklaw08_awake_runs _ h1) (an_ (not_of2 h2) (an_ (kinfolklaw08_few_runs s _ h3) (an_ (text_Fold_runs s2 _ h4) (an_ (kinfolkref08_Fold_runs N s2 _ h5) (an_ h6 (an_ (text_Fold_runs s3 _ h7) (an_ h8 (an_ (rfl : false = false) trivial))))))))) (by kernel_rfl))
    · have h := some_of h
      subst h
      exact runs_of (C := cfg) (objs := []) (sc := [.res (kinfolklaw08_awake_out b), .br false, .res (kinfolklaw08_few_out s s2), .res (text_Fold_out s2 s3), .res (kinfolkref08_Fold_out s2 s4), .br false, .br false, .br false]) (.k0 (an_ (kinfolklaw08_awake_runs _ h1) (an_ (not_of2 h2) (an_ (kinfolklaw08_few_runs s _ h3) (an_ (text_Fold_runs s2 _ h4) (an_ (kinfolkref08_Fold_runs N s2 _ h5) (an_ h6 (an_ (rfl : false = false) (an_ (rfl : false = false) trivial)))))))) (by kernel_rfl))
  · have h := some_of h
    subst h
    exact runs_of (C := cfg) (objs := []) (sc := [.res (kinfolklaw08_awake_out b), .br true]) (.k0 (an_ (kinfolklaw08_awake_runs _ h1) (an_ (not_of h2) trivial)) (by kernel_rfl))
/-! ### kinfolklaw08_TextQuotes_out -/
def kinfolklaw08_TextQuotes_out (s : ByteArray) (w : ByteArray) : Bool → Res
  | r1 => ([(.one (.pv (.bool r1)))], [], [])
/-! ### text_Unquote_out -/
def text_Unquote_out (s : ByteArray) : ByteArray × Bool → Res
  | (r1, r2) => ([(.one (.pv (.str r1))), (.one (.pv (.bool r2)))], [], [])

end Go.Proofs.YtecblpgljmbpeaaDoor
