/- What functions compute, and that they do. -/
import Derived.Test.YtecblpgljmbpeaaDoorA1
set_option linter.unusedVariables false
set_option linter.unusedSimpArgs false
set_option maxRecDepth 100000
namespace Go.Proofs.YtecblpgljmbpeaaDoor
open Go.Ev

/-! ### text_Unquote_S0_2 -/
def text_Unquote_S0_2_st (s : ByteArray) : ByteArray × List Int → St
  | (rest, l) => ⟨[(0, (.av (.one (.pv (.str s))))), (4, (.av (.one (.own 0 0 (l).length false)))), (5, (.av (.one (.pv (.str rest)))))], [], [(0, (.live (.ints .u8 l)))]⟩
def text_Unquote_S0_2_ex (s : ByteArray) : ByteArray × Bool → Ex × St
  | (r1, r2) => (.ret, ⟨[(2, (.av (.one (.pv (.str r1))))), (3, (.av (.one (.pv (.bool r2)))))], [], []⟩)
noncomputable def text_Unquote_S0_2_step (s : ByteArray) : ByteArray × List Int → Option ((ByteArray × List Int) ⊕ (ByteArray × Bool))
  | (rest, l) =>
  bif decide (rest = (⟨#[]⟩ : ByteArray)) then
    bif (decide (s = (⟨#[92, 45]⟩ : ByteArray))) then
      some (.inr ((⟨#[]⟩ : ByteArray), true))
    else
      (text_Quote (strOf (List.take (l).length l))).bind fun s2 =>
      bif (decide (s2 = s)) then
        some (.inr ((strOf (List.take (l).length l)), true))
      else
        some (.inr ((⟨#[]⟩ : ByteArray), false))
  else
    bif decide ((0 : Int) ≤ 0) && decide ((0 : Int) < (rest.size : Int)) then
    bif decide ((0 : Int) ≤ 1) && decide ((1 : Int) ≤ (rest.size : Int)) && decide (((rest.size : Int) : Int) ≤ (rest.size : Int)) then
    bif (decide ((((rest.data.getD 0 0).toNat : Int) : Int) = 92)) then
      bif decide ((rest.extract 1 ((rest.size : Int)).toNat) = (⟨#[]⟩ : ByteArray)) then
        bif (decide ((1 : Int) < ((rest.extract 1 ((rest.size : Int)).toNat).size : Int))) then
          bif decide ((0 : Int) ≤ 0) && decide ((0 : Int) < ((rest.extract 1 ((rest.size : Int)).toNat).size : Int)) then
          bif decide ((0 : Int) ≤ 1) && decide ((1 : Int) < ((rest.extract 1 ((rest.size : Int)).toNat).size : Int)) then
          (strings_IndexByte (⟨#[48, 49, 50, 51, 52, 53, 54, 55, 56, 57, 97, 98, 99, 100, 101, 102]⟩ : ByteArray) (((rest.extract 1 ((rest.size : Int)).toNat).data.getD 0 0).toNat : Int)).bind fun n =>
          (strings_IndexByte (⟨#[48, 49, 50, 51, 52, 53, 54, 55, 56, 57, 97, 98, 99, 100, 101, 102]⟩ : ByteArray) (((rest.extract 1 ((rest.size : Int)).toNat).data.getD 1 0).toNat : Int)).bind fun n2 =>
          bif fits ((l ++ [(IntKind.u8.wrap (ior .i64 (ishl .i64 n 4) (iand .i64 n2 15)))])).length then
          bif decide ((0 : Int) ≤ 2) && decide ((2 : Int) ≤ ((rest.extract 1 ((rest.size : Int)).toNat).size : Int)) && decide ((((rest.extract 1 ((rest.size : Int)).toNat).size : Int) : Int) ≤ ((rest.extract 1 ((rest.size : Int)).toNat).size : Int)) then
          some (.inl (((rest.extract 1 ((rest.size : Int)).toNat).extract 2 (((rest.extract 1 ((rest.size : Int)).toNat).size : Int)).toNat), (l ++ [(IntKind.u8.wrap (ior .i64 (ishl .i64 n 4) (iand .i64 n2 15)))])))
          else none
          else none
          else none
          else none
        else
          bif (decide (s = (⟨#[92, 45]⟩ : ByteArray))) then
            some (.inr ((⟨#[]⟩ : ByteArray), true))
          else
            (text_Quote (strOf (List.take (l).length l))).bind fun s2 =>
            bif (decide (s2 = s)) then
              some (.inr ((strOf (List.take (l).length l)), true))
            else
              some (.inr ((⟨#[]⟩ : ByteArray), false))
      else
        bif decide ((0 : Int) ≤ 0) && decide ((0 : Int) < ((rest.extract 1 ((rest.size : Int)).toNat).size : Int)) then
        bif (decide (((((rest.extract 1 ((rest.size : Int)).toNat).data.getD 0 0).toNat : Int) : Int) = 92)) then
          bif fits ((l ++ [92])).length then
          bif decide ((0 : Int) ≤ 1) && decide ((1 : Int) ≤ ((rest.extract 1 ((rest.size : Int)).toNat).size : Int)) && decide ((((rest.extract 1 ((rest.size : Int)).toNat).size : Int) : Int) ≤ ((rest.extract 1 ((rest.size : Int)).toNat).size : Int)) then
          some (.inl (((rest.extract 1 ((rest.size : Int)).toNat).extract 1 (((rest.extract 1 ((rest.size : Int)).toNat).size : Int)).toNat), (l ++ [92])))
          else none
          else none
        else
          bif (decide ((1 : Int) < ((rest.extract 1 ((rest.size : Int)).toNat).size : Int))) then
            bif decide ((0 : Int) ≤ 1) && decide ((1 : Int) < ((rest.extract 1 ((rest.size : Int)).toNat).size : Int)) then
            (strings_IndexByte (⟨#[48, 49, 50, 51, 52, 53, 54, 55, 56, 57, 97, 98, 99, 100, 101, 102]⟩ : ByteArray) (((rest.extract 1 ((rest.size : Int)).toNat).data.getD 0 0).toNat : Int)).bind fun n =>
            (strings_IndexByte (⟨#[48, 49, 50, 51, 52, 53, 54, 55, 56, 57, 97, 98, 99, 100, 101, 102]⟩ : ByteArray) (((rest.extract 1 ((rest.size : Int)).toNat).data.getD 1 0).toNat : Int)).bind fun n2 =>
            bif fits ((l ++ [(IntKind.u8.wrap (ior .i64 (ishl .i64 n 4) (iand .i64 n2 15)))])).length then
            bif decide ((0 : Int) ≤ 2) && decide ((2 : Int) ≤ ((rest.extract 1 ((rest.size : Int)).toNat).size : Int)) && decide ((((rest.extract 1 ((rest.size : Int)).toNat).size : Int) : Int) ≤ ((rest.extract 1 ((rest.size : Int)).toNat).size : Int)) then
            some (.inl (((rest.extract 1 ((rest.size : Int)).toNat).extract 2 (((rest.extract 1 ((rest.size : Int)).toNat).size : Int)).toNat), (l ++ [(IntKind.u8.wrap (ior .i64 (ishl .i64 n 4) (iand .i64 n2 15)))])))
            else none
            else none
            else none
          else
            bif (decide (s = (⟨#[92, 45]⟩ : ByteArray))) then
              some (.inr ((⟨#[]⟩ : ByteArray), true))
            else
              (text_Quote (strOf (List.take (l).length l))).bind fun s2 =>
              bif (decide (s2 = s)) then
                some (.inr ((strOf (List.take (l).length l)), true))
              else
                some (.inr ((⟨#[]⟩ : ByteArray), false))
        else none
    else
      bif fits ((l ++ [((rest.data.getD 0 0).toNat : Int)])).length then
      some (.inl ((rest.extract 1 ((rest.size : Int)).toNat), (l ++ [((rest.data.getD 0 0).toNat : Int)])))
      else none
    else none
    else none
theorem text_Unquote_S0_2_ok (s : ByteArray) (s_ : ByteArray × List Int) (z_ : (ByteArray × List Int) ⊕ (ByteArray × Bool)) (h : text_Unquote_S0_2_step s s_ = some z_) : RoundOkS Tryd.prog cfg 16 0 (scopeAt Tryd.prog 16 0) (text_Unquote_S0_2_st s) (text_Unquote_S0_2_ex s) s_ z_ := by
  rcases s_ with ⟨rest, l⟩
  rcases cond_of h with ⟨h1, h⟩ | ⟨h1, h⟩
  · rcases cond_of h with ⟨h2, h⟩ | ⟨h2, h⟩
    · have h := some_of h
      subst h
      exact ⟨[.br false, .br true], (text_Unquote_S0_2_ex s ((⟨#[]⟩ : ByteArray), true)).2, .k0 (an_ (not_of2 h1) (an_ h2 trivial)) (by kernel_rfl), .same (by kernel_rfl)⟩
    · obtain ⟨s2, h3, h⟩ := bind_of h
      rcases cond_of h with ⟨h4, h⟩ | ⟨h4, h⟩
      · have h := some_of h
        subst h
        exact ⟨[.br false, .br false, .res (text_Quote_out (strOf (List.take (l).length l)) s2), .br true], (text_Unquote_S0_2_ex s ((strOf (List.take (l).length l)), true)).2, .k0 (an_ (not_of2 h1) (an_ h2 (an_ (text_Quote_runs (strOf (List.take (l).length l)) _ h3) (an_ h4 trivial)))) (by kernel_rfl), .same (by kernel_rfl)⟩
      · have h := some_of h
        subst h
        exact ⟨[.br false, .br false, .res (text_Quote_out (strOf (List.take (l).length l)) s2), .br false], (text_Unquote_S0_2_ex s ((⟨#[]⟩ : ByteArray), false)).2, .k0 (an_ (not_of2 h1) (an_ h2 (an_ (text_Quote_runs (strOf (List.take (l).length l)) _ h3) (an_ h4 trivial)))) (by kernel_rfl), .same (by kernel_rfl)⟩
  · obtain ⟨h2, h⟩ := need_of h
    obtain ⟨h3, h⟩ := need_of h
    rcases cond_of h with ⟨h4, h⟩ | ⟨h4, h⟩
    · rcases cond_of h with ⟨h5, h⟩ | ⟨h5, h⟩
      · rcases cond_of h with ⟨h6, h⟩ | ⟨h6, h⟩
        · obtain ⟨h7, h⟩ := need_of h
          obtain ⟨h8, h⟩ := need_of h
          obtain ⟨n, h9, h⟩ := bind_of h
          obtain ⟨n2, h10, h⟩ := bind_of h
          obtain ⟨h11, h⟩ := need_of h
          obtain ⟨h12, h⟩ := need_of h
          have h := some_of h
          subst h
          exact ⟨[.br true, .br false, .br false, .br false, .br true, .res (strings_IndexByte_out (⟨#[48, 49, 50, 51, 52, 53, 54, 55, 56, 57, 97, 98, 99, 100, 101, 102]⟩ : ByteArray) (((rest.extract 1 ((rest.size : Int)).toNat).data.getD 0 0).toNat : Int) n), .res (strings_IndexByte_out (⟨#[48, 49, 50, 51, 52, 53, 54, 55, 56, 57, 97, 98, 99, 100, 101, 102]⟩ : ByteArray) (((rest.extract 1 ((rest.size : Int)).toNat).data.getD 1 0).toNat : Int) n2)], text_Unquote_S0_2_st s (((rest.extract 1 ((rest.size : Int)).toNat).extract 2 (((rest.extract 1 ((rest.size : Int)).toNat).size : Int)).toNat), (l ++ [(IntKind.u8.wrap (ior .i64 (ishl .i64 n 4) (iand .i64 n2 15)))])), .k0 (an_ (not_of h1) (an_ h2 (an_ h3 (an_ (not_of2 h4) (an_ (not_of2 h5) (an_ (rfl : false = false) (an_ h6 (an_ h7 (an_ h8 (an_ (strings_IndexByte_runs (⟨#[48, 49, 50, 51, 52, 53, 54, 55, 56, 57, 97, 98, 99, 100, 101, 102]⟩ : ByteArray) (((rest.extract 1 ((rest.size : Int)).toNat).data.getD 0 0).toNat : Int) _ h9) (an_ (rfl : true = true) (an_ (strings_IndexByte_runs (⟨#[48, 49, 50, 51, 52, 53, 54, 55, 56, 57, 97, 98, 99, 100, 101, 102]⟩ : ByteArray) (((rest.extract 1 ((rest.size : Int)).toNat).data.getD 1 0).toNat : Int) _ h10) (an_ (show (Nat.beq (l).length (l).length) = true from Nat.beq_refl _) (an_ h11 (an_ h12 trivial))))))))))))))) (by kernel_rfl), .same (by kernel_rfl)⟩
        · rcases cond_of h with ⟨h7, h⟩ | ⟨h7, h⟩
          · have h := some_of h
            subst h
            exact ⟨[.br true, .br false, .br false, .br false, .br false, .br true], (text_Unquote_S0_2_ex s ((⟨#[]⟩ : ByteArray), true)).2, .k0 (an_ (not_of h1) (an_ h2 (an_ h3 (an_ (not_of2 h4) (an_ (not_of2 h5) (an_ (rfl : false = false) (an_ h6 (an_ h7 trivial)))))))) (by kernel_rfl), .same (by kernel_rfl)⟩
          · obtain ⟨s2, h8, h⟩ := bind_of h
            rcases cond_of h with ⟨h9, h⟩ | ⟨h9, h⟩
            · have h := some_of h
              subst h
              exact ⟨[.br true, .br false, .br false, .br false, .br false, .br false, .res (text_Quote_out (strOf (List.take (l).length l)) s2), .br true], (text_Unquote_S0_2_ex s ((strOf (List.take (l).length l)), true)).2, .k0 (an_ (not_of h1) (an_ h2 (an_ h3 (an_ (not_of2 h4) (an_ (not_of2 h5) (an_ (rfl : false = false) (an_ h6 (an_ h7 (an_ (text_Quote_runs (strOf (List.take (l).length l)) _ h8) (an_ h9 trivial)))))))))) (by kernel_rfl), .same (by kernel_rfl)⟩
            · have h := some_of h
              subst h
              exact ⟨[.br true, .br false, .br false, .br false, .br false, .br false, .res (text_Quote_out (strOf (List.take (l).length l)) s2), .br false], (text_Unquote_S0_2_ex s ((⟨#[]⟩ : ByteArray), false)).2, .k0 (an_ (not_of h1) (an_ h2 (an_ h3 (an_ (not_of2 h4) (an_ (not_of2 h5) (an_ (rfl : false = false) (an_ h6 (an_ h7 (an_ (text_Quote_runs (strOf (List.take (l).length l)) _ h8) (an_ h9 trivial)))))))))) (by kernel_rfl), .same (by kernel_rfl)⟩
      · obtain ⟨h6, h⟩ := need_of h
        rcases cond_of h with ⟨h7, h⟩ | ⟨h7, h⟩
        · obtain ⟨h8, h⟩ := need_of h
          obtain ⟨h9, h⟩ := need_of h
          have h := some_of h
          subst h
          exact ⟨[.br true, .br false, .br true, .br true], text_Unquote_S0_2_st s (((rest.extract 1 ((rest.size : Int)).toNat).extract 1 (((rest.extract 1 ((rest.size : Int)).toNat).size : Int)).toNat), (l ++ [92])), .k0 (an_ (not_of h1) (an_ h2 (an_ h3 (an_ (not_of2 h4) (an_ (not_of h5) (an_ h6 (an_ h7 (an_ (show (Nat.beq (l).length (l).length) = true from Nat.beq_refl _) (an_ h8 (an_ h9 trivial)))))))))) (by kernel_rfl), .same (by kernel_rfl)⟩
        · rcases cond_of h with ⟨h8, h⟩ | ⟨h8, h⟩
          · obtain ⟨h9, h⟩ := need_of h
            obtain ⟨n, h10, h⟩ := bind_of h
            obtain ⟨n2, h11, h⟩ := bind_of h
            obtain ⟨h12, h⟩ := need_of h
            obtain ⟨h13, h⟩ := need_of h
            have h := some_of h
            subst h
            exact ⟨[.br true, .br false, .br true, .br false, .br true, .res (strings_IndexByte_out (⟨#[48, 49, 50, 51, 52, 53, 54, 55, 56, 57, 97, 98, 99, 100, 101, 102]⟩ : ByteArray) (((rest.extract 1 ((rest.size : Int)).toNat).data.getD 0 0).toNat : Int) n), .res (strings_IndexByte_out (⟨#[48, 49, 50, 51, 52, 53, 54, 55, 56, 57, 97, 98, 99, 100, 101, 102]⟩ : ByteArray) (((rest.extract 1 ((rest.size : Int)).toNat).data.getD 1 0).toNat : Int) n2)], text_Unquote_S0_2_st s (((rest.extract 1 ((rest.size : Int)).toNat).extract 2 (((rest.extract 1 ((rest.size : Int)).toNat).size : Int)).toNat), (l ++ [(IntKind.u8.wrap (ior .i64 (ishl .i64 n 4) (iand .i64 n2 15)))])), .k0 (an_ (not_of h1) (an_ h2 (an_ h3 (an_ (not_of2 h4) (an_ (not_of h5) (an_ h6 (an_ h7 (an_ h8 (an_ h6 (an_ h9 (an_ (strings_IndexByte_runs (⟨#[48, 49, 50, 51, 52, 53, 54, 55, 56, 57, 97, 98, 99, 100, 101, 102]⟩ : ByteArray) (((rest.extract 1 ((rest.size : Int)).toNat).data.getD 0 0).toNat : Int) _ h10) (an_ (rfl : true = true) (an_ (strings_IndexByte_runs (⟨#[48, 49, 50, 51, 52, 53, 54, 55, 56, 57, 97, 98, 99, 100, 101, 102]⟩ : ByteArray) (((rest.extract 1 ((rest.size : Int)).toNat).data.getD 1 0).toNat : Int) _ h11) (an_ (show (Nat.beq (l).length (l).length) = true from Nat.beq_refl _) (an_ h12 (an_ h13 trivial)))))))))))))))) (by kernel_rfl), .same (by kernel_rfl)⟩
          · rcases cond_of h with ⟨h9, h⟩ | ⟨h9, h⟩
            · have h := some_of h
              subst h
              exact ⟨[.br true, .br false, .br true, .br false, .br false, .br true], (text_Unquote_S0_2_ex s ((⟨#[]⟩ : ByteArray), true)).2, .k0 (an_ (not_of h1) (an_ h2 (an_ h3 (an_ (not_of2 h4) (an_ (not_of h5) (an_ h6 (an_ h7 (an_ h8 (an_ h9 trivial))))))))) (by kernel_rfl), .same (by kernel_rfl)⟩
            · obtain ⟨s2, h10, h⟩ := bind_of h
              rcases cond_of h with ⟨h11, h⟩ | ⟨h11, h⟩
              · have h := some_of h
                subst h
                exact ⟨[.br true, .br false, .br true, .br false, .br false, .br false, .res (text_Quote_out (strOf (List.take (l).length l)) s2), .br true], (text_Unquote_S0_2_ex s ((strOf (List.take (l).length l)), true)).2, .k0 (an_ (not_of h1) (an_ h2 (an_ h3 (an_ (not_of2 h4) (an_ (not_of h5) (an_ h6 (an_ h7 (an_ h8 (an_ h9 (an_ (text_Quote_runs (strOf (List.take (l).length l)) _ h10) (an_ h11 trivial))))))))))) (by kernel_rfl), .same (by kernel_rfl)⟩
              · have h := some_of h
                subst h
                exact ⟨[.br true, .br false, .br true, .br false, .br false, .br false, .res (text_Quote_out (strOf (List.take (l).length l)) s2), .br false], (text_Unquote_S0_2_ex s ((⟨#[]⟩ : ByteArray), false)).2, .k0 (an_ (not_of h1) (an_ h2 (an_ h3 (an_ (not_of2 h4) (an_ (not_of h5) (an_ h6 (an_ h7 (an_ h8 (an_ h9 (an_ (text_Quote_runs (strOf (List.take (l).length l)) _ h10) (an_ h11 trivial))))))))))) (by kernel_rfl), .same (by kernel_rfl)⟩
    · obtain ⟨h5, h⟩ := need_of h
      have h := some_of h
      subst h
      exact ⟨[.br true, .br true], text_Unquote_S0_2_st s ((rest.extract 1 ((rest.size : Int)).toNat), (l ++ [((rest.data.getD 0 0).toNat : Int)])), .k0 (an_ (not_of h1) (an_ h2 (an_ h3 (an_ (not_of h4) (an_ (show (Nat.beq (l).length (l).length) = true from Nat.beq_refl _) (an_ h5 trivial)))))) (by kernel_rfl), .same (by kernel_rfl)⟩
theorem text_Unquote_S0_2_runs (s : ByteArray) (s_ : ByteArray × List Int) (r_ : ByteArray × Bool) (h : runL (text_Unquote_S0_2_step s) s_ = some r_) : LRuns Tryd.prog (lEnv Tryd.prog cfg 16 0).nt 0 (.scope (scopeAt Tryd.prog 16 0)) (text_Unquote_S0_2_st s s_) (text_Unquote_S0_2_ex s r_).1 (text_Unquote_S0_2_ex s r_).2 :=
  scope_run h (text_Unquote_S0_2_ok s) (by intro r_; rcases r_ with ⟨r1, r2⟩ <;> simp [text_Unquote_S0_2_ex])
/-! ### text_Unquote -/
noncomputable def text_Unquote (s : ByteArray) : Option (ByteArray × Bool) :=
  (runL (text_Unquote_S0_2_step s) (s, [])).bind fun (s2, b) =>
  some (s2, b)
theorem text_Unquote_runs (s : ByteArray) (r_ : ByteArray × Bool) (h : text_Unquote s = some r_) : Runs Tryd.prog 16 [(.one (.pv (.str s)))] [] [] (text_Unquote_out s r_) := by
  unfold text_Unquote at h
  obtain ⟨⟨s2, b⟩, h1, h⟩ := bind_of h
  have h := some_of h
  subst h
  exact runs_of (C := cfg) (objs := []) (sc := [.lp (text_Unquote_S0_2_ex s (s2, b)).1 (text_Unquote_S0_2_ex s (s2, b)).2]) (.k0 (an_ (LRuns.coe (s0 := ⟨[(0, (.av (.one (.pv (.str s))))), (4, (.av (.one (.own 0 0 0 false)))), (5, (.av (.one (.pv (.str s)))))], [], [(0, (.live (.ints .u8 [])))]⟩) (text_Unquote_S0_2_runs s _ _ h1) ⟨⟨⟨_, rfl, .eq rfl⟩, ⟨_, rfl, .own (by first | rfl | (simp only [List.take_length]; done) | (simp only [List.take_length, List.length_append, List.drop_zero, List.map_append, List.map_take, List.map_drop, List.map_replicate, List.map_cons, List.map_nil, List.append_nil, List.nil_append]; done) | (simp; done))⟩, ⟨_, rfl, .eq rfl⟩, trivial⟩, trivial, ⟨⟨rfl, .eq rfl⟩, trivial⟩⟩) trivial) (by kernel_rfl))
/-! ### kinfolkref08_Unquote_out -/
def kinfolkref08_Unquote_out (s : ByteArray) : ByteArray × Bool → Res
  | (r1, r2) => ([(.one (.pv (.str r1))), (.one (.pv (.bool r2)))], [], [])
/-! ### kinfolkref08_digit_out -/
def kinfolkref08_digit_out (c : Int) : Int → Res
  | r1 => ([(.one (.pv (.int .u8 r1)))], [], [])
/-! ### kinfolkref08_digit -/
noncomputable def kinfolkref08_digit (c : Int) : Option (Int) :=
  bif (decide ((48 : Int) ≤ c)) then
    bif (decide ((c : Int) ≤ 57)) then
      some (isub .u8 c 48)
    else
      bif (decide ((97 : Int) ≤ c)) then
        bif (decide ((c : Int) ≤ 102)) then
          some (iadd .u8 (isub .u8 c 97) 10)
        else
          some 16
      else
        some 16
  else
    bif (decide ((97 : Int) ≤ c)) then
      bif (decide ((c : Int) ≤ 102)) then
        some (iadd .u8 (isub .u8 c 97) 10)
      else
        some 16
    else
      some 16
theorem kinfolkref08_digit_runs (c : Int) (r_ : Int) (h : kinfolkref08_digit c = some r_) : Runs Tryd.prog 28 [(.one (.pv (.int .u8 c)))] [] [] (kinfolkref08_digit_out c r_) := by
  unfold kinfolkref08_digit at h
  rcases cond_of h with ⟨h1, h⟩ | ⟨h1, h⟩
  · rcases cond_of h with ⟨h2, h⟩ | ⟨h2, h⟩
    · have h := some_of h
      subst h
      exact runs_of (C := cfg) (objs := []) (sc := [.br true, .br true]) (.k0 (an_ h1 (an_ h2 trivial)) (by kernel_rfl))
    · rcases cond_of h with ⟨h3, h⟩ | ⟨h3, h⟩
      · rcases cond_of h with ⟨h4, h⟩ | ⟨h4, h⟩
        · have h := some_of h
          subst h
          exact runs_of (C := cfg) (objs := []) (sc := [.br true, .br false, .br true, .br true]) (.k0 (an_ h1 (an_ h2 (an_ h3 (an_ h4 trivial)))) (by kernel_rfl))
        · have h := some_of h
          subst h
          exact runs_of (C := cfg) (objs := []) (sc := [.br true, .br false, .br true, .br false]) (.k0 (an_ h1 (an_ h2 (an_ h3 (an_ h4 trivial)))) (by kernel_rfl))
      · have h := some_of h
        subst h
        exact runs_of (C := cfg) (objs := []) (sc := [.br true, .br false, .br false, .br false]) (.k0 (an_ h1 (an_ h2 (an_ h3 (an_ (rfl : false = false) trivial)))) (by kernel_rfl))
  · rcases cond_of h with ⟨h2, h⟩ | ⟨h2, h⟩
    · rcases cond_of h with ⟨h3, h⟩ | ⟨h3, h⟩
      · have h := some_of h
        subst h
        exact runs_of (C := cfg) (objs := []) (sc := [.br false, .br false, .br true, .br true]) (.k0 (an_ h1 (an_ (rfl : false = false) (an_ h2 (an_ h3 trivial)))) (by kernel_rfl))
      · have h := some_of h
        subst h
        exact runs_of (C := cfg) (objs := []) (sc := [.br false, .br false, .br true, .br false]) (.k0 (an_ h1 (an_ (rfl : false = false) (an_ h2 (an_ h3 trivial)))) (by kernel_rfl))
    · have h := some_of h
      subst h
      exact runs_of (C := cfg) (objs := []) (sc := [.br false, .br false, .br false, .br false]) (.k0 (an_ h1 (an_ (rfl : false = false) (an_ h2 (an_ (rfl : false = false) trivial)))) (by kernel_rfl))
/-! ### kinfolkref08_Unquote_L0_2 -/
def kinfolkref08_Unquote_L0_2_st (s : ByteArray) : Int × List Int → St
  | (i, l) => ⟨[(0, (.av (.one (.pv (.str s))))), (4, (.av (.one (.own 0 0 (l).length false)))), (5, (.av (.one (.pv (.int .i64 i)))))], [], [(0, (.live (.ints .u8 l)))]⟩
def kinfolkref08_Unquote_L0_2_ex (s : ByteArray) : (ByteArray) ⊕ (List Int) → Ex × St
  | .inl r1 => (.ret, ⟨[(2, (.av (.one (.pv (.str r1))))), (3, (.av (.one (.pv (.bool false)))))], [], []⟩)
  | .inr r1 => ((.exit 0), ⟨[(0, (.av (.one (.pv (.str s))))), (4, (.av (.one (.own 0 0 (r1).length false))))], [], [(0, (.live (.ints .u8 r1)))]⟩)
noncomputable def kinfolkref08_Unquote_L0_2_step (s : ByteArray) : Int × List Int → Option ((Int × List Int) ⊕ ((ByteArray) ⊕ (List Int)))
  | (i, l) =>
  bif (decide ((i : Int) < (s.size : Int))) then
    bif decide ((0 : Int) ≤ i) && decide ((i : Int) < (s.size : Int)) then
    bif (decide ((((s.data.getD (i).toNat 0).toNat : Int) : Int) = 92)) then
      bif (decide (((iadd .i64 i 1) : Int) < (s.size : Int))) then
        bif decide ((0 : Int) ≤ (iadd .i64 i 1)) && decide (((iadd .i64 i 1) : Int) < (s.size : Int)) then
        bif (decide ((((s.data.getD ((iadd .i64 i 1)).toNat 0).toNat : Int) : Int) = 92)) then
          bif fits ((l ++ [92])).length then
          some (.inl ((iadd .i64 i 2), (l ++ [92])))
          else none
        else
          bif (decide (((s.size : Int) : Int) ≤ (iadd .i64 i 2))) then
            some (.inr (.inl (⟨#[]⟩ : ByteArray)))
          else
            (kinfolkref08_digit ((s.data.getD ((iadd .i64 i 1)).toNat 0).toNat : Int)).bind fun n =>
            bif (decide ((15 : Int) < n)) then
              some (.inr (.inl (⟨#[]⟩ : ByteArray)))
            else
              bif decide ((0 : Int) ≤ (iadd .i64 i 2)) && decide (((iadd .i64 i 2) : Int) < (s.size : Int)) then
              (kinfolkref08_digit ((s.data.getD ((iadd .i64 i 2)).toNat 0).toNat : Int)).bind fun n2 =>
              bif (decide ((15 : Int) < n2)) then
                some (.inr (.inl (⟨#[]⟩ : ByteArray)))
              else
                bif fits ((l ++ [(iadd .u8 (imul .u8 16 n) n2)])).length then
                some (.inl ((iadd .i64 i 3), (l ++ [(iadd .u8 (imul .u8 16 n) n2)])))
                else none
              else none
        else none
      else
        bif (decide (((s.size : Int) : Int) ≤ (iadd .i64 i 2))) then
          some (.inr (.inl (⟨#[]⟩ : ByteArray)))
        else
          bif decide ((0 : Int) ≤ (iadd .i64 i 1)) && decide (((iadd .i64 i 1) : Int) < (s.size : Int)) then
          (kinfolkref08_digit ((s.data.getD ((iadd .i64 i 1)).toNat 0).toNat : Int)).bind fun n =>
          bif (decide ((15 : Int) < n)) then
            some (.inr (.inl (⟨#[]⟩ : ByteArray)))
          else
            bif decide ((0 : Int) ≤ (iadd .i64 i 2)) && decide (((iadd .i64 i 2) : Int) < (s.size : Int)) then
            (kinfolkref08_digit ((s.data.getD ((iadd .i64 i 2)).toNat 0).toNat : Int)).bind fun n2 =>
            bif (decide ((15 : Int) < n2)) then
              some (.inr (.inl (⟨#[]⟩ : ByteArray)))
            else
              bif fits ((l ++ [(iadd .u8 (imul .u8 16 n) n2)])).length then
              some (.inl ((iadd .i64 i 3), (l ++ [(iadd .u8 (imul .u8 16 n) n2)])))
              else none
            else none
          else none
    else
      bif fits ((l ++ [((s.data.getD (i).toNat 0).toNat : Int)])).length then
      some (.inl ((iadd .i64 i 1), (l ++ [((s.data.getD (i).toNat 0).toNat : Int)])))
      else none
    else none
  else
    some (.inr (.inr l))
theorem kinfolkref08_Unquote_L0_2_ok (s : ByteArray) (s_ : Int × List Int) (z_ : (Int × List Int) ⊕ ((ByteArray) ⊕ (List Int))) (h : kinfolkref08_Unquote_L0_2_step s s_ = some z_) : RoundOk Tryd.prog cfg 17 0 (loopAt Tryd.prog 17 0) (kinfolkref08_Unquote_L0_2_st s) (kinfolkref08_Unquote_L0_2_ex s) s_ z_ := by
  rcases s_ with ⟨i, l⟩
  rcases cond_of h with ⟨h1, h⟩ | ⟨h1, h⟩
  · obtain ⟨h2, h⟩ := need_of h
    rcases cond_of h with ⟨h3, h⟩ | ⟨h3, h⟩
    · rcases cond_of h with ⟨h4, h⟩ | ⟨h4, h⟩
      · obtain ⟨h5, h⟩ := need_of h
        rcases cond_of h with ⟨h6, h⟩ | ⟨h6, h⟩
        · obtain ⟨h7, h⟩ := need_of h
          have h := some_of h
          subst h
          exact ⟨[.br true, .br false, .br true, .br true], kinfolkref08_Unquote_L0_2_st s ((iadd .i64 i 2), (l ++ [92])), .k0 (an_ h1 (an_ h2 (an_ (not_of2 h3) (an_ h4 (an_ h5 (an_ h6 (an_ (show (Nat.beq (l).length (l).length) = true from Nat.beq_refl _) (an_ h7 trivial)))))))) (by kernel_rfl), .same (by kernel_rfl)⟩
        · rcases cond_of h with ⟨h7, h⟩ | ⟨h7, h⟩
          · have h := some_of h
            subst h
            exact ⟨[.br true, .br false, .br true, .br false, .br true, .br true, .br true], (kinfolkref08_Unquote_L0_2_ex s (.inl (⟨#[]⟩ : ByteArray))).2, .k0 (an_ h1 (an_ h2 (an_ (not_of2 h3) (an_ h4 (an_ h5 (an_ h6 (an_ h7 (an_ (rfl : true = true) (an_ (rfl : true = true) trivial))))))))) (by kernel_rfl), .same (by kernel_rfl)⟩
          · obtain ⟨n, h8, h⟩ := bind_of h
            rcases cond_of h with ⟨h9, h⟩ | ⟨h9, h⟩
            · have h := some_of h
              subst h
              exact ⟨[.br true, .br false, .br true, .br false, .br false, .res (kinfolkref08_digit_out ((s.data.getD ((iadd .i64 i 1)).toNat 0).toNat : Int) n), .br true, .br true], (kinfolkref08_Unquote_L0_2_ex s (.inl (⟨#[]⟩ : ByteArray))).2, .k0 (an_ h1 (an_ h2 (an_ (not_of2 h3) (an_ h4 (an_ h5 (an_ h6 (an_ h7 (an_ h5 (an_ (kinfolkref08_digit_runs ((s.data.getD ((iadd .i64 i 1)).toNat 0).toNat : Int) _ h8) (an_ h9 (an_ (rfl : true = true) trivial))))))))))) (by kernel_rfl), .same (by kernel_rfl)⟩
            · obtain ⟨h10, h⟩ := need_of h
              obtain ⟨n2, h11, h⟩ := bind_of h
              rcases cond_of h with ⟨h12, h⟩ | ⟨h12, h⟩
              · have h := some_of h
                subst h
                exact ⟨[.br true, .br false, .br true, .br false, .br false, .res (kinfolkref08_digit_out ((s.data.getD ((iadd .i64 i 1)).toNat 0).toNat : Int) n), .br false, .res (kinfolkref08_digit_out ((s.data.getD ((iadd .i64 i 2)).toNat 0).toNat : Int) n2), .br true], (kinfolkref08_Unquote_L0_2_ex s (.inl (⟨#[]⟩ : ByteArray))).2, .k0 (an_ h1 (an_ h2 (an_ (not_of2 h3) (an_ h4 (an_ h5 (an_ h6 (an_ h7 (an_ h5 (an_ (kinfolkref08_digit_runs ((s.data.getD ((iadd .i64 i 1)).toNat 0).toNat : Int) _ h8) (an_ h9 (an_ h10 (an_ (kinfolkref08_digit_runs ((s.data.getD ((iadd .i64 i 2)).toNat 0).toNat : Int) _ h11) (an_ h12 trivial))))))))))))) (by kernel_rfl), .same (by kernel_rfl)⟩
              · obtain ⟨h13, h⟩ := need_of h
                have h := some_of h
                subst h
                exact ⟨[.br true, .br false, .br true, .br false, .br false, .res (kinfolkref08_digit_out ((s.data.getD ((iadd .i64 i 1)).toNat 0).toNat : Int) n), .br false, .res (kinfolkref08_digit_out ((s.data.getD ((iadd .i64 i 2)).toNat 0).toNat : Int) n2), .br false, .res (kinfolkref08_digit_out ((s.data.getD ((iadd .i64 i 1)).toNat 0).toNat : Int) n), .res (kinfolkref08_digit_out ((s.data.getD ((iadd .i64 i 2)).toNat 0).toNat : Int) n2)], kinfolkref08_Unquote_L0_2_st s ((iadd .i64 i 3), (l ++ [(iadd .u8 (imul .u8 16 n) n2)])), .k0 (an_ h1 (an_ h2 (an_ (not_of2 h3) (an_ h4 (an_ h5 (an_ h6 (an_ h7 (an_ h5 (an_ (kinfolkref08_digit_runs ((s.data.getD ((iadd .i64 i 1)).toNat 0).toNat : Int) _ h8) (an_ h9 (an_ h10 (an_ (kinfolkref08_digit_runs ((s.data.getD ((iadd .i64 i 2)).toNat 0).toNat : Int) _ h11) (an_ h12 (an_ h5 (an_ h10 (an_ (kinfolkref08_digit_runs ((s.data.getD ((iadd .i64 i 1)).toNat 0).toNat : Int) _ h8) (an_ (kinfolkref08_digit_runs ((s.data.getD ((iadd .i64 i 2)).toNat 0).toNat : Int) _ h11) (an_ (show (Nat.beq (l).length (l).length) = true from Nat.beq_refl _) (an_ h13 trivial))))))))))))))))))) (by kernel_rfl), .same (by kernel_rfl)⟩
      · rcases cond_of h with ⟨h5, h⟩ | ⟨h5, h⟩
        · have h := some_of h
          subst h
          exact ⟨[.br true, .br false, .br false, .br false, .br true, .br true, .br true], (kinfolkref08_Unquote_L0_2_ex s (.inl (⟨#[]⟩ : ByteArray))).2, .k0 (an_ h1 (an_ h2 (an_ (not_of2 h3) (an_ h4 (an_ (rfl : false = false) (an_ h5 (an_ (rfl : true = true) (an_ (rfl : true = true) trivial)))))))) (by kernel_rfl), .same (by kernel_rfl)⟩
        · obtain ⟨h6, h⟩ := need_of h
          obtain ⟨n, h7, h⟩ := bind_of h
          rcases cond_of h with ⟨h8, h⟩ | ⟨h8, h⟩
          · have h := some_of h
            subst h
            exact ⟨[.br true, .br false, .br false, .br false, .br false, .res (kinfolkref08_digit_out ((s.data.getD ((iadd .i64 i 1)).toNat 0).toNat : Int) n), .br true, .br true], (kinfolkref08_Unquote_L0_2_ex s (.inl (⟨#[]⟩ : ByteArray))).2, .k0 (an_ h1 (an_ h2 (an_ (not_of2 h3) (an_ h4 (an_ (rfl : false = false) (an_ h5 (an_ h6 (an_ (kinfolkref08_digit_runs ((s.data.getD ((iadd .i64 i 1)).toNat 0).toNat : Int) _ h7) (an_ h8 (an_ (rfl : true = true) trivial)))))))))) (by kernel_rfl), .same (by kernel_rfl)⟩
          · obtain ⟨h9, h⟩ := need_of h
            obtain ⟨n2, h10, h⟩ := bind_of h
            rcases cond_of h with ⟨h11, h⟩ | ⟨h11, h⟩
            · have h := some_of h
              subst h
              exact ⟨[.br true, .br false, .br false, .br false, .br false, .res (kinfolkref08_digit_out ((s.data.getD ((iadd .i64 i 1)).toNat 0).toNat : Int) n), .br false, .res (kinfolkref08_digit_out ((s.data.getD ((iadd .i64 i 2)).toNat 0).toNat : Int) n2), .br true], (kinfolkref08_Unquote_L0_2_ex s (.inl (⟨#[]⟩ : ByteArray))).2, .k0 (an_ h1 (an_ h2 (an_ (not_of2 h3) (an_ h4 (an_ (rfl : false = false) (an_ h5 (an_ h6 (an_ (kinfolkref08_digit_runs ((s.data.getD ((iadd .i64 i 1)).toNat 0).toNat : Int) _ h7) (an_ h8 (an_ h9 (an_ (kinfolkref08_digit_runs ((s.data.getD ((iadd .i64 i 2)).toNat 0).toNat : Int) _ h10) (an_ h11 trivial)))))))))))) (by kernel_rfl), .same (by kernel_rfl)⟩
            · obtain ⟨h12, h⟩ := need_of h
              have h := some_of h
              subst h
              exact ⟨[.br true, .br false, .br false, .br false, .br false, .res (kinfolkref08_digit_out ((s.data.getD ((iadd .i64 i 1)).toNat 0).toNat : Int) n), .br false, .res (kinfolkref08_digit_out ((s.data.getD ((iadd .i64 i 2)).toNat 0).toNat : Int) n2), .br false, .res (kinfolkref08_digit_out ((s.data.getD ((iadd .i64 i 1)).toNat 0).toNat : Int) n), .res (kinfolkref08_digit_out ((s.data.getD ((iadd .i64 i 2)).toNat 0).toNat : Int) n2)], kinfolkref08_Unquote_L0_2_st s ((iadd .i64 i 3), (l ++ [(iadd .u8 (imul .u8 16 n) n2)])), .k0 (an_ h1 (an_ h2 (an_ (not_of2 h3) (an_ h4 (an_ (rfl : false = false) (an_ h5 (an_ h6 (an_ (kinfolkref08_digit_runs ((s.data.getD ((iadd .i64 i 1)).toNat 0).toNat : Int) _ h7) (an_ h8 (an_ h9 (an_ (kinfolkref08_digit_runs ((s.data.getD ((iadd .i64 i 2)).toNat 0).toNat : Int) _ h10) (an_ h11 (an_ h6 (an_ h9 (an_ (kinfolkref08_digit_runs ((s.data.getD ((iadd .i64 i 1)).toNat 0).toNat : Int) _ h7) (an_ (kinfolkref08_digit_runs ((s.data.getD ((iadd .i64 i 2)).toNat 0).toNat : Int) _ h10) (an_ (show (Nat.beq (l).length (l).length) = true from Nat.beq_refl _) (an_ h12 trivial)))))))))))))))))) (by kernel_rfl), .same (by kernel_rfl)⟩
    · obtain ⟨h4, h⟩ := need_of h
      have h := some_of h
      subst h
      exact ⟨[.br true, .br true], kinfolkref08_Unquote_L0_2_st s ((iadd .i64 i 1), (l ++ [((s.data.getD (i).toNat 0).toNat : Int)])), .k0 (an_ h1 (an_ h2 (an_ (not_of h3) (an_ h2 (an_ (show (Nat.beq (l).length (l).length) = true from Nat.beq_refl _) (an_ h4 trivial)))))) (by kernel_rfl), .same (by kernel_rfl)⟩
  · have h := some_of h
    subst h
    exact ⟨[.br false], ⟨[(11, (.av (.one (.pv (.bool false))))), (0, (.av (.one (.pv (.str s))))), (4, (.av (.one (.own 0 0 (l).length false)))), (5, (.av (.one (.pv (.int .i64 i))))), (11, (.av (.one (.pv (.bool (decide ((i : Int) < (s.size : Int))))))))], [], [(0, (.live (.ints .u8 l)))]⟩, .k0 (an_ h1 trivial) (by kernel_rfl), ⟨⟨⟨_, rfl, .eq rfl⟩, ⟨_, rfl, .eq rfl⟩, trivial⟩, trivial, ⟨⟨rfl, .eq rfl⟩, trivial⟩⟩⟩
theorem kinfolkref08_Unquote_L0_2_runs (s : ByteArray) (s_ : Int × List Int) (r_ : (ByteArray) ⊕ (List Int)) (h : runL (kinfolkref08_Unquote_L0_2_step s) s_ = some r_) : LRuns Tryd.prog (lEnv Tryd.prog cfg 17 0).nt 0 (.loop (loopAt Tryd.prog 17 0)) (kinfolkref08_Unquote_L0_2_st s s_) (kinfolkref08_Unquote_L0_2_ex s r_).1 (kinfolkref08_Unquote_L0_2_ex s r_).2 :=
  loop_run h (kinfolkref08_Unquote_L0_2_ok s) (by intro r_; rcases r_ with r1 | r1 <;> simp [kinfolkref08_Unquote_L0_2_ex])
/-! ### kinfolkref08_Quote_out -/
def kinfolkref08_Quote_out (s : ByteArray) : ByteArray → Res
  | r1 => ([(.one (.pv (.str r1)))], [], [])
/-! ### kinfolkref08_Quote_L0 -/
def kinfolkref08_Quote_L0_st (s : ByteArray) : ByteArray × Int → St
  | (out, i) => ⟨[(0, (.av (.one (.pv (.str s))))), (3, (.av (.one (.pv (.str out))))), (4, (.av (.one (.pv (.int .i64 i)))))], [], []⟩
def kinfolkref08_Quote_L0_ex (s : ByteArray) : ByteArray → Ex × St
  | r1 => ((.exit 0), ⟨[(3, (.av (.one (.pv (.str r1)))))], [], []⟩)
noncomputable def kinfolkref08_Quote_L0_step (s : ByteArray) : ByteArray × Int → Option ((ByteArray × Int) ⊕ (ByteArray))
  | (out, i) =>
  bif (decide ((i : Int) < (s.size : Int))) then
    bif decide ((0 : Int) ≤ i) && decide ((i : Int) < (s.size : Int)) then
    bif (decide ((((s.data.getD (i).toNat 0).toNat : Int) : Int) = 92)) then
      bif decide (out.size + (⟨#[92, 92]⟩ : ByteArray).size ≤ 140737488355328) then
      some (.inl ((out ++ (⟨#[92, 92]⟩ : ByteArray)), (iadd .i64 i 1)))
      else none
    else
      bif (decide ((((s.data.getD (i).toNat 0).toNat : Int) : Int) < 33)) then
        bif decide ((0 : Int) ≤ (iquo .u8 ((s.data.getD (i).toNat 0).toNat : Int) 16)) && decide (((iquo .u8 ((s.data.getD (i).toNat 0).toNat : Int) 16) : Int) ≤ (iadd .u8 (iquo .u8 ((s.data.getD (i).toNat 0).toNat : Int) 16) 1)) && decide (((iadd .u8 (iquo .u8 ((s.data.getD (i).toNat 0).toNat : Int) 16) 1) : Int) ≤ ((⟨#[48, 49, 50, 51, 52, 53, 54, 55, 56, 57, 97, 98, 99, 100, 101, 102]⟩ : ByteArray).size : Int)) then
        bif decide ((⟨#[92]⟩ : ByteArray).size + ((⟨#[48, 49, 50, 51, 52, 53, 54, 55, 56, 57, 97, 98, 99, 100, 101, 102]⟩ : ByteArray).extract ((iquo .u8 ((s.data.getD (i).toNat 0).toNat : Int) 16)).toNat ((iadd .u8 (iquo .u8 ((s.data.getD (i).toNat 0).toNat : Int) 16) 1)).toNat).size ≤ 140737488355328) then
        bif decide ((0 : Int) ≤ (irem .u8 ((s.data.getD (i).toNat 0).toNat : Int) 16)) && decide (((irem .u8 ((s.data.getD (i).toNat 0).toNat : Int) 16) : Int) ≤ (iadd .u8 (irem .u8 ((s.data.getD (i).toNat 0).toNat : Int) 16) 1)) && decide (((iadd .u8 (irem .u8 ((s.data.getD (i).toNat 0).toNat : Int) 16) 1) : Int) ≤ ((⟨#[48, 49, 50, 51, 52, 53, 54, 55, 56, 57, 97, 98, 99, 100, 101, 102]⟩ : ByteArray).size : Int)) then
        bif decide (((⟨#[92]⟩ : ByteArray) ++ ((⟨#[48, 49, 50, 51, 52, 53, 54, 55, 56, 57, 97, 98, 99, 100, 101, 102]⟩ : ByteArray).extract ((iquo .u8 ((s.data.getD (i).toNat 0).toNat : Int) 16)).toNat ((iadd .u8 (iquo .u8 ((s.data.getD (i).toNat 0).toNat : Int) 16) 1)).toNat)).size + ((⟨#[48, 49, 50, 51, 52, 53, 54, 55, 56, 57, 97, 98, 99, 100, 101, 102]⟩ : ByteArray).extract ((irem .u8 ((s.data.getD (i).toNat 0).toNat : Int) 16)).toNat ((iadd .u8 (irem .u8 ((s.data.getD (i).toNat 0).toNat : Int) 16) 1)).toNat).size ≤ 140737488355328) then
        bif decide (out.size + (((⟨#[92]⟩ : ByteArray) ++ ((⟨#[48, 49, 50, 51, 52, 53, 54, 55, 56, 57, 97, 98, 99, 100, 101, 102]⟩ : ByteArray).extract ((iquo .u8 ((s.data.getD (i).toNat 0).toNat : Int) 16)).toNat ((iadd .u8 (iquo .u8 ((s.data.getD (i).toNat 0).toNat : Int) 16) 1)).toNat)) ++ ((⟨#[48, 49, 50, 51, 52, 53, 54, 55, 56, 57, 97, 98, 99, 100, 101, 102]⟩ : ByteArray).extract ((irem .u8 ((s.data.getD (i).toNat 0).toNat : Int) 16)).toNat ((iadd .u8 (irem .u8 ((s.data.getD (i).toNat 0).toNat : Int) 16) 1)).toNat)).size ≤ 140737488355328) then
        some (.inl ((out ++ (((⟨#[92]⟩ : ByteArray) ++ ((⟨#[48, 49, 50, 51, 52, 53, 54, 55, 56, 57, 97, 98, 99, 100, 101, 102]⟩ : ByteArray).extract ((iquo .u8 ((s.data.getD (i).toNat 0).toNat : Int) 16)).toNat ((iadd .u8 (iquo .u8 ((s.data.getD (i).toNat 0).toNat : Int) 16) 1)).toNat)) ++ ((⟨#[48, 49, 50, 51, 52, 53, 54, 55, 56, 57, 97, 98, 99, 100, 101, 102]⟩ : ByteArray).extract ((irem .u8 ((s.data.getD (i).toNat 0).toNat : Int) 16)).toNat ((iadd .u8 (irem .u8 ((s.data.getD (i).toNat 0).toNat : Int) 16) 1)).toNat))), (iadd .i64 i 1)))
        else none
        else none
        else none
        else none
        else none
      else
        bif (decide ((126 : Int) < ((s.data.getD (i).toNat 0).toNat : Int))) then
          bif decide ((0 : Int) ≤ (iquo .u8 ((s.data.getD (i).toNat 0).toNat : Int) 16)) && decide (((iquo .u8 ((s.data.getD (i).toNat 0).toNat : Int) 16) : Int) ≤ (iadd .u8 (iquo .u8 ((s.data.getD (i).toNat 0).toNat : Int) 16) 1)) && decide (((iadd .u8 (iquo .u8 ((s.data.getD (i).toNat 0).toNat : Int) 16) 1) : Int) ≤ ((⟨#[48, 49, 50, 51, 52, 53, 54, 55, 56, 57, 97, 98, 99, 100, 101, 102]⟩ : ByteArray).size : Int)) then
          bif decide ((⟨#[92]⟩ : ByteArray).size + ((⟨#[48, 49, 50, 51, 52, 53, 54, 55, 56, 57, 97, 98, 99, 100, 101, 102]⟩ : ByteArray).extract ((iquo .u8 ((s.data.getD (i).toNat 0).toNat : Int) 16)).toNat ((iadd .u8 (iquo .u8 ((s.data.getD (i).toNat 0).toNat : Int) 16) 1)).toNat).size ≤ 140737488355328) then
          bif decide ((0 : Int) ≤ (irem .u8 ((s.data.getD (i).toNat 0).toNat : Int) 16)) && decide (((irem .u8 ((s.data.getD (i).toNat 0).toNat : Int) 16) : Int) ≤ (iadd .u8 (irem .u8 ((s.data.getD (i).toNat 0).toNat : Int) 16) 1)) && decide (((iadd .u8 (irem .u8 ((s.data.getD (i).toNat 0).toNat : Int) 16) 1) : Int) ≤ ((⟨#[48, 49, 50, 51, 52, 53, 54, 55, 56, 57, 97, 98, 99, 100, 101, 102]⟩ : ByteArray).size : Int)) then
          bif decide (((⟨#[92]⟩ : ByteArray) ++ ((⟨#[48, 49, 50, 51, 52, 53, 54, 55, 56, 57, 97, 98, 99, 100, 101, 102]⟩ : ByteArray).extract ((iquo .u8 ((s.data.getD (i).toNat 0).toNat : Int) 16)).toNat ((iadd .u8 (iquo .u8 ((s.data.getD (i).toNat 0).toNat : Int) 16) 1)).toNat)).size + ((⟨#[48, 49, 50, 51, 52, 53, 54, 55, 56, 57, 97, 98, 99, 100, 101, 102]⟩ : ByteArray).extract ((irem .u8 ((s.data.getD (i).toNat 0).toNat : Int) 16)).toNat ((iadd .u8 (irem .u8 ((s.data.getD (i).toNat 0).toNat : Int) 16) 1)).toNat).size ≤ 140737488355328) then
          bif decide (out.size + (((⟨#[92]⟩ : ByteArray) ++ ((⟨#[48, 49, 50, 51, 52, 53, 54, 55, 56, 57, 97, 98, 99, 100, 101, 102]⟩ : ByteArray).extract ((iquo .u8 ((s.data.getD (i).toNat 0).toNat : Int) 16)).toNat ((iadd .u8 (iquo .u8 ((s.data.getD (i).toNat 0).toNat : Int) 16) 1)).toNat)) ++ ((⟨#[48, 49, 50, 51, 52, 53, 54, 55, 56, 57, 97, 98, 99, 100, 101, 102]⟩ : ByteArray).extract ((irem .u8 ((s.data.getD (i).toNat 0).toNat : Int) 16)).toNat ((iadd .u8 (irem .u8 ((s.data.getD (i).toNat 0).toNat : Int) 16) 1)).toNat)).size ≤ 140737488355328) then
          some (.inl ((out ++ (((⟨#[92]⟩ : ByteArray) ++ ((⟨#[48, 49, 50, 51, 52, 53, 54, 55, 56, 57, 97, 98, 99, 100, 101, 102]⟩ : ByteArray).extract ((iquo .u8 ((s.data.getD (i).toNat 0).toNat : Int) 16)).toNat ((iadd .u8 (iquo .u8 ((s.data.getD (i).toNat 0).toNat : Int) 16) 1)).toNat)) ++ ((⟨#[48, 49, 50, 51, 52, 53, 54, 55, 56, 57, 97, 98, 99, 100, 101, 102]⟩ : ByteArray).extract ((irem .u8 ((s.data.getD (i).toNat 0).toNat : Int) 16)).toNat ((iadd .u8 (irem .u8 ((s.data.getD (i).toNat 0).toNat : Int) 16) 1)).toNat))), (iadd .i64 i 1)))
          else none
          else none
          else none
          else none
          else none
        else
          bif (decide ((((s.data.getD (i).toNat 0).toNat : Int) : Int) = 34)) then
            bif decide ((0 : Int) ≤ (iquo .u8 ((s.data.getD (i).toNat 0).toNat : Int) 16)) && decide (((iquo .u8 ((s.data.getD (i).toNat 0).toNat : Int) 16) : Int) ≤ (iadd .u8 (iquo .u8 ((s.data.getD (i).toNat 0).toNat : Int) 16) 1)) && decide (((iadd .u8 (iquo .u8 ((s.data.getD (i).toNat 0).toNat : Int) 16) 1) : Int) ≤ ((⟨#[48, 49, 50, 51, 52, 53, 54, 55, 56, 57, 97, 98, 99, 100, 101, 102]⟩ : ByteArray).size : Int)) then
            bif decide ((⟨#[92]⟩ : ByteArray).size + ((⟨#[48, 49, 50, 51, 52, 53, 54, 55, 56, 57, 97, 98, 99, 100, 101, 102]⟩ : ByteArray).extract ((iquo .u8 ((s.data.getD (i).toNat 0).toNat : Int) 16)).toNat ((iadd .u8 (iquo .u8 ((s.data.getD (i).toNat 0).toNat : Int) 16) 1)).toNat).size ≤ 140737488355328) then
            bif decide ((0 : Int) ≤ (irem .u8 ((s.data.getD (i).toNat 0).toNat : Int) 16)) && decide (((irem .u8 ((s.data.getD (i).toNat 0).toNat : Int) 16) : Int) ≤ (iadd .u8 (irem .u8 ((s.data.getD (i).toNat 0).toNat : Int) 16) 1)) && decide (((iadd .u8 (irem .u8 ((s.data.getD (i).toNat 0).toNat : Int) 16) 1) : Int) ≤ ((⟨#[48, 49, 50, 51, 52, 53, 54, 55, 56, 57, 97, 98, 99, 100, 101, 102]⟩ : ByteArray).size : Int)) then
            bif decide (((⟨#[92]⟩ : ByteArray) ++ ((⟨#[48, 49, 50, 51, 52, 53, 54, 55, 56, 57, 97, 98, 99, 100, 101, 102]⟩ : ByteArray).extract ((iquo .u8 ((s.data.getD (i).toNat 0).toNat : Int) 16)).toNat ((iadd .u8 (iquo .u8 ((s.data.getD (i).toNat 0).toNat : Int) 16) 1)).toNat)).size + ((⟨#[48, 49, 50, 51, 52, 53, 54, 55, 56, 57, 97, 98, 99, 100, 101, 102]⟩ : ByteArray).extract ((irem .u8 ((s.data.getD (i).toNat 0).toNat : Int) 16)).toNat ((iadd .u8 (irem .u8 ((s.data.getD (i).toNat 0).toNat : Int) 16) 1)).toNat).size ≤ 140737488355328) then
            bif decide (out.size + (((⟨#[92]⟩ : ByteArray) ++ ((⟨#[48, 49, 50, 51, 52, 53, 54, 55, 56, 57, 97, 98, 99, 100, 101, 102]⟩ : ByteArray).extract ((iquo .u8 ((s.data.getD (i).toNat 0).toNat : Int) 16)).toNat ((iadd .u8 (iquo .u8 ((s.data.getD (i).toNat 0).toNat : Int) 16) 1)).toNat)) ++ ((⟨#[48, 49, 50, 51, 52, 53, 54, 55, 56, 57, 97, 98, 99, 100, 101, 102]⟩ : ByteArray).extract ((irem .u8 ((s.data.getD (i).toNat 0).toNat : Int) 16)).toNat ((iadd .u8 (irem .u8 ((s.data.getD (i).toNat 0).toNat : Int) 16) 1)).toNat)).size ≤ 140737488355328) then
            some (.inl ((out ++ (((⟨#[92]⟩ : ByteArray) ++ ((⟨#[48, 49, 50, 51, 52, 53, 54, 55, 56, 57, 97, 98, 99, 100, 101, 102]⟩ : ByteArray).extract ((iquo .u8 ((s.data.getD (i).toNat 0).toNat : Int) 16)).toNat ((iadd .u8 (iquo .u8 ((s.data.getD (i).toNat 0).toNat : Int) 16) 1)).toNat)) ++ ((⟨#[48, 49, 50, 51, 52, 53, 54, 55, 56, 57, 97, 98, 99, 100, 101, 102]⟩ : ByteArray).extract ((irem .u8 ((s.data.getD (i).toNat 0).toNat : Int) 16)).toNat ((iadd .u8 (irem .u8 ((s.data.getD (i).toNat 0).toNat : Int) 16) 1)).toNat))), (iadd .i64 i 1)))
            else none
            else none
            else none
            else none
            else none
          else
            bif (decide ((((s.data.getD (i).toNat 0).toNat : Int) : Int) = 59)) then
              bif decide ((0 : Int) ≤ (iquo .u8 ((s.data.getD (i).toNat 0).toNat : Int) 16)) && decide (((iquo .u8 ((s.data.getD (i).toNat 0).toNat : Int) 16) : Int) ≤ (iadd .u8 (iquo .u8 ((s.data.getD (i).toNat 0).toNat : Int) 16) 1)) && decide (((iadd .u8 (iquo .u8 ((s.data.getD (i).toNat 0).toNat : Int) 16) 1) : Int) ≤ ((⟨#[48, 49, 50, 51, 52, 53, 54, 55, 56, 57, 97, 98, 99, 100, 101, 102]⟩ : ByteArray).size : Int)) then
              bif decide ((⟨#[92]⟩ : ByteArray).size + ((⟨#[48, 49, 50, 51, 52, 53, 54, 55, 56, 57, 97, 98, 99, 100, 101, 102]⟩ : ByteArray).extract ((iquo .u8 ((s.data.getD (i).toNat 0).toNat : Int) 16)).toNat ((iadd .u8 (iquo .u8 ((s.data.getD (i).toNat 0).toNat : Int) 16) 1)).toNat).size ≤ 140737488355328) then
              bif decide ((0 : Int) ≤ (irem .u8 ((s.data.getD (i).toNat 0).toNat : Int) 16)) && decide (((irem .u8 ((s.data.getD (i).toNat 0).toNat : Int) 16) : Int) ≤ (iadd .u8 (irem .u8 ((s.data.getD (i).toNat 0).toNat : Int) 16) 1)) && decide (((iadd .u8 (irem .u8 ((s.data.getD (i).toNat 0).toNat : Int) 16) 1) : Int) ≤ ((⟨#[48, 49, 50, 51, 52, 53, 54, 55, 56, 57, 97, 98, 99, 100, 101, 102]⟩ : ByteArray).size : Int)) then
              bif decide (((⟨#[92]⟩ : ByteArray) ++ ((⟨#[48, 49, 50, 51, 52, 53, 54, 55, 56, 57, 97, 98, 99, 100, 101, 102]⟩ : ByteArray).extract ((iquo .u8 ((s.data.getD (i).toNat 0).toNat : Int) 16)).toNat ((iadd .u8 (iquo .u8 ((s.data.getD (i).toNat 0).toNat : Int) 16) 1)).toNat)).size + ((⟨#[48, 49, 50, 51, 52, 53, 54, 55, 56, 57, 97, 98, 99, 100, 101, 102]⟩ : ByteArray).extract ((irem .u8 ((s.data.getD (i).toNat 0).toNat : Int) 16)).toNat ((iadd .u8 (irem .u8 ((s.data.getD (i).toNat 0).toNat : Int) 16) 1)).toNat).size ≤ 140737488355328) then
              bif decide (out.size + (((⟨#[92]⟩ : ByteArray) ++ ((⟨#[48, 49, 50, 51, 52, 53, 54, 55, 56, 57, 97, 98, 99, 100, 101, 102]⟩ : ByteArray).extract ((iquo .u8 ((s.data.getD (i).toNat 0).toNat : Int) 16)).toNat ((iadd .u8 (iquo .u8 ((s.data.getD (i).toNat 0).toNat : Int) 16) 1)).toNat)) ++ ((⟨#[48, 49, 50, 51, 52, 53, 54, 55, 56, 57, 97, 98, 99, 100, 101, 102]⟩ : ByteArray).extract ((irem .u8 ((s.data.getD (i).toNat 0).toNat : Int) 16)).toNat ((iadd .u8 (irem .u8 ((s.data.getD (i).toNat 0).toNat : Int) 16) 1)).toNat)).size ≤ 140737488355328) then
              some (.inl ((out ++ (((⟨#[92]⟩ : ByteArray) ++ ((⟨#[48, 49, 50, 51, 52, 53, 54, 55, 56, 57, 97, 98, 99, 100, 101, 102]⟩ : ByteArray).extract ((iquo .u8 ((s.data.getD (i).toNat 0).toNat : Int) 16)).toNat ((iadd .u8 (iquo .u8 ((s.data.getD (i).toNat 0).toNat : Int) 16) 1)).toNat)) ++ ((⟨#[48, 49, 50, 51, 52, 53, 54, 55, 56, 57, 97, 98, 99, 100, 101, 102]⟩ : ByteArray).extract ((irem .u8 ((s.data.getD (i).toNat 0).toNat : Int) 16)).toNat ((iadd .u8 (irem .u8 ((s.data.getD (i).toNat 0).toNat : Int) 16) 1)).toNat))), (iadd .i64 i 1)))
              else none
              else none
              else none
              else none
              else none
            else
              bif decide ((0 : Int) ≤ i) && decide ((i : Int) ≤ (iadd .i64 i 1)) && decide (((iadd .i64 i 1) : Int) ≤ (s.size : Int)) then
              bif decide (out.size + (s.extract (i).toNat ((iadd .i64 i 1)).toNat).size ≤ 140737488355328) then
              some (.inl ((out ++ (s.extract (i).toNat ((iadd .i64 i 1)).toNat)), (iadd .i64 i 1)))
              else none
              else none
    else none
  else
    some (.inr out)
theorem kinfolkref08_Quote_L0_ok (s : ByteArray) (s_ : ByteArray × Int) (z_ : (ByteArray × Int) ⊕ (ByteArray)) (h : kinfolkref08_Quote_L0_step s s_ = some z_) : RoundOk Tryd.prog cfg 18 0 (loopAt Tryd.prog 18 0) (kinfolkref08_Quote_L0_st s) (kinfolkref08_Quote_L0_ex s) s_ z_ := by
  rcases s_ with ⟨out, i⟩
  rcases cond_of h with ⟨h1, h⟩ | ⟨h1, h⟩
  · obtain ⟨h2, h⟩ := need_of h
    rcases cond_of h with ⟨h3, h⟩ | ⟨h3, h⟩
    · obtain ⟨h4, h⟩ := need_of h
      have h := some_of h
      subst h
      exact ⟨[.br true, .br true], kinfolkref08_Quote_L0_st s ((out ++ (⟨#[92, 92]⟩ : ByteArray)), (iadd .i64 i 1)), .k0 (an_ h1 (an_ h2 (an_ h3 (an_ h4 trivial)))) (by kernel_rfl), .same (by kernel_rfl)⟩
    · rcases cond_of h with ⟨h4, h⟩ | ⟨h4, h⟩
      · obtain ⟨h5, h⟩ := need_of h
        obtain ⟨h6, h⟩ := need_of h
        obtain ⟨h7, h⟩ := need_of h
        obtain ⟨h8, h⟩ := need_of h
        obtain ⟨h9, h⟩ := need_of h
        have h := some_of h
        subst h
        exact ⟨[.br true, .br false, .br true, .br true, .br true, .br true], kinfolkref08_Quote_L0_st s ((out ++ (((⟨#[92]⟩ : ByteArray) ++ ((⟨#[48, 49, 50, 51, 52, 53, 54, 55, 56, 57, 97, 98, 99, 100, 101, 102]⟩ : ByteArray).extract ((iquo .u8 ((s.data.getD (i).toNat 0).toNat : Int) 16)).toNat ((iadd .u8 (iquo .u8 ((s.data.getD (i).toNat 0).toNat : Int) 16) 1)).toNat)) ++ ((⟨#[48, 49, 50, 51, 52, 53, 54, 55, 56, 57, 97, 98, 99, 100, 101, 102]⟩ : ByteArray).extract ((irem .u8 ((s.data.getD (i).toNat 0).toNat : Int) 16)).toNat ((iadd .u8 (irem .u8 ((s.data.getD (i).toNat 0).toNat : Int) 16) 1)).toNat))), (iadd .i64 i 1)), .k0 (an_ h1 (an_ h2 (an_ h3 (an_ h4 (an_ (rfl : true = true) (an_ (rfl : true = true) (an_ (rfl : true = true) (an_ (rfl : true = true) (an_ (rfl : true = true) (an_ h5 (an_ h6 (an_ (rfl : true = true) (an_ (rfl : true = true) (an_ h7 (an_ h8 (an_ h9 trivial)))))))))))))))) (by kernel_rfl), .same (by kernel_rfl)⟩
      · rcases cond_of h with ⟨h5, h⟩ | ⟨h5, h⟩
        · obtain ⟨h6, h⟩ := need_of h
          obtain ⟨h7, h⟩ := need_of h
          obtain ⟨h8, h⟩ := need_of h
          obtain ⟨h9, h⟩ := need_of h
          obtain ⟨h10, h⟩ := need_of h
          have h := some_of h
          subst h
          exact ⟨[.br true, .br false, .br false, .br true, .br true, .br true], kinfolkref08_Quote_L0_st s ((out ++ (((⟨#[92]⟩ : ByteArray) ++ ((⟨#[48, 49, 50, 51, 52, 53, 54, 55, 56, 57, 97, 98, 99, 100, 101, 102]⟩ : ByteArray).extract ((iquo .u8 ((s.data.getD (i).toNat 0).toNat : Int) 16)).toNat ((iadd .u8 (iquo .u8 ((s.data.getD (i).toNat 0).toNat : Int) 16) 1)).toNat)) ++ ((⟨#[48, 49, 50, 51, 52, 53, 54, 55, 56, 57, 97, 98, 99, 100, 101, 102]⟩ : ByteArray).extract ((irem .u8 ((s.data.getD (i).toNat 0).toNat : Int) 16)).toNat ((iadd .u8 (irem .u8 ((s.data.getD (i).toNat 0).toNat : Int) 16) 1)).toNat))), (iadd .i64 i 1)), .k0 (an_ h1 (an_ h2 (an_ h3 (an_ h4 (an_ h5 (an_ (rfl : true = true) (an_ (rfl : true = true) (an_ (rfl : true = true) (an_ (rfl : true = true) (an_ h6 (an_ h7 (an_ (rfl : true = true) (an_ (rfl : true = true) (an_ h8 (an_ h9 (an_ h10 trivial)))))))))))))))) (by kernel_rfl), .same (by kernel_rfl)⟩
        · rcases cond_of h with ⟨h6, h⟩ | ⟨h6, h⟩
          · obtain ⟨h7, h⟩ := need_of h
            obtain ⟨h8, h⟩ := need_of h
            obtain ⟨h9, h⟩ := need_of h
            obtain ⟨h10, h⟩ := need_of h
            obtain ⟨h11, h⟩ := need_of h
            have h := some_of h
            subst h
            exact ⟨[.br true, .br false, .br false, .br false, .br true, .br true], kinfolkref08_Quote_L0_st s ((out ++ (((⟨#[92]⟩ : ByteArray) ++ ((⟨#[48, 49, 50, 51, 52, 53, 54, 55, 56, 57, 97, 98, 99, 100, 101, 102]⟩ : ByteArray).extract ((iquo .u8 ((s.data.getD (i).toNat 0).toNat : Int) 16)).toNat ((iadd .u8 (iquo .u8 ((s.data.getD (i).toNat 0).toNat : Int) 16) 1)).toNat)) ++ ((⟨#[48, 49, 50, 51, 52, 53, 54, 55, 56, 57, 97, 98, 99, 100, 101, 102]⟩ : ByteArray).extract ((irem .u8 ((s.data.getD (i).toNat 0).toNat : Int) 16)).toNat ((iadd .u8 (irem .u8 ((s.data.getD (i).toNat 0).toNat : Int) 16) 1)).toNat))), (iadd .i64 i 1)), .k0 (an_ h1 (an_ h2 (an_ h3 (an_ h4 (an_ h5 (an_ h6 (an_ (rfl : true = true) (an_ (rfl : true = true) (an_ (rfl : true = true) (an_ h7 (an_ h8 (an_ (rfl : true = true) (an_ (rfl : true = true) (an_ h9 (an_ h10 (an_ h11 trivial)))))))))))))))) (by kernel_rfl), .same (by kernel_rfl)⟩
          · rcases cond_of h with ⟨h7, h⟩ | ⟨h7, h⟩
            · obtain ⟨h8, h⟩ := need_of h
              obtain ⟨h9, h⟩ := need_of h
              obtain ⟨h10, h⟩ := need_of h
              obtain ⟨h11, h⟩ := need_of h
              obtain ⟨h12, h⟩ := need_of h
              have h := some_of h
              subst h
              exact ⟨[.br true, .br false, .br false, .br false, .br false, .br true], kinfolkref08_Quote_L0_st s ((out ++ (((⟨#[92]⟩ : ByteArray) ++ ((⟨#[48, 49, 50, 51, 52, 53, 54, 55, 56, 57, 97, 98, 99, 100, 101, 102]⟩ : ByteArray).extract ((iquo .u8 ((s.data.getD (i).toNat 0).toNat : Int) 16)).toNat ((iadd .u8 (iquo .u8 ((s.data.getD (i).toNat 0).toNat : Int) 16) 1)).toNat)) ++ ((⟨#[48, 49, 50, 51, 52, 53, 54, 55, 56, 57, 97, 98, 99, 100, 101, 102]⟩ : ByteArray).extract ((irem .u8 ((s.data.getD (i).toNat 0).toNat : Int) 16)).toNat ((iadd .u8 (irem .u8 ((s.data.getD (i).toNat 0).toNat : Int) 16) 1)).toNat))), (iadd .i64 i 1)), .k0 (an_ h1 (an_ h2 (an_ h3 (an_ h4 (an_ h5 (an_ h6 (an_ h7 (an_ (rfl : true = true) (an_ (rfl : true = true) (an_ h8 (an_ h9 (an_ (rfl : true = true) (an_ (rfl : true = true) (an_ h10 (an_ h11 (an_ h12 trivial)))))))))))))))) (by kernel_rfl), .same (by kernel_rfl)⟩
            · obtain ⟨h8, h⟩ := need_of h
              obtain ⟨h9, h⟩ := need_of h
              have h := some_of h
              subst h
              exact ⟨[.br true, .br false, .br false, .br false, .br false, .br false], kinfolkref08_Quote_L0_st s ((out ++ (s.extract (i).toNat ((iadd .i64 i 1)).toNat)), (iadd .i64 i 1)), .k0 (an_ h1 (an_ h2 (an_ h3 (an_ h4 (an_ h5 (an_ h6 (an_ h7 (an_ h8 (an_ h9 trivial))))))))) (by kernel_rfl), .same (by kernel_rfl)⟩
  · have h := some_of h
    subst h
    exact ⟨[.br false], ⟨[(12, (.av (.one (.pv (.bool false))))), (0, (.av (.one (.pv (.str s))))), (3, (.av (.one (.pv (.str out))))), (4, (.av (.one (.pv (.int .i64 i))))), (12, (.av (.one (.pv (.bool (decide ((i : Int) < (s.size : Int))))))))], [], []⟩, .k0 (an_ h1 trivial) (by kernel_rfl), ⟨⟨⟨_, rfl, .eq rfl⟩, trivial⟩, trivial, trivial⟩⟩
theorem kinfolkref08_Quote_L0_runs (s : ByteArray) (s_ : ByteArray × Int) (r_ : ByteArray) (h : runL (kinfolkref08_Quote_L0_step s) s_ = some r_) : LRuns Tryd.prog (lEnv Tryd.prog cfg 18 0).nt 0 (.loop (loopAt Tryd.prog 18 0)) (kinfolkref08_Quote_L0_st s s_) (kinfolkref08_Quote_L0_ex s r_).1 (kinfolkref08_Quote_L0_ex s r_).2 :=
  loop_run h (kinfolkref08_Quote_L0_ok s) (by intro r_; rcases r_ with r1 <;> simp [kinfolkref08_Quote_L0_ex])
/-! ### kinfolkref08_Quote -/
noncomputable def kinfolkref08_Quote (s : ByteArray) : Option (ByteArray) :=
  bif (decide (((s.size : Int) : Int) = 0)) then
    some (⟨#[92, 45]⟩ : ByteArray)
  else
    (runL (kinfolkref08_Quote_L0_step s) ((⟨#[]⟩ : ByteArray), 0)).bind fun s2 =>
    some s2
theorem kinfolkref08_Quote_runs (s : ByteArray) (r_ : ByteArray) (h : kinfolkref08_Quote s = some r_) : Runs Tryd.prog 18 [(.one (.pv (.str s)))] [] [] (kinfolkref08_Quote_out s r_) := by
  unfold kinfolkref08_Quote at h
  rcases cond_of h with ⟨h1, h⟩ | ⟨h1, h⟩
  · have h := some_of h
    subst h
    exact runs_of (C := cfg) (objs := []) (sc := [.br true]) (.k0 (an_ h1 trivial) (by kernel_rfl))
  · obtain ⟨s2, h2, h⟩ := bind_of h
    have h := some_of h
    subst h
    exact runs_of (C := cfg) (objs := []) (sc := [.br false, .lp (kinfolkref08_Quote_L0_ex s s2).1 (kinfolkref08_Quote_L0_ex s s2).2]) (.k0 (an_ h1 (an_ (kinfolkref08_Quote_L0_runs s _ _ h2) trivial)) (by kernel_rfl))
/-! ### kinfolkref08_Unquote -/
noncomputable def kinfolkref08_Unquote (s : ByteArray) : Option (ByteArray × Bool) :=
  bif (decide (s = (⟨#[92, 45]⟩ : ByteArray))) then
    some ((⟨#[]⟩ : ByteArray), true)
  else
    (runL (kinfolkref08_Unquote_L0_2_step s) (0, [])).bind fun z_ => match z_ with
    | .inl s2 =>
      some (s2, false)
    | .inr l_ =>
      bif (decide (((s.size : Int) : Int) = 0)) then
        some ((⟨#[]⟩ : ByteArray), false)
      else
        (kinfolkref08_Quote (strOf (List.take (l_).length l_))).bind fun s2 =>
        bif decide (s2 = s) then
          some ((strOf (List.take (l_).length l_)), true)
        else
          some ((⟨#[]⟩ : ByteArray), false)
theorem kinfolkref08_Unquote_runs (s : ByteArray) (r_ : ByteArray × Bool) (h : kinfolkref08_Unquote s = some r_) : Runs Tryd.prog 17 [(.one (.pv (.str s)))] [] [] (kinfolkref08_Unquote_out s r_) := by
  unfold kinfolkref08_Unquote at h
  rcases cond_of h with ⟨h1, h⟩ | ⟨h1, h⟩
  · have h := some_of h
    subst h
    exact runs_of (C := cfg) (objs := []) (sc := [.br true]) (.k0 (an_ h1 trivial) (by kernel_rfl))
  · obtain ⟨z_, h2, h⟩ := bind_of h
    rcases z_ with s2 | l_
    · have h := some_of h
      subst h
      exact runs_of (C := cfg) (objs := []) (sc := [.br false, .lp (kinfolkref08_Unquote_L0_2_ex s (.inl s2)).1 (kinfolkref08_Unquote_L0_2_ex s (.inl s2)).2]) (.k0 (an_ h1 (an_ (LRuns.coe (s0 := ⟨[(0, (.av (.one (.pv (.str s))))), (4, (.av (.one (.own 0 0 0 false)))), (5, (.av (.one (.pv (.int .i64 0)))))], [], [(0, (.live (.ints .u8 [])))]⟩) (kinfolkref08_Unquote_L0_2_runs s _ _ h2) ⟨⟨⟨_, rfl, .eq rfl⟩, ⟨_, rfl, .own (by first | rfl | (simp only [List.take_length]; done) | (simp only [List.take_length, List.length_append, List.drop_zero, List.map_append, List.map_take, List.map_drop, List.map_replicate, List.map_cons, List.map_nil, List.append_nil, List.nil_append]; done) | (simp; done))⟩, ⟨_, rfl, .eq rfl⟩, trivial⟩, trivial, ⟨⟨rfl, .eq rfl⟩, trivial⟩⟩) trivial)) (by kernel_rfl))
    · rcases cond_of h with ⟨h3, h⟩ | ⟨h3, h⟩
      · have h := some_of h
        subst h
        exact runs_of (C := cfg) (objs := []) (sc := [.br false, .lp (kinfolkref08_Unquote_L0_2_ex s (.inr l_)).1 (kinfolkref08_Unquote_L0_2_ex s (.inr l_)).2, .br true, .br true]) (.k0 (an_ h1 (an_ (LRuns.coe (s0 := ⟨[(0, (.av (.one (.pv (.str s))))), (4, (.av (.one (.own 0 0 0 false)))), (5, (.av (.one (.pv (.int .i64 0)))))], [], [(0, (.live (.ints .u8 [])))]⟩) (kinfolkref08_Unquote_L0_2_runs s _ _ h2) ⟨⟨⟨_, rfl, .eq rfl⟩, ⟨_, rfl, .own (by first | rfl | (simp only [List.take_length]; done) | (simp only [List.take_length, List.length_append, List.drop_zero, List.map_append, List.map_take, List.map_drop, List.map_replicate, List.map_cons, List.map_nil, List.append_nil, List.nil_append]; done) | (simp; done))⟩, ⟨_, rfl, .eq rfl⟩, trivial⟩, trivial, ⟨⟨rfl, .eq rfl⟩, trivial⟩⟩) (an_ h3 (an_ (rfl : true = true) trivial)))) (by kernel_rfl))
      · obtain ⟨s2, h4, h⟩ := bind_of h
        rcases cond_of h with ⟨h5, h⟩ | ⟨h5, h⟩
        · have h := some_of h
          subst h
          exact runs_of (C := cfg) (objs := []) (sc := [.br false, .lp (kinfolkref08_Unquote_L0_2_ex s (.inr l_)).1 (kinfolkref08_Unquote_L0_2_ex s (.inr l_)).2, .br false, .res (kinfolkref08_Quote_out (strOf (List.take (l_).length l_)) s2), .br false]) (.k0 (an_ h1 (an_ (LRuns.coe (s0 := ⟨[(0, (.av (.one (.pv (.str s))))), (4, (.av (.one (.own 0 0 0 false)))), (5, (.av (.one (.pv (.int .i64 0)))))], [], [(0, (.live (.ints .u8 [])))]⟩) (kinfolkref08_Unquote_L0_2_runs s _ _ h2) ⟨⟨⟨_, rfl, .eq rfl⟩, ⟨_, rfl, .own (by first | rfl | (simp only [List.take_length]; done) | (simp only [List.take_length, List.length_append, List.drop_zero, List.map_append, List.map_take, List.map_drop, List.map_replicate, List.map_cons, List.map_nil, List.append_nil, List.nil_append]; done) | (simp; done))⟩, ⟨_, rfl, .eq rfl⟩, trivial⟩, trivial, ⟨⟨rfl, .eq rfl⟩, trivial⟩⟩) (an_ h3 (an_ (kinfolkref08_Quote_runs (strOf (List.take (l_).length l_)) _ h4) (an_ (not_of2 h5) trivial))))) (by kernel_rfl))
        · have h := some_of h
          subst h
          exact runs_of (C := cfg) (objs := []) (sc := [.br false, .lp (kinfolkref08_Unquote_L0_2_ex s (.inr l_)).1 (kinfolkref08_Unquote_L0_2_ex s (.inr l_)).2, .br false, .res (kinfolkref08_Quote_out (strOf (List.take (l_).length l_)) s2), .br true]) (.k0 (an_ h1 (an_ (LRuns.coe (s0 := ⟨[(0, (.av (.one (.pv (.str s))))), (4, (.av (.one (.own 0 0 0 false)))), (5, (.av (.one (.pv (.int .i64 0)))))], [], [(0, (.live (.ints .u8 [])))]⟩) (kinfolkref08_Unquote_L0_2_runs s _ _ h2) ⟨⟨⟨_, rfl, .eq rfl⟩, ⟨_, rfl, .own (by first | rfl | (simp only [List.take_length]; done) | (simp only [List.take_length, List.length_append, List.drop_zero, List.map_append, List.map_take, List.map_drop, List.map_replicate, List.map_cons, List.map_nil, List.append_nil, List.nil_append]; done) | (simp; done))⟩, ⟨_, rfl, .eq rfl⟩, trivial⟩, trivial, ⟨⟨rfl, .eq rfl⟩, trivial⟩⟩) (an_ h3 (an_ (kinfolkref08_Quote_runs (strOf (List.take (l_).length l_)) _ h4) (an_ (not_of h5) trivial))))) (by kernel_rfl))
/-! ### kinfolklaw08_TextQuotes_L0 -/
def kinfolklaw08_TextQuotes_L0_st (s : ByteArray) (w : ByteArray) (q : ByteArray) (back : ByteArray) (ok : Bool) (x : ByteArray) (is_ : Bool) (y : ByteArray) (may : Bool) (n : Int) : Int → St
  | n2 => ⟨[(0, (.av (.one (.pv (.str s))))), (1, (.av (.one (.pv (.str w))))), (5, (.av (.one (.pv (.str q))))), (6, (.av (.one (.pv (.str back))))), (7, (.av (.one (.pv (.bool ok))))), (8, (.av (.one (.pv (.str x))))), (9, (.av (.one (.pv (.bool is_))))), (10, (.av (.one (.pv (.str y))))), (11, (.av (.one (.pv (.bool may))))), (37, (.av (.one (.pv (.int .i64 n))))), (38, (.av (.one (.pv (.int .i64 n2)))))], [], []⟩
def kinfolklaw08_TextQuotes_L0_ex (s : ByteArray) (w : ByteArray) (q : ByteArray) (back : ByteArray) (ok : Bool) (x : ByteArray) (is_ : Bool) (y : ByteArray) (may : Bool) (n : Int) : (Unit) ⊕ (Unit) → Ex × St
  | .inl _ => (.ret, ⟨[(4, (.av (.one (.pv (.bool false)))))], [], []⟩)
  | .inr _ => ((.exit 0), ⟨[(0, (.av (.one (.pv (.str s))))), (1, (.av (.one (.pv (.str w))))), (5, (.av (.one (.pv (.str q))))), (6, (.av (.one (.pv (.str back))))), (7, (.av (.one (.pv (.bool ok))))), (8, (.av (.one (.pv (.str x))))), (9, (.av (.one (.pv (.bool is_))))), (10, (.av (.one (.pv (.str y))))), (11, (.av (.one (.pv (.bool may)))))], [], []⟩)
noncomputable def kinfolklaw08_TextQuotes_L0_step (s : ByteArray) (w : ByteArray) (q : ByteArray) (back : ByteArray) (ok : Bool) (x : ByteArray) (is_ : Bool) (y : ByteArray) (may : Bool) (n : Int) : Int → Option ((Int) ⊕ ((Unit) ⊕ (Unit)))
  | n2 =>
  bif (decide ((n2 : Int) < n)) then
    bif decide ((0 : Int) ≤ n2) && decide ((n2 : Int) < (q.size : Int)) then
    bif (decide ((((q.data.getD (n2).toNat 0).toNat : Int) : Int) ≤ 32)) then
      some (.inr (.inl ()))
    else
      bif (decide ((126 : Int) < ((q.data.getD (n2).toNat 0).toNat : Int))) then
        some (.inr (.inl ()))
      else
        bif (decide ((((q.data.getD (n2).toNat 0).toNat : Int) : Int) = 59)) then
          some (.inr (.inl ()))
        else
          bif (decide ((((q.data.getD (n2).toNat 0).toNat : Int) : Int) = 34)) then
            some (.inr (.inl ()))
          else
            some (.inl (iadd .i64 n2 1))
    else none
  else
    some (.inr (.inr ()))
theorem kinfolklaw08_TextQuotes_L0_ok (s : ByteArray) (w : ByteArray) (q : ByteArray) (back : ByteArray) (ok : Bool) (x : ByteArray) (is_ : Bool) (y : ByteArray) (may : Bool) (n : Int) (n2 : Int) (z_ : (Int) ⊕ ((Unit) ⊕ (Unit))) (h : kinfolklaw08_TextQuotes_L0_step s w q back ok x is_ y may n n2 = some z_) : RoundOk Tryd.prog cfg 6 0 (loopAt Tryd.prog 6 0) (kinfolklaw08_TextQuotes_L0_st s w q back ok x is_ y may n) (kinfolklaw08_TextQuotes_L0_ex s w q back ok x is_ y may n) n2 z_ := by
  rcases cond_of h with ⟨h1, h⟩ | ⟨h1, h⟩
  · obtain ⟨h2, h⟩ := need_of h
    rcases cond_of h with ⟨h3, h⟩ | ⟨h3, h⟩
    · have h := some_of h
      subst h
      exact ⟨[.br true, .br true, .br true, .br true, .br true], (kinfolklaw08_TextQuotes_L0_ex s w q back ok x is_ y may n (.inl ())).2, .k0 (an_ h1 (an_ h2 (an_ h3 (an_ (rfl : true = true) (an_ (rfl : true = true) (an_ (rfl : true = true) trivial)))))) (by kernel_rfl), .same (by kernel_rfl)⟩
    · rcases cond_of h with ⟨h4, h⟩ | ⟨h4, h⟩
      · have h := some_of h
        subst h
        exact ⟨[.br true, .br false, .br true, .br true, .br true], (kinfolklaw08_TextQuotes_L0_ex s w q back ok x is_ y may n (.inl ())).2, .k0 (an_ h1 (an_ h2 (an_ h3 (an_ h2 (an_ h4 (an_ (rfl : true = true) (an_ (rfl : true = true) trivial))))))) (by kernel_rfl), .same (by kernel_rfl)⟩
      · rcases cond_of h with ⟨h5, h⟩ | ⟨h5, h⟩
        · have h := some_of h
          subst h
          exact ⟨[.br true, .br false, .br false, .br true, .br true], (kinfolklaw08_TextQuotes_L0_ex s w q back ok x is_ y may n (.inl ())).2, .k0 (an_ h1 (an_ h2 (an_ h3 (an_ h2 (an_ h4 (an_ h2 (an_ h5 (an_ (rfl : true = true) trivial)))))))) (by kernel_rfl), .same (by kernel_rfl)⟩
        · rcases cond_of h with ⟨h6, h⟩ | ⟨h6, h⟩
          · have h := some_of h
            subst h
            exact ⟨[.br true, .br false, .br false, .br false, .br true], (kinfolklaw08_TextQuotes_L0_ex s w q back ok x is_ y may n (.inl ())).2, .k0 (an_ h1 (an_ h2 (an_ h3 (an_ h2 (an_ h4 (an_ h2 (an_ h5 (an_ h2 (an_ h6 trivial))))))))) (by kernel_rfl), .same (by kernel_rfl)⟩
          · have h := some_of h
            subst h
            exact ⟨[.br true, .br false, .br false, .br false, .br false], kinfolklaw08_TextQuotes_L0_st s w q back ok x is_ y may n (iadd .i64 n2 1), .k0 (an_ h1 (an_ h2 (an_ h3 (an_ h2 (an_ h4 (an_ h2 (an_ h5 (an_ h2 (an_ h6 trivial))))))))) (by kernel_rfl), .same (by kernel_rfl)⟩
  · have h := some_of h
    subst h
    exact ⟨[.br false], ⟨[(39, (.av (.one (.pv (.bool false))))), (0, (.av (.one (.pv (.str s))))), (1, (.av (.one (.pv (.str w))))), (5, (.av (.one (.pv (.str q))))), (6, (.av (.one (.pv (.str back))))), (7, (.av (.one (.pv (.bool ok))))), (8, (.av (.one (.pv (.str x))))), (9, (.av (.one (.pv (.bool is_))))), (10, (.av (.one (.pv (.str y))))), (11, (.av (.one (.pv (.bool may))))), (37, (.av (.one (.pv (.int .i64 n))))), (38, (.av (.one (.pv (.int .i64 n2))))), (39, (.av (.one (.pv (.bool (decide ((n2 : Int) < n)))))))], [], []⟩, .k0 (an_ h1 trivial) (by kernel_rfl), ⟨⟨⟨_, rfl, .eq rfl⟩, ⟨_, rfl, .eq rfl⟩, ⟨_, rfl, .eq rfl⟩, ⟨_, rfl, .eq rfl⟩, ⟨_, rfl, .eq rfl⟩, ⟨_, rfl, .eq rfl⟩, ⟨_, rfl, .eq rfl⟩, ⟨_, rfl, .eq rfl⟩, ⟨_, rfl, .eq rfl⟩, trivial⟩, trivial, trivial⟩⟩
theorem kinfolklaw08_TextQuotes_L0_runs (s : ByteArray) (w : ByteArray) (q : ByteArray) (back : ByteArray) (ok : Bool) (x : ByteArray) (is_ : Bool) (y : ByteArray) (may : Bool) (n : Int) (s_ : Int) (r_ : (Unit) ⊕ (Unit)) (h : runL (kinfolklaw08_TextQuotes_L0_step s w q back ok x is_ y may n) s_ = some r_) : LRuns Tryd.prog (lEnv Tryd.prog cfg 6 0).nt 0 (.loop (loopAt Tryd.prog 6 0)) (kinfolklaw08_TextQuotes_L0_st s w q back ok x is_ y may n s_) (kinfolklaw08_TextQuotes_L0_ex s w q back ok x is_ y may n r_).1 (kinfolklaw08_TextQuotes_L0_ex s w q back ok x is_ y may n r_).2 :=
  loop_run h (kinfolklaw08_TextQuotes_L0_ok s w q back ok x is_ y may n) (by intro r_; rcases r_ with _ | _ <;> simp [kinfolklaw08_TextQuotes_L0_ex])
/-! ### kinfolklaw08_TextQuotes -/
noncomputable def kinfolklaw08_TextQuotes (s : ByteArray) (w : ByteArray) : Option (Bool) :=
  (kinfolklaw08_awake).bind fun b =>
  bif b then
    (kinfolklaw08_few s).bind fun s2 =>
    (kinfolklaw08_few w).bind fun s3 =>
    (text_Quote s2).bind fun s4 =>
    (text_Unquote s4).bind fun (s5, b2) =>
    (text_Unquote s3).bind fun (s6, b3) =>
    (kinfolkref08_Unquote s3).bind fun (s7, b4) =>
    (runL (kinfolklaw08_TextQuotes_L0_step s2 s3 s4 s5 b2 s6 b3 s7 b4 (s4.size : Int)) 0).bind fun z_ => match z_ with
    | .inl _ =>
      some false
    | .inr _ =>
      (kinfolkref08_Quote s2).bind fun s8 =>
      bif (decide (s4 = s8)) then
        bif b2 then
          bif (decide (s5 = s2)) then
            bif (decide (s6 = s7)) then
              bif (b3 == b4) then
                bif b3 then
                  (text_Quote s6).bind fun s9 =>
                  some (decide (s9 = s3))
                else
                  some true
              else
                some false
            else
              some false
          else
            some false
        else
          some false
      else
        some false
  else
    some false
theorem kinfolklaw08_TextQuotes_runs (s : ByteArray) (w : ByteArray) (r_ : Bool) (h : kinfolklaw08_TextQuotes s w = some r_) : Runs Tryd.prog 6 [(.one (.pv (.str s))), (.one (.pv (.str w)))] [] [] (kinfolklaw08_TextQuotes_out s w r_) := by
  unfold kinfolklaw08_TextQuotes at h
  obtain ⟨b, h1, h⟩ := bind_of h
  rcases cond_of h with ⟨h2, h⟩ | ⟨h2, h⟩
  · obtain ⟨s2, h3, h⟩ := bind_of h
    obtain ⟨s3, h4, h⟩ := bind_of h
    obtain ⟨s4, h5, h⟩ := bind_of h
    obtain ⟨⟨s5, b2⟩, h6, h⟩ := bind_of h
    obtain ⟨⟨s6, b3⟩, h7, h⟩ := bind_of h
    obtain ⟨⟨s7, b4⟩, h8, h⟩ := bind_of h
    obtain ⟨z_, h9, h⟩ := bind_of h
    rcases z_ with _ | _
    · have h := some_of h
      subst h
      exact runs_of (C := cfg) (objs := []) (sc := [.res (kinfolklaw08_awake_out b), .br false, .res (kinfolklaw08_few_out s s2), .res (kinfolklaw08_few_out w s3), .res (text_Quote_out s2 s4), .res (text_Unquote_out s4 (s5, b2)), .res (text_Unquote_out s3 (s6, b3)), .res (kinfolkref08_Unquote_out s3 (s7, b4)), .lp (kinfolklaw08_TextQuotes_L0_ex s2 s3 s4 s5 b2 s6 b3 s7 b4 (s4.size : Int) (.inl ())).1 (kinfolklaw08_TextQuotes_L0_ex s2 s3 s4 s5 b2 s6 b3 s7 b4 (s4.size : Int) (.inl ())).2]) (.k0 (an_ (kinfolklaw08_awake_runs _ h1) (an_ (not_of2 h2) (an_ (kinfolklaw08_few_runs s _ h3) (an_ (kinfolklaw08_few_runs w _ h4) (an_ (text_Quote_runs s2 _ h5) (an_ (text_Unquote_runs s4 _ h6) (an_ (text_Unquote_runs s3 _ h7) (an_ (kinfolkref08_Unquote_runs s3 _ h8) (an_ (kinfolklaw08_TextQuotes_L0_runs s2 s3 s4 s5 b2 s6 b3 s7 b4 (s4.size : Int) _ _ h9) trivial))))))))) (by kernel_rfl))
    · obtain ⟨s8, h10, h⟩ := bind_of h
      rcases cond_of h with ⟨h11, h⟩ | ⟨h11, h⟩
      · rcases cond_of h with ⟨h12, h⟩ | ⟨h12, h⟩
        · rcases cond_of h with ⟨h13, h⟩ | ⟨h13, h⟩
          · rcases cond_of h with ⟨h14, h⟩ | ⟨h14, h⟩
            · rcases cond_of h with ⟨h15, h⟩ | ⟨h15, h⟩
              · rcases cond_of h with ⟨h16, h⟩ | ⟨h16, h⟩
                · obtain ⟨s9, h17, h⟩ := bind_of h
                  have h := some_of h
                  subst h
                  exact runs_of (C := cfg) (objs := []) (sc := [.res (kinfolklaw08_awake_out b), .br false, .res (kinfolklaw08_few_out s s2), .res (kinfolklaw08_few_out w s3), .res (text_Quote_out s2 s4), .res (text_Unquote_out s4 (s5, b2)), .res (text_Unquote_out s3 (s6, b3)), .res (kinfolkref08_Unquote_out s3 (s7, b4)), .lp (kinfolklaw08_TextQuotes_L0_ex s2 s3 s4 s5 b2 s6 b3 s7 b4 (s4.size : Int) (.inr ())).1 (kinfolklaw08_TextQuotes_L0_ex s2 s3 s4 s5 b2 s6 b3 s7 b4 (s4.size : Int) (.inr ())).2, .res (kinfolkref08_Quote_out s2 s8), .br true, .br true, .br true, .br true, .br true, .br false, .res (text_Quote_out s6 s9)]) (.k0 (an_ (kinfolklaw08_awake_runs _ h1) (an_ (not_of2 h2) (an_ (kinfolklaw08_few_runs s _ h3) (an_ (kinfolklaw08_few_runs w _ h4) (an_ (text_Quote_runs s2 _ h5) (an_ (text_Unquote_runs s4 _ h6) (an_ (text_Unquote_runs s3 _ h7) (an_ (kinfolkref08_Unquote_runs s3 _ h8) (an_ (kinfolklaw08_TextQuotes_L0_runs s2 s3 s4 s5 b2 s6 b3 s7 b4 (s4.size : Int) _ _ h9) (an_ (kinfolkref08_Quote_runs s2 _ h10) (an_ h11 (an_ h12 (an_ h13 (an_ h14 (an_ h15 (an_ (not_of2 h16) (an_ (text_Quote_runs s6 _ h17) trivial))))))))))))))))) (by kernel_rfl))
                · have h := some_of h
                  subst h
                  exact runs_of (C := cfg) (objs := []) (sc := [.res (kinfolklaw08_awake_out b), .br false, .res (kinfolklaw08_few_out s s2), .res (kinfolklaw08_few_out w s3), .res (text_Quote_out s2 s4), .res (text_Unquote_out s4 (s5, b2)), .res (text_Unquote_out s3 (s6, b3)), .res (kinfolkref08_Unquote_out s3 (s7, b4)), .lp (kinfolklaw08_TextQuotes_L0_ex s2 s3 s4 s5 b2 s6 b3 s7 b4 (s4.size : Int) (.inr ())).1 (kinfolklaw08_TextQuotes_L0_ex s2 s3 s4 s5 b2 s6 b3 s7 b4 (s4.size : Int) (.inr ())).2, .res (kinfolkref08_Quote_out s2 s8), .br true, .br true, .br true, .br true, .br true, .br true]) (.k0 (an_ (kinfolklaw08_awake_runs _ h1) (an_ (not_of2 h2) (an_ (kinfolklaw08_few_runs s _ h3) (an_ (kinfolklaw08_few_runs w _ h4) (an_ (text_Quote_runs s2 _ h5) (an_ (text_Unquote_runs s4 _ h6) (an_ (text_Unquote_runs s3 _ h7) (an_ (kinfolkref08_Unquote_runs s3 _ h8) (an_ (kinfolklaw08_TextQuotes_L0_runs s2 s3 s4 s5 b2 s6 b3 s7 b4 (s4.size : Int) _ _ h9) (an_ (kinfolkref08_Quote_runs s2 _ h10) (an_ h11 (an_ h12 (an_ h13 (an_ h14 (an_ h15 (an_ (not_of h16) trivial)))))))))))))))) (by kernel_rfl))
              · have h := some_of h
                subst h
                exact runs_of (C := cfg) (objs := []) (sc := [.res (kinfolklaw08_awake_out b), .br false, .res (kinfolklaw08_few_out s s2), .res (kinfolklaw08_few_out w s3), .res (text_Quote_out s2 s4), .res (text_Unquote_out s4 (s5, b2)), .res (text_Unquote_out s3 (s6, b3)), .res (kinfolkref08_Unquote_out s3 (s7, b4)), .lp (kinfolklaw08_TextQuotes_L0_ex s2 s3 s4 s5 b2 s6 b3 s7 b4 (s4.size : Int) (.inr ())).1 (kinfolklaw08_TextQuotes_L0_ex s2 s3 s4 s5 b2 s6 b3 s7 b4 (s4.size : Int) (.inr ())).2, .res (kinfolkref08_Quote_out s2 s8), .br true, .br true, .br true, .br true, .br false]) (.k0 (an_ (kinfolklaw08_awake_runs _ h1) (an_ (not_of2 h2) (an_ (kinfolklaw08_few_runs s _ h3) (an_ (kinfolklaw08_few_runs w _ h4) (an_ (text_Quote_runs s2 _ h5) (an_ (text_Unquote_runs s4 _ h6) (an_ (text_Unquote_runs s3 _ h7) (an_ (kinfolkref08_Unquote_runs s3 _ h8) (an_ (kinfolklaw08_TextQuotes_L0_runs s2 s3 s4 s5 b2 s6 b3 s7 b4 (s4.size : Int) _ _ h9) (an_ (kinfolkref08_Quote_runs s2 _ h10) (an_ h11 (an_ h12 (an_ h13 (an_ h14 (an_ h15 trivial))))))))))))))) (by kernel_rfl))
            · have h := some_of h
              subst h
              exact runs_of (C := cfg) (objs := []) (sc := [.res (kinfolklaw08_awake_out b), .br false, .res (kinfolklaw08_few_out s s2), .res (kinfolklaw08_few_out w s3), .res (text_Quote_out s2 s4), .res (text_Unquote_out s4 (s5, b2)), .res (text_Unquote_out s3 (s6, b3)), .res (kinfolkref08_Unquote_out s3 (s7, b4)), .lp (kinfolklaw08_TextQuotes_L0_ex s2 s3 s4 s5 b2 s6 b3 s7 b4 (s4.size : Int) (.inr ())).1 (kinfolklaw08_TextQuotes_L0_ex s2 s3 s4 s5 b2 s6 b3 s7 b4 (s4.size : Int) (.inr ())).2, .res (kinfolkref08_Quote_out s2 s8), .br true, .br true, .br true, .br false, .br false]) (.k0 (an_ (kinfolklaw08_awake_runs _ h1) (an_ (not_of2 h2) (an_ (kinfolklaw08_few_runs s _ h3) (an_ (kinfolklaw08_few_runs w _ h4) (an_ (text_Quote_runs s2 _ h5) (an_ (text_Unquote_runs s4 _ h6) (an_ (text_Unquote_runs s3 _ h7) (an_ (kinfolkref08_Unquote_runs s3 _ h8) (an_ (kinfolklaw08_TextQuotes_L0_runs s2 s3 s4 s5 b2 s6 b3 s7 b4 (s4.size : Int) _ _ h9) (an_ (kinfolkref08_Quote_runs s2 _ h10) (an_ h11 (an_ h12 (an_ h13 (an_ h14 (an_ (rfl : false = false) trivial))))))))))))))) (by kernel_rfl))
          · have h := some_of h
            subst h
            exact runs_of (C := cfg) (objs := []) (sc := [.res (kinfolklaw08_awake_out b), .br false, .res (kinfolklaw08_few_out s s2), .res (kinfolklaw08_few_out w s3), .res (text_Quote_out s2 s4), .res (text_Unquote_out s4 (s5, b2)), .res (text_Unquote_out s3 (s6, b3)), .res (kinfolkref08_Unquote_out s3 (s7, b4)), .lp (kinfolklaw08_TextQuotes_L0_ex s2 s3 s4 s5 b2 s6 b3 s7 b4 (s4.size : Int) (.inr ())).1 (kinfolklaw08_TextQuotes_L0_ex s2 s3 s4 s5 b2 s6 b3 s7 b4 (s4.size : Int) (.inr ())).2, .res (kinfolkref08_Quote_out s2 s8), .br true, .br true, .br false, .br false, .br false]) (.k0 (an_ (kinfolklaw08_awake_runs _ h1) (an_ (not_of2 h2) (an_ (kinfolklaw08_few_runs s _ h3) (an_ (kinfolklaw08_few_runs w _ h4) (an_ (text_Quote_runs s2 _ h5) (an_ (text_Unquote_runs s4 _ h6) (an_ (text_Unquote_runs s3 _ h7) (an_ (kinfolkref08_Unquote_runs s3 _ h8) (an_ (kinfolklaw08_TextQuotes_L0_runs s2 s3 s4 s5 b2 s6 b3 s7 b4 (s4.size : Int) _ _ h9) (an_ (kinfolkref08_Quote_runs s2 _ h10) (an_ h11 (an_ h12 (an_ h13 (an_ (rfl : false = false) (an_ (rfl : false = false) trivial))))))))))))))) (by kernel_rfl))
        · have h := some_of h
          subst h
          exact runs_of (C := cfg) (objs := []) (sc := [.res (kinfolklaw08_awake_out b), .br false, .res (kinfolklaw08_few_out s s2), .res (kinfolklaw08_few_out w s3), .res (text_Quote_out s2 s4), .res (text_Unquote_out s4 (s5, b2)), .res (text_Unquote_out s3 (s6, b3)), .res (kinfolkref08_Unquote_out s3 (s7, b4)), .lp (kinfolklaw08_TextQuotes_L0_ex s2 s3 s4 s5 b2 s6 b3 s7 b4 (s4.size : Int) (.inr ())).1 (kinfolklaw08_TextQuotes_L0_ex s2 s3 s4 s5 b2 s6 b3 s7 b4 (s4.size : Int) (.inr ())).2, .res (kinfolkref08_Quote_out s2 s8), .br true, .br false, .br false, .br false, .br false]) (.k0 (an_ (kinfolklaw08_awake_runs _ h1) (an_ (not_of2 h2) (an_ (kinfolklaw08_few_runs s _ h3) (an_ (kinfolklaw08_few_runs w _ h4) (an_ (text_Quote_runs s2 _ h5) (an_ (text_Unquote_runs s4 _ h6) (an_ (text_Unquote_runs s3 _ h7) (an_ (kinfolkref08_Unquote_runs s3 _ h8) (an_ (kinfolklaw08_TextQuotes_L0_runs s2 s3 s4 s5 b2 s6 b3 s7 b4 (s4.size : Int) _ _ h9) (an_ (kinfolkref08_Quote_runs s2 _ h10) (an_ h11 (an_ h12 (an_ (rfl : false = false) (an_ (rfl : false = false) (an_ (rfl : false = false) trivial))))))))))))))) (by kernel_rfl))
      · have h := some_of h
        subst h
        exact runs_of (C := cfg) (objs := []) (sc := [.res (kinfolklaw08_awake_out b), .br false, .res (kinfolklaw08_few_out s s2), .res (kinfolklaw08_few_out w s3), .res (text_Quote_out s2 s4), .res (text_Unquote_out s4 (s5, b2)), .res (text_Unquote_out s3 (s6, b3)), .res (kinfolkref08_Unquote_out s3 (s7, b4)), .lp (kinfolklaw08_TextQuotes_L0_ex s2 s3 s4 s5 b2 s6 b3 s7 b4 (s4.size : Int) (.inr ())).1 (kinfolklaw08_TextQuotes_L0_ex s2 s3 s4 s5 b2 s6 b3 s7 b4 (s4.size : Int) (.inr ())).2, .res (kinfolkref08_Quote_out s2 s8), .br false, .br false, .br false, .br false, .br false]) (.k0 (an_ (kinfolklaw08_awake_runs _ h1) (an_ (not_of2 h2) (an_ (kinfolklaw08_few_runs s _ h3) (an_ (kinfolklaw08_few_runs w _ h4) (an_ (text_Quote_runs s2 _ h5) (an_ (text_Unquote_runs s4 _ h6) (an_ (text_Unquote_runs s3 _ h7) (an_ (kinfolkref08_Unquote_runs s3 _ h8) (an_ (kinfolklaw08_TextQuotes_L0_runs s2 s3 s4 s5 b2 s6 b3 s7 b4 (s4.size : Int) _ _ h9) (an_ (kinfolkref08_Quote_runs s2 _ h10) (an_ h11 (an_ (rfl : false = false) (an_ (rfl : false = false) (an_ (rfl : false = false) (an_ (rfl : false = false) trivial))))))))))))))) (by kernel_rfl))
  · have h := some_of h
    subst h
    exact runs_of (C := cfg) (objs := []) (sc := [.res (kinfolklaw08_awake_out b), .br true]) (.k0 (an_ (kinfolklaw08_awake_runs _ h1) (an_ (not_of h2) trivial)) (by kernel_rfl))

end Go.Proofs.YtecblpgljmbpeaaDoor
