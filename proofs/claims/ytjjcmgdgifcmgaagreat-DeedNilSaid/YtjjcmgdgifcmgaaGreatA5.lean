/- What functions compute, and that they do. -/
import Derived.Test.YtjjcmgdgifcmgaaGreatA4
set_option linter.unusedVariables false
set_option linter.unusedSimpArgs false
set_option maxRecDepth 100000
namespace Go.Proofs.YtjjcmgdgifcmgaaGreat
open Go.Ev
def ziE (n : Int) : List Int → Res
 | r1 => ([(.one (.own 0 0 (r1).length false))], [], [(.ints .u8 r1)])
noncomputable def zfY (rec_kr06_Num : Int → Option (List Int)) (n : Int) : Option (List Int) :=
 bif (decide ((n : Int) < 128)) then
  some [(IntKind.u8.wrap n)]
 else
  (rec_kr06_Num (iquo .u64 n 128)).bind fun l_ =>
  bif Nat.beq ((List.take (l_).length l_)).length 0 then
   some [(IntKind.u8.wrap (iadd .u64 (irem .u64 n 128) 128))]
  else
   bif fits (([(IntKind.u8.wrap (iadd .u64 (irem .u64 n 128) 128))] ++ (List.take (l_).length l_))).length then
   some ([(IntKind.u8.wrap (iadd .u64 (irem .u64 n 128) 128))] ++ l_)
   else none
theorem zmm (rec_kr06_Num : Int → Option (List Int)) (hrec_kr06_Num : ∀ n r_, rec_kr06_Num n = some r_ → Runs Tryz.prog 75 [(.one (.pv (.int .u64 n)))] [] [] (ziE n r_)) (n : Int) (r_ : List Int) (h : zfY rec_kr06_Num n = some r_) : Runs Tryz.prog 75 [(.one (.pv (.int .u64 n)))] [] [] (ziE n r_) := by
 unfold zfY at h
 rcases zaj h with ⟨h1, h⟩ | ⟨h1, h⟩
 ·have h := zaf h
  subst h
  have t_ := tT h1 <| tN
  exact Runs.out (zag (C := cfg) (res := ([(.one (.own 0 0 1 true))], [], [(.ints .u8 [(IntKind.u8.wrap n)])])) (sc := t_.ev) (.k0 t_.pf (by kernel_rfl))) ⟨.ownF (by first | rfl | (simp only [List.take_length]; done) | (simp; done) | (simp only [List.map_take, List.map_drop, List.map_append, List.take_length, List.nil_append]; done) | (simp only [List.length_map, List.take_length, List.length_append, List.drop_zero, List.map_append, List.map_take, List.map_drop, List.map_replicate, List.map_cons, List.map_nil, List.append_nil, List.nil_append]; done)), trivial⟩ trivial ⟨.eq rfl, trivial⟩ rfl
 ·obtain ⟨l_, h2, h⟩ := zae h
  rcases zaj h with ⟨h3, h⟩ | ⟨h3, h⟩
  ·have h := zaf h
   subst h
   have t_ := tF h1 <| tO (rfl : true = true) <| tO (rfl : true = true) <| tR (hrec_kr06_Num (iquo .u64 n 128) _ h2) <| tT h3 <| tN
   exact Runs.out (zag (C := cfg) (res := ([(.one (.own 0 0 1 false))], [], [(.ints .u8 [(IntKind.u8.wrap (iadd .u64 (irem .u64 n 128) 128))])])) (sc := t_.ev) (.k0 t_.pf (by kernel_rfl))) ⟨.own (by first | rfl | (simp only [List.take_length]; done) | (simp; done) | (simp only [List.map_take, List.map_drop, List.map_append, List.take_length, List.nil_append]; done) | (simp only [List.length_map, List.take_length, List.length_append, List.drop_zero, List.map_append, List.map_take, List.map_drop, List.map_replicate, List.map_cons, List.map_nil, List.append_nil, List.nil_append]; done)), trivial⟩ trivial ⟨.eq rfl, trivial⟩ rfl
  ·obtain ⟨h4, h⟩ := zar h
   have h := zaf h
   subst h
   have t_ := tF h1 <| tO (rfl : true = true) <| tO (rfl : true = true) <| tR (hrec_kr06_Num (iquo .u64 n 128) _ h2) <| tF (zbc h3) <| tO h4 <| tN
   exact Runs.out (zag (C := cfg) (res := ([(.one (.own 0 0 (([(IntKind.u8.wrap (iadd .u64 (irem .u64 n 128) 128))] ++ (List.take (l_).length l_))).length false))], [], [(.ints .u8 ([(IntKind.u8.wrap (iadd .u64 (irem .u64 n 128) 128))] ++ (List.take (l_).length l_)))])) (sc := t_.ev) (.k0 t_.pf (by kernel_rfl))) ⟨.own (by first | rfl | (simp only [List.take_length]; done) | (simp; done) | (simp only [List.map_take, List.map_drop, List.map_append, List.take_length, List.nil_append]; done) | (simp only [List.length_map, List.take_length, List.length_append, List.drop_zero, List.map_append, List.map_take, List.map_drop, List.map_replicate, List.map_cons, List.map_nil, List.append_nil, List.nil_append]; done)), trivial⟩ trivial ⟨.eq (by first | rfl | (simp only [List.take_length]; done) | (simp; done) | (simp only [List.map_take, List.map_drop, List.map_append, List.take_length, List.nil_append]; done) | (simp only [List.length_map, List.take_length, List.length_append, List.drop_zero, List.map_append, List.map_take, List.map_drop, List.map_replicate, List.map_cons, List.map_nil, List.append_nil, List.nil_append]; done)), trivial⟩ rfl
noncomputable def zcz : Nat → Int → Option (List Int)
 | 0, _ => none
 | N + 1, n => zfY (zcz N) n
theorem zaA : ∀ (N : Nat) (n : Int) (r_ : List Int), zcz N n = some r_ → Runs Tryz.prog 75 [(.one (.pv (.int .u64 n)))] [] [] (ziE n r_)
 | 0, _, _, h => by cases h
 | N + 1, n, r_, h => zmm (zcz N) (zaA N) n r_ h
def zor (l : List zaq) : List Int → Res
 | r1 => ([(.one (.own 0 0 (r1).length false))], [], [(.ints .u8 r1)])
def zfb (r : List zaq) (n : Int) : Int × List Int → St
 | (n2, l) => ⟨[(3, (.av (.one (.own 0 0 (l).length false)))), (6, (.av (.one (.pv (.recs 1 (List.map zaq.pv r) false))))), (7, (.av (.one (.pv (.int .i64 n))))), (8, (.av (.one (.pv (.int .i64 n2)))))], [], [(0, (.live (.ints .u8 l)))]⟩
def zek (r : List zaq) (n : Int) : List Int → Ex × St
 | r1 => ((.exit 0), ⟨[(3, (.av (.one (.own 0 0 (r1).length false))))], [], [(0, (.live (.ints .u8 r1)))]⟩)
noncomputable def zbX (r : List zaq) (n : Int) : Int × List Int → Option ((Int × List Int) ⊕ (List Int))
 | (n2, l) =>
 bif (decide ((n2 : Int) < n)) then
  bif decide ((0 : Int) ≤ n2) && decide ((n2 : Int) < (((List.map zaq.pv r)).length : Int)) then
  (r[(n2).toNat]?).bind fun e_ => match e_ with
  | .mk l_ =>
  bif fits ((l ++ l_)).length then
  some (.inl ((iadd .i64 n2 1), (l ++ l_)))
  else none
  else none
 else
  some (.inr l)
theorem zkT (r : List zaq) (n : Int) (s_ : Int × List Int) (z_ : (Int × List Int) ⊕ (List Int)) (h : zbX r n s_ = some z_) : zbQ Tryz.prog cfg 74 0 (zbe Tryz.prog 74 0) (zfb r n) (zek r n) s_ z_ := by
 rcases s_ with ⟨n2, l⟩
 rcases zaj h with ⟨h1, h⟩ | ⟨h1, h⟩
 ·obtain ⟨h2, h⟩ := zar h
  obtain ⟨⟨l_⟩, h3, h⟩ := zae h
  obtain ⟨h4, h⟩ := zar h
  have h := zaf h
  subst h
  have t_ := tT h1 <| tO h2 <| tE (.el [(.ints .u8 l_ false)]) <| tO (zdi (f := zaq.pv) h3) <| tO (show (Nat.beq (l).length (l).length) = true from Nat.beq_refl _) <| tO h4 <| tN
  exact ⟨t_.ev, zfb r n ((iadd .i64 n2 1), (l ++ l_)), .k0 t_.pf (by kernel_rfl), .same (by kernel_rfl)⟩
 ·have h := zaf h
  subst h
  have t_ := tF h1 <| tN
  exact ⟨t_.ev, ⟨[(9, (.av (.one (.pv (.bool false))))), (3, (.av (.one (.own 0 0 (l).length false)))), (6, (.av (.one (.pv (.recs 1 (List.map zaq.pv r) false))))), (7, (.av (.one (.pv (.int .i64 n))))), (8, (.av (.one (.pv (.int .i64 n2))))), (9, (.av (.one (.pv (.bool (decide ((n2 : Int) < n)))))))], [], [(0, (.live (.ints .u8 l)))]⟩, .k0 t_.pf (by kernel_rfl), ⟨⟨⟨_, rfl, .eq rfl⟩, trivial⟩, trivial, ⟨⟨rfl, .eq rfl⟩, trivial⟩⟩⟩
theorem zjH (r : List zaq) (n : Int) (s_ : Int × List Int) (r_ : List Int) (h : runL (zbX r n) s_ = some r_) : zbK Tryz.prog (lEnv Tryz.prog cfg 74 0).nt 0 (.loop (zbe Tryz.prog 74 0)) (zfb r n s_) (zek r n r_).1 (zek r n r_).2 :=
 zbA h (zkT r n) (by intro r_; rcases r_ with r1 <;> simp [zek])
noncomputable def zdx (l : List zaq) : Option (List Int) :=
 (runL (zbX l (((List.map zaq.pv l)).length : Int)) (0, [])).bind fun l_ =>
 some l_
theorem zdh (l : List zaq) (r_ : List Int) (h : zdx l = some r_) : Runs Tryz.prog 74 [(.one (.pv (.recs 1 (List.map zaq.pv l) false)))] [] [] (zor l r_) := by
 unfold zdx at h
 obtain ⟨l_, h1, h⟩ := zae h
 have h := zaf h
 subst h
 have t_ := tL (zbK.coe (s0 := ⟨[(3, (.av (.one (.own 0 0 0 false)))), (6, (.av (.one (.pv (.recs 1 (List.map zaq.pv l) false))))), (7, (.av (.one (.pv (.int .i64 (((List.map zaq.pv l)).length : Int)))))), (8, (.av (.one (.pv (.int .i64 0)))))], [], [(0, (.live (.ints .u8 [])))]⟩) (zjH l (((List.map zaq.pv l)).length : Int) _ _ h1) ⟨⟨⟨_, rfl, .own (by first | rfl | (simp only [List.take_length]; done) | (simp; done) | (simp only [List.map_take, List.map_drop, List.map_append, List.take_length, List.nil_append]; done) | (simp only [List.length_map, List.take_length, List.length_append, List.drop_zero, List.map_append, List.map_take, List.map_drop, List.map_replicate, List.map_cons, List.map_nil, List.append_nil, List.nil_append]; done))⟩, ⟨_, rfl, .eq rfl⟩, ⟨_, rfl, .eq rfl⟩, ⟨_, rfl, .eq rfl⟩, trivial⟩, trivial, ⟨⟨rfl, .eq rfl⟩, trivial⟩⟩) <| tN
 exact zag (C := cfg) (sc := t_.ev) (.k0 t_.pf (by kernel_rfl))
def zlA (g g2 g3 : Int) (g4 : zah) : List Int → Res
 | r1 => ([(.one (.own 0 0 (r1).length false))], [], [(.ints .u8 r1)])
def zjJ (l : List Bool) (i : zah) : List Bool → Res
 | r1 => ([(.one (.own 0 0 (r1).length false))], [], [(.bools r1)])
def zpd (l : List Bool) (n k : Int) : List Bool → Res
 | r1 => ([(.one (.own 0 0 (r1).length false))], [], [(.bools r1)])
def zml (k : Int) : Int → Res
 | r1 => ([(.one (.pv (.int .i64 r1)))], [], [])
noncomputable def zga (k : Int) : Option (Int) :=
 bif (decide ((k : Int) < 0)) then
  some 0
 else
  bif (decide ((64 : Int) < k)) then
   some 64
  else
   some k
theorem zfG (k r_ : Int) (h : zga k = some r_) : Runs Tryz.prog 159 [(.one (.pv (.int .i64 k)))] [] [] (zml k r_) := by
 unfold zga at h
 rcases zaj h with ⟨h1, h⟩ | ⟨h1, h⟩
 ·have h := zaf h
  subst h
  have t_ := tT h1 <| tN
  exact zag (C := cfg) (sc := t_.ev) (.k0 t_.pf (by kernel_rfl))
 ·rcases zaj h with ⟨h2, h⟩ | ⟨h2, h⟩
  ·have h := zaf h
   subst h
   have t_ := tF h1 <| tT h2 <| tN
   exact zag (C := cfg) (sc := t_.ev) (.k0 t_.pf (by kernel_rfl))
  ·have h := zaf h
   subst h
   have t_ := tF h1 <| tF h2 <| tN
   exact zag (C := cfg) (sc := t_.ev) (.k0 t_.pf (by kernel_rfl))
def zhH (l : List Bool) (k : Int) : Int × Int × List Bool → St
 | (n, i, l2) => ⟨[(0, (.av (.one (.pv (.bools l false))))), (1, (.av (.one (.pv (.int .u64 n))))), (2, (.av (.one (.pv (.int .i64 k))))), (7, (.av (.one (.own 0 0 (l2).length false)))), (8, (.av (.one (.pv (.int .i64 i)))))], [], [(0, (.live (.bools l2)))]⟩
def zex (l : List Bool) (k : Int) : List Bool → Ex × St
 | r1 => ((.exit 0), ⟨[(0, (.av (.one (.pv (.bools l false))))), (7, (.av (.one (.own 0 0 (r1).length false))))], [], [(0, (.live (.bools r1)))]⟩)
noncomputable def zbU (l : List Bool) (k : Int) : Int × Int × List Bool → Option ((Int × Int × List Bool) ⊕ (List Bool))
 | (n, i, l2) =>
 (zga k).bind fun n2 =>
 bif (decide ((i : Int) < n2)) then
  bif Nat.beq ((List.take (l2).length l2)).length 0 then
   some (.inl ((iquo .u64 n 2), (iadd .i64 i 1), [(decide (((irem .u64 n 2) : Int) = 1))]))
  else
   bif fits (([(decide (((irem .u64 n 2) : Int) = 1))] ++ (List.take (l2).length l2))).length then
   some (.inl ((iquo .u64 n 2), (iadd .i64 i 1), ([(decide (((irem .u64 n 2) : Int) = 1))] ++ l2)))
   else none
 else
  some (.inr l2)
theorem zlv (l : List Bool) (k : Int) (s_ : Int × Int × List Bool) (z_ : (Int × Int × List Bool) ⊕ (List Bool)) (h : zbU l k s_ = some z_) : zbQ Tryz.prog cfg 132 0 (zbe Tryz.prog 132 0) (zhH l k) (zex l k) s_ z_ := by
 rcases s_ with ⟨n, i, l2⟩
 rw [zbU] at h
 obtain ⟨n2, h1, h⟩ := zae h
 rcases zaj h with ⟨h2, h⟩ | ⟨h2, h⟩
 ·rcases zaj h with ⟨h3, h⟩ | ⟨h3, h⟩
  ·have h := zaf h
   subst h
   have t_ := tR (zfG k _ h1) <| tT h2 <| tO (rfl : true = true) <| tT h3 <| tO (rfl : true = true) <| tN
   exact ⟨t_.ev, ⟨[(0, (.av (.one (.pv (.bools l false))))), (1, (.av (.one (.pv (.int .u64 (iquo .u64 n 2)))))), (2, (.av (.one (.pv (.int .i64 k))))), (7, (.av (.one (.own 0 0 1 false)))), (8, (.av (.one (.pv (.int .i64 (iadd .i64 i 1))))))], [], [(0, (.live (.bools [(decide (((irem .u64 n 2) : Int) = 1))])))]⟩, .k0 t_.pf (by kernel_rfl), ⟨⟨⟨_, rfl, .eq rfl⟩, ⟨_, rfl, .eq rfl⟩, ⟨_, rfl, .eq rfl⟩, ⟨_, rfl, .own (by first | rfl | (simp only [List.take_length]; done) | (simp; done) | (simp only [List.map_take, List.map_drop, List.map_append, List.take_length, List.nil_append]; done) | (simp only [List.length_map, List.take_length, List.length_append, List.drop_zero, List.map_append, List.map_take, List.map_drop, List.map_replicate, List.map_cons, List.map_nil, List.append_nil, List.nil_append]; done))⟩, ⟨_, rfl, .eq rfl⟩, trivial⟩, trivial, ⟨⟨rfl, .eq rfl⟩, trivial⟩⟩⟩
  ·obtain ⟨h4, h⟩ := zar h
   have h := zaf h
   subst h
   have t_ := tR (zfG k _ h1) <| tT h2 <| tO (rfl : true = true) <| tF (zbc h3) <| tO h4 <| tO (rfl : true = true) <| tN
   exact ⟨t_.ev, ⟨[(0, (.av (.one (.pv (.bools l false))))), (1, (.av (.one (.pv (.int .u64 (iquo .u64 n 2)))))), (2, (.av (.one (.pv (.int .i64 k))))), (7, (.av (.one (.own 0 0 (([(decide (((irem .u64 n 2) : Int) = 1))] ++ (List.take (l2).length l2))).length false)))), (8, (.av (.one (.pv (.int .i64 (iadd .i64 i 1))))))], [], [(0, (.live (.bools ([(decide (((irem .u64 n 2) : Int) = 1))] ++ (List.take (l2).length l2)))))]⟩, .k0 t_.pf (by kernel_rfl), ⟨⟨⟨_, rfl, .eq rfl⟩, ⟨_, rfl, .eq rfl⟩, ⟨_, rfl, .eq rfl⟩, ⟨_, rfl, .own (by first | rfl | (simp only [List.take_length]; done) | (simp; done) | (simp only [List.map_take, List.map_drop, List.map_append, List.take_length, List.nil_append]; done) | (simp only [List.length_map, List.take_length, List.length_append, List.drop_zero, List.map_append, List.map_take, List.map_drop, List.map_replicate, List.map_cons, List.map_nil, List.append_nil, List.nil_append]; done))⟩, ⟨_, rfl, .eq rfl⟩, trivial⟩, trivial, ⟨⟨rfl, .eq (by first | rfl | (simp only [List.take_length]; done) | (simp; done) | (simp only [List.map_take, List.map_drop, List.map_append, List.take_length, List.nil_append]; done) | (simp only [List.length_map, List.take_length, List.length_append, List.drop_zero, List.map_append, List.map_take, List.map_drop, List.map_replicate, List.map_cons, List.map_nil, List.append_nil, List.nil_append]; done))⟩, trivial⟩⟩⟩
 ·have h := zaf h
  subst h
  have t_ := tR (zfG k _ h1) <| tF h2 <| tN
  exact ⟨t_.ev, ⟨[(12, (.av (.one (.pv (.bool false))))), (0, (.av (.one (.pv (.bools l false))))), (1, (.av (.one (.pv (.int .u64 n))))), (2, (.av (.one (.pv (.int .i64 k))))), (7, (.av (.one (.own 0 0 (l2).length false)))), (8, (.av (.one (.pv (.int .i64 i))))), (12, (.av (.one (.pv (.bool (decide ((i : Int) < n2)))))))], [], [(0, (.live (.bools l2)))]⟩, .k0 t_.pf (by kernel_rfl), ⟨⟨⟨_, rfl, .eq rfl⟩, ⟨_, rfl, .eq rfl⟩, trivial⟩, trivial, ⟨⟨rfl, .eq rfl⟩, trivial⟩⟩⟩
theorem zkc (l : List Bool) (k : Int) (s_ : Int × Int × List Bool) (r_ : List Bool) (h : runL (zbU l k) s_ = some r_) : zbK Tryz.prog (lEnv Tryz.prog cfg 132 0).nt 0 (.loop (zbe Tryz.prog 132 0)) (zhH l k s_) (zex l k r_).1 (zex l k r_).2 :=
 zbA h (zlv l k) (by intro r_; rcases r_ with r1 <;> simp [zex])
noncomputable def zda (l : List Bool) (n k : Int) : Option (List Bool) :=
 (runL (zbU l k) (n, 0, [])).bind fun l_ =>
 bif Nat.beq (l).length 0 then
  bif fits (([] ++ (List.take (l_).length l_))).length then
  some ([] ++ l_)
  else none
 else
  bif fits (([] ++ l)).length then
  bif fits ((([] ++ l) ++ (List.take (l_).length l_))).length then
  some (([] ++ l) ++ l_)
  else none
  else none
theorem zeU (l : List Bool) (n k : Int) (r_ : List Bool) (h : zda l n k = some r_) : Runs Tryz.prog 132 [(.one (.pv (.bools l false))), (.one (.pv (.int .u64 n))), (.one (.pv (.int .i64 k)))] [] [] (zpd l n k r_) := by
 unfold zda at h
 obtain ⟨l_, h1, h⟩ := zae h
 have q_1 := (zbK.coe (s0 := ⟨[(0, (.av (.one (.pv (.bools l false))))), (1, (.av (.one (.pv (.int .u64 n))))), (2, (.av (.one (.pv (.int .i64 k))))), (7, (.av (.one (.own 0 0 0 false)))), (8, (.av (.one (.pv (.int .i64 0)))))], [], [(0, (.live (.bools [])))]⟩) (zkc l k _ _ h1) ⟨⟨⟨_, rfl, .eq rfl⟩, ⟨_, rfl, .eq rfl⟩, ⟨_, rfl, .eq rfl⟩, ⟨_, rfl, .own (by first | rfl | (simp only [List.take_length]; done) | (simp; done) | (simp only [List.map_take, List.map_drop, List.map_append, List.take_length, List.nil_append]; done) | (simp only [List.length_map, List.take_length, List.length_append, List.drop_zero, List.map_append, List.map_take, List.map_drop, List.map_replicate, List.map_cons, List.map_nil, List.append_nil, List.nil_append]; done))⟩, ⟨_, rfl, .eq rfl⟩, trivial⟩, trivial, ⟨⟨rfl, .eq rfl⟩, trivial⟩⟩)
 rcases zaj h with ⟨h2, h⟩ | ⟨h2, h⟩
 ·obtain ⟨h3, h⟩ := zar h
  have h := zaf h
  subst h
  have t_ := tL q_1 <| tT h2 <| tO (rfl : true = true) <| tO h3 <| tN
  exact Runs.out (zag (C := cfg) (res := ([(.one (.own 0 0 (([] ++ (List.take (l_).length l_))).length false))], [], [(.bools ([] ++ (List.take (l_).length l_)))])) (sc := t_.ev) (.k0 t_.pf (by kernel_rfl))) ⟨.own (by first | rfl | (simp only [List.take_length]; done) | (simp; done) | (simp only [List.map_take, List.map_drop, List.map_append, List.take_length, List.nil_append]; done) | (simp only [List.length_map, List.take_length, List.length_append, List.drop_zero, List.map_append, List.map_take, List.map_drop, List.map_replicate, List.map_cons, List.map_nil, List.append_nil, List.nil_append]; done)), trivial⟩ trivial ⟨.eq (by first | rfl | (simp only [List.take_length]; done) | (simp; done) | (simp only [List.map_take, List.map_drop, List.map_append, List.take_length, List.nil_append]; done) | (simp only [List.length_map, List.take_length, List.length_append, List.drop_zero, List.map_append, List.map_take, List.map_drop, List.map_replicate, List.map_cons, List.map_nil, List.append_nil, List.nil_append]; done)), trivial⟩ rfl
 ·obtain ⟨h3, h⟩ := zar h
  obtain ⟨h4, h⟩ := zar h
  have h := zaf h
  subst h
  have t_ := tL q_1 <| tF (zbc h2) <| tO h3 <| tO (show (Nat.beq (([] ++ l)).length (([] ++ l)).length) = true from Nat.beq_refl _) <| tO h4 <| tN
  exact Runs.out (zag (C := cfg) (res := ([(.one (.own 0 0 ((([] ++ l) ++ (List.take (l_).length l_))).length false))], [], [(.bools (([] ++ l) ++ (List.take (l_).length l_)))])) (sc := t_.ev) (.k0 t_.pf (by kernel_rfl))) ⟨.own (by first | rfl | (simp only [List.take_length]; done) | (simp; done) | (simp only [List.map_take, List.map_drop, List.map_append, List.take_length, List.nil_append]; done) | (simp only [List.length_map, List.take_length, List.length_append, List.drop_zero, List.map_append, List.map_take, List.map_drop, List.map_replicate, List.map_cons, List.map_nil, List.append_nil, List.nil_append]; done)), trivial⟩ trivial ⟨.eq (by first | rfl | (simp only [List.take_length]; done) | (simp; done) | (simp only [List.map_take, List.map_drop, List.map_append, List.take_length, List.nil_append]; done) | (simp only [List.length_map, List.take_length, List.length_append, List.drop_zero, List.map_append, List.map_take, List.map_drop, List.map_replicate, List.map_cons, List.map_nil, List.append_nil, List.nil_append]; done)), trivial⟩ rfl
noncomputable def zkd (rec_kr07_ID : List Bool → zah → Option (List Bool)) (l : List Bool) (i : zah) : Option (List Bool) :=
 match i with
 | .nil =>
  none
 | .mk n t t2 =>
  bif (decide ((n : Int) < 2)) then
   (zda l 0 2).bind fun l_ =>
   (zda l_ (IntKind.u64.wrap n) 1).bind fun l_2 =>
   some l_2
  else
   match t with
   | .nil =>
    none
   | .mk n2 t3 t4 =>
    bif (decide ((n2 : Int) = 0)) then
     (zda l 1 2).bind fun l_ =>
     (rec_kr07_ID l_ t2).bind fun l_2 =>
     some l_2
    else
     match t2 with
     | .nil =>
      none
     | .mk n3 t5 t6 =>
      bif (decide ((n3 : Int) = 0)) then
       (zda l 2 2).bind fun l_ =>
       (rec_kr07_ID l_ t).bind fun l_2 =>
       some l_2
      else
       (zda l 3 2).bind fun l_ =>
       (rec_kr07_ID l_ t).bind fun l_2 =>
       (rec_kr07_ID l_2 t2).bind fun l_3 =>
       some l_3
theorem znm (rec_kr07_ID : List Bool → zah → Option (List Bool)) (hrec_kr07_ID : ∀ l i r_, rec_kr07_ID l i = some r_ → Runs Tryz.prog 112 [(.one (.pv (.bools l false))), (.one (.pv (zah.pv i)))] [] [] (zjJ l i r_)) (l : List Bool) (i : zah) (r_ : List Bool) (h : zkd rec_kr07_ID l i = some r_) : Runs Tryz.prog 112 [(.one (.pv (.bools l false))), (.one (.pv (zah.pv i)))] [] [] (zjJ l i r_) := by
 unfold zkd at h
 cases i with
 | nil =>
  cases h
 | mk n t t2 =>
  rcases zaj h with ⟨h1, h⟩ | ⟨h1, h⟩
  ·obtain ⟨l_, h2, h⟩ := zae h
   obtain ⟨l_2, h3, h⟩ := zae h
   have h := zaf h
   subst h
   have t_ := tT h1 <| tR (zeU l 0 2 _ h2) <| tR (Runs.coe (as' := [(.one (.pv (.bools (List.take (l_).length l_) false))), (.one (.pv (.int .u64 (IntKind.u64.wrap n)))), (.one (.pv (.int .i64 1)))]) (objs' := []) (rows' := []) (zeU l_ (IntKind.u64.wrap n) 1 _ h3) ⟨.pv (.bools (by first | rfl | (simp only [List.take_length]; done) | (simp; done) | (simp only [List.map_take, List.map_drop, List.map_append, List.take_length, List.nil_append]; done) | (simp only [List.length_map, List.take_length, List.length_append, List.drop_zero, List.map_append, List.map_take, List.map_drop, List.map_replicate, List.map_cons, List.map_nil, List.append_nil, List.nil_append]; done))), .eq rfl, .eq rfl, trivial⟩ trivial trivial) <| tN
   exact zag (C := cfg) (sc := t_.ev) (.k0 t_.pf (by kernel_rfl))
  ·cases t with
   | nil =>
    cases h
   | mk n2 t3 t4 =>
    rcases zaj h with ⟨h2, h⟩ | ⟨h2, h⟩
    ·obtain ⟨l_, h3, h⟩ := zae h
     obtain ⟨l_2, h4, h⟩ := zae h
     have h := zaf h
     subst h
     have t_ := tF h1 <| tT h2 <| tR (zeU l 1 2 _ h3) <| tR (Runs.coe (as' := [(.one (.pv (.bools (List.take (l_).length l_) false))), (.one (.pv (zah.pv t2)))]) (objs' := []) (rows' := []) (hrec_kr07_ID l_ t2 _ h4) ⟨.pv (.bools (by first | rfl | (simp only [List.take_length]; done) | (simp; done) | (simp only [List.map_take, List.map_drop, List.map_append, List.take_length, List.nil_append]; done) | (simp only [List.length_map, List.take_length, List.length_append, List.drop_zero, List.map_append, List.map_take, List.map_drop, List.map_replicate, List.map_cons, List.map_nil, List.append_nil, List.nil_append]; done))), .eq rfl, trivial⟩ trivial trivial) <| tN
     exact zag (C := cfg) (sc := t_.ev) (.k0 t_.pf (by kernel_rfl))
    ·cases t2 with
     | nil =>
      cases h
     | mk n3 t5 t6 =>
      rcases zaj h with ⟨h3, h⟩ | ⟨h3, h⟩
      ·obtain ⟨l_, h4, h⟩ := zae h
       obtain ⟨l_2, h5, h⟩ := zae h
       have h := zaf h
       subst h
       have t_ := tF h1 <| tF h2 <| tT h3 <| tR (zeU l 2 2 _ h4) <| tR (Runs.coe (as' := [(.one (.pv (.bools (List.take (l_).length l_) false))), (.one (.pv (zah.pv (zah.mk n2 t3 t4))))]) (objs' := []) (rows' := []) (hrec_kr07_ID l_ (zah.mk n2 t3 t4) _ h5) ⟨.pv (.bools (by first | rfl | (simp only [List.take_length]; done) | (simp; done) | (simp only [List.map_take, List.map_drop, List.map_append, List.take_length, List.nil_append]; done) | (simp only [List.length_map, List.take_length, List.length_append, List.drop_zero, List.map_append, List.map_take, List.map_drop, List.map_replicate, List.map_cons, List.map_nil, List.append_nil, List.nil_append]; done))), .eq rfl, trivial⟩ trivial trivial) <| tN
       exact zag (C := cfg) (sc := t_.ev) (.k0 t_.pf (by kernel_rfl))
      ·obtain ⟨l_, h4, h⟩ := zae h
       obtain ⟨l_2, h5, h⟩ := zae h
       obtain ⟨l_3, h6, h⟩ := zae h
       have h := zaf h
       subst h
       have t_ := tF h1 <| tF h2 <| tF h3 <| tR (zeU l 3 2 _ h4) <| tR (Runs.coe (as' := [(.one (.pv (.bools (List.take (l_).length l_) false))), (.one (.pv (zah.pv (zah.mk n2 t3 t4))))]) (objs' := []) (rows' := []) (hrec_kr07_ID l_ (zah.mk n2 t3 t4) _ h5) ⟨.pv (.bools (by first | rfl | (simp only [List.take_length]; done) | (simp; done) | (simp only [List.map_take, List.map_drop, List.map_append, List.take_length, List.nil_append]; done) | (simp only [List.length_map, List.take_length, List.length_append, List.drop_zero, List.map_append, List.map_take, List.map_drop, List.map_replicate, List.map_cons, List.map_nil, List.append_nil, List.nil_append]; done))), .eq rfl, trivial⟩ trivial trivial) <| tR (Runs.coe (as' := [(.one (.pv (.bools (List.take (l_2).length l_2) false))), (.one (.pv (zah.pv (zah.mk n3 t5 t6))))]) (objs' := []) (rows' := []) (hrec_kr07_ID l_2 (zah.mk n3 t5 t6) _ h6) ⟨.pv (.bools (by first | rfl | (simp only [List.take_length]; done) | (simp; done) | (simp only [List.map_take, List.map_drop, List.map_append, List.take_length, List.nil_append]; done) | (simp only [List.length_map, List.take_length, List.length_append, List.drop_zero, List.map_append, List.map_take, List.map_drop, List.map_replicate, List.map_cons, List.map_nil, List.append_nil, List.nil_append]; done))), .eq rfl, trivial⟩ trivial trivial) <| tN
       exact zag (C := cfg) (sc := t_.ev) (.k0 t_.pf (by kernel_rfl))
noncomputable def zjI : Nat → List Bool → zah → Option (List Bool)
 | 0, _, _ => none
 | N + 1, l, i => zkd (zjI N) l i
theorem zli : ∀ (N : Nat) (l : List Bool) (i : zah) (r_ : List Bool), zjI N l i = some r_ → Runs Tryz.prog 112 [(.one (.pv (.bools l false))), (.one (.pv (zah.pv i)))] [] [] (zjJ l i r_)
 | 0, _, _, _, h => by cases h
 | N + 1, l, i, r_, h => znm (zjI N) (zli N) l i r_ h
def znk (l : List Bool) : List Int → Res
 | r1 => ([(.one (.own 0 0 (r1).length false))], [], [(.ints .u8 r1)])
def zc9 (l : List Bool) (i : Int) (l2 : List Int) : Int × Int → St
 | (b, k) => ⟨[(0, (.av (.one (.pv (.bools l false))))), (3, (.av (.one (.own 0 0 (l2).length false)))), (4, (.av (.one (.pv (.int .i64 i))))), (5, (.av (.one (.pv (.int .u8 b))))), (6, (.av (.one (.pv (.int .i64 k)))))], [], [(0, (.live (.ints .u8 l2)))]⟩
def zdW (l : List Bool) (i : Int) (l2 : List Int) : Int → Ex × St
 | r1 => ((.exit 2), ⟨[(0, (.av (.one (.pv (.bools l false))))), (3, (.av (.one (.own 0 0 (l2).length false)))), (4, (.av (.one (.pv (.int .i64 i))))), (5, (.av (.one (.pv (.int .u8 r1)))))], [], [(0, (.live (.ints .u8 l2)))]⟩)
noncomputable def zcb (l : List Bool) (i : Int) (l2 : List Int) : Int × Int → Option ((Int × Int) ⊕ (Int))
 | (b, k) =>
 bif (decide ((k : Int) < 8)) then
  bif (decide (((iadd .i64 i k) : Int) < ((l).length : Int))) then
   bif decide ((0 : Int) ≤ (iadd .i64 i k)) && decide (((iadd .i64 i k) : Int) < ((l).length : Int)) then
   bif (l.getD ((iadd .i64 i k)).toNat false) then
    some (.inl ((iadd .u8 (imul .u8 b 2) 1), (iadd .i64 k 1)))
   else
    some (.inl ((imul .u8 b 2), (iadd .i64 k 1)))
   else none
  else
   some (.inl ((imul .u8 b 2), (iadd .i64 k 1)))
 else
  some (.inr b)
theorem zkb (l : List Bool) (i : Int) (l2 : List Int) (s_ : Int × Int) (z_ : (Int × Int) ⊕ (Int)) (h : zcb l i l2 s_ = some z_) : zbQ Tryz.prog cfg 111 0 (zbe Tryz.prog 111 1) (zc9 l i l2) (zdW l i l2) s_ z_ := by
 rcases s_ with ⟨b, k⟩
 rcases zaj h with ⟨h1, h⟩ | ⟨h1, h⟩
 ·rcases zaj h with ⟨h2, h⟩ | ⟨h2, h⟩
  ·obtain ⟨h3, h⟩ := zar h
   rcases zaj h with ⟨h4, h⟩ | ⟨h4, h⟩
   ·have h := zaf h
    subst h
    have t_ := tT h1 <| tT h2 <| tO h3 <| tT h4 <| tN
    exact ⟨t_.ev, zc9 l i l2 ((iadd .u8 (imul .u8 b 2) 1), (iadd .i64 k 1)), .k0 t_.pf (by kernel_rfl), .same (by kernel_rfl)⟩
   ·have h := zaf h
    subst h
    have t_ := tT h1 <| tT h2 <| tO h3 <| tF h4 <| tN
    exact ⟨t_.ev, zc9 l i l2 ((imul .u8 b 2), (iadd .i64 k 1)), .k0 t_.pf (by kernel_rfl), .same (by kernel_rfl)⟩
  ·have h := zaf h
   subst h
   have t_ := tT h1 <| tF h2 <| tF (rfl : false = false) <| tN
   exact ⟨t_.ev, zc9 l i l2 ((imul .u8 b 2), (iadd .i64 k 1)), .k0 t_.pf (by kernel_rfl), .same (by kernel_rfl)⟩
 ·have h := zaf h
  subst h
  have t_ := tF h1 <| tN
  exact ⟨t_.ev, ⟨[(14, (.av (.one (.pv (.bool false))))), (0, (.av (.one (.pv (.bools l false))))), (3, (.av (.one (.own 0 0 (l2).length false)))), (4, (.av (.one (.pv (.int .i64 i))))), (5, (.av (.one (.pv (.int .u8 b))))), (6, (.av (.one (.pv (.int .i64 k))))), (14, (.av (.one (.pv (.bool (decide ((k : Int) < 8)))))))], [], [(0, (.live (.ints .u8 l2)))]⟩, .k0 t_.pf (by kernel_rfl), ⟨⟨⟨_, rfl, .eq rfl⟩, ⟨_, rfl, .eq rfl⟩, ⟨_, rfl, .eq rfl⟩, ⟨_, rfl, .eq rfl⟩, trivial⟩, trivial, ⟨⟨rfl, .eq rfl⟩, trivial⟩⟩⟩
theorem zjb (l : List Bool) (i : Int) (l2 : List Int) (s_ : Int × Int) (r_ : Int) (h : runL (zcb l i l2) s_ = some r_) : zbK Tryz.prog (lEnv Tryz.prog cfg 111 0).nt 0 (.loop (zbe Tryz.prog 111 1)) (zc9 l i l2 s_) (zdW l i l2 r_).1 (zdW l i l2 r_).2 :=
 zbA h (zkb l i l2) (by intro r_; rcases r_ with r1 <;> simp [zdW])
def zeT (l : List Bool) : Int × List Int → St
 | (i, l2) => ⟨[(0, (.av (.one (.pv (.bools l false))))), (3, (.av (.one (.own 0 0 (l2).length false)))), (4, (.av (.one (.pv (.int .i64 i)))))], [], [(0, (.live (.ints .u8 l2)))]⟩
def zdV (l : List Bool) : List Int → Ex × St
 | r1 => ((.exit 0), ⟨[(3, (.av (.one (.own 0 0 (r1).length false))))], [], [(0, (.live (.ints .u8 r1)))]⟩)
noncomputable def zbT (l : List Bool) : Int × List Int → Option ((Int × List Int) ⊕ (List Int))
 | (i, l2) =>
 bif (decide ((i : Int) < ((l).length : Int))) then
  (runL (zcb l i l2) (0, 0)).bind fun n =>
  bif fits ((l2 ++ [n])).length then
  some (.inl ((iadd .i64 i 8), (l2 ++ [n])))
  else none
 else
  some (.inr l2)
theorem zka (l : List Bool) (s_ : Int × List Int) (z_ : (Int × List Int) ⊕ (List Int)) (h : zbT l s_ = some z_) : zbQ Tryz.prog cfg 111 0 (zbe Tryz.prog 111 0) (zeT l) (zdV l) s_ z_ := by
 rcases s_ with ⟨i, l2⟩
 rcases zaj h with ⟨h1, h⟩ | ⟨h1, h⟩
 ·obtain ⟨n, h2, h⟩ := zae h
  obtain ⟨h3, h⟩ := zar h
  have h := zaf h
  subst h
  have t_ := tT h1 <| tL (zjb l i l2 _ _ h2) <| tO (show (Nat.beq (l2).length (l2).length) = true from Nat.beq_refl _) <| tO h3 <| tN
  exact ⟨t_.ev, zeT l ((iadd .i64 i 8), (l2 ++ [n])), .k0 t_.pf (by kernel_rfl), .same (by kernel_rfl)⟩
 ·have h := zaf h
  subst h
  have t_ := tF h1 <| tN
  exact ⟨t_.ev, ⟨[(10, (.av (.one (.pv (.bool false))))), (0, (.av (.one (.pv (.bools l false))))), (3, (.av (.one (.own 0 0 (l2).length false)))), (4, (.av (.one (.pv (.int .i64 i))))), (10, (.av (.one (.pv (.bool (decide ((i : Int) < ((l).length : Int))))))))], [], [(0, (.live (.ints .u8 l2)))]⟩, .k0 t_.pf (by kernel_rfl), ⟨⟨⟨_, rfl, .eq rfl⟩, trivial⟩, trivial, ⟨⟨rfl, .eq rfl⟩, trivial⟩⟩⟩
theorem zja (l : List Bool) (s_ : Int × List Int) (r_ : List Int) (h : runL (zbT l) s_ = some r_) : zbK Tryz.prog (lEnv Tryz.prog cfg 111 0).nt 0 (.loop (zbe Tryz.prog 111 0)) (zeT l s_) (zdV l r_).1 (zdV l r_).2 :=
 zbA h (zka l) (by intro r_; rcases r_ with r1 <;> simp [zdV])
noncomputable def zfX (l : List Bool) : Option (List Int) :=
 (runL (zbT l) (0, [])).bind fun l_ =>
 some l_
theorem zmk (l : List Bool) (r_ : List Int) (h : zfX l = some r_) : Runs Tryz.prog 111 [(.one (.pv (.bools l false)))] [] [] (znk l r_) := by
 unfold zfX at h
 obtain ⟨l_, h1, h⟩ := zae h
 have h := zaf h
 subst h
 have t_ := tL (zbK.coe (s0 := ⟨[(0, (.av (.one (.pv (.bools l false))))), (3, (.av (.one (.own 0 0 0 false)))), (4, (.av (.one (.pv (.int .i64 0)))))], [], [(0, (.live (.ints .u8 [])))]⟩) (zja l _ _ h1) ⟨⟨⟨_, rfl, .eq rfl⟩, ⟨_, rfl, .own (by first | rfl | (simp only [List.take_length]; done) | (simp; done) | (simp only [List.map_take, List.map_drop, List.map_append, List.take_length, List.nil_append]; done) | (simp only [List.length_map, List.take_length, List.length_append, List.drop_zero, List.map_append, List.map_take, List.map_drop, List.map_replicate, List.map_cons, List.map_nil, List.append_nil, List.nil_append]; done))⟩, ⟨_, rfl, .eq rfl⟩, trivial⟩, trivial, ⟨⟨rfl, .eq rfl⟩, trivial⟩⟩) <| tN
 exact zag (C := cfg) (sc := t_.ev) (.k0 t_.pf (by kernel_rfl))
def zot (s : ByteArray) : List Int → Res
 | r1 => ([(.one (.own 0 0 (r1).length false))], [], [(.ints .u8 r1)])
noncomputable def ziF (N : Nat) (s : ByteArray) : Option (List Int) :=
 (zcz N (IntKind.u64.wrap (s.size : Int))).bind fun l_ =>
 bif decide (s.size ≤ 140737488355328) then
 bif fits ((l_ ++ (List.take (zc6 s).length (zc6 s)))).length then
 some (l_ ++ (zc6 s))
 else none
 else none
theorem znl (N : Nat) (s : ByteArray) (r_ : List Int) (h : ziF N s = some r_) : Runs Tryz.prog 110 [(.one (.pv (.str s)))] [] [] (zot s r_) := by
 unfold ziF at h
 obtain ⟨l_, h1, h⟩ := zae h
 obtain ⟨h2, h⟩ := zar h
 obtain ⟨h3, h⟩ := zar h
 have h := zaf h
 subst h
 have t_ := tR (zaA N (IntKind.u64.wrap (s.size : Int)) _ h1) <| tO h2 <| tO (show (Nat.beq (l_).length (l_).length) = true from Nat.beq_refl _) <| tO h3 <| tN
 exact Runs.out (zag (C := cfg) (res := ([(.one (.own 0 0 ((l_ ++ (List.take (zc6 s).length (zc6 s)))).length false))], [], [(.ints .u8 (l_ ++ (List.take (zc6 s).length (zc6 s))))])) (sc := t_.ev) (.k0 t_.pf (by kernel_rfl))) ⟨.own (by first | rfl | (simp only [List.take_length]; done) | (simp; done) | (simp only [List.map_take, List.map_drop, List.map_append, List.take_length, List.nil_append]; done) | (simp only [List.length_map, List.take_length, List.length_append, List.drop_zero, List.map_append, List.map_take, List.map_drop, List.map_replicate, List.map_cons, List.map_nil, List.append_nil, List.nil_append]; done)), trivial⟩ trivial ⟨.eq (by first | rfl | (simp only [List.take_length]; done) | (simp; done) | (simp only [List.map_take, List.map_drop, List.map_append, List.take_length, List.nil_append]; done) | (simp only [List.length_map, List.take_length, List.length_append, List.drop_zero, List.map_append, List.map_take, List.map_drop, List.map_replicate, List.map_cons, List.map_nil, List.append_nil, List.nil_append]; done)), trivial⟩ rfl
noncomputable def zfA (N : Nat) (g g2 g3 : Int) (g4 : zah) : Option (List Int) :=
 (zcz N g).bind fun l_ =>
 (zcz N (IntKind.u64.wrap g2)).bind fun l_2 =>
 (zcz N (IntKind.u64.wrap g3)).bind fun l_3 =>
 (zjI N [] g4).bind fun l_4 =>
 (zfX l_4).bind fun l_5 =>
 (ziF N (Ev.strOf (List.take (l_5).length l_5))).bind fun l_6 =>
 (zdx [(zaq.mk l_), (zaq.mk l_2), (zaq.mk l_3), (zaq.mk l_6)]).bind fun l_7 =>
 some l_7
theorem zkY (N : Nat) (g g2 g3 : Int) (g4 : zah) (r_ : List Int) (h : zfA N g g2 g3 g4 = some r_) : Runs Tryz.prog 76 [(.agg [(.pv (.int .u64 g)), (.pv (.int .i64 g2)), (.pv (.int .i64 g3)), (.pv (zah.pv g4))])] [] [] (zlA g g2 g3 g4 r_) := by
 unfold zfA at h
 obtain ⟨l_, h1, h⟩ := zae h
 obtain ⟨l_2, h2, h⟩ := zae h
 obtain ⟨l_3, h3, h⟩ := zae h
 obtain ⟨l_4, h4, h⟩ := zae h
 obtain ⟨l_5, h5, h⟩ := zae h
 obtain ⟨l_6, h6, h⟩ := zae h
 obtain ⟨l_7, h7, h⟩ := zae h
 have h := zaf h
 subst h
 have t_ := tR (zaA N g _ h1) <| tR (zaA N g _ h1) <| tR (zaA N g _ h1) <| tR (zaA N g _ h1) <| tR (zaA N (IntKind.u64.wrap g2) _ h2) <| tR (zaA N g _ h1) <| tR (zaA N g _ h1) <| tR (zaA N (IntKind.u64.wrap g2) _ h2) <| tR (zaA N g _ h1) <| tR (zaA N (IntKind.u64.wrap g2) _ h2) <| tR (zaA N g _ h1) <| tR (zaA N (IntKind.u64.wrap g2) _ h2) <| tR (zaA N (IntKind.u64.wrap g3) _ h3) <| tR (zaA N (IntKind.u64.wrap g3) _ h3) <| tR (Runs.coe (as' := [(.one (.pv .nils)), (.one (.pv (zah.pv g4)))]) (objs' := []) (rows' := []) (zli N [] g4 _ h4) ⟨.pv (.nilsB), .eq rfl, trivial⟩ trivial trivial) <| tR (Runs.coe (as' := [(.one (.pv (.bools (List.take (l_4).length l_4) false)))]) (objs' := []) (rows' := []) (zmk l_4 _ h5) ⟨.pv (.bools (by first | rfl | (simp only [List.take_length]; done) | (simp; done) | (simp only [List.map_take, List.map_drop, List.map_append, List.take_length, List.nil_append]; done) | (simp only [List.length_map, List.take_length, List.length_append, List.drop_zero, List.map_append, List.map_take, List.map_drop, List.map_replicate, List.map_cons, List.map_nil, List.append_nil, List.nil_append]; done))), trivial⟩ trivial trivial) <| tR (znl N (Ev.strOf (List.take (l_5).length l_5)) _ h6) <| tR (Runs.coe (as' := [(.one (.pv (.recs 1 [[(.ints .u8 (List.take (l_).length l_) false)], [(.ints .u8 (List.take (l_2).length l_2) false)], [(.ints .u8 (List.take (l_3).length l_3) false)], [(.ints .u8 (List.take (l_6).length l_6) false)]] true)))]) (objs' := []) (rows' := []) (zdh [(zaq.mk l_), (zaq.mk l_2), (zaq.mk l_3), (zaq.mk l_6)] _ h7) ⟨.pv (.recs (.cons (.cons (.ints (by first | rfl | (simp only [List.take_length]; done) | (simp; done) | (simp only [List.map_take, List.map_drop, List.map_append, List.take_length, List.nil_append]; done) | (simp only [List.length_map, List.take_length, List.length_append, List.drop_zero, List.map_append, List.map_take, List.map_drop, List.map_replicate, List.map_cons, List.map_nil, List.append_nil, List.nil_append]; done))) (.nil)) (.cons (.cons (.ints (by first | rfl | (simp only [List.take_length]; done) | (simp; done) | (simp only [List.map_take, List.map_drop, List.map_append, List.take_length, List.nil_append]; done) | (simp only [List.length_map, List.take_length, List.length_append, List.drop_zero, List.map_append, List.map_take, List.map_drop, List.map_replicate, List.map_cons, List.map_nil, List.append_nil, List.nil_append]; done))) (.nil)) (.cons (.cons (.ints (by first | rfl | (simp only [List.take_length]; done) | (simp; done) | (simp only [List.map_take, List.map_drop, List.map_append, List.take_length, List.nil_append]; done) | (simp only [List.length_map, List.take_length, List.length_append, List.drop_zero, List.map_append, List.map_take, List.map_drop, List.map_replicate, List.map_cons, List.map_nil, List.append_nil, List.nil_append]; done))) (.nil)) (.cons (.cons (.ints (by first | rfl | (simp only [List.take_length]; done) | (simp; done) | (simp only [List.map_take, List.map_drop, List.map_append, List.take_length, List.nil_append]; done) | (simp only [List.length_map, List.take_length, List.length_append, List.drop_zero, List.map_append, List.map_take, List.map_drop, List.map_replicate, List.map_cons, List.map_nil, List.append_nil, List.nil_append]; done))) (.nil)) (.nil)))))), trivial⟩ trivial trivial) <| tN
 exact zag (C := cfg) (sc := t_.ev) (.k1 t_.pf (by kernel_rfl) (by kernel_rfl))
def zfH (r : List zab) (n n2 n3 : Int) (r2 : List zab) (l : List Int) (r3 : List zac) : Int × List Int → St
 | (n4, l2) => ⟨[(0, (.av (.one (.ref 0 0)))), (3, (.av (.one (.own 0 0 (l2).length false)))), (33, (.av (.one (.pv (.recs 4 (List.map zab.pv r) false))))), (34, (.av (.one (.pv (.int .i64 n))))), (35, (.av (.one (.pv (.int .i64 n4)))))], [(0, [(.pv (.int .i64 n2)), (.pv (.int .u64 n3)), (.pv (.recs 4 (List.map zab.pv r2) false)), (.pv (.ints .i64 l false)), (.pv (.recs 2 (List.map zac.pv r3) false))])], [(0, (.live (.ints .u8 l2)))]⟩
def zey (r : List zab) (n n2 n3 : Int) (r2 : List zab) (l : List Int) (r3 : List zac) : List Int → Ex × St
 | r1 => ((.exit 0), ⟨[(0, (.av (.one (.ref 0 0)))), (3, (.av (.one (.own 0 0 (r1).length false))))], [(0, [(.pv (.int .i64 n2)), (.pv (.int .u64 n3)), (.pv (.recs 4 (List.map zab.pv r2) false)), (.pv (.ints .i64 l false)), (.pv (.recs 2 (List.map zac.pv r3) false))])], [(0, (.live (.ints .u8 r1)))]⟩)
noncomputable def zb4 (N : Nat) (r : List zab) (n n2 n3 : Int) (r2 : List zab) (l : List Int) (r3 : List zac) : Int × List Int → Option ((Int × List Int) ⊕ (List Int))
 | (n4, l2) =>
 bif (decide ((n4 : Int) < n)) then
  bif decide ((0 : Int) ≤ n4) && decide ((n4 : Int) < (((List.map zab.pv r)).length : Int)) then
  (r[(n4).toNat]?).bind fun e_ => match e_ with
  | .mk n5 n6 n7 t =>
  (zfA N n5 n6 n7 t).bind fun l_ =>
  (zdx [(zaq.mk l2), (zaq.mk l_)]).bind fun l_2 =>
  some (.inl ((iadd .i64 n4 1), l_2))
  else none
 else
  some (.inr l2)
theorem zlw (N : Nat) (r : List zab) (n n2 n3 : Int) (r2 : List zab) (l : List Int) (r3 : List zac) (s_ : Int × List Int) (z_ : (Int × List Int) ⊕ (List Int)) (h : zb4 N r n n2 n3 r2 l r3 s_ = some z_) : zbQ Tryz.prog cfg 35 1 (zbe Tryz.prog 35 0) (zfH r n n2 n3 r2 l r3) (zey r n n2 n3 r2 l r3) s_ z_ := by
 rcases s_ with ⟨n4, l2⟩
 rcases zaj h with ⟨h1, h⟩ | ⟨h1, h⟩
 ·obtain ⟨h2, h⟩ := zar h
  obtain ⟨⟨n5, n6, n7, t⟩, h3, h⟩ := zae h
  obtain ⟨l_, h4, h⟩ := zae h
  obtain ⟨l_2, h5, h⟩ := zae h
  have h := zaf h
  subst h
  have t_ := tT h1 <| tO h2 <| tE (.el [(.int .u64 n5), (.int .i64 n6), (.int .i64 n7), (zah.pv t)]) <| tO (zdi (f := zab.pv) h3) <| tR (zkY N n5 n6 n7 t _ h4) <| tR (Runs.coe (as' := [(.one (.pv (.recs 1 [[(.ints .u8 (List.take (l2).length l2) false)], [(.ints .u8 (List.take (l_).length l_) false)]] true)))]) (objs' := []) (rows' := []) (zdh [(zaq.mk l2), (zaq.mk l_)] _ h5) ⟨.pv (.recs (.cons (.cons (.ints (by first | rfl | (simp only [List.take_length]; done) | (simp; done) | (simp only [List.map_take, List.map_drop, List.map_append, List.take_length, List.nil_append]; done) | (simp only [List.length_map, List.take_length, List.length_append, List.drop_zero, List.map_append, List.map_take, List.map_drop, List.map_replicate, List.map_cons, List.map_nil, List.append_nil, List.nil_append]; done))) (.nil)) (.cons (.cons (.ints (by first | rfl | (simp only [List.take_length]; done) | (simp; done) | (simp only [List.map_take, List.map_drop, List.map_append, List.take_length, List.nil_append]; done) | (simp only [List.length_map, List.take_length, List.length_append, List.drop_zero, List.map_append, List.map_take, List.map_drop, List.map_replicate, List.map_cons, List.map_nil, List.append_nil, List.nil_append]; done))) (.nil)) (.nil)))), trivial⟩ trivial trivial) <| tN
  exact ⟨t_.ev, zfH r n n2 n3 r2 l r3 ((iadd .i64 n4 1), l_2), .k0 t_.pf (by kernel_rfl), .same (by kernel_rfl)⟩
 ·have h := zaf h
  subst h
  have t_ := tF h1 <| tN
  exact ⟨t_.ev, ⟨[(36, (.av (.one (.pv (.bool false))))), (0, (.av (.one (.ref 0 0)))), (3, (.av (.one (.own 0 0 (l2).length false)))), (33, (.av (.one (.pv (.recs 4 (List.map zab.pv r) false))))), (34, (.av (.one (.pv (.int .i64 n))))), (35, (.av (.one (.pv (.int .i64 n4))))), (36, (.av (.one (.pv (.bool (decide ((n4 : Int) < n)))))))], [(0, [(.pv (.int .i64 n2)), (.pv (.int .u64 n3)), (.pv (.recs 4 (List.map zab.pv r2) false)), (.pv (.ints .i64 l false)), (.pv (.recs 2 (List.map zac.pv r3) false))])], [(0, (.live (.ints .u8 l2)))]⟩, .k0 t_.pf (by kernel_rfl), ⟨⟨⟨_, rfl, .eq rfl⟩, ⟨_, rfl, .eq rfl⟩, trivial⟩, ⟨⟨rfl, ⟨.eq rfl, .eq rfl, .eq rfl, .eq rfl, .eq rfl, trivial⟩⟩, trivial⟩, ⟨⟨rfl, .eq rfl⟩, trivial⟩⟩⟩
theorem zke (N : Nat) (r : List zab) (n n2 n3 : Int) (r2 : List zab) (l : List Int) (r3 : List zac) (s_ : Int × List Int) (r_ : List Int) (h : runL (zb4 N r n n2 n3 r2 l r3) s_ = some r_) : zbK Tryz.prog (lEnv Tryz.prog cfg 35 1).nt 1 (.loop (zbe Tryz.prog 35 0)) (zfH r n n2 n3 r2 l r3 s_) (zey r n n2 n3 r2 l r3 r_).1 (zey r n n2 n3 r2 l r3 r_).2 :=
 zbA h (zlw N r n n2 n3 r2 l r3) (by intro r_; rcases r_ with r1 <;> simp [zey])
def zfI (l : List Int) (n n2 n3 : Int) (r : List zab) (l2 : List Int) (r2 : List zac) : Int × List Int → St
 | (n4, l3) => ⟨[(0, (.av (.one (.ref 0 0)))), (3, (.av (.one (.own 0 0 (l3).length false)))), (58, (.av (.one (.pv (.ints .i64 l false))))), (59, (.av (.one (.pv (.int .i64 n))))), (60, (.av (.one (.pv (.int .i64 n4)))))], [(0, [(.pv (.int .i64 n2)), (.pv (.int .u64 n3)), (.pv (.recs 4 (List.map zab.pv r) false)), (.pv (.ints .i64 l2 false)), (.pv (.recs 2 (List.map zac.pv r2) false))])], [(0, (.live (.ints .u8 l3)))]⟩
def zez (l : List Int) (n n2 n3 : Int) (r : List zab) (l2 : List Int) (r2 : List zac) : List Int → Ex × St
 | r1 => ((.exit 2), ⟨[(0, (.av (.one (.ref 0 0)))), (3, (.av (.one (.own 0 0 (r1).length false))))], [(0, [(.pv (.int .i64 n2)), (.pv (.int .u64 n3)), (.pv (.recs 4 (List.map zab.pv r) false)), (.pv (.ints .i64 l2 false)), (.pv (.recs 2 (List.map zac.pv r2) false))])], [(0, (.live (.ints .u8 r1)))]⟩)
noncomputable def zb5 (N : Nat) (l : List Int) (n n2 n3 : Int) (r : List zab) (l2 : List Int) (r2 : List zac) : Int × List Int → Option ((Int × List Int) ⊕ (List Int))
 | (n4, l3) =>
 bif (decide ((n4 : Int) < n)) then
  bif decide ((0 : Int) ≤ n4) && decide ((n4 : Int) < ((l).length : Int)) then
  (zcz N (IntKind.u64.wrap (l.getD (n4).toNat 0))).bind fun l_ =>
  (zdx [(zaq.mk l3), (zaq.mk l_)]).bind fun l_2 =>
  some (.inl ((iadd .i64 n4 1), l_2))
  else none
 else
  some (.inr l3)
theorem zlx (N : Nat) (l : List Int) (n n2 n3 : Int) (r : List zab) (l2 : List Int) (r2 : List zac) (s_ : Int × List Int) (z_ : (Int × List Int) ⊕ (List Int)) (h : zb5 N l n n2 n3 r l2 r2 s_ = some z_) : zbQ Tryz.prog cfg 35 1 (zbe Tryz.prog 35 1) (zfI l n n2 n3 r l2 r2) (zez l n n2 n3 r l2 r2) s_ z_ := by
 rcases s_ with ⟨n4, l3⟩
 rcases zaj h with ⟨h1, h⟩ | ⟨h1, h⟩
 ·obtain ⟨h2, h⟩ := zar h
  obtain ⟨l_, h3, h⟩ := zae h
  obtain ⟨l_2, h4, h⟩ := zae h
  have h := zaf h
  subst h
  have t_ := tT h1 <| tO h2 <| tR (zaA N (IntKind.u64.wrap (l.getD (n4).toNat 0)) _ h3) <| tR (Runs.coe (as' := [(.one (.pv (.recs 1 [[(.ints .u8 (List.take (l3).length l3) false)], [(.ints .u8 (List.take (l_).length l_) false)]] true)))]) (objs' := []) (rows' := []) (zdh [(zaq.mk l3), (zaq.mk l_)] _ h4) ⟨.pv (.recs (.cons (.cons (.ints (by first | rfl | (simp only [List.take_length]; done) | (simp; done) | (simp only [List.map_take, List.map_drop, List.map_append, List.take_length, List.nil_append]; done) | (simp only [List.length_map, List.take_length, List.length_append, List.drop_zero, List.map_append, List.map_take, List.map_drop, List.map_replicate, List.map_cons, List.map_nil, List.append_nil, List.nil_append]; done))) (.nil)) (.cons (.cons (.ints (by first | rfl | (simp only [List.take_length]; done) | (simp; done) | (simp only [List.map_take, List.map_drop, List.map_append, List.take_length, List.nil_append]; done) | (simp only [List.length_map, List.take_length, List.length_append, List.drop_zero, List.map_append, List.map_take, List.map_drop, List.map_replicate, List.map_cons, List.map_nil, List.append_nil, List.nil_append]; done))) (.nil)) (.nil)))), trivial⟩ trivial trivial) <| tN
  exact ⟨t_.ev, zfI l n n2 n3 r l2 r2 ((iadd .i64 n4 1), l_2), .k0 t_.pf (by kernel_rfl), .same (by kernel_rfl)⟩
 ·have h := zaf h
  subst h
  have t_ := tF h1 <| tN
  exact ⟨t_.ev, ⟨[(61, (.av (.one (.pv (.bool false))))), (0, (.av (.one (.ref 0 0)))), (3, (.av (.one (.own 0 0 (l3).length false)))), (58, (.av (.one (.pv (.ints .i64 l false))))), (59, (.av (.one (.pv (.int .i64 n))))), (60, (.av (.one (.pv (.int .i64 n4))))), (61, (.av (.one (.pv (.bool (decide ((n4 : Int) < n)))))))], [(0, [(.pv (.int .i64 n2)), (.pv (.int .u64 n3)), (.pv (.recs 4 (List.map zab.pv r) false)), (.pv (.ints .i64 l2 false)), (.pv (.recs 2 (List.map zac.pv r2) false))])], [(0, (.live (.ints .u8 l3)))]⟩, .k0 t_.pf (by kernel_rfl), ⟨⟨⟨_, rfl, .eq rfl⟩, ⟨_, rfl, .eq rfl⟩, trivial⟩, ⟨⟨rfl, ⟨.eq rfl, .eq rfl, .eq rfl, .eq rfl, .eq rfl, trivial⟩⟩, trivial⟩, ⟨⟨rfl, .eq rfl⟩, trivial⟩⟩⟩
theorem zkf (N : Nat) (l : List Int) (n n2 n3 : Int) (r : List zab) (l2 : List Int) (r2 : List zac) (s_ : Int × List Int) (r_ : List Int) (h : runL (zb5 N l n n2 n3 r l2 r2) s_ = some r_) : zbK Tryz.prog (lEnv Tryz.prog cfg 35 1).nt 1 (.loop (zbe Tryz.prog 35 1)) (zfI l n n2 n3 r l2 r2 s_) (zez l n n2 n3 r l2 r2 r_).1 (zez l n n2 n3 r l2 r2 r_).2 :=
 zbA h (zlx N l n n2 n3 r l2 r2) (by intro r_; rcases r_ with r1 <;> simp [zez])
def zfJ (r : List zac) (n n2 n3 : Int) (r2 : List zab) (l : List Int) (r3 : List zac) : Int × List Int → St
 | (n4, l2) => ⟨[(3, (.av (.one (.own 0 0 (l2).length false)))), (84, (.av (.one (.pv (.recs 2 (List.map zac.pv r) false))))), (85, (.av (.one (.pv (.int .i64 n))))), (86, (.av (.one (.pv (.int .i64 n4)))))], [(0, [(.pv (.int .i64 n2)), (.pv (.int .u64 n3)), (.pv (.recs 4 (List.map zab.pv r2) false)), (.pv (.ints .i64 l false)), (.pv (.recs 2 (List.map zac.pv r3) false))])], [(0, (.live (.ints .u8 l2)))]⟩
def zeA (r : List zac) (n n2 n3 : Int) (r2 : List zab) (l : List Int) (r3 : List zac) : List Int → Ex × St
 | r1 => ((.exit 4), ⟨[(3, (.av (.one (.own 0 0 (r1).length false))))], [(0, [(.pv (.int .i64 n2)), (.pv (.int .u64 n3)), (.pv (.recs 4 (List.map zab.pv r2) false)), (.pv (.ints .i64 l false)), (.pv (.recs 2 (List.map zac.pv r3) false))])], [(0, (.live (.ints .u8 r1)))]⟩)
noncomputable def zb6 (N : Nat) (r : List zac) (n n2 n3 : Int) (r2 : List zab) (l : List Int) (r3 : List zac) : Int × List Int → Option ((Int × List Int) ⊕ (List Int))
 | (n4, l2) =>
 bif (decide ((n4 : Int) < n)) then
  bif decide ((0 : Int) ≤ n4) && decide ((n4 : Int) < (((List.map zac.pv r)).length : Int)) then
  (r[(n4).toNat]?).bind fun e_ => match e_ with
  | .mk n5 n6 =>
  (zcz N (IntKind.u64.wrap n5)).bind fun l_ =>
  (zcz N n6).bind fun l_2 =>
  (zdx [(zaq.mk l2), (zaq.mk l_), (zaq.mk l_2)]).bind fun l_3 =>
  some (.inl ((iadd .i64 n4 1), l_3))
  else none
 else
  some (.inr l2)
theorem zly (N : Nat) (r : List zac) (n n2 n3 : Int) (r2 : List zab) (l : List Int) (r3 : List zac) (s_ : Int × List Int) (z_ : (Int × List Int) ⊕ (List Int)) (h : zb6 N r n n2 n3 r2 l r3 s_ = some z_) : zbQ Tryz.prog cfg 35 1 (zbe Tryz.prog 35 2) (zfJ r n n2 n3 r2 l r3) (zeA r n n2 n3 r2 l r3) s_ z_ := by
 rcases s_ with ⟨n4, l2⟩
 rcases zaj h with ⟨h1, h⟩ | ⟨h1, h⟩
 ·obtain ⟨h2, h⟩ := zar h
  obtain ⟨⟨n5, n6⟩, h3, h⟩ := zae h
  obtain ⟨l_, h4, h⟩ := zae h
  obtain ⟨l_2, h5, h⟩ := zae h
  obtain ⟨l_3, h6, h⟩ := zae h
  have h := zaf h
  subst h
  have t_ := tT h1 <| tO h2 <| tE (.el [(.int .i64 n5), (.int .u64 n6)]) <| tO (zdi (f := zac.pv) h3) <| tR (zaA N (IntKind.u64.wrap n5) _ h4) <| tR (zaA N (IntKind.u64.wrap n5) _ h4) <| tR (zaA N n6 _ h5) <| tR (Runs.coe (as' := [(.one (.pv (.recs 1 [[(.ints .u8 (List.take (l2).length l2) false)], [(.ints .u8 (List.take (l_).length l_) false)], [(.ints .u8 (List.take (l_2).length l_2) false)]] true)))]) (objs' := []) (rows' := []) (zdh [(zaq.mk l2), (zaq.mk l_), (zaq.mk l_2)] _ h6) ⟨.pv (.recs (.cons (.cons (.ints (by first | rfl | (simp only [List.take_length]; done) | (simp; done) | (simp only [List.map_take, List.map_drop, List.map_append, List.take_length, List.nil_append]; done) | (simp only [List.length_map, List.take_length, List.length_append, List.drop_zero, List.map_append, List.map_take, List.map_drop, List.map_replicate, List.map_cons, List.map_nil, List.append_nil, List.nil_append]; done))) (.nil)) (.cons (.cons (.ints (by first | rfl | (simp only [List.take_length]; done) | (simp; done) | (simp only [List.map_take, List.map_drop, List.map_append, List.take_length, List.nil_append]; done) | (simp only [List.length_map, List.take_length, List.length_append, List.drop_zero, List.map_append, List.map_take, List.map_drop, List.map_replicate, List.map_cons, List.map_nil, List.append_nil, List.nil_append]; done))) (.nil)) (.cons (.cons (.ints (by first | rfl | (simp only [List.take_length]; done) | (simp; done) | (simp only [List.map_take, List.map_drop, List.map_append, List.take_length, List.nil_append]; done) | (simp only [List.length_map, List.take_length, List.length_append, List.drop_zero, List.map_append, List.map_take, List.map_drop, List.map_replicate, List.map_cons, List.map_nil, List.append_nil, List.nil_append]; done))) (.nil)) (.nil))))), trivial⟩ trivial trivial) <| tN
  exact ⟨t_.ev, zfJ r n n2 n3 r2 l r3 ((iadd .i64 n4 1), l_3), .k1 t_.pf (by kernel_rfl) (by kernel_rfl), .same (by kernel_rfl)⟩
 ·have h := zaf h
  subst h
  have t_ := tF h1 <| tN
  exact ⟨t_.ev, ⟨[(87, (.av (.one (.pv (.bool false))))), (3, (.av (.one (.own 0 0 (l2).length false)))), (84, (.av (.one (.pv (.recs 2 (List.map zac.pv r) false))))), (85, (.av (.one (.pv (.int .i64 n))))), (86, (.av (.one (.pv (.int .i64 n4))))), (87, (.av (.one (.pv (.bool (decide ((n4 : Int) < n)))))))], [(0, [(.pv (.int .i64 n2)), (.pv (.int .u64 n3)), (.pv (.recs 4 (List.map zab.pv r2) false)), (.pv (.ints .i64 l false)), (.pv (.recs 2 (List.map zac.pv r3) false))])], [(0, (.live (.ints .u8 l2)))]⟩, .k0 t_.pf (by kernel_rfl), ⟨⟨⟨_, rfl, .eq rfl⟩, trivial⟩, ⟨⟨rfl, ⟨.eq rfl, .eq rfl, .eq rfl, .eq rfl, .eq rfl, trivial⟩⟩, trivial⟩, ⟨⟨rfl, .eq rfl⟩, trivial⟩⟩⟩
theorem zkg (N : Nat) (r : List zac) (n n2 n3 : Int) (r2 : List zab) (l : List Int) (r3 : List zac) (s_ : Int × List Int) (r_ : List Int) (h : runL (zb6 N r n n2 n3 r2 l r3) s_ = some r_) : zbK Tryz.prog (lEnv Tryz.prog cfg 35 1).nt 1 (.loop (zbe Tryz.prog 35 2)) (zfJ r n n2 n3 r2 l r3 s_) (zeA r n n2 n3 r2 l r3 r_).1 (zeA r n n2 n3 r2 l r3 r_).2 :=
 zbA h (zly N r n n2 n3 r2 l r3) (by intro r_; rcases r_ with r1 <;> simp [zeA])
noncomputable def zfZ (N : Nat) (n n2 : Int) (r : List zab) (l : List Int) (r2 : List zac) : Option (List Int) :=
 (zcz N (IntKind.u64.wrap n)).bind fun l_ =>
 (zcz N n2).bind fun l_2 =>
 (zcz N (IntKind.u64.wrap (((List.map zab.pv r)).length : Int))).bind fun l_3 =>
 (zdx [(zaq.mk l_), (zaq.mk l_2), (zaq.mk l_3)]).bind fun l_4 =>
 (runL (zb4 N r (((List.map zab.pv r)).length : Int) n n2 r l r2) (0, l_4)).bind fun l_5 =>
 (zcz N (IntKind.u64.wrap ((l).length : Int))).bind fun l_6 =>
 (zdx [(zaq.mk l_5), (zaq.mk l_6)]).bind fun l_7 =>
 (runL (zb5 N l ((l).length : Int) n n2 r l r2) (0, l_7)).bind fun l_8 =>
 (zcz N (IntKind.u64.wrap (((List.map zac.pv r2)).length : Int))).bind fun l_9 =>
 (zdx [(zaq.mk l_8), (zaq.mk l_9)]).bind fun l_10 =>
 (runL (zb6 N r2 (((List.map zac.pv r2)).length : Int) n n2 r l r2) (0, l_10)).bind fun l_11 =>
 some l_11
theorem ziG (N : Nat) (n n2 : Int) (r : List zab) (l : List Int) (r2 : List zac) (r_ : List Int) (h : zfZ N n n2 r l r2 = some r_) : Runs Tryz.prog 35 [(.one (.ref 0 0))] [[(.pv (.int .i64 n)), (.pv (.int .u64 n2)), (.pv (.recs 4 (List.map zab.pv r) false)), (.pv (.ints .i64 l false)), (.pv (.recs 2 (List.map zac.pv r2) false))]] [] (znn n n2 r l r2 r_) := by
 unfold zfZ at h
 obtain ⟨l_, h1, h⟩ := zae h
 obtain ⟨l_2, h2, h⟩ := zae h
 obtain ⟨l_3, h3, h⟩ := zae h
 obtain ⟨l_4, h4, h⟩ := zae h
 obtain ⟨l_5, h5, h⟩ := zae h
 obtain ⟨l_6, h6, h⟩ := zae h
 obtain ⟨l_7, h7, h⟩ := zae h
 obtain ⟨l_8, h8, h⟩ := zae h
 obtain ⟨l_9, h9, h⟩ := zae h
 obtain ⟨l_10, h10, h⟩ := zae h
 obtain ⟨l_11, h11, h⟩ := zae h
 have h := zaf h
 subst h
 have t_ := tR (zaA N (IntKind.u64.wrap n) _ h1) <| tR (zaA N (IntKind.u64.wrap n) _ h1) <| tR (zaA N n2 _ h2) <| tR (zaA N (IntKind.u64.wrap n) _ h1) <| tR (zaA N (IntKind.u64.wrap n) _ h1) <| tR (zaA N n2 _ h2) <| tR (zaA N (IntKind.u64.wrap (((List.map zab.pv r)).length : Int)) _ h3) <| tR (Runs.coe (as' := [(.one (.pv (.recs 1 [[(.ints .u8 (List.take (l_).length l_) false)], [(.ints .u8 (List.take (l_2).length l_2) false)], [(.ints .u8 (List.take (l_3).length l_3) false)]] true)))]) (objs' := []) (rows' := []) (zdh [(zaq.mk l_), (zaq.mk l_2), (zaq.mk l_3)] _ h4) ⟨.pv (.recs (.cons (.cons (.ints (by first | rfl | (simp only [List.take_length]; done) | (simp; done) | (simp only [List.map_take, List.map_drop, List.map_append, List.take_length, List.nil_append]; done) | (simp only [List.length_map, List.take_length, List.length_append, List.drop_zero, List.map_append, List.map_take, List.map_drop, List.map_replicate, List.map_cons, List.map_nil, List.append_nil, List.nil_append]; done))) (.nil)) (.cons (.cons (.ints (by first | rfl | (simp only [List.take_length]; done) | (simp; done) | (simp only [List.map_take, List.map_drop, List.map_append, List.take_length, List.nil_append]; done) | (simp only [List.length_map, List.take_length, List.length_append, List.drop_zero, List.map_append, List.map_take, List.map_drop, List.map_replicate, List.map_cons, List.map_nil, List.append_nil, List.nil_append]; done))) (.nil)) (.cons (.cons (.ints (by first | rfl | (simp only [List.take_length]; done) | (simp; done) | (simp only [List.map_take, List.map_drop, List.map_append, List.take_length, List.nil_append]; done) | (simp only [List.length_map, List.take_length, List.length_append, List.drop_zero, List.map_append, List.map_take, List.map_drop, List.map_replicate, List.map_cons, List.map_nil, List.append_nil, List.nil_append]; done))) (.nil)) (.nil))))), trivial⟩ trivial trivial) <| tL (zke N r (((List.map zab.pv r)).length : Int) n n2 r l r2 _ _ h5) <| tR (zaA N (IntKind.u64.wrap ((l).length : Int)) _ h6) <| tR (Runs.coe (as' := [(.one (.pv (.recs 1 [[(.ints .u8 (List.take (l_5).length l_5) false)], [(.ints .u8 (List.take (l_6).length l_6) false)]] true)))]) (objs' := []) (rows' := []) (zdh [(zaq.mk l_5), (zaq.mk l_6)] _ h7) ⟨.pv (.recs (.cons (.cons (.ints (by first | rfl | (simp only [List.take_length]; done) | (simp; done) | (simp only [List.map_take, List.map_drop, List.map_append, List.take_length, List.nil_append]; done) | (simp only [List.length_map, List.take_length, List.length_append, List.drop_zero, List.map_append, List.map_take, List.map_drop, List.map_replicate, List.map_cons, List.map_nil, List.append_nil, List.nil_append]; done))) (.nil)) (.cons (.cons (.ints (by first | rfl | (simp only [List.take_length]; done) | (simp; done) | (simp only [List.map_take, List.map_drop, List.map_append, List.take_length, List.nil_append]; done) | (simp only [List.length_map, List.take_length, List.length_append, List.drop_zero, List.map_append, List.map_take, List.map_drop, List.map_replicate, List.map_cons, List.map_nil, List.append_nil, List.nil_append]; done))) (.nil)) (.nil)))), trivial⟩ trivial trivial) <| tL (zkf N l ((l).length : Int) n n2 r l r2 _ _ h8) <| tR (zaA N (IntKind.u64.wrap (((List.map zac.pv r2)).length : Int)) _ h9) <| tR (Runs.coe (as' := [(.one (.pv (.recs 1 [[(.ints .u8 (List.take (l_8).length l_8) false)], [(.ints .u8 (List.take (l_9).length l_9) false)]] true)))]) (objs' := []) (rows' := []) (zdh [(zaq.mk l_8), (zaq.mk l_9)] _ h10) ⟨.pv (.recs (.cons (.cons (.ints (by first | rfl | (simp only [List.take_length]; done) | (simp; done) | (simp only [List.map_take, List.map_drop, List.map_append, List.take_length, List.nil_append]; done) | (simp only [List.length_map, List.take_length, List.length_append, List.drop_zero, List.map_append, List.map_take, List.map_drop, List.map_replicate, List.map_cons, List.map_nil, List.append_nil, List.nil_append]; done))) (.nil)) (.cons (.cons (.ints (by first | rfl | (simp only [List.take_length]; done) | (simp; done) | (simp only [List.map_take, List.map_drop, List.map_append, List.take_length, List.nil_append]; done) | (simp only [List.length_map, List.take_length, List.length_append, List.drop_zero, List.map_append, List.map_take, List.map_drop, List.map_replicate, List.map_cons, List.map_nil, List.append_nil, List.nil_append]; done))) (.nil)) (.nil)))), trivial⟩ trivial trivial) <| tL (zkg N r2 (((List.map zac.pv r2)).length : Int) n n2 r l r2 _ _ h11) <| tN
 exact zag (C := cfg) (sc := t_.ev) (.k1 t_.pf (by kernel_rfl) (by kernel_rfl))
def zos (a b : List Int) : Bool → Res
 | r1 => ([(.one (.pv (.bool r1)))], [], [])
def zgb (a b : List Int) (n : Int) : Int → St
 | n2 => ⟨[(0, (.av (.one (.pv (.ints .u8 a false))))), (1, (.av (.one (.pv (.ints .u8 b false))))), (12, (.av (.one (.pv (.int .i64 n))))), (13, (.av (.one (.pv (.int .i64 n2)))))], [], []⟩
def zd7 (a b : List Int) (n : Int) : (Unit) ⊕ (Unit) → Ex × St
 | .inl _ => (.ret, ⟨[(4, (.av (.one (.pv (.bool false)))))], [], []⟩)
 | .inr _ => ((.exit 0), ⟨[], [], []⟩)
noncomputable def zch (a b : List Int) (n : Int) : Int → Option ((Int) ⊕ ((Unit) ⊕ (Unit)))
 | n2 =>
 bif (decide ((n2 : Int) < n)) then
  bif decide ((0 : Int) ≤ n2) && decide ((n2 : Int) < ((a).length : Int)) then
  bif decide ((0 : Int) ≤ n2) && decide ((n2 : Int) < ((b).length : Int)) then
  bif (decide (((a.getD (n2).toNat 0) : Int) = (b.getD (n2).toNat 0))) then
   some (.inl (iadd .i64 n2 1))
  else
   some (.inr (.inl ()))
  else none
  else none
 else
  some (.inr (.inr ()))
theorem zmn (a b : List Int) (n n2 : Int) (z_ : (Int) ⊕ ((Unit) ⊕ (Unit))) (h : zch a b n n2 = some z_) : zbQ Tryz.prog cfg 30 0 (zbe Tryz.prog 30 0) (zgb a b n) (zd7 a b n) n2 z_ := by
 rcases zaj h with ⟨h1, h⟩ | ⟨h1, h⟩
 ·obtain ⟨h2, h⟩ := zar h
  obtain ⟨h3, h⟩ := zar h
  rcases zaj h with ⟨h4, h⟩ | ⟨h4, h⟩
  ·have h := zaf h
   subst h
   have t_ := tT h1 <| tO h2 <| tO h3 <| tF (zaz h4) <| tN
   exact ⟨t_.ev, zgb a b n (iadd .i64 n2 1), .k0 t_.pf (by kernel_rfl), .same (by kernel_rfl)⟩
  ·have h := zaf h
   subst h
   have t_ := tT h1 <| tO h2 <| tO h3 <| tT (zbc h4) <| tN
   exact ⟨t_.ev, (zd7 a b n (.inl ())).2, .k0 t_.pf (by kernel_rfl), .same (by kernel_rfl)⟩
 ·have h := zaf h
  subst h
  have t_ := tF h1 <| tN
  exact ⟨t_.ev, ⟨[(14, (.av (.one (.pv (.bool false))))), (0, (.av (.one (.pv (.ints .u8 a false))))), (1, (.av (.one (.pv (.ints .u8 b false))))), (12, (.av (.one (.pv (.int .i64 n))))), (13, (.av (.one (.pv (.int .i64 n2))))), (14, (.av (.one (.pv (.bool (decide ((n2 : Int) < n)))))))], [], []⟩, .k0 t_.pf (by kernel_rfl), ⟨trivial, trivial, trivial⟩⟩
theorem zg3 (a b : List Int) (n s_ : Int) (r_ : (Unit) ⊕ (Unit)) (h : runL (zch a b n) s_ = some r_) : zbK Tryz.prog (lEnv Tryz.prog cfg 30 0).nt 0 (.loop (zbe Tryz.prog 30 0)) (zgb a b n s_) (zd7 a b n r_).1 (zd7 a b n r_).2 :=
 zbA h (zmn a b n) (by intro r_; rcases r_ with _ | _ <;> simp [zd7])
noncomputable def zg2 (a b : List Int) : Option (Bool) :=
 bif (decide ((((a).length : Int) : Int) = ((b).length : Int))) then
  (runL (zch a b ((a).length : Int)) 0).bind fun z_ => match z_ with
  | .inl _ =>
   some false
  | .inr _ =>
   some true
 else
  some false
theorem zjh (a b : List Int) (r_ : Bool) (h : zg2 a b = some r_) : Runs Tryz.prog 30 [(.one (.pv (.ints .u8 a false))), (.one (.pv (.ints .u8 b false)))] [] [] (zos a b r_) := by
 unfold zg2 at h
 rcases zaj h with ⟨h1, h⟩ | ⟨h1, h⟩
 ·obtain ⟨z_, h2, h⟩ := zae h
  rcases z_ with _ | _
  ·have h := zaf h
   subst h
   have t_ := tF (zaz h1) <| tL (zg3 a b ((a).length : Int) _ _ h2) <| tN
   exact zag (C := cfg) (sc := t_.ev) (.k0 t_.pf (by kernel_rfl))
  ·have h := zaf h
   subst h
   have t_ := tF (zaz h1) <| tL (zg3 a b ((a).length : Int) _ _ h2) <| tN
   exact zag (C := cfg) (sc := t_.ev) (.k0 t_.pf (by kernel_rfl))
 ·have h := zaf h
  subst h
  have t_ := tT (zbc h1) <| tN
  exact zag (C := cfg) (sc := t_.ev) (.k0 t_.pf (by kernel_rfl))
def zf8 (n n2 n3 : Int) (r : List zaa) (m : List (Int × Int)) (m2 : List ((Int × Int) × Int)) (n4 n5 : Int) (r2 : List zab) (l : List Int) (r3 : List zac) (r4 : List zaa) (r5 : List zal) : Int → St
 | n6 => ⟨[(0, (.av (.one (.ref 0 0)))), (1, (.av (.one (.ref 3 0)))), (5, (.av (.one (.own 0 0 ((List.map zaa.pv r4)).length false)))), (6, (.av (.one (.own 1 0 ((List.map zal.pv r5)).length false)))), (62, (.av (.one (.pv (.int .i64 n))))), (63, (.av (.one (.pv (.int .i64 n6)))))], [(0, [(.pv (.int .i64 n2)), (.pv (.int .u64 n3)), (.pv (.recs 5 (List.map zaa.pv r) false)), (.mp 1), (.mp 2)]), (1, [(.maph (.int .i64) false (List.map M_int_int.pv m) [])]), (2, [(.maph (.st [.i64, .u64]) false (List.map M_deed_Mark_int.pv m2) [])]), (3, [(.pv (.int .i64 n4)), (.pv (.int .u64 n5)), (.pv (.recs 4 (List.map zab.pv r2) false)), (.pv (.ints .i64 l false)), (.pv (.recs 2 (List.map zac.pv r3) false))])], [(0, (.live (.recs 5 (List.map zaa.pv r4)))), (1, (.live (.recs 2 (List.map zal.pv r5))))]⟩
def zd6 (n n2 n3 : Int) (r : List zaa) (m : List (Int × Int)) (m2 : List ((Int × Int) × Int)) (n4 n5 : Int) (r2 : List zab) (l : List Int) (r3 : List zac) (r4 : List zaa) (r5 : List zal) : (Unit) ⊕ (Unit) → Ex × St
 | .inl _ => (.ret, ⟨[(4, (.av (.one (.pv (.bool false)))))], [(0, [(.pv (.int .i64 n2)), (.pv (.int .u64 n3)), (.pv (.recs 5 (List.map zaa.pv r) false)), (.mp 1), (.mp 2)]), (1, [(.maph (.int .i64) false (List.map M_int_int.pv m) [])]), (2, [(.maph (.st [.i64, .u64]) false (List.map M_deed_Mark_int.pv m2) [])]), (3, [(.pv (.int .i64 n4)), (.pv (.int .u64 n5)), (.pv (.recs 4 (List.map zab.pv r2) false)), (.pv (.ints .i64 l false)), (.pv (.recs 2 (List.map zac.pv r3) false))])], []⟩)
 | .inr _ => ((.exit 0), ⟨[(0, (.av (.one (.ref 0 0)))), (1, (.av (.one (.ref 3 0)))), (6, (.av (.one (.own 1 0 ((List.map zal.pv r5)).length false))))], [(0, [(.pv (.int .i64 n2)), (.pv (.int .u64 n3)), (.pv (.recs 5 (List.map zaa.pv r) false)), (.mp 1), (.mp 2)]), (1, [(.maph (.int .i64) false (List.map M_int_int.pv m) [])]), (2, [(.maph (.st [.i64, .u64]) false (List.map M_deed_Mark_int.pv m2) [])]), (3, [(.pv (.int .i64 n4)), (.pv (.int .u64 n5)), (.pv (.recs 4 (List.map zab.pv r2) false)), (.pv (.ints .i64 l false)), (.pv (.recs 2 (List.map zac.pv r3) false))])], [(0, (.live (.recs 5 (List.map zaa.pv r4)))), (1, (.live (.recs 2 (List.map zal.pv r5))))]⟩)
noncomputable def zcf (N : Nat) (n n2 n3 : Int) (r : List zaa) (m : List (Int × Int)) (m2 : List ((Int × Int) × Int)) (n4 n5 : Int) (r2 : List zab) (l : List Int) (r3 : List zac) (r4 : List zaa) (r5 : List zal) : Int → Option ((Int) ⊕ ((Unit) ⊕ (Unit)))
 | n6 =>
 bif (decide ((n6 : Int) < n)) then
  bif decide ((0 : Int) ≤ n6) && decide ((n6 : Int) < (((List.map zaa.pv r4)).length : Int)) then
  (r4[(0 + (n6).toNat)]?).bind fun e_ => match e_ with
  | .mk n7 n8 n9 b t =>
  bif decide ((0 : Int) ≤ n6) && decide ((n6 : Int) < (((List.map zab.pv r2)).length : Int)) then
  (r2[(n6).toNat]?).bind fun e_ => match e_ with
  | .mk n10 n11 n12 t2 =>
  (zfy N n7 n8 n9 b t n10 n11 n12 t2).bind fun b2 =>
  bif b2 then
   some (.inl (iadd .i64 n6 1))
  else
   some (.inr (.inl ()))
  else none
  else none
 else
  some (.inr (.inr ()))
theorem zmg (N : Nat) (n n2 n3 : Int) (r : List zaa) (m : List (Int × Int)) (m2 : List ((Int × Int) × Int)) (n4 n5 : Int) (r2 : List zab) (l : List Int) (r3 : List zac) (r4 : List zaa) (r5 : List zal) (n6 : Int) (z_ : (Int) ⊕ ((Unit) ⊕ (Unit))) (h : zcf N n n2 n3 r m m2 n4 n5 r2 l r3 r4 r5 n6 = some z_) : zbQ Tryz.prog cfg 10 4 (zbe Tryz.prog 10 0) (zf8 n n2 n3 r m m2 n4 n5 r2 l r3 r4 r5) (zd6 n n2 n3 r m m2 n4 n5 r2 l r3 r4 r5) n6 z_ := by
 rcases zaj h with ⟨h1, h⟩ | ⟨h1, h⟩
 ·obtain ⟨h2, h⟩ := zar h
  obtain ⟨⟨n7, n8, n9, b, t⟩, h3, h⟩ := zae h
  obtain ⟨h4, h⟩ := zar h
  obtain ⟨⟨n10, n11, n12, t2⟩, h5, h⟩ := zae h
  obtain ⟨b2, h6, h⟩ := zae h
  have q_6 := (zfp N n7 n8 n9 b t n10 n11 n12 t2 _ h6)
  have p6_ := fun {sc_ : List Ev} {Q_ : Prop} (t_ : Tell sc_ Q_) => tT h1 <| tO h2 <| tE (.el [(.int .u64 n7), (.int .i64 n8), (.int .i64 n9), (.bool b), (zad.pv t)]) <| tO (zdi (f := zaa.pv) h3) <| tO h4 <| tO h4 <| tE (.el [(.int .u64 n10), (.int .i64 n11), (.int .i64 n12), (zah.pv t2)]) <| tO (zdi (f := zab.pv) h5) <| tE (.el [(.int .u64 n7), (.int .i64 n8), (.int .i64 n9), (.bool b), (zad.pv t)]) <| tO (zdi (f := zaa.pv) h3) <| tE (.el [(.int .u64 n10), (.int .i64 n11), (.int .i64 n12), (zah.pv t2)]) <| tO (zdi (f := zab.pv) h5) <| tR q_6 <| t_
  rcases zaj h with ⟨h7, h⟩ | ⟨h7, h⟩
  ·have h := zaf h
   subst h
   have t_ := p6_ <| tF (zaz h7) <| tN
   exact ⟨t_.ev, zf8 n n2 n3 r m m2 n4 n5 r2 l r3 r4 r5 (iadd .i64 n6 1), .k1 t_.pf (by kernel_rfl) (by kernel_rfl), .same (by kernel_rfl)⟩
  ·have h := zaf h
   subst h
   have t_ := p6_ <| tT (zbc h7) <| tN
   exact ⟨t_.ev, (zd6 n n2 n3 r m m2 n4 n5 r2 l r3 r4 r5 (.inl ())).2, .k1 t_.pf (by kernel_rfl) (by kernel_rfl), .same (by kernel_rfl)⟩
 ·have h := zaf h
  subst h
  have t_ := tF h1 <| tN
  exact ⟨t_.ev, ⟨[(64, (.av (.one (.pv (.bool false))))), (0, (.av (.one (.ref 0 0)))), (1, (.av (.one (.ref 3 0)))), (5, (.av (.one (.own 0 0 ((List.map zaa.pv r4)).length false)))), (6, (.av (.one (.own 1 0 ((List.map zal.pv r5)).length false)))), (62, (.av (.one (.pv (.int .i64 n))))), (63, (.av (.one (.pv (.int .i64 n6))))), (64, (.av (.one (.pv (.bool (decide ((n6 : Int) < n)))))))], [(0, [(.pv (.int .i64 n2)), (.pv (.int .u64 n3)), (.pv (.recs 5 (List.map zaa.pv r) false)), (.mp 1), (.mp 2)]), (1, [(.maph (.int .i64) false (List.map M_int_int.pv m) [])]), (2, [(.maph (.st [.i64, .u64]) false (List.map M_deed_Mark_int.pv m2) [])]), (3, [(.pv (.int .i64 n4)), (.pv (.int .u64 n5)), (.pv (.recs 4 (List.map zab.pv r2) false)), (.pv (.ints .i64 l false)), (.pv (.recs 2 (List.map zac.pv r3) false))])], [(0, (.live (.recs 5 (List.map zaa.pv r4)))), (1, (.live (.recs 2 (List.map zal.pv r5))))]⟩, .k0 t_.pf (by kernel_rfl), ⟨⟨⟨_, rfl, .eq rfl⟩, ⟨_, rfl, .eq rfl⟩, ⟨_, rfl, .eq rfl⟩, trivial⟩, ⟨⟨rfl, ⟨.eq rfl, .eq rfl, .eq rfl, .eq rfl, .eq rfl, trivial⟩⟩, ⟨rfl, ⟨.eq rfl, trivial⟩⟩, ⟨rfl, ⟨.eq rfl, trivial⟩⟩, ⟨rfl, ⟨.eq rfl, .eq rfl, .eq rfl, .eq rfl, .eq rfl, trivial⟩⟩, trivial⟩, ⟨⟨rfl, .eq rfl⟩, ⟨rfl, .eq rfl⟩, trivial⟩⟩⟩
theorem zgY (N : Nat) (n n2 n3 : Int) (r : List zaa) (m : List (Int × Int)) (m2 : List ((Int × Int) × Int)) (n4 n5 : Int) (r2 : List zab) (l : List Int) (r3 : List zac) (r4 : List zaa) (r5 : List zal) (s_ : Int) (r_ : (Unit) ⊕ (Unit)) (h : runL (zcf N n n2 n3 r m m2 n4 n5 r2 l r3 r4 r5) s_ = some r_) : zbK Tryz.prog (lEnv Tryz.prog cfg 10 4).nt 4 (.loop (zbe Tryz.prog 10 0)) (zf8 n n2 n3 r m m2 n4 n5 r2 l r3 r4 r5 s_) (zd6 n n2 n3 r m m2 n4 n5 r2 l r3 r4 r5 r_).1 (zd6 n n2 n3 r m m2 n4 n5 r2 l r3 r4 r5 r_).2 :=
 zbA h (zmg N n n2 n3 r m m2 n4 n5 r2 l r3 r4 r5) (by intro r_; rcases r_ with _ | _ <;> simp [zd6])
def zf9 (n n2 n3 : Int) (r : List zaa) (m : List (Int × Int)) (m2 : List ((Int × Int) × Int)) (n4 n5 : Int) (r2 : List zab) (l : List Int) (r3 : List zac) (r4 : List zal) : Int → St
 | n6 => ⟨[(0, (.av (.one (.ref 0 0)))), (1, (.av (.one (.ref 3 0)))), (6, (.av (.one (.own 0 0 ((List.map zal.pv r4)).length false)))), (81, (.av (.one (.pv (.int .i64 n))))), (82, (.av (.one (.pv (.int .i64 n6)))))], [(0, [(.pv (.int .i64 n2)), (.pv (.int .u64 n3)), (.pv (.recs 5 (List.map zaa.pv r) false)), (.mp 1), (.mp 2)]), (1, [(.maph (.int .i64) false (List.map M_int_int.pv m) [])]), (2, [(.maph (.st [.i64, .u64]) false (List.map M_deed_Mark_int.pv m2) [])]), (3, [(.pv (.int .i64 n4)), (.pv (.int .u64 n5)), (.pv (.recs 4 (List.map zab.pv r2) false)), (.pv (.ints .i64 l false)), (.pv (.recs 2 (List.map zac.pv r3) false))])], [(0, (.live (.recs 2 (List.map zal.pv r4))))]⟩
def zdw (n n2 n3 : Int) (r : List zaa) (m : List (Int × Int)) (m2 : List ((Int × Int) × Int)) (n4 n5 : Int) (r2 : List zab) (l : List Int) (r3 : List zac) (r4 : List zal) : (Unit) ⊕ (Unit) → Ex × St
 | .inl _ => (.ret, ⟨[(4, (.av (.one (.pv (.bool false)))))], [(0, [(.pv (.int .i64 n2)), (.pv (.int .u64 n3)), (.pv (.recs 5 (List.map zaa.pv r) false)), (.mp 1), (.mp 2)]), (1, [(.maph (.int .i64) false (List.map M_int_int.pv m) [])]), (2, [(.maph (.st [.i64, .u64]) false (List.map M_deed_Mark_int.pv m2) [])]), (3, [(.pv (.int .i64 n4)), (.pv (.int .u64 n5)), (.pv (.recs 4 (List.map zab.pv r2) false)), (.pv (.ints .i64 l false)), (.pv (.recs 2 (List.map zac.pv r3) false))])], []⟩)
 | .inr _ => ((.exit 2), ⟨[(0, (.av (.one (.ref 0 0)))), (1, (.av (.one (.ref 3 0))))], [(0, [(.pv (.int .i64 n2)), (.pv (.int .u64 n3)), (.pv (.recs 5 (List.map zaa.pv r) false)), (.mp 1), (.mp 2)]), (1, [(.maph (.int .i64) false (List.map M_int_int.pv m) [])]), (2, [(.maph (.st [.i64, .u64]) false (List.map M_deed_Mark_int.pv m2) [])]), (3, [(.pv (.int .i64 n4)), (.pv (.int .u64 n5)), (.pv (.recs 4 (List.map zab.pv r2) false)), (.pv (.ints .i64 l false)), (.pv (.recs 2 (List.map zac.pv r3) false))])], [(0, (.live (.recs 2 (List.map zal.pv r4))))]⟩)
noncomputable def zcg (n n2 n3 : Int) (r : List zaa) (m : List (Int × Int)) (m2 : List ((Int × Int) × Int)) (n4 n5 : Int) (r2 : List zab) (l : List Int) (r3 : List zac) (r4 : List zal) : Int → Option ((Int) ⊕ ((Unit) ⊕ (Unit)))
 | n6 =>
 bif (decide ((n6 : Int) < n)) then
  bif decide ((0 : Int) ≤ n6) && decide ((n6 : Int) < (((List.map zal.pv r4)).length : Int)) then
  (r4[(0 + (n6).toNat)]?).bind fun e_ => match e_ with
  | .mk n7 n8 =>
  bif decide ((0 : Int) ≤ n6) && decide ((n6 : Int) < (((List.map zac.pv r3)).length : Int)) then
  (r3[(n6).toNat]?).bind fun e_ => match e_ with
  | .mk n9 n10 =>
  bif ((decide ((n7 : Int) = n9)) && ((decide ((n8 : Int) = n10)) && true)) then
   (zcP n7 n8 n2 n3 r m m2).bind fun b =>
   bif b then
    some (.inl (iadd .i64 n6 1))
   else
    some (.inr (.inl ()))
  else
   some (.inr (.inl ()))
  else none
  else none
 else
  some (.inr (.inr ()))
theorem zmh (n n2 n3 : Int) (r : List zaa) (m : List (Int × Int)) (m2 : List ((Int × Int) × Int)) (n4 n5 : Int) (r2 : List zab) (l : List Int) (r3 : List zac) (r4 : List zal) (n6 : Int) (z_ : (Int) ⊕ ((Unit) ⊕ (Unit))) (h : zcg n n2 n3 r m m2 n4 n5 r2 l r3 r4 n6 = some z_) : zbQ Tryz.prog cfg 10 4 (zbe Tryz.prog 10 1) (zf9 n n2 n3 r m m2 n4 n5 r2 l r3 r4) (zdw n n2 n3 r m m2 n4 n5 r2 l r3 r4) n6 z_ := by
 rcases zaj h with ⟨h1, h⟩ | ⟨h1, h⟩
 ·obtain ⟨h2, h⟩ := zar h
  obtain ⟨⟨n7, n8⟩, h3, h⟩ := zae h
  obtain ⟨h4, h⟩ := zar h
  obtain ⟨⟨n9, n10⟩, h5, h⟩ := zae h
  have p5_ := fun {sc_ : List Ev} {Q_ : Prop} (t_ : Tell sc_ Q_) => tT h1 <| tO h2 <| tE (.el [(.int .i64 n7), (.int .u64 n8)]) <| tO (zdi (f := zal.pv) h3) <| tO h4 <| tO h4 <| tE (.el [(.int .i64 n9), (.int .u64 n10)]) <| tO (zdi (f := zac.pv) h5) <| tE (.el [(.int .i64 n7), (.int .u64 n8)]) <| tO (zdi (f := zal.pv) h3) <| tE (.el [(.int .i64 n9), (.int .u64 n10)]) <| tO (zdi (f := zac.pv) h5) <| t_
  rcases zaj h with ⟨h6, h⟩ | ⟨h6, h⟩
  ·obtain ⟨b, h7, h⟩ := zae h
   have q_7 := (zcZ n7 n8 n2 n3 r m m2 _ h7)
   rcases zaj h with ⟨h8, h⟩ | ⟨h8, h⟩
   ·have h := zaf h
    subst h
    have t_ := p5_ <| tF (zaz h6) <| tO h2 <| tE (.el [(.int .i64 n7), (.int .u64 n8)]) <| tO (zdi (f := zal.pv) h3) <| tR q_7 <| tF (zaz h8) <| tN
    exact ⟨t_.ev, zf9 n n2 n3 r m m2 n4 n5 r2 l r3 r4 (iadd .i64 n6 1), .k1 t_.pf (by kernel_rfl) (by kernel_rfl), .same (by kernel_rfl)⟩
   ·have h := zaf h
    subst h
    have t_ := p5_ <| tF (zaz h6) <| tO h2 <| tE (.el [(.int .i64 n7), (.int .u64 n8)]) <| tO (zdi (f := zal.pv) h3) <| tR q_7 <| tT (zbc h8) <| tN
    exact ⟨t_.ev, (zdw n n2 n3 r m m2 n4 n5 r2 l r3 r4 (.inl ())).2, .k1 t_.pf (by kernel_rfl) (by kernel_rfl), .same (by kernel_rfl)⟩
  ·have h := zaf h
   subst h
   have t_ := p5_ <| tT (zbc h6) <| tT (rfl : true = true) <| tN
   exact ⟨t_.ev, (zdw n n2 n3 r m m2 n4 n5 r2 l r3 r4 (.inl ())).2, .k1 t_.pf (by kernel_rfl) (by kernel_rfl), .same (by kernel_rfl)⟩
 ·have h := zaf h
  subst h
  have t_ := tF h1 <| tN
  exact ⟨t_.ev, ⟨[(83, (.av (.one (.pv (.bool false))))), (0, (.av (.one (.ref 0 0)))), (1, (.av (.one (.ref 3 0)))), (6, (.av (.one (.own 0 0 ((List.map zal.pv r4)).length false)))), (81, (.av (.one (.pv (.int .i64 n))))), (82, (.av (.one (.pv (.int .i64 n6))))), (83, (.av (.one (.pv (.bool (decide ((n6 : Int) < n)))))))], [(0, [(.pv (.int .i64 n2)), (.pv (.int .u64 n3)), (.pv (.recs 5 (List.map zaa.pv r) false)), (.mp 1), (.mp 2)]), (1, [(.maph (.int .i64) false (List.map M_int_int.pv m) [])]), (2, [(.maph (.st [.i64, .u64]) false (List.map M_deed_Mark_int.pv m2) [])]), (3, [(.pv (.int .i64 n4)), (.pv (.int .u64 n5)), (.pv (.recs 4 (List.map zab.pv r2) false)), (.pv (.ints .i64 l false)), (.pv (.recs 2 (List.map zac.pv r3) false))])], [(0, (.live (.recs 2 (List.map zal.pv r4))))]⟩, .k0 t_.pf (by kernel_rfl), ⟨⟨⟨_, rfl, .eq rfl⟩, ⟨_, rfl, .eq rfl⟩, trivial⟩, ⟨⟨rfl, ⟨.eq rfl, .eq rfl, .eq rfl, .eq rfl, .eq rfl, trivial⟩⟩, ⟨rfl, ⟨.eq rfl, trivial⟩⟩, ⟨rfl, ⟨.eq rfl, trivial⟩⟩, ⟨rfl, ⟨.eq rfl, .eq rfl, .eq rfl, .eq rfl, .eq rfl, trivial⟩⟩, trivial⟩, ⟨⟨rfl, .eq rfl⟩, trivial⟩⟩⟩
theorem zgZ (n n2 n3 : Int) (r : List zaa) (m : List (Int × Int)) (m2 : List ((Int × Int) × Int)) (n4 n5 : Int) (r2 : List zab) (l : List Int) (r3 : List zac) (r4 : List zal) (s_ : Int) (r_ : (Unit) ⊕ (Unit)) (h : runL (zcg n n2 n3 r m m2 n4 n5 r2 l r3 r4) s_ = some r_) : zbK Tryz.prog (lEnv Tryz.prog cfg 10 4).nt 4 (.loop (zbe Tryz.prog 10 1)) (zf9 n n2 n3 r m m2 n4 n5 r2 l r3 r4 s_) (zdw n n2 n3 r m m2 n4 n5 r2 l r3 r4 r_).1 (zdw n n2 n3 r m m2 n4 n5 r2 l r3 r4 r_).2 :=
 zbA h (zmh n n2 n3 r m m2 n4 n5 r2 l r3 r4) (by intro r_; rcases r_ with _ | _ <;> simp [zdw])
def zmq (to n n2 : Int) (r : List zab) (l : List Int) (r2 : List zac) : Bool → Res
 | r1 => ([(.one (.pv (.bool r1)))], [[(.pv (.int .i64 n)), (.pv (.int .u64 n2)), (.pv (.recs 4 (List.map zab.pv r) false)), (.pv (.ints .i64 l false)), (.pv (.recs 2 (List.map zac.pv r2) false))]], [])
def zfe (to : Int) (l : List Int) (n n2 n3 : Int) (r : List zab) (l2 : List Int) (r2 : List zac) : Int → St
 | n4 => ⟨[(1, (.av (.one (.pv (.int .i64 to))))), (10, (.av (.one (.pv (.ints .i64 l false))))), (11, (.av (.one (.pv (.int .i64 n))))), (12, (.av (.one (.pv (.int .i64 n4)))))], [(0, [(.pv (.int .i64 n2)), (.pv (.int .u64 n3)), (.pv (.recs 4 (List.map zab.pv r) false)), (.pv (.ints .i64 l2 false)), (.pv (.recs 2 (List.map zac.pv r2) false))])], []⟩
def zdz (to : Int) (l : List Int) (n n2 n3 : Int) (r : List zab) (l2 : List Int) (r2 : List zac) : (Unit) ⊕ (Unit) → Ex × St
 | .inl _ => (.ret, ⟨[(4, (.av (.one (.pv (.bool true)))))], [(0, [(.pv (.int .i64 n2)), (.pv (.int .u64 n3)), (.pv (.recs 4 (List.map zab.pv r) false)), (.pv (.ints .i64 l2 false)), (.pv (.recs 2 (List.map zac.pv r2) false))])], []⟩)
 | .inr _ => ((.exit 0), ⟨[], [(0, [(.pv (.int .i64 n2)), (.pv (.int .u64 n3)), (.pv (.recs 4 (List.map zab.pv r) false)), (.pv (.ints .i64 l2 false)), (.pv (.recs 2 (List.map zac.pv r2) false))])], []⟩)
noncomputable def zck (to : Int) (l : List Int) (n n2 n3 : Int) (r : List zab) (l2 : List Int) (r2 : List zac) : Int → Option ((Int) ⊕ ((Unit) ⊕ (Unit)))
 | n4 =>
 bif (decide ((n4 : Int) < n)) then
  bif decide ((0 : Int) ≤ n4) && decide ((n4 : Int) < ((l).length : Int)) then
  bif (decide (((l.getD (n4).toNat 0) : Int) = to)) then
   some (.inr (.inl ()))
  else
   some (.inl (iadd .i64 n4 1))
  else none
 else
  some (.inr (.inr ()))
theorem zkW (to : Int) (l : List Int) (n n2 n3 : Int) (r : List zab) (l2 : List Int) (r2 : List zac) (n4 : Int) (z_ : (Int) ⊕ ((Unit) ⊕ (Unit))) (h : zck to l n n2 n3 r l2 r2 n4 = some z_) : zbQ Tryz.prog cfg 37 1 (zbe Tryz.prog 37 0) (zfe to l n n2 n3 r l2 r2) (zdz to l n n2 n3 r l2 r2) n4 z_ := by
 rcases zaj h with ⟨h1, h⟩ | ⟨h1, h⟩
 ·obtain ⟨h2, h⟩ := zar h
  rcases zaj h with ⟨h3, h⟩ | ⟨h3, h⟩
  ·have h := zaf h
   subst h
   have t_ := tT h1 <| tO h2 <| tT h3 <| tN
   exact ⟨t_.ev, (zdz to l n n2 n3 r l2 r2 (.inl ())).2, .k0 t_.pf (by kernel_rfl), .same (by kernel_rfl)⟩
  ·have h := zaf h
   subst h
   have t_ := tT h1 <| tO h2 <| tF h3 <| tN
   exact ⟨t_.ev, zfe to l n n2 n3 r l2 r2 (iadd .i64 n4 1), .k0 t_.pf (by kernel_rfl), .same (by kernel_rfl)⟩
 ·have h := zaf h
  subst h
  have t_ := tF h1 <| tN
  exact ⟨t_.ev, ⟨[(13, (.av (.one (.pv (.bool false))))), (1, (.av (.one (.pv (.int .i64 to))))), (10, (.av (.one (.pv (.ints .i64 l false))))), (11, (.av (.one (.pv (.int .i64 n))))), (12, (.av (.one (.pv (.int .i64 n4))))), (13, (.av (.one (.pv (.bool (decide ((n4 : Int) < n)))))))], [(0, [(.pv (.int .i64 n2)), (.pv (.int .u64 n3)), (.pv (.recs 4 (List.map zab.pv r) false)), (.pv (.ints .i64 l2 false)), (.pv (.recs 2 (List.map zac.pv r2) false))])], []⟩, .k0 t_.pf (by kernel_rfl), ⟨trivial, ⟨⟨rfl, ⟨.eq rfl, .eq rfl, .eq rfl, .eq rfl, .eq rfl, trivial⟩⟩, trivial⟩, trivial⟩⟩
theorem zgf (to : Int) (l : List Int) (n n2 n3 : Int) (r : List zab) (l2 : List Int) (r2 : List zac) (s_ : Int) (r_ : (Unit) ⊕ (Unit)) (h : runL (zck to l n n2 n3 r l2 r2) s_ = some r_) : zbK Tryz.prog (lEnv Tryz.prog cfg 37 1).nt 1 (.loop (zbe Tryz.prog 37 0)) (zfe to l n n2 n3 r l2 r2 s_) (zdz to l n n2 n3 r l2 r2 r_).1 (zdz to l n n2 n3 r l2 r2 r_).2 :=
 zbA h (zkW to l n n2 n3 r l2 r2) (by intro r_; rcases r_ with _ | _ <;> simp [zdz])
noncomputable def zgd (to n n2 : Int) (r : List zab) (l : List Int) (r2 : List zac) : Option (Bool) :=
 (runL (zck to l ((l).length : Int) n n2 r l r2) 0).bind fun z_ => match z_ with
 | .inl _ =>
  some true
 | .inr _ =>
  some false
theorem zlz (to n n2 : Int) (r : List zab) (l : List Int) (r2 : List zac) (r_ : Bool) (h : zgd to n n2 r l r2 = some r_) : Runs Tryz.prog 37 [(.one (.ref 0 0)), (.one (.pv (.int .i64 to)))] [[(.pv (.int .i64 n)), (.pv (.int .u64 n2)), (.pv (.recs 4 (List.map zab.pv r) false)), (.pv (.ints .i64 l false)), (.pv (.recs 2 (List.map zac.pv r2) false))]] [] (zmq to n n2 r l r2 r_) := by
 unfold zgd at h
 obtain ⟨z_, h1, h⟩ := zae h
 rcases z_ with _ | _
 ·have h := zaf h
  subst h
  have t_ := tL (zgf to l ((l).length : Int) n n2 r l r2 _ _ h1) <| tN
  exact zag (C := cfg) (sc := t_.ev) (.k0 t_.pf (by kernel_rfl))
 ·have h := zaf h
  subst h
  have t_ := tL (zgf to l ((l).length : Int) n n2 r l r2 _ _ h1) <| tN
  exact zag (C := cfg) (sc := t_.ev) (.k0 t_.pf (by kernel_rfl))
end Go.Proofs.YtjjcmgdgifcmgaaGreat
