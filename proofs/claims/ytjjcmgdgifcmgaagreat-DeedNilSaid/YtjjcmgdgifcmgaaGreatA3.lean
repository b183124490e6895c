/- What functions compute, and that they do. -/
import Derived.Test.YtjjcmgdgifcmgaaGreatA2
set_option linter.unusedVariables false
set_option linter.unusedSimpArgs false
set_option maxRecDepth 100000
namespace Go.Proofs.YtjjcmgdgifcmgaaGreat
open Go.Ev
def zfh (r : List zac) (n n2 n3 : Int) (r2 : List zab) (l : List Int) (r3 : List zac) (n4 n5 : Int) : Int → St
 | n6 => ⟨[(3, (.av (.one (.ref 1 0)))), (10, (.av (.one (.pv (.recs 2 (List.map zac.pv r) false))))), (11, (.av (.one (.pv (.int .i64 n))))), (12, (.av (.one (.pv (.int .i64 n6)))))], [(0, [(.pv (.int .i64 n2)), (.pv (.int .u64 n3)), (.pv (.recs 4 (List.map zab.pv r2) false)), (.pv (.ints .i64 l false)), (.pv (.recs 2 (List.map zac.pv r3) false))]), (1, [(.pv (.int .i64 n4)), (.pv (.int .u64 n5))])], []⟩
def zdB (r : List zac) (n n2 n3 : Int) (r2 : List zab) (l : List Int) (r3 : List zac) (n4 n5 : Int) : (Unit) ⊕ (Unit) → Ex × St
 | .inl _ => (.ret, ⟨[(4, (.av (.one (.pv (.bool true)))))], [(0, [(.pv (.int .i64 n2)), (.pv (.int .u64 n3)), (.pv (.recs 4 (List.map zab.pv r2) false)), (.pv (.ints .i64 l false)), (.pv (.recs 2 (List.map zac.pv r3) false))])], []⟩)
 | .inr _ => ((.exit 0), ⟨[], [(0, [(.pv (.int .i64 n2)), (.pv (.int .u64 n3)), (.pv (.recs 4 (List.map zab.pv r2) false)), (.pv (.ints .i64 l false)), (.pv (.recs 2 (List.map zac.pv r3) false))]), (1, [(.pv (.int .i64 n4)), (.pv (.int .u64 n5))])], []⟩)
noncomputable def zcl (r : List zac) (n n2 n3 : Int) (r2 : List zab) (l : List Int) (r3 : List zac) (n4 n5 : Int) : Int → Option ((Int) ⊕ ((Unit) ⊕ (Unit)))
 | n6 =>
 bif (decide ((n6 : Int) < n)) then
  bif decide ((0 : Int) ≤ n6) && decide ((n6 : Int) < (((List.map zac.pv r)).length : Int)) then
  (r[(n6).toNat]?).bind fun e_ => match e_ with
  | .mk n7 n8 =>
  bif ((decide ((n7 : Int) = n4)) && ((decide ((n8 : Int) = n5)) && true)) then
   some (.inr (.inl ()))
  else
   some (.inl (iadd .i64 n6 1))
  else none
 else
  some (.inr (.inr ()))
theorem zk0 (r : List zac) (n n2 n3 : Int) (r2 : List zab) (l : List Int) (r3 : List zac) (n4 n5 n6 : Int) (z_ : (Int) ⊕ ((Unit) ⊕ (Unit))) (h : zcl r n n2 n3 r2 l r3 n4 n5 n6 = some z_) : zbQ Tryz.prog cfg 70 1 (zbe Tryz.prog 70 0) (zfh r n n2 n3 r2 l r3 n4 n5) (zdB r n n2 n3 r2 l r3 n4 n5) n6 z_ := by
 rcases zaj h with ⟨h1, h⟩ | ⟨h1, h⟩
 ·obtain ⟨h2, h⟩ := zar h
  obtain ⟨⟨n7, n8⟩, h3, h⟩ := zae h
  rcases zaj h with ⟨h4, h⟩ | ⟨h4, h⟩
  ·have h := zaf h
   subst h
   have t_ := tT h1 <| tO h2 <| tE (.el [(.int .i64 n7), (.int .u64 n8)]) <| tO (zdi (f := zac.pv) h3) <| tT h4 <| tN
   exact ⟨t_.ev, (zdB r n n2 n3 r2 l r3 n4 n5 (.inl ())).2, .k0 t_.pf (by kernel_rfl), .same (by kernel_rfl)⟩
  ·have h := zaf h
   subst h
   have t_ := tT h1 <| tO h2 <| tE (.el [(.int .i64 n7), (.int .u64 n8)]) <| tO (zdi (f := zac.pv) h3) <| tF h4 <| tN
   exact ⟨t_.ev, zfh r n n2 n3 r2 l r3 n4 n5 (iadd .i64 n6 1), .k0 t_.pf (by kernel_rfl), .same (by kernel_rfl)⟩
 ·have h := zaf h
  subst h
  have t_ := tF h1 <| tN
  exact ⟨t_.ev, ⟨[(13, (.av (.one (.pv (.bool false))))), (3, (.av (.one (.ref 1 0)))), (10, (.av (.one (.pv (.recs 2 (List.map zac.pv r) false))))), (11, (.av (.one (.pv (.int .i64 n))))), (12, (.av (.one (.pv (.int .i64 n6))))), (13, (.av (.one (.pv (.bool (decide ((n6 : Int) < n)))))))], [(0, [(.pv (.int .i64 n2)), (.pv (.int .u64 n3)), (.pv (.recs 4 (List.map zab.pv r2) false)), (.pv (.ints .i64 l false)), (.pv (.recs 2 (List.map zac.pv r3) false))]), (1, [(.pv (.int .i64 n4)), (.pv (.int .u64 n5))])], []⟩, .k0 t_.pf (by kernel_rfl), ⟨trivial, ⟨⟨rfl, ⟨.eq rfl, .eq rfl, .eq rfl, .eq rfl, .eq rfl, trivial⟩⟩, ⟨rfl, ⟨.eq rfl, .eq rfl, trivial⟩⟩, trivial⟩, trivial⟩⟩
theorem zgj (r : List zac) (n n2 n3 : Int) (r2 : List zab) (l : List Int) (r3 : List zac) (n4 n5 s_ : Int) (r_ : (Unit) ⊕ (Unit)) (h : runL (zcl r n n2 n3 r2 l r3 n4 n5) s_ = some r_) : zbK Tryz.prog (lEnv Tryz.prog cfg 70 1).nt 1 (.loop (zbe Tryz.prog 70 0)) (zfh r n n2 n3 r2 l r3 n4 n5 s_) (zdB r n n2 n3 r2 l r3 n4 n5 r_).1 (zdB r n n2 n3 r2 l r3 n4 n5 r_).2 :=
 zbA h (zk0 r n n2 n3 r2 l r3 n4 n5) (by intro r_; rcases r_ with _ | _ <;> simp [zdB])
noncomputable def zgi (m m2 n n2 : Int) (r : List zab) (l : List Int) (r2 : List zac) : Option (Bool) :=
 (runL (zcl r2 (((List.map zac.pv r2)).length : Int) n n2 r l r2 m m2) 0).bind fun z_ => match z_ with
 | .inl _ =>
  some true
 | .inr _ =>
  some false
theorem zlB (m m2 n n2 : Int) (r : List zab) (l : List Int) (r2 : List zac) (r_ : Bool) (h : zgi m m2 n n2 r l r2 = some r_) : Runs Tryz.prog 70 [(.one (.ref 0 0)), (.agg [(.pv (.int .i64 m)), (.pv (.int .u64 m2))])] [[(.pv (.int .i64 n)), (.pv (.int .u64 n2)), (.pv (.recs 4 (List.map zab.pv r) false)), (.pv (.ints .i64 l false)), (.pv (.recs 2 (List.map zac.pv r2) false))]] [] (zmu m m2 n n2 r l r2 r_) := by
 unfold zgi at h
 obtain ⟨z_, h1, h⟩ := zae h
 rcases z_ with _ | _
 ·have h := zaf h
  subst h
  have t_ := tL (zgj r2 (((List.map zac.pv r2)).length : Int) n n2 r l r2 m m2 _ _ h1) <| tN
  exact zag (C := cfg) (sc := t_.ev) (.k0 t_.pf (by kernel_rfl))
 ·have h := zaf h
  subst h
  have t_ := tL (zgj r2 (((List.map zac.pv r2)).length : Int) n n2 r l r2 m m2 _ _ h1) <| tN
  exact zag (C := cfg) (sc := t_.ev) (.k0 t_.pf (by kernel_rfl))
def zfg (n n2 : Int) (r : List zab) (l : List Int) (r2 : List zac) (n3 n4 : Int) : Int → St
 | i => ⟨[(0, (.av (.one (.ref 0 0)))), (5, (.av (.one (.ref 1 0)))), (6, (.av (.one (.pv (.int .i64 i)))))], [(0, [(.pv (.int .i64 n)), (.pv (.int .u64 n2)), (.pv (.recs 4 (List.map zab.pv r) false)), (.pv (.ints .i64 l false)), (.pv (.recs 2 (List.map zac.pv r2) false))]), (1, [(.pv (.int .i64 n3)), (.pv (.int .u64 n4))])], []⟩
def zen (n n2 : Int) (r : List zab) (l : List Int) (r2 : List zac) (n3 n4 : Int) : Int → Ex × St
 | r1 => ((.exit 0), ⟨[(0, (.av (.one (.ref 0 0)))), (5, (.av (.one (.ref 1 0)))), (6, (.av (.one (.pv (.int .i64 r1)))))], [(0, [(.pv (.int .i64 n)), (.pv (.int .u64 n2)), (.pv (.recs 4 (List.map zab.pv r) false)), (.pv (.ints .i64 l false)), (.pv (.recs 2 (List.map zac.pv r2) false))]), (1, [(.pv (.int .i64 n3)), (.pv (.int .u64 n4))])], []⟩)
noncomputable def zbz (n n2 : Int) (r : List zab) (l : List Int) (r2 : List zac) (n3 n4 : Int) : Int → Option ((Int) ⊕ (Int))
 | i =>
 bif (decide ((i : Int) < (((List.map zac.pv r2)).length : Int))) then
  bif decide ((0 : Int) ≤ i) && decide ((i : Int) < (((List.map zac.pv r2)).length : Int)) then
  (r2[(i).toNat]?).bind fun e_ => match e_ with
  | .mk n5 n6 =>
  (zgk n5 n6 n3 n4).bind fun b =>
  bif b then
   some (.inl (iadd .i64 i 1))
  else
   some (.inr i)
  else none
 else
  some (.inr i)
theorem zkZ (n n2 : Int) (r : List zab) (l : List Int) (r2 : List zac) (n3 n4 i : Int) (z_ : (Int) ⊕ (Int)) (h : zbz n n2 r l r2 n3 n4 i = some z_) : zbQ Tryz.prog cfg 32 1 (zbe Tryz.prog 32 0) (zfg n n2 r l r2 n3 n4) (zen n n2 r l r2 n3 n4) i z_ := by
 rcases zaj h with ⟨h1, h⟩ | ⟨h1, h⟩
 ·obtain ⟨h2, h⟩ := zar h
  obtain ⟨⟨n5, n6⟩, h3, h⟩ := zae h
  obtain ⟨b, h4, h⟩ := zae h
  rcases zaj h with ⟨h5, h⟩ | ⟨h5, h⟩
  ·have h := zaf h
   subst h
   have t_ := tT h1 <| tO h2 <| tE (.el [(.int .i64 n5), (.int .u64 n6)]) <| tO (zdi (f := zac.pv) h3) <| tO h2 <| tE (.el [(.int .i64 n5), (.int .u64 n6)]) <| tO (zdi (f := zac.pv) h3) <| tR (zhK n5 n6 n3 n4 _ h4) <| tT h5 <| tN
   exact ⟨t_.ev, zfg n n2 r l r2 n3 n4 (iadd .i64 i 1), .k1 t_.pf (by kernel_rfl) (by kernel_rfl), .same (by kernel_rfl)⟩
  ·have h := zaf h
   subst h
   have t_ := tT h1 <| tO h2 <| tE (.el [(.int .i64 n5), (.int .u64 n6)]) <| tO (zdi (f := zac.pv) h3) <| tO h2 <| tE (.el [(.int .i64 n5), (.int .u64 n6)]) <| tO (zdi (f := zac.pv) h3) <| tR (zhK n5 n6 n3 n4 _ h4) <| tF h5 <| tN
   exact ⟨t_.ev, ⟨[(45, (.av (.one (.pv (.bool false))))), (0, (.av (.one (.ref 0 0)))), (5, (.av (.one (.ref 1 0)))), (6, (.av (.one (.pv (.int .i64 i))))), (45, (.av (.one (.pv (.bool b)))))], [(0, [(.pv (.int .i64 n)), (.pv (.int .u64 n2)), (.pv (.recs 4 (List.map zab.pv r) false)), (.pv (.ints .i64 l false)), (.pv (.recs 2 (List.map zac.pv r2) false))]), (1, [(.pv (.int .i64 n3)), (.pv (.int .u64 n4))])], []⟩, .k1 t_.pf (by kernel_rfl) (by kernel_rfl), ⟨⟨⟨_, rfl, .eq rfl⟩, ⟨_, rfl, .eq rfl⟩, ⟨_, rfl, .eq rfl⟩, trivial⟩, ⟨⟨rfl, ⟨.eq rfl, .eq rfl, .eq rfl, .eq rfl, .eq rfl, trivial⟩⟩, ⟨rfl, ⟨.eq rfl, .eq rfl, trivial⟩⟩, trivial⟩, trivial⟩⟩
 ·have h := zaf h
  subst h
  have t_ := tF h1 <| tF (rfl : false = false) <| tN
  exact ⟨t_.ev, ⟨[(45, (.av (.one (.pv (.bool false))))), (0, (.av (.one (.ref 0 0)))), (5, (.av (.one (.ref 1 0)))), (6, (.av (.one (.pv (.int .i64 i))))), (45, (.av (.one (.pv (.bool false)))))], [(0, [(.pv (.int .i64 n)), (.pv (.int .u64 n2)), (.pv (.recs 4 (List.map zab.pv r) false)), (.pv (.ints .i64 l false)), (.pv (.recs 2 (List.map zac.pv r2) false))]), (1, [(.pv (.int .i64 n3)), (.pv (.int .u64 n4))])], []⟩, .k1 t_.pf (by kernel_rfl) (by kernel_rfl), ⟨⟨⟨_, rfl, .eq rfl⟩, ⟨_, rfl, .eq rfl⟩, ⟨_, rfl, .eq rfl⟩, trivial⟩, ⟨⟨rfl, ⟨.eq rfl, .eq rfl, .eq rfl, .eq rfl, .eq rfl, trivial⟩⟩, ⟨rfl, ⟨.eq rfl, .eq rfl, trivial⟩⟩, trivial⟩, trivial⟩⟩
theorem zjK (n n2 : Int) (r : List zab) (l : List Int) (r2 : List zac) (n3 n4 s_ r_ : Int) (h : runL (zbz n n2 r l r2 n3 n4) s_ = some r_) : zbK Tryz.prog (lEnv Tryz.prog cfg 32 1).nt 1 (.loop (zbe Tryz.prog 32 0)) (zfg n n2 r l r2 n3 n4 s_) (zen n n2 r l r2 n3 n4 r_).1 (zen n n2 r l r2 n3 n4 r_).2 :=
 zbA h (zkZ n n2 r l r2 n3 n4) (by intro r_; rcases r_ with r1 <;> simp [zen])
noncomputable def zcD (g g2 g3 : Int) (g4 : zah) (n n2 : Int) (r : List zab) (l : List Int) (r2 : List zac) : Option (Int × List zac) :=
 (zff g g2 g3 g4).bind fun b =>
 bif b then
  bif (decide ((g3 : Int) = n)) then
   (zgi g2 g n n2 r l r2).bind fun b2 =>
   bif b2 then
    some (14, r2)
   else
    (runL (zbz n n2 r l r2 g2 g) 0).bind fun n3 =>
    bif decide ((0 : Int) ≤ n3) && decide ((n3 : Int) ≤ (((List.map zac.pv r2)).length : Int)) && decide (((((List.map zac.pv r2)).length : Int) : Int) ≤ (((List.map zac.pv r2)).length : Int)) && decide (((((List.map zac.pv r2)).length : Int) : Int) = (((List.map zac.pv r2)).length : Int)) then
    bif Nat.beq ((List.take ((((List.map zac.pv r2)).length : Int) - n3).toNat (List.drop (n3).toNat (List.map zac.pv r2)))).length 0 then
     bif decide ((0 : Int) ≤ 0) && decide ((0 : Int) ≤ n3) && decide ((n3 : Int) ≤ (((List.map zac.pv r2)).length : Int)) && decide ((n3 : Int) = n3) then
     bif Nat.beq ((List.take (n3 - 0).toNat (List.map zac.pv r2))).length 0 then
      some (0, [(zac.mk g2 g)])
     else
      bif fits ((([] : List (List PV)) ++ (List.take (n3 - 0).toNat (List.map zac.pv r2)))).length then
      bif fits (((([] : List (List PV)) ++ (List.take (n3 - 0).toNat (List.map zac.pv r2))) ++ ([[(.int .i64 g2), (.int .u64 g)]] : List (List PV)))).length then
      some (0, (List.take (((([] : List (List PV)) ++ (List.take (n3 - 0).toNat (List.map zac.pv r2))) ++ ([[(.int .i64 g2), (.int .u64 g)]] : List (List PV)))).length (([] ++ (List.take (n3 - 0).toNat r2)) ++ [(zac.mk g2 g)])))
      else none
      else none
     else none
    else
     bif fits ((([[(.int .i64 g2), (.int .u64 g)]] : List (List PV)) ++ (List.take ((((List.map zac.pv r2)).length : Int) - n3).toNat (List.drop (n3).toNat (List.map zac.pv r2))))).length then
     bif decide ((0 : Int) ≤ 0) && decide ((0 : Int) ≤ n3) && decide ((n3 : Int) ≤ (((List.map zac.pv r2)).length : Int)) && decide ((n3 : Int) = n3) then
     bif Nat.beq ((List.take (n3 - 0).toNat (List.map zac.pv r2))).length 0 then
      bif fits ((([] : List (List PV)) ++ (List.take ((([[(.int .i64 g2), (.int .u64 g)]] : List (List PV)) ++ (List.take ((((List.map zac.pv r2)).length : Int) - n3).toNat (List.drop (n3).toNat (List.map zac.pv r2))))).length (([[(.int .i64 g2), (.int .u64 g)]] : List (List PV)) ++ (List.take ((((List.map zac.pv r2)).length : Int) - n3).toNat (List.drop (n3).toNat (List.map zac.pv r2))))))).length then
      some (0, (List.take ((([] : List (List PV)) ++ (([[(.int .i64 g2), (.int .u64 g)]] : List (List PV)) ++ (List.take ((((List.map zac.pv r2)).length : Int) - n3).toNat (List.drop (n3).toNat (List.map zac.pv r2)))))).length ([] ++ (List.take ((([[(.int .i64 g2), (.int .u64 g)]] : List (List PV)) ++ (List.take ((((List.map zac.pv r2)).length : Int) - n3).toNat (List.drop (n3).toNat (List.map zac.pv r2))))).length ([(zac.mk g2 g)] ++ (List.take ((((List.map zac.pv r2)).length : Int) - n3).toNat (List.drop (n3).toNat r2)))))))
      else none
     else
      bif fits ((([] : List (List PV)) ++ (List.take (n3 - 0).toNat (List.map zac.pv r2)))).length then
      bif fits (((([] : List (List PV)) ++ (List.take (n3 - 0).toNat (List.map zac.pv r2))) ++ (List.take ((([[(.int .i64 g2), (.int .u64 g)]] : List (List PV)) ++ (List.take ((((List.map zac.pv r2)).length : Int) - n3).toNat (List.drop (n3).toNat (List.map zac.pv r2))))).length (([[(.int .i64 g2), (.int .u64 g)]] : List (List PV)) ++ (List.take ((((List.map zac.pv r2)).length : Int) - n3).toNat (List.drop (n3).toNat (List.map zac.pv r2))))))).length then
      some (0, (List.take (((([] : List (List PV)) ++ (List.take (n3 - 0).toNat (List.map zac.pv r2))) ++ (([[(.int .i64 g2), (.int .u64 g)]] : List (List PV)) ++ (List.take ((((List.map zac.pv r2)).length : Int) - n3).toNat (List.drop (n3).toNat (List.map zac.pv r2)))))).length (([] ++ (List.take (n3 - 0).toNat r2)) ++ (List.take ((([[(.int .i64 g2), (.int .u64 g)]] : List (List PV)) ++ (List.take ((((List.map zac.pv r2)).length : Int) - n3).toNat (List.drop (n3).toNat (List.map zac.pv r2))))).length ([(zac.mk g2 g)] ++ (List.take ((((List.map zac.pv r2)).length : Int) - n3).toNat (List.drop (n3).toNat r2)))))))
      else none
      else none
     else none
     else none
    else none
  else
   some (1, r2)
 else
  some (1, r2)
theorem zeC (g g2 g3 : Int) (g4 : zah) (n n2 : Int) (r : List zab) (l : List Int) (r2 : List zac) (r_ : Int × List zac) (h : zcD g g2 g3 g4 n n2 r l r2 = some r_) : Runs Tryz.prog 32 [(.one (.ref 0 0)), (.agg [(.pv (.int .u64 g)), (.pv (.int .i64 g2)), (.pv (.int .i64 g3)), (.pv (zah.pv g4))])] [[(.pv (.int .i64 n)), (.pv (.int .u64 n2)), (.pv (.recs 4 (List.map zab.pv r) false)), (.pv (.ints .i64 l false)), (.pv (.recs 2 (List.map zac.pv r2) false))]] [] (zms g g2 g3 g4 n n2 r l r2 r_) := by
 unfold zcD at h
 obtain ⟨b, h1, h⟩ := zae h
 rcases zaj h with ⟨h2, h⟩ | ⟨h2, h⟩
 ·rcases zaj h with ⟨h3, h⟩ | ⟨h3, h⟩
  ·obtain ⟨b2, h4, h⟩ := zae h
   have q_4 := (zlB g2 g n n2 r l r2 _ h4)
   rcases zaj h with ⟨h5, h⟩ | ⟨h5, h⟩
   ·have h := zaf h
    subst h
    have t_ := tR (zcw g g2 g3 g4 _ h1) <| tF (zaz h2) <| tF (zaz h3) <| tR q_4 <| tT h5 <| tN
    exact zag (C := cfg) (sc := t_.ev) (.k1 t_.pf (by kernel_rfl) (by kernel_rfl))
   ·obtain ⟨n3, h6, h⟩ := zae h
    have q_6 := (zjK n n2 r l r2 g2 g _ _ h6)
    obtain ⟨h7, h⟩ := zar h
    rcases zaj h with ⟨h8, h⟩ | ⟨h8, h⟩
    ·obtain ⟨h9, h⟩ := zar h
     rcases zaj h with ⟨h10, h⟩ | ⟨h10, h⟩
     ·have h := zaf h
      subst h
      have t_ := tR (zcw g g2 g3 g4 _ h1) <| tF (zaz h2) <| tF (zaz h3) <| tR q_4 <| tF h5 <| tL q_6 <| tO h7 <| tO h7 <| tO h7 <| tT h8 <| tO h9 <| tT h10 <| tO (rfl : true = true) <| tO (rfl : true = true) <| tN
      exact Runs.out (Runs.shut (zag (C := cfg) (res := ([(.one (.pv (.int .i64 0)))], [[(.pv (.int .i64 n)), (.pv (.int .u64 n2)), (.pv (.recs 4 (List.map zab.pv r) false)), (.pv (.ints .i64 l false)), (.own 0 0 1 false)]], [(.recs 2 [[(.int .i64 g2), (.int .u64 g)]])])) (sc := t_.ev) (.k1 t_.pf (by kernel_rfl) (by kernel_rfl))) (res' := ([(.one (.pv (.int .i64 0)))], [[(.pv (.int .i64 n)), (.pv (.int .u64 n2)), (.pv (.recs 4 (List.map zab.pv r) false)), (.pv (.ints .i64 l false)), (.pv (.recs 2 [[(.int .i64 g2), (.int .u64 g)]] false))]], [])) [0] (by kernel_rfl)) ⟨.eq rfl, trivial⟩ ⟨⟨.eq rfl, .eq rfl, .eq rfl, .eq rfl, .pv (.recsT (.cons (.cons (.eq rfl) (.cons (.eq rfl) (.nil))) (.nil))), trivial⟩, trivial⟩ trivial rfl
     ·obtain ⟨h11, h⟩ := zar h
      obtain ⟨h12, h⟩ := zar h
      have h := zaf h
      subst h
      have t_ := tR (zcw g g2 g3 g4 _ h1) <| tF (zaz h2) <| tF (zaz h3) <| tR q_4 <| tF h5 <| tL q_6 <| tO h7 <| tO h7 <| tO h7 <| tT h8 <| tO h9 <| tF (zbc h10) <| tO h11 <| tO (show (Nat.beq ((([] : List (List PV)) ++ (List.take (n3 - 0).toNat (List.map zac.pv r2)))).length ((([] : List (List PV)) ++ (List.take (n3 - 0).toNat (List.map zac.pv r2)))).length) = true from Nat.beq_refl _) <| tO h12 <| tN
      exact Runs.out (Runs.shut (zag (C := cfg) (res := ([(.one (.pv (.int .i64 0)))], [[(.pv (.int .i64 n)), (.pv (.int .u64 n2)), (.pv (.recs 4 (List.map zab.pv r) false)), (.pv (.ints .i64 l false)), (.own 0 0 (((([] : List (List PV)) ++ (List.take (n3 - 0).toNat (List.map zac.pv r2))) ++ ([[(.int .i64 g2), (.int .u64 g)]] : List (List PV)))).length false)]], [(.recs 2 ((([] : List (List PV)) ++ (List.take (n3 - 0).toNat (List.map zac.pv r2))) ++ ([[(.int .i64 g2), (.int .u64 g)]] : List (List PV))))])) (sc := t_.ev) (.k1 t_.pf (by kernel_rfl) (by kernel_rfl))) (res' := ([(.one (.pv (.int .i64 0)))], [[(.pv (.int .i64 n)), (.pv (.int .u64 n2)), (.pv (.recs 4 (List.map zab.pv r) false)), (.pv (.ints .i64 l false)), (.pv (.recs 2 (List.take (((([] : List (List PV)) ++ (List.take (n3 - 0).toNat (List.map zac.pv r2))) ++ ([[(.int .i64 g2), (.int .u64 g)]] : List (List PV)))).length ((([] : List (List PV)) ++ (List.take (n3 - 0).toNat (List.map zac.pv r2))) ++ ([[(.int .i64 g2), (.int .u64 g)]] : List (List PV)))) false))]], [])) [0] (by kernel_rfl)) ⟨.eq rfl, trivial⟩ ⟨⟨.eq rfl, .eq rfl, .eq rfl, .eq rfl, .pv (.recsT (.takeN (by first | rfl | (simp only [List.take_length]; done) | (simp; done)) (.app (.app (.nil) (.eq (by first | rfl | (simp only [List.take_length]; done) | (simp; done) | (simp only [List.map_take, List.map_drop, List.map_append, List.take_length, List.nil_append]; done) | (simp only [List.length_map, List.take_length, List.length_append, List.drop_zero, List.map_append, List.map_take, List.map_drop, List.map_replicate, List.map_cons, List.map_nil, List.append_nil, List.nil_append]; done)))) (.cons (.cons (.eq rfl) (.cons (.eq rfl) (.nil))) (.nil))))), trivial⟩, trivial⟩ trivial rfl
    ·obtain ⟨h9, h⟩ := zar h
     obtain ⟨h10, h⟩ := zar h
     rcases zaj h with ⟨h11, h⟩ | ⟨h11, h⟩
     ·obtain ⟨h12, h⟩ := zar h
      have h := zaf h
      subst h
      have t_ := tR (zcw g g2 g3 g4 _ h1) <| tF (zaz h2) <| tF (zaz h3) <| tR q_4 <| tF h5 <| tL q_6 <| tO h7 <| tO h7 <| tO h7 <| tF (zbc h8) <| tO h9 <| tO h10 <| tT h11 <| tO (rfl : true = true) <| tO h12 <| tN
      exact Runs.out (Runs.shut (zag (C := cfg) (res := ([(.one (.pv (.int .i64 0)))], [[(.pv (.int .i64 n)), (.pv (.int .u64 n2)), (.pv (.recs 4 (List.map zab.pv r) false)), (.pv (.ints .i64 l false)), (.own 0 0 ((([] : List (List PV)) ++ (List.take ((([[(.int .i64 g2), (.int .u64 g)]] : List (List PV)) ++ (List.take ((((List.map zac.pv r2)).length : Int) - n3).toNat (List.drop (n3).toNat (List.map zac.pv r2))))).length (([[(.int .i64 g2), (.int .u64 g)]] : List (List PV)) ++ (List.take ((((List.map zac.pv r2)).length : Int) - n3).toNat (List.drop (n3).toNat (List.map zac.pv r2))))))).length false)]], [(.recs 2 (([] : List (List PV)) ++ (List.take ((([[(.int .i64 g2), (.int .u64 g)]] : List (List PV)) ++ (List.take ((((List.map zac.pv r2)).length : Int) - n3).toNat (List.drop (n3).toNat (List.map zac.pv r2))))).length (([[(.int .i64 g2), (.int .u64 g)]] : List (List PV)) ++ (List.take ((((List.map zac.pv r2)).length : Int) - n3).toNat (List.drop (n3).toNat (List.map zac.pv r2)))))))])) (sc := t_.ev) (.k1 t_.pf (by kernel_rfl) (by kernel_rfl))) (res' := ([(.one (.pv (.int .i64 0)))], [[(.pv (.int .i64 n)), (.pv (.int .u64 n2)), (.pv (.recs 4 (List.map zab.pv r) false)), (.pv (.ints .i64 l false)), (.pv (.recs 2 (List.take ((([] : List (List PV)) ++ (List.take ((([[(.int .i64 g2), (.int .u64 g)]] : List (List PV)) ++ (List.take ((((List.map zac.pv r2)).length : Int) - n3).toNat (List.drop (n3).toNat (List.map zac.pv r2))))).length (([[(.int .i64 g2), (.int .u64 g)]] : List (List PV)) ++ (List.take ((((List.map zac.pv r2)).length : Int) - n3).toNat (List.drop (n3).toNat (List.map zac.pv r2))))))).length (([] : List (List PV)) ++ (List.take ((([[(.int .i64 g2), (.int .u64 g)]] : List (List PV)) ++ (List.take ((((List.map zac.pv r2)).length : Int) - n3).toNat (List.drop (n3).toNat (List.map zac.pv r2))))).length (([[(.int .i64 g2), (.int .u64 g)]] : List (List PV)) ++ (List.take ((((List.map zac.pv r2)).length : Int) - n3).toNat (List.drop (n3).toNat (List.map zac.pv r2))))))) false))]], [])) [0] (by kernel_rfl)) ⟨.eq rfl, trivial⟩ ⟨⟨.eq rfl, .eq rfl, .eq rfl, .eq rfl, .pv (.recsT (.takeN (by first | rfl | (simp only [List.take_length]; done) | (simp; done)) (.app (.nil) (.takeN (by first | rfl | (simp only [List.take_length]; done) | (simp; done)) (.app (.cons (.cons (.eq rfl) (.cons (.eq rfl) (.nil))) (.nil)) (.eq (by first | rfl | (simp only [List.take_length]; done) | (simp; done) | (simp only [List.map_take, List.map_drop, List.map_append, List.take_length, List.nil_append]; done) | (simp only [List.length_map, List.take_length, List.length_append, List.drop_zero, List.map_append, List.map_take, List.map_drop, List.map_replicate, List.map_cons, List.map_nil, List.append_nil, List.nil_append]; done)))))))), trivial⟩, trivial⟩ trivial rfl
     ·obtain ⟨h12, h⟩ := zar h
      obtain ⟨h13, h⟩ := zar h
      have h := zaf h
      subst h
      have t_ := tR (zcw g g2 g3 g4 _ h1) <| tF (zaz h2) <| tF (zaz h3) <| tR q_4 <| tF h5 <| tL q_6 <| tO h7 <| tO h7 <| tO h7 <| tF (zbc h8) <| tO h9 <| tO h10 <| tF (zbc h11) <| tO h12 <| tO (show (Nat.beq ((([] : List (List PV)) ++ (List.take (n3 - 0).toNat (List.map zac.pv r2)))).length ((([] : List (List PV)) ++ (List.take (n3 - 0).toNat (List.map zac.pv r2)))).length) = true from Nat.beq_refl _) <| tO h13 <| tN
      exact Runs.out (Runs.shut (zag (C := cfg) (res := ([(.one (.pv (.int .i64 0)))], [[(.pv (.int .i64 n)), (.pv (.int .u64 n2)), (.pv (.recs 4 (List.map zab.pv r) false)), (.pv (.ints .i64 l false)), (.own 0 0 (((([] : List (List PV)) ++ (List.take (n3 - 0).toNat (List.map zac.pv r2))) ++ (List.take ((([[(.int .i64 g2), (.int .u64 g)]] : List (List PV)) ++ (List.take ((((List.map zac.pv r2)).length : Int) - n3).toNat (List.drop (n3).toNat (List.map zac.pv r2))))).length (([[(.int .i64 g2), (.int .u64 g)]] : List (List PV)) ++ (List.take ((((List.map zac.pv r2)).length : Int) - n3).toNat (List.drop (n3).toNat (List.map zac.pv r2))))))).length false)]], [(.recs 2 ((([] : List (List PV)) ++ (List.take (n3 - 0).toNat (List.map zac.pv r2))) ++ (List.take ((([[(.int .i64 g2), (.int .u64 g)]] : List (List PV)) ++ (List.take ((((List.map zac.pv r2)).length : Int) - n3).toNat (List.drop (n3).toNat (List.map zac.pv r2))))).length (([[(.int .i64 g2), (.int .u64 g)]] : List (List PV)) ++ (List.take ((((List.map zac.pv r2)).length : Int) - n3).toNat (List.drop (n3).toNat (List.map zac.pv r2)))))))])) (sc := t_.ev) (.k1 t_.pf (by kernel_rfl) (by kernel_rfl))) (res' := ([(.one (.pv (.int .i64 0)))], [[(.pv (.int .i64 n)), (.pv (.int .u64 n2)), (.pv (.recs 4 (List.map zab.pv r) false)), (.pv (.ints .i64 l false)), (.pv (.recs 2 (List.take (((([] : List (List PV)) ++ (List.take (n3 - 0).toNat (List.map zac.pv r2))) ++ (List.take ((([[(.int .i64 g2), (.int .u64 g)]] : List (List PV)) ++ (List.take ((((List.map zac.pv r2)).length : Int) - n3).toNat (List.drop (n3).toNat (List.map zac.pv r2))))).length (([[(.int .i64 g2), (.int .u64 g)]] : List (List PV)) ++ (List.take ((((List.map zac.pv r2)).length : Int) - n3).toNat (List.drop (n3).toNat (List.map zac.pv r2))))))).length ((([] : List (List PV)) ++ (List.take (n3 - 0).toNat (List.map zac.pv r2))) ++ (List.take ((([[(.int .i64 g2), (.int .u64 g)]] : List (List PV)) ++ (List.take ((((List.map zac.pv r2)).length : Int) - n3).toNat (List.drop (n3).toNat (List.map zac.pv r2))))).length (([[(.int .i64 g2), (.int .u64 g)]] : List (List PV)) ++ (List.take ((((List.map zac.pv r2)).length : Int) - n3).toNat (List.drop (n3).toNat (List.map zac.pv r2))))))) false))]], [])) [0] (by kernel_rfl)) ⟨.eq rfl, trivial⟩ ⟨⟨.eq rfl, .eq rfl, .eq rfl, .eq rfl, .pv (.recsT (.takeN (by first | rfl | (simp only [List.take_length]; done) | (simp; done)) (.app (.app (.nil) (.eq (by first | rfl | (simp only [List.take_length]; done) | (simp; done) | (simp only [List.map_take, List.map_drop, List.map_append, List.take_length, List.nil_append]; done) | (simp only [List.length_map, List.take_length, List.length_append, List.drop_zero, List.map_append, List.map_take, List.map_drop, List.map_replicate, List.map_cons, List.map_nil, List.append_nil, List.nil_append]; done)))) (.takeN (by first | rfl | (simp only [List.take_length]; done) | (simp; done)) (.app (.cons (.cons (.eq rfl) (.cons (.eq rfl) (.nil))) (.nil)) (.eq (by first | rfl | (simp only [List.take_length]; done) | (simp; done) | (simp only [List.map_take, List.map_drop, List.map_append, List.take_length, List.nil_append]; done) | (simp only [List.length_map, List.take_length, List.length_append, List.drop_zero, List.map_append, List.map_take, List.map_drop, List.map_replicate, List.map_cons, List.map_nil, List.append_nil, List.nil_append]; done)))))))), trivial⟩, trivial⟩ trivial rfl
  ·have h := zaf h
   subst h
   have t_ := tR (zcw g g2 g3 g4 _ h1) <| tF (zaz h2) <| tT (zbc h3) <| tN
   exact zag (C := cfg) (sc := t_.ev) (.k1 t_.pf (by kernel_rfl) (by kernel_rfl))
 ·have h := zaf h
  subst h
  have t_ := tR (zcw g g2 g3 g4 _ h1) <| tT (zbc h2) <| tT (rfl : true = true) <| tN
  exact zag (C := cfg) (sc := t_.ev) (.k1 t_.pf (by kernel_rfl) (by kernel_rfl))
def zmr (to : Int) (share : zah) (n n2 : Int) (r : List zab) (l : List Int) (r2 : List zac) : Int × Int × Int × zah × Int × Int × List zab × List Int → Res
 | (r1, r3, r4, r5, r6, r7, r8, r9) => ([(.agg [(.pv (.int .u64 r1)), (.pv (.int .i64 r3)), (.pv (.int .i64 r4)), (.pv (zah.pv r5))]), (.one (.pv (.int .i64 r6)))], [[(.pv (.int .i64 n)), (.pv (.int .u64 r7)), (.pv (.recs 4 (List.map zab.pv r8) false)), (.pv (.ints .i64 r9 false)), (.pv (.recs 2 (List.map zac.pv r2) false))]], [])
def zov (to n n2 : Int) (r : List zab) (l : List Int) (r2 : List zac) : Int → Res
 | r1 => ([(.one (.pv (.int .i64 r1)))], [[(.pv (.int .i64 n)), (.pv (.int .u64 n2)), (.pv (.recs 4 (List.map zab.pv r) false)), (.pv (.ints .i64 l false)), (.pv (.recs 2 (List.map zac.pv r2) false))]], [])
def zgh (to : Int) (r : List zab) (n n2 n3 : Int) (r2 : List zab) (l : List Int) (r3 : List zac) : Int → St
 | n4 => ⟨[(1, (.av (.one (.pv (.int .i64 to))))), (10, (.av (.one (.pv (.recs 4 (List.map zab.pv r) false))))), (11, (.av (.one (.pv (.int .i64 n))))), (12, (.av (.one (.pv (.int .i64 n4)))))], [(0, [(.pv (.int .i64 n2)), (.pv (.int .u64 n3)), (.pv (.recs 4 (List.map zab.pv r2) false)), (.pv (.ints .i64 l false)), (.pv (.recs 2 (List.map zac.pv r3) false))])], []⟩
def zd8 (to : Int) (r : List zab) (n n2 n3 : Int) (r2 : List zab) (l : List Int) (r3 : List zac) : (Int) ⊕ (Unit) → Ex × St
 | .inl r1 => (.ret, ⟨[(4, (.av (.one (.pv (.int .i64 r1)))))], [(0, [(.pv (.int .i64 n2)), (.pv (.int .u64 n3)), (.pv (.recs 4 (List.map zab.pv r2) false)), (.pv (.ints .i64 l false)), (.pv (.recs 2 (List.map zac.pv r3) false))])], []⟩)
 | .inr _ => ((.exit 0), ⟨[], [(0, [(.pv (.int .i64 n2)), (.pv (.int .u64 n3)), (.pv (.recs 4 (List.map zab.pv r2) false)), (.pv (.ints .i64 l false)), (.pv (.recs 2 (List.map zac.pv r3) false))])], []⟩)
noncomputable def zcQ (to : Int) (r : List zab) (n n2 n3 : Int) (r2 : List zab) (l : List Int) (r3 : List zac) : Int → Option ((Int) ⊕ ((Int) ⊕ (Unit)))
 | n4 =>
 bif (decide ((n4 : Int) < n)) then
  bif decide ((0 : Int) ≤ n4) && decide ((n4 : Int) < (((List.map zab.pv r)).length : Int)) then
  (r[(n4).toNat]?).bind fun e_ => match e_ with
  | .mk n5 n6 n7 t =>
  bif (decide ((n7 : Int) = to)) then
   some (.inr (.inl n4))
  else
   some (.inl (iadd .i64 n4 1))
  else none
 else
  some (.inr (.inr ()))
theorem zmt (to : Int) (r : List zab) (n n2 n3 : Int) (r2 : List zab) (l : List Int) (r3 : List zac) (n4 : Int) (z_ : (Int) ⊕ ((Int) ⊕ (Unit))) (h : zcQ to r n n2 n3 r2 l r3 n4 = some z_) : zbQ Tryz.prog cfg 36 1 (zbe Tryz.prog 36 0) (zgh to r n n2 n3 r2 l r3) (zd8 to r n n2 n3 r2 l r3) n4 z_ := by
 rcases zaj h with ⟨h1, h⟩ | ⟨h1, h⟩
 ·obtain ⟨h2, h⟩ := zar h
  obtain ⟨⟨n5, n6, n7, t⟩, h3, h⟩ := zae h
  rcases zaj h with ⟨h4, h⟩ | ⟨h4, h⟩
  ·have h := zaf h
   subst h
   have t_ := tT h1 <| tO h2 <| tE (.el [(.int .u64 n5), (.int .i64 n6), (.int .i64 n7), (zah.pv t)]) <| tO (zdi (f := zab.pv) h3) <| tT h4 <| tN
   exact ⟨t_.ev, (zd8 to r n n2 n3 r2 l r3 (.inl n4)).2, .k0 t_.pf (by kernel_rfl), .same (by kernel_rfl)⟩
  ·have h := zaf h
   subst h
   have t_ := tT h1 <| tO h2 <| tE (.el [(.int .u64 n5), (.int .i64 n6), (.int .i64 n7), (zah.pv t)]) <| tO (zdi (f := zab.pv) h3) <| tF h4 <| tN
   exact ⟨t_.ev, zgh to r n n2 n3 r2 l r3 (iadd .i64 n4 1), .k0 t_.pf (by kernel_rfl), .same (by kernel_rfl)⟩
 ·have h := zaf h
  subst h
  have t_ := tF h1 <| tN
  exact ⟨t_.ev, ⟨[(13, (.av (.one (.pv (.bool false))))), (1, (.av (.one (.pv (.int .i64 to))))), (10, (.av (.one (.pv (.recs 4 (List.map zab.pv r) false))))), (11, (.av (.one (.pv (.int .i64 n))))), (12, (.av (.one (.pv (.int .i64 n4))))), (13, (.av (.one (.pv (.bool (decide ((n4 : Int) < n)))))))], [(0, [(.pv (.int .i64 n2)), (.pv (.int .u64 n3)), (.pv (.recs 4 (List.map zab.pv r2) false)), (.pv (.ints .i64 l false)), (.pv (.recs 2 (List.map zac.pv r3) false))])], []⟩, .k0 t_.pf (by kernel_rfl), ⟨trivial, ⟨⟨rfl, ⟨.eq rfl, .eq rfl, .eq rfl, .eq rfl, .eq rfl, trivial⟩⟩, trivial⟩, trivial⟩⟩
theorem zg5 (to : Int) (r : List zab) (n n2 n3 : Int) (r2 : List zab) (l : List Int) (r3 : List zac) (s_ : Int) (r_ : (Int) ⊕ (Unit)) (h : runL (zcQ to r n n2 n3 r2 l r3) s_ = some r_) : zbK Tryz.prog (lEnv Tryz.prog cfg 36 1).nt 1 (.loop (zbe Tryz.prog 36 0)) (zgh to r n n2 n3 r2 l r3 s_) (zd8 to r n n2 n3 r2 l r3 r_).1 (zd8 to r n n2 n3 r2 l r3 r_).2 :=
 zbA h (zmt to r n n2 n3 r2 l r3) (by intro r_; rcases r_ with r1 | _ <;> simp [zd8])
noncomputable def zg4 (to n n2 : Int) (r : List zab) (l : List Int) (r2 : List zac) : Option (Int) :=
 (runL (zcQ to r (((List.map zab.pv r)).length : Int) n n2 r l r2) 0).bind fun z_ => match z_ with
 | .inl n3 =>
  some n3
 | .inr _ =>
  some (-1)
theorem zcq (to n n2 : Int) (r : List zab) (l : List Int) (r2 : List zac) (r_ : Int) (h : zg4 to n n2 r l r2 = some r_) : Runs Tryz.prog 36 [(.one (.ref 0 0)), (.one (.pv (.int .i64 to)))] [[(.pv (.int .i64 n)), (.pv (.int .u64 n2)), (.pv (.recs 4 (List.map zab.pv r) false)), (.pv (.ints .i64 l false)), (.pv (.recs 2 (List.map zac.pv r2) false))]] [] (zov to n n2 r l r2 r_) := by
 unfold zg4 at h
 obtain ⟨z_, h1, h⟩ := zae h
 rcases z_ with n3 | _
 ·have h := zaf h
  subst h
  have t_ := tL (zg5 to r (((List.map zab.pv r)).length : Int) n n2 r l r2 _ _ h1) <| tN
  exact zag (C := cfg) (sc := t_.ev) (.k0 t_.pf (by kernel_rfl))
 ·have h := zaf h
  subst h
  have t_ := tL (zg5 to r (((List.map zab.pv r)).length : Int) n n2 r l r2 _ _ h1) <| tN
  exact zag (C := cfg) (sc := t_.ev) (.k0 t_.pf (by kernel_rfl))
def zmp (to n n2 : Int) (l : List Int) (r : List zac) (r2 : List zab) : Bool → Res
 | r1 => ([(.one (.pv (.bool r1)))], [[(.pv (.int .i64 n)), (.pv (.int .u64 n2)), (.own 0 0 ((List.map zab.pv r2)).length false), (.pv (.ints .i64 l false)), (.pv (.recs 2 (List.map zac.pv r) false))]], [(.recs 4 (List.map zab.pv r2))])
def zfd (to : Int) (l : List Int) (n n2 n3 : Int) (l2 : List Int) (r : List zac) (r2 : List zab) : Int → St
 | n4 => ⟨[(1, (.av (.one (.pv (.int .i64 to))))), (10, (.av (.one (.pv (.ints .i64 l false))))), (11, (.av (.one (.pv (.int .i64 n))))), (12, (.av (.one (.pv (.int .i64 n4)))))], [(0, [(.pv (.int .i64 n2)), (.pv (.int .u64 n3)), (.own 0 0 ((List.map zab.pv r2)).length false), (.pv (.ints .i64 l2 false)), (.pv (.recs 2 (List.map zac.pv r) false))])], [(0, (.live (.recs 4 (List.map zab.pv r2))))]⟩
def zdy (to : Int) (l : List Int) (n n2 n3 : Int) (l2 : List Int) (r : List zac) (r2 : List zab) : (Unit) ⊕ (Unit) → Ex × St
 | .inl _ => (.ret, ⟨[(4, (.av (.one (.pv (.bool true)))))], [(0, [(.pv (.int .i64 n2)), (.pv (.int .u64 n3)), (.own 0 0 ((List.map zab.pv r2)).length false), (.pv (.ints .i64 l2 false)), (.pv (.recs 2 (List.map zac.pv r) false))])], [(0, (.live (.recs 4 (List.map zab.pv r2))))]⟩)
 | .inr _ => ((.exit 0), ⟨[], [(0, [(.pv (.int .i64 n2)), (.pv (.int .u64 n3)), (.own 0 0 ((List.map zab.pv r2)).length false), (.pv (.ints .i64 l2 false)), (.pv (.recs 2 (List.map zac.pv r) false))])], [(0, (.live (.recs 4 (List.map zab.pv r2))))]⟩)
noncomputable def zcj (to : Int) (l : List Int) (n n2 n3 : Int) (l2 : List Int) (r : List zac) (r2 : List zab) : Int → Option ((Int) ⊕ ((Unit) ⊕ (Unit)))
 | n4 =>
 bif (decide ((n4 : Int) < n)) then
  bif decide ((0 : Int) ≤ n4) && decide ((n4 : Int) < ((l).length : Int)) then
  bif (decide (((l.getD (n4).toNat 0) : Int) = to)) then
   some (.inr (.inl ()))
  else
   some (.inl (iadd .i64 n4 1))
  else none
 else
  some (.inr (.inr ()))
theorem zkV (to : Int) (l : List Int) (n n2 n3 : Int) (l2 : List Int) (r : List zac) (r2 : List zab) (n4 : Int) (z_ : (Int) ⊕ ((Unit) ⊕ (Unit))) (h : zcj to l n n2 n3 l2 r r2 n4 = some z_) : zbQ Tryz.prog cfg 37 1 (zbe Tryz.prog 37 0) (zfd to l n n2 n3 l2 r r2) (zdy to l n n2 n3 l2 r r2) n4 z_ := by
 rcases zaj h with ⟨h1, h⟩ | ⟨h1, h⟩
 ·obtain ⟨h2, h⟩ := zar h
  rcases zaj h with ⟨h3, h⟩ | ⟨h3, h⟩
  ·have h := zaf h
   subst h
   have t_ := tT h1 <| tO h2 <| tT h3 <| tN
   exact ⟨t_.ev, (zdy to l n n2 n3 l2 r r2 (.inl ())).2, .k0 t_.pf (by kernel_rfl), .same (by kernel_rfl)⟩
  ·have h := zaf h
   subst h
   have t_ := tT h1 <| tO h2 <| tF h3 <| tN
   exact ⟨t_.ev, zfd to l n n2 n3 l2 r r2 (iadd .i64 n4 1), .k0 t_.pf (by kernel_rfl), .same (by kernel_rfl)⟩
 ·have h := zaf h
  subst h
  have t_ := tF h1 <| tN
  exact ⟨t_.ev, ⟨[(13, (.av (.one (.pv (.bool false))))), (1, (.av (.one (.pv (.int .i64 to))))), (10, (.av (.one (.pv (.ints .i64 l false))))), (11, (.av (.one (.pv (.int .i64 n))))), (12, (.av (.one (.pv (.int .i64 n4))))), (13, (.av (.one (.pv (.bool (decide ((n4 : Int) < n)))))))], [(0, [(.pv (.int .i64 n2)), (.pv (.int .u64 n3)), (.own 0 0 ((List.map zab.pv r2)).length false), (.pv (.ints .i64 l2 false)), (.pv (.recs 2 (List.map zac.pv r) false))])], [(0, (.live (.recs 4 (List.map zab.pv r2))))]⟩, .k0 t_.pf (by kernel_rfl), ⟨trivial, ⟨⟨rfl, ⟨.eq rfl, .eq rfl, .eq rfl, .eq rfl, .eq rfl, trivial⟩⟩, trivial⟩, ⟨⟨rfl, .eq rfl⟩, trivial⟩⟩⟩
theorem zge (to : Int) (l : List Int) (n n2 n3 : Int) (l2 : List Int) (r : List zac) (r2 : List zab) (s_ : Int) (r_ : (Unit) ⊕ (Unit)) (h : runL (zcj to l n n2 n3 l2 r r2) s_ = some r_) : zbK Tryz.prog (lEnv Tryz.prog cfg 37 1).nt 1 (.loop (zbe Tryz.prog 37 0)) (zfd to l n n2 n3 l2 r r2 s_) (zdy to l n n2 n3 l2 r r2 r_).1 (zdy to l n n2 n3 l2 r r2 r_).2 :=
 zbA h (zkV to l n n2 n3 l2 r r2) (by intro r_; rcases r_ with _ | _ <;> simp [zdy])
noncomputable def zeH (to n n2 : Int) (l : List Int) (r : List zac) (r2 : List zab) : Option (Bool) :=
 (runL (zcj to l ((l).length : Int) n n2 l r r2) 0).bind fun z_ => match z_ with
 | .inl _ =>
  some true
 | .inr _ =>
  some false
theorem zeB (to n n2 : Int) (l : List Int) (r : List zac) (r2 : List zab) (r_ : Bool) (h : zeH to n n2 l r r2 = some r_) : Runs Tryz.prog 37 [(.one (.ref 0 0)), (.one (.pv (.int .i64 to)))] [[(.pv (.int .i64 n)), (.pv (.int .u64 n2)), (.own 0 0 ((List.map zab.pv r2)).length false), (.pv (.ints .i64 l false)), (.pv (.recs 2 (List.map zac.pv r) false))]] [(.recs 4 (List.map zab.pv r2))] (zmp to n n2 l r r2 r_) := by
 unfold zeH at h
 obtain ⟨z_, h1, h⟩ := zae h
 rcases z_ with _ | _
 ·have h := zaf h
  subst h
  have t_ := tL (zge to l ((l).length : Int) n n2 l r r2 _ _ h1) <| tN
  exact zag (C := cfg) (sc := t_.ev) (.k0 t_.pf (by kernel_rfl))
 ·have h := zaf h
  subst h
  have t_ := tL (zge to l ((l).length : Int) n n2 l r r2 _ _ h1) <| tN
  exact zag (C := cfg) (sc := t_.ev) (.k0 t_.pf (by kernel_rfl))
def zdA (to n n2 : Int) (l : List Int) (r : List zac) (n3 n4 n5 : Int) (t : zah) (r2 : List zab) : Int × List Int → St
 | (n6, l2) => ⟨[(0, (.av (.one (.ref 0 0)))), (1, (.av (.one (.pv (.int .i64 to))))), (6, (.av (.one (.ref 1 0)))), (8, (.av (.one (.ref 2 0)))), (10, (.av (.one (.own 1 0 (l2).length false)))), (11, (.av (.one (.pv (.int .i64 n6)))))], [(0, [(.pv (.int .i64 n)), (.pv (.int .u64 n2)), (.own 0 0 ((List.map zab.pv r2)).length false), (.pv (.ints .i64 l false)), (.pv (.recs 2 (List.map zac.pv r) false))]), (1, [(.pv (.int .u64 0)), (.pv (.int .i64 0)), (.pv (.int .i64 0)), (.pv (zah.pv zah.nil))]), (2, [(.pv (.int .u64 n3)), (.pv (.int .i64 n4)), (.pv (.int .i64 n5)), (.pv (zah.pv t))])], [(0, (.live (.recs 4 (List.map zab.pv r2)))), (1, (.live (.ints .i64 l2)))]⟩
def zem (to n n2 : Int) (l : List Int) (r : List zac) (n3 n4 n5 : Int) (t : zah) (r2 : List zab) : List Int → Ex × St
 | r1 => ((.exit 0), ⟨[(0, (.av (.one (.ref 0 0)))), (6, (.av (.one (.ref 1 0)))), (8, (.av (.one (.ref 2 0)))), (10, (.av (.one (.own 1 0 (r1).length false))))], [(0, [(.pv (.int .i64 n)), (.pv (.int .u64 n2)), (.own 0 0 ((List.map zab.pv r2)).length false), (.pv (.ints .i64 l false)), (.pv (.recs 2 (List.map zac.pv r) false))]), (1, [(.pv (.int .u64 0)), (.pv (.int .i64 0)), (.pv (.int .i64 0)), (.pv (zah.pv zah.nil))]), (2, [(.pv (.int .u64 n3)), (.pv (.int .i64 n4)), (.pv (.int .i64 n5)), (.pv (zah.pv t))])], [(0, (.live (.recs 4 (List.map zab.pv r2)))), (1, (.live (.ints .i64 r1)))]⟩)
noncomputable def za3 (to n n2 : Int) (l : List Int) (r : List zac) (n3 n4 n5 : Int) (t : zah) (r2 : List zab) : Int × List Int → Option ((Int × List Int) ⊕ (List Int))
 | (n6, l2) =>
 bif (decide ((n6 : Int) < 12)) then
  bif (decide ((n6 : Int) = to)) then
   bif fits ((l2 ++ [n6])).length then
   some (.inl ((iadd .i64 n6 1), (l2 ++ [n6])))
   else none
  else
   (zeH n6 n n2 l r r2).bind fun b =>
   bif b then
    bif fits ((l2 ++ [n6])).length then
    some (.inl ((iadd .i64 n6 1), (l2 ++ [n6])))
    else none
   else
    some (.inl ((iadd .i64 n6 1), l2))
 else
  some (.inr l2)
theorem zkX (to n n2 : Int) (l : List Int) (r : List zac) (n3 n4 n5 : Int) (t : zah) (r2 : List zab) (s_ : Int × List Int) (z_ : (Int × List Int) ⊕ (List Int)) (h : za3 to n n2 l r n3 n4 n5 t r2 s_ = some z_) : zbQ Tryz.prog cfg 33 1 (zbe Tryz.prog 33 0) (zdA to n n2 l r n3 n4 n5 t r2) (zem to n n2 l r n3 n4 n5 t r2) s_ z_ := by
 rcases s_ with ⟨n6, l2⟩
 rcases zaj h with ⟨h1, h⟩ | ⟨h1, h⟩
 ·rcases zaj h with ⟨h2, h⟩ | ⟨h2, h⟩
  ·obtain ⟨h3, h⟩ := zar h
   have h := zaf h
   subst h
   have t_ := tT h1 <| tT h2 <| tT (rfl : true = true) <| tO (show (Nat.beq (l2).length (l2).length) = true from Nat.beq_refl _) <| tO h3 <| tN
   exact ⟨t_.ev, zdA to n n2 l r n3 n4 n5 t r2 ((iadd .i64 n6 1), (l2 ++ [n6])), .k0 t_.pf (by kernel_rfl), .same (by kernel_rfl)⟩
  ·obtain ⟨b, h3, h⟩ := zae h
   rcases zaj h with ⟨h4, h⟩ | ⟨h4, h⟩
   ·obtain ⟨h5, h⟩ := zar h
    have h := zaf h
    subst h
    have t_ := tT h1 <| tF h2 <| tR (zeB n6 n n2 l r r2 _ h3) <| tT h4 <| tO (show (Nat.beq (l2).length (l2).length) = true from Nat.beq_refl _) <| tO h5 <| tN
    exact ⟨t_.ev, zdA to n n2 l r n3 n4 n5 t r2 ((iadd .i64 n6 1), (l2 ++ [n6])), .k0 t_.pf (by kernel_rfl), .same (by kernel_rfl)⟩
   ·have h := zaf h
    subst h
    have t_ := tT h1 <| tF h2 <| tR (zeB n6 n n2 l r r2 _ h3) <| tF h4 <| tN
    exact ⟨t_.ev, zdA to n n2 l r n3 n4 n5 t r2 ((iadd .i64 n6 1), l2), .k0 t_.pf (by kernel_rfl), .same (by kernel_rfl)⟩
 ·have h := zaf h
  subst h
  have t_ := tF h1 <| tN
  exact ⟨t_.ev, ⟨[(59, (.av (.one (.pv (.bool false))))), (0, (.av (.one (.ref 0 0)))), (1, (.av (.one (.pv (.int .i64 to))))), (6, (.av (.one (.ref 1 0)))), (8, (.av (.one (.ref 2 0)))), (10, (.av (.one (.own 1 0 (l2).length false)))), (11, (.av (.one (.pv (.int .i64 n6))))), (59, (.av (.one (.pv (.bool (decide ((n6 : Int) < 12)))))))], [(0, [(.pv (.int .i64 n)), (.pv (.int .u64 n2)), (.own 0 0 ((List.map zab.pv r2)).length false), (.pv (.ints .i64 l false)), (.pv (.recs 2 (List.map zac.pv r) false))]), (1, [(.pv (.int .u64 0)), (.pv (.int .i64 0)), (.pv (.int .i64 0)), (.pv (zah.pv zah.nil))]), (2, [(.pv (.int .u64 n3)), (.pv (.int .i64 n4)), (.pv (.int .i64 n5)), (.pv (zah.pv t))])], [(0, (.live (.recs 4 (List.map zab.pv r2)))), (1, (.live (.ints .i64 l2)))]⟩, .k0 t_.pf (by kernel_rfl), ⟨⟨⟨_, rfl, .eq rfl⟩, ⟨_, rfl, .eq rfl⟩, ⟨_, rfl, .eq rfl⟩, ⟨_, rfl, .eq rfl⟩, trivial⟩, ⟨⟨rfl, ⟨.eq rfl, .eq rfl, .eq rfl, .eq rfl, .eq rfl, trivial⟩⟩, ⟨rfl, ⟨.eq rfl, .eq rfl, .eq rfl, .eq rfl, trivial⟩⟩, ⟨rfl, ⟨.eq rfl, .eq rfl, .eq rfl, .eq rfl, trivial⟩⟩, trivial⟩, ⟨⟨rfl, .eq rfl⟩, ⟨rfl, .eq rfl⟩, trivial⟩⟩⟩
theorem zgg (to n n2 : Int) (l : List Int) (r : List zac) (n3 n4 n5 : Int) (t : zah) (r2 : List zab) (s_ : Int × List Int) (r_ : List Int) (h : runL (za3 to n n2 l r n3 n4 n5 t r2) s_ = some r_) : zbK Tryz.prog (lEnv Tryz.prog cfg 33 1).nt 1 (.loop (zbe Tryz.prog 33 0)) (zdA to n n2 l r n3 n4 n5 t r2 s_) (zem to n n2 l r n3 n4 n5 t r2 r_).1 (zem to n n2 l r n3 n4 n5 t r2 r_).2 :=
 zbA h (zkX to n n2 l r n3 n4 n5 t r2) (by intro r_; rcases r_ with r1 <;> simp [zem])
noncomputable def zdF (to : Int) (share : zah) (n n2 : Int) (r : List zab) (l : List Int) (r2 : List zac) : Option (Int × Int × Int × zah × Int × Int × List zab × List Int) :=
 (ziD).bind fun t =>
 (zff (iadd .u64 n2 1) n to share).bind fun b =>
 bif b then
  (zg4 to n n2 r l r2).bind fun n3 =>
  bif (decide ((0 : Int) ≤ n3)) then
   some (0, 0, 0, t, 14, n2, r, l)
  else
   bif Nat.beq ((List.map zab.pv r)).length 0 then
    (zeH to n (iadd .u64 n2 1) l r2 [(zab.mk (iadd .u64 n2 1) n to share)]).bind fun b2 =>
    bif b2 then
     some ((iadd .u64 n2 1), n, to, share, 0, (iadd .u64 n2 1), (List.take ((List.map zab.pv [(zab.mk (iadd .u64 n2 1) n to share)])).length [(zab.mk (iadd .u64 n2 1) n to share)]), l)
    else
     (runL (za3 to n (iadd .u64 n2 1) l r2 (iadd .u64 n2 1) n to share [(zab.mk (iadd .u64 n2 1) n to share)]) (0, [])).bind fun l_ =>
     some ((iadd .u64 n2 1), n, to, share, 0, (iadd .u64 n2 1), (List.take ((List.map zab.pv [(zab.mk (iadd .u64 n2 1) n to share)])).length [(zab.mk (iadd .u64 n2 1) n to share)]), l_)
   else
    bif fits ((([] : List (List PV)) ++ (List.map zab.pv r))).length then
    bif fits (((([] : List (List PV)) ++ (List.map zab.pv r)) ++ ([[(.int .u64 (iadd .u64 n2 1)), (.int .i64 n), (.int .i64 to), (zah.pv share)]] : List (List PV)))).length then
    (zeH to n (iadd .u64 n2 1) l r2 (([] ++ r) ++ [(zab.mk (iadd .u64 n2 1) n to share)])).bind fun b2 =>
    bif b2 then
     some ((iadd .u64 n2 1), n, to, share, 0, (iadd .u64 n2 1), (List.take ((List.map zab.pv (([] ++ r) ++ [(zab.mk (iadd .u64 n2 1) n to share)]))).length (([] ++ r) ++ [(zab.mk (iadd .u64 n2 1) n to share)])), l)
    else
     (runL (za3 to n (iadd .u64 n2 1) l r2 (iadd .u64 n2 1) n to share (([] ++ r) ++ [(zab.mk (iadd .u64 n2 1) n to share)])) (0, [])).bind fun l_ =>
     some ((iadd .u64 n2 1), n, to, share, 0, (iadd .u64 n2 1), (List.take ((List.map zab.pv (([] ++ r) ++ [(zab.mk (iadd .u64 n2 1) n to share)]))).length (([] ++ r) ++ [(zab.mk (iadd .u64 n2 1) n to share)])), l_)
    else none
    else none
 else
  some (0, 0, 0, t, 1, n2, r, l)
theorem zhJ (to : Int) (share : zah) (n n2 : Int) (r : List zab) (l : List Int) (r2 : List zac) (r_ : Int × Int × Int × zah × Int × Int × List zab × List Int) (h : zdF to share n n2 r l r2 = some r_) : Runs Tryz.prog 33 [(.one (.ref 0 0)), (.one (.pv (.int .i64 to))), (.one (.pv (zah.pv share)))] [[(.pv (.int .i64 n)), (.pv (.int .u64 n2)), (.pv (.recs 4 (List.map zab.pv r) false)), (.pv (.ints .i64 l false)), (.pv (.recs 2 (List.map zac.pv r2) false))]] [] (zmr to share n n2 r l r2 r_) := by
 unfold zdF at h
 obtain ⟨t, h1, h⟩ := zae h
 obtain ⟨b, h2, h⟩ := zae h
 have q_2 := (zcw (iadd .u64 n2 1) n to share _ h2)
 rcases zaj h with ⟨h3, h⟩ | ⟨h3, h⟩
 ·obtain ⟨n3, h4, h⟩ := zae h
  rcases zaj h with ⟨h5, h⟩ | ⟨h5, h⟩
  ·have h := zaf h
   subst h
   have t_ := tR (zdO _ h1) <| tR q_2 <| tF (zaz h3) <| tR (zcq to n n2 r l r2 _ h4) <| tT h5 <| tN
   exact zag (C := cfg) (sc := t_.ev) (.k1 t_.pf (by kernel_rfl) (by kernel_rfl))
  ·rcases zaj h with ⟨h6, h⟩ | ⟨h6, h⟩
   ·obtain ⟨b2, h7, h⟩ := zae h
    have q_7 := (Runs.coe (as' := [(.one (.ref 0 0)), (.one (.pv (.int .i64 to)))]) (objs' := [[(.pv (.int .i64 n)), (.pv (.int .u64 (iadd .u64 n2 1))), (.own 0 0 1 false), (.pv (.ints .i64 l false)), (.pv (.recs 2 (List.map zac.pv r2) false))]]) (rows' := [(.recs 4 [[(.int .u64 (iadd .u64 n2 1)), (.int .i64 n), (.int .i64 to), (zah.pv share)]])]) (zeB to n (iadd .u64 n2 1) l r2 [(zab.mk (iadd .u64 n2 1) n to share)] _ h7) ⟨.eq rfl, .eq rfl, trivial⟩ ⟨⟨.eq rfl, .eq rfl, .own (by first | rfl | (simp only [List.take_length]; done) | (simp; done) | (simp only [List.map_take, List.map_drop, List.map_append, List.take_length, List.nil_append]; done) | (simp only [List.length_map, List.take_length, List.length_append, List.drop_zero, List.map_append, List.map_take, List.map_drop, List.map_replicate, List.map_cons, List.map_nil, List.append_nil, List.nil_append]; done)), .eq rfl, .eq rfl, trivial⟩, trivial⟩ ⟨.recs (.cons (.cons (.eq rfl) (.cons (.eq rfl) (.cons (.eq rfl) (.cons (.eq rfl) (.nil))))) (.nil)), trivial⟩)
    rcases zaj h with ⟨h8, h⟩ | ⟨h8, h⟩
    ·have h := zaf h
     subst h
     have t_ := tR (zdO _ h1) <| tR q_2 <| tF (zaz h3) <| tR (zcq to n n2 r l r2 _ h4) <| tF h5 <| tT h6 <| tT h6 <| tT h6 <| tO (rfl : true = true) <| tO (rfl : true = true) <| tR q_7 <| tF (zaz h8) <| tN
     exact Runs.out (Runs.shut (zag (C := cfg) (res := ([(.agg [(.pv (.int .u64 (iadd .u64 n2 1))), (.pv (.int .i64 n)), (.pv (.int .i64 to)), (.pv (zah.pv share))]), (.one (.pv (.int .i64 0)))], [[(.pv (.int .i64 n)), (.pv (.int .u64 (iadd .u64 n2 1))), (.own 0 0 ((List.map zab.pv [(zab.mk (iadd .u64 n2 1) n to share)])).length false), (.pv (.ints .i64 l false)), (.pv (.recs 2 (List.map zac.pv r2) false))]], [(.recs 4 (List.map zab.pv [(zab.mk (iadd .u64 n2 1) n to share)]))])) (sc := t_.ev) (.k1 t_.pf (by kernel_rfl) (by kernel_rfl))) (res' := ([(.agg [(.pv (.int .u64 (iadd .u64 n2 1))), (.pv (.int .i64 n)), (.pv (.int .i64 to)), (.pv (zah.pv share))]), (.one (.pv (.int .i64 0)))], [[(.pv (.int .i64 n)), (.pv (.int .u64 (iadd .u64 n2 1))), (.pv (.recs 4 (List.take ((List.map zab.pv [(zab.mk (iadd .u64 n2 1) n to share)])).length (List.map zab.pv [(zab.mk (iadd .u64 n2 1) n to share)])) false)), (.pv (.ints .i64 l false)), (.pv (.recs 2 (List.map zac.pv r2) false))]], [])) [0] (by kernel_rfl)) ⟨⟨.eq rfl, .eq rfl, .eq rfl, .eq rfl, trivial⟩, .eq rfl, trivial⟩ ⟨⟨.eq rfl, .eq rfl, .pv (.recsT (.eq (by first | rfl | (simp only [List.take_length]; done) | (simp; done) | (simp only [List.map_take, List.map_drop, List.map_append, List.take_length, List.nil_append]; done) | (simp only [List.length_map, List.take_length, List.length_append, List.drop_zero, List.map_append, List.map_take, List.map_drop, List.map_replicate, List.map_cons, List.map_nil, List.append_nil, List.nil_append]; done)))), .eq rfl, .eq rfl, trivial⟩, trivial⟩ trivial rfl
    ·obtain ⟨l_, h9, h⟩ := zae h
     have h := zaf h
     subst h
     have t_ := tR (zdO _ h1) <| tR q_2 <| tF (zaz h3) <| tR (zcq to n n2 r l r2 _ h4) <| tF h5 <| tT h6 <| tT h6 <| tT h6 <| tO (rfl : true = true) <| tO (rfl : true = true) <| tR q_7 <| tT (zbc h8) <| tL (zbK.coe (s0 := ⟨[(0, (.av (.one (.ref 0 0)))), (1, (.av (.one (.pv (.int .i64 to))))), (6, (.av (.one (.ref 1 0)))), (8, (.av (.one (.ref 2 0)))), (10, (.av (.one (.own 1 0 0 false)))), (11, (.av (.one (.pv (.int .i64 0)))))], [(0, [(.pv (.int .i64 n)), (.pv (.int .u64 (iadd .u64 n2 1))), (.own 0 0 ((List.map zab.pv [(zab.mk (iadd .u64 n2 1) n to share)])).length false), (.pv (.ints .i64 l false)), (.pv (.recs 2 (List.map zac.pv r2) false))]), (1, [(.pv (.int .u64 0)), (.pv (.int .i64 0)), (.pv (.int .i64 0)), (.pv .nilp)]), (2, [(.pv (.int .u64 (iadd .u64 n2 1))), (.pv (.int .i64 n)), (.pv (.int .i64 to)), (.pv (zah.pv share))])], [(0, (.live (.recs 4 (List.map zab.pv [(zab.mk (iadd .u64 n2 1) n to share)])))), (1, (.live (.ints .i64 [])))]⟩) (zgg to n (iadd .u64 n2 1) l r2 (iadd .u64 n2 1) n to share [(zab.mk (iadd .u64 n2 1) n to share)] _ _ h9) ⟨⟨⟨_, rfl, .eq rfl⟩, ⟨_, rfl, .eq rfl⟩, ⟨_, rfl, .eq rfl⟩, ⟨_, rfl, .eq rfl⟩, ⟨_, rfl, .own (by first | rfl | (simp only [List.take_length]; done) | (simp; done) | (simp only [List.map_take, List.map_drop, List.map_append, List.take_length, List.nil_append]; done) | (simp only [List.length_map, List.take_length, List.length_append, List.drop_zero, List.map_append, List.map_take, List.map_drop, List.map_replicate, List.map_cons, List.map_nil, List.append_nil, List.nil_append]; done))⟩, ⟨_, rfl, .eq rfl⟩, trivial⟩, ⟨⟨rfl, ⟨.eq rfl, .eq rfl, .eq rfl, .eq rfl, .eq rfl, trivial⟩⟩, ⟨rfl, ⟨.eq rfl, .eq rfl, .eq rfl, .eq rfl, trivial⟩⟩, ⟨rfl, ⟨.eq rfl, .eq rfl, .eq rfl, .eq rfl, trivial⟩⟩, trivial⟩, ⟨⟨rfl, .eq rfl⟩, ⟨rfl, .eq rfl⟩, trivial⟩⟩) <| tN
     exact Runs.out (Runs.shut (zag (C := cfg) (res := ([(.agg [(.pv (.int .u64 (iadd .u64 n2 1))), (.pv (.int .i64 n)), (.pv (.int .i64 to)), (.pv (zah.pv share))]), (.one (.pv (.int .i64 0)))], [[(.pv (.int .i64 n)), (.pv (.int .u64 (iadd .u64 n2 1))), (.own 0 0 ((List.map zab.pv [(zab.mk (iadd .u64 n2 1) n to share)])).length false), (.own 1 0 (l_).length false), (.pv (.recs 2 (List.map zac.pv r2) false))]], [(.recs 4 (List.map zab.pv [(zab.mk (iadd .u64 n2 1) n to share)])), (.ints .i64 l_)])) (sc := t_.ev) (.k1 t_.pf (by kernel_rfl) (by kernel_rfl))) (res' := ([(.agg [(.pv (.int .u64 (iadd .u64 n2 1))), (.pv (.int .i64 n)), (.pv (.int .i64 to)), (.pv (zah.pv share))]), (.one (.pv (.int .i64 0)))], [[(.pv (.int .i64 n)), (.pv (.int .u64 (iadd .u64 n2 1))), (.pv (.recs 4 (List.take ((List.map zab.pv [(zab.mk (iadd .u64 n2 1) n to share)])).length (List.map zab.pv [(zab.mk (iadd .u64 n2 1) n to share)])) false)), (.pv (.ints .i64 (List.take (l_).length l_) false)), (.pv (.recs 2 (List.map zac.pv r2) false))]], [])) [0, 1] (by kernel_rfl)) ⟨⟨.eq rfl, .eq rfl, .eq rfl, .eq rfl, trivial⟩, .eq rfl, trivial⟩ ⟨⟨.eq rfl, .eq rfl, .pv (.recsT (.eq (by first | rfl | (simp only [List.take_length]; done) | (simp; done) | (simp only [List.map_take, List.map_drop, List.map_append, List.take_length, List.nil_append]; done) | (simp only [List.length_map, List.take_length, List.length_append, List.drop_zero, List.map_append, List.map_take, List.map_drop, List.map_replicate, List.map_cons, List.map_nil, List.append_nil, List.nil_append]; done)))), .pv (.ints (by first | rfl | (simp only [List.take_length]; done) | (simp; done) | (simp only [List.map_take, List.map_drop, List.map_append, List.take_length, List.nil_append]; done) | (simp only [List.length_map, List.take_length, List.length_append, List.drop_zero, List.map_append, List.map_take, List.map_drop, List.map_replicate, List.map_cons, List.map_nil, List.append_nil, List.nil_append]; done))), .eq rfl, trivial⟩, trivial⟩ trivial rfl
   ·obtain ⟨h7, h⟩ := zar h
    obtain ⟨h8, h⟩ := zar h
    obtain ⟨b2, h9, h⟩ := zae h
    have q_9 := (Runs.coe (as' := [(.one (.ref 0 0)), (.one (.pv (.int .i64 to)))]) (objs' := [[(.pv (.int .i64 n)), (.pv (.int .u64 (iadd .u64 n2 1))), (.own 0 0 (((([] : List (List PV)) ++ (List.map zab.pv r)) ++ ([[(.int .u64 (iadd .u64 n2 1)), (.int .i64 n), (.int .i64 to), (zah.pv share)]] : List (List PV)))).length false), (.pv (.ints .i64 l false)), (.pv (.recs 2 (List.map zac.pv r2) false))]]) (rows' := [(.recs 4 ((([] : List (List PV)) ++ (List.map zab.pv r)) ++ ([[(.int .u64 (iadd .u64 n2 1)), (.int .i64 n), (.int .i64 to), (zah.pv share)]] : List (List PV))))]) (zeB to n (iadd .u64 n2 1) l r2 (([] ++ r) ++ [(zab.mk (iadd .u64 n2 1) n to share)]) _ h9) ⟨.eq rfl, .eq rfl, trivial⟩ ⟨⟨.eq rfl, .eq rfl, .own (by first | rfl | (simp only [List.take_length]; done) | (simp; done) | (simp only [List.map_take, List.map_drop, List.map_append, List.take_length, List.nil_append]; done) | (simp only [List.length_map, List.take_length, List.length_append, List.drop_zero, List.map_append, List.map_take, List.map_drop, List.map_replicate, List.map_cons, List.map_nil, List.append_nil, List.nil_append]; done)), .eq rfl, .eq rfl, trivial⟩, trivial⟩ ⟨.recs (.app (.app (.nil) (.eq rfl)) (.cons (.cons (.eq rfl) (.cons (.eq rfl) (.cons (.eq rfl) (.cons (.eq rfl) (.nil))))) (.nil))), trivial⟩)
    have p9_ := fun {sc_ : List Ev} {Q_ : Prop} (t_ : Tell sc_ Q_) => tR (zdO _ h1) <| tR q_2 <| tF (zaz h3) <| tR (zcq to n n2 r l r2 _ h4) <| tF h5 <| tF (zbc h6) <| tO h7 <| tF (zbc h6) <| tO h7 <| tF (zbc h6) <| tO h7 <| tO (show (Nat.beq ((([] : List (List PV)) ++ (List.map zab.pv r))).length ((([] : List (List PV)) ++ (List.map zab.pv r))).length) = true from Nat.beq_refl _) <| tO h8 <| tR q_9 <| t_
    rcases zaj h with ⟨h10, h⟩ | ⟨h10, h⟩
    ·have h := zaf h
     subst h
     have t_ := p9_ <| tF (zaz h10) <| tN
     exact Runs.out (Runs.shut (zag (C := cfg) (res := ([(.agg [(.pv (.int .u64 (iadd .u64 n2 1))), (.pv (.int .i64 n)), (.pv (.int .i64 to)), (.pv (zah.pv share))]), (.one (.pv (.int .i64 0)))], [[(.pv (.int .i64 n)), (.pv (.int .u64 (iadd .u64 n2 1))), (.own 0 0 ((List.map zab.pv (([] ++ r) ++ [(zab.mk (iadd .u64 n2 1) n to share)]))).length false), (.pv (.ints .i64 l false)), (.pv (.recs 2 (List.map zac.pv r2) false))]], [(.recs 4 (List.map zab.pv (([] ++ r) ++ [(zab.mk (iadd .u64 n2 1) n to share)])))])) (sc := t_.ev) (.k1 t_.pf (by kernel_rfl) (by kernel_rfl))) (res' := ([(.agg [(.pv (.int .u64 (iadd .u64 n2 1))), (.pv (.int .i64 n)), (.pv (.int .i64 to)), (.pv (zah.pv share))]), (.one (.pv (.int .i64 0)))], [[(.pv (.int .i64 n)), (.pv (.int .u64 (iadd .u64 n2 1))), (.pv (.recs 4 (List.take ((List.map zab.pv (([] ++ r) ++ [(zab.mk (iadd .u64 n2 1) n to share)]))).length (List.map zab.pv (([] ++ r) ++ [(zab.mk (iadd .u64 n2 1) n to share)]))) false)), (.pv (.ints .i64 l false)), (.pv (.recs 2 (List.map zac.pv r2) false))]], [])) [0] (by kernel_rfl)) ⟨⟨.eq rfl, .eq rfl, .eq rfl, .eq rfl, trivial⟩, .eq rfl, trivial⟩ ⟨⟨.eq rfl, .eq rfl, .pv (.recsT (.eq (by first | rfl | (simp only [List.take_length]; done) | (simp; done) | (simp only [List.map_take, List.map_drop, List.map_append, List.take_length, List.nil_append]; done) | (simp only [List.length_map, List.take_length, List.length_append, List.drop_zero, List.map_append, List.map_take, List.map_drop, List.map_replicate, List.map_cons, List.map_nil, List.append_nil, List.nil_append]; done)))), .eq rfl, .eq rfl, trivial⟩, trivial⟩ trivial rfl
    ·obtain ⟨l_, h11, h⟩ := zae h
     have h := zaf h
     subst h
     have t_ := p9_ <| tT (zbc h10) <| tL (zbK.coe (s0 := ⟨[(0, (.av (.one (.ref 0 0)))), (1, (.av (.one (.pv (.int .i64 to))))), (6, (.av (.one (.ref 1 0)))), (8, (.av (.one (.ref 2 0)))), (10, (.av (.one (.own 1 0 0 false)))), (11, (.av (.one (.pv (.int .i64 0)))))], [(0, [(.pv (.int .i64 n)), (.pv (.int .u64 (iadd .u64 n2 1))), (.own 0 0 ((List.map zab.pv (([] ++ r) ++ [(zab.mk (iadd .u64 n2 1) n to share)]))).length false), (.pv (.ints .i64 l false)), (.pv (.recs 2 (List.map zac.pv r2) false))]), (1, [(.pv (.int .u64 0)), (.pv (.int .i64 0)), (.pv (.int .i64 0)), (.pv .nilp)]), (2, [(.pv (.int .u64 (iadd .u64 n2 1))), (.pv (.int .i64 n)), (.pv (.int .i64 to)), (.pv (zah.pv share))])], [(0, (.live (.recs 4 (List.map zab.pv (([] ++ r) ++ [(zab.mk (iadd .u64 n2 1) n to share)]))))), (1, (.live (.ints .i64 [])))]⟩) (zgg to n (iadd .u64 n2 1) l r2 (iadd .u64 n2 1) n to share (([] ++ r) ++ [(zab.mk (iadd .u64 n2 1) n to share)]) _ _ h11) ⟨⟨⟨_, rfl, .eq rfl⟩, ⟨_, rfl, .eq rfl⟩, ⟨_, rfl, .eq rfl⟩, ⟨_, rfl, .eq rfl⟩, ⟨_, rfl, .own (by first | rfl | (simp only [List.take_length]; done) | (simp; done) | (simp only [List.map_take, List.map_drop, List.map_append, List.take_length, List.nil_append]; done) | (simp only [List.length_map, List.take_length, List.length_append, List.drop_zero, List.map_append, List.map_take, List.map_drop, List.map_replicate, List.map_cons, List.map_nil, List.append_nil, List.nil_append]; done))⟩, ⟨_, rfl, .eq rfl⟩, trivial⟩, ⟨⟨rfl, ⟨.eq rfl, .eq rfl, .eq rfl, .eq rfl, .eq rfl, trivial⟩⟩, ⟨rfl, ⟨.eq rfl, .eq rfl, .eq rfl, .eq rfl, trivial⟩⟩, ⟨rfl, ⟨.eq rfl, .eq rfl, .eq rfl, .eq rfl, trivial⟩⟩, trivial⟩, ⟨⟨rfl, .eq rfl⟩, ⟨rfl, .eq rfl⟩, trivial⟩⟩) <| tN
     exact Runs.out (Runs.shut (zag (C := cfg) (res := ([(.agg [(.pv (.int .u64 (iadd .u64 n2 1))), (.pv (.int .i64 n)), (.pv (.int .i64 to)), (.pv (zah.pv share))]), (.one (.pv (.int .i64 0)))], [[(.pv (.int .i64 n)), (.pv (.int .u64 (iadd .u64 n2 1))), (.own 0 0 ((List.map zab.pv (([] ++ r) ++ [(zab.mk (iadd .u64 n2 1) n to share)]))).length false), (.own 1 0 (l_).length false), (.pv (.recs 2 (List.map zac.pv r2) false))]], [(.recs 4 (List.map zab.pv (([] ++ r) ++ [(zab.mk (iadd .u64 n2 1) n to share)]))), (.ints .i64 l_)])) (sc := t_.ev) (.k1 t_.pf (by kernel_rfl) (by kernel_rfl))) (res' := ([(.agg [(.pv (.int .u64 (iadd .u64 n2 1))), (.pv (.int .i64 n)), (.pv (.int .i64 to)), (.pv (zah.pv share))]), (.one (.pv (.int .i64 0)))], [[(.pv (.int .i64 n)), (.pv (.int .u64 (iadd .u64 n2 1))), (.pv (.recs 4 (List.take ((List.map zab.pv (([] ++ r) ++ [(zab.mk (iadd .u64 n2 1) n to share)]))).length (List.map zab.pv (([] ++ r) ++ [(zab.mk (iadd .u64 n2 1) n to share)]))) false)), (.pv (.ints .i64 (List.take (l_).length l_) false)), (.pv (.recs 2 (List.map zac.pv r2) false))]], [])) [0, 1] (by kernel_rfl)) ⟨⟨.eq rfl, .eq rfl, .eq rfl, .eq rfl, trivial⟩, .eq rfl, trivial⟩ ⟨⟨.eq rfl, .eq rfl, .pv (.recsT (.eq (by first | rfl | (simp only [List.take_length]; done) | (simp; done) | (simp only [List.map_take, List.map_drop, List.map_append, List.take_length, List.nil_append]; done) | (simp only [List.length_map, List.take_length, List.length_append, List.drop_zero, List.map_append, List.map_take, List.map_drop, List.map_replicate, List.map_cons, List.map_nil, List.append_nil, List.nil_append]; done)))), .pv (.ints (by first | rfl | (simp only [List.take_length]; done) | (simp; done) | (simp only [List.map_take, List.map_drop, List.map_append, List.take_length, List.nil_append]; done) | (simp only [List.length_map, List.take_length, List.length_append, List.drop_zero, List.map_append, List.map_take, List.map_drop, List.map_replicate, List.map_cons, List.map_nil, List.append_nil, List.nil_append]; done))), .eq rfl, trivial⟩, trivial⟩ trivial rfl
 ·have h := zaf h
  subst h
  have t_ := tR (zdO _ h1) <| tR q_2 <| tT (zbc h3) <| tN
  exact zag (C := cfg) (sc := t_.ev) (.k1 t_.pf (by kernel_rfl) (by kernel_rfl))
def zok (a a2 a3 a4 : Int) (a5 : List Int) (n n2 : Int) (r : List zaa) (m : List (Int × Int)) (m2 : List ((Int × Int) × Int)) (n3 n4 : Int) (r2 : List zab) (l : List Int) (r3 : List zac) : Bool × Int × List zaa × List (Int × Int) × List ((Int × Int) × Int) × Int × List zab × List Int × List zac → Res
 | (r1, r4, r5, r6, r7, r8, r9, r10, r11) => ([(.one (.pv (.bool r1)))], [[(.pv (.int .i64 n)), (.pv (.int .u64 r4)), (.pv (.recs 5 (List.map zaa.pv r5) false)), (.mp 1), (.mp 2)], [(.maph (.int .i64) false (List.map M_int_int.pv r6) [])], [(.maph (.st [.i64, .u64]) false (List.map M_deed_Mark_int.pv r7) [])], [(.pv (.int .i64 n3)), (.pv (.int .u64 r8)), (.pv (.recs 4 (List.map zab.pv r9) false)), (.pv (.ints .i64 r10 false)), (.pv (.recs 2 (List.map zac.pv r11) false))]], [])
def zim (g g2 g3 : Int) (g4 : Bool) (g5 : zad) (n n2 : Int) (r : List zaa) (m : List (Int × Int)) (m2 : List ((Int × Int) × Int)) : Int × List ((Int × Int) × Int) → Res
 | (r1, r2) => ([(.one (.pv (.int .i64 r1)))], [[(.pv (.int .i64 n)), (.pv (.int .u64 n2)), (.pv (.recs 5 (List.map zaa.pv r) false)), (.mp 1), (.mp 2)], [(.maph (.int .i64) false (List.map M_int_int.pv m) [])], [(.maph (.st [.i64, .u64]) false (List.map M_deed_Mark_int.pv r2) [])]], [])
def zir (m m2 n n2 : Int) (r : List zaa) (m3 : List (Int × Int)) (m4 : List ((Int × Int) × Int)) : Bool → Res
 | r1 => ([(.one (.pv (.bool r1)))], [[(.pv (.int .i64 n)), (.pv (.int .u64 n2)), (.pv (.recs 5 (List.map zaa.pv r) false)), (.mp 1), (.mp 2)], [(.maph (.int .i64) false (List.map M_int_int.pv m3) [])], [(.maph (.st [.i64, .u64]) false (List.map M_deed_Mark_int.pv m4) [])]], [])
noncomputable def zcP (m m2 n n2 : Int) (r : List zaa) (m3 : List (Int × Int)) (m4 : List ((Int × Int) × Int)) : Option (Bool) :=
 match (mget (m, m2) m4) with
 | .some n3 =>
  some (decide ((0 : Int) < n3))
 | .none =>
  some false
theorem zcZ (m m2 n n2 : Int) (r : List zaa) (m3 : List (Int × Int)) (m4 : List ((Int × Int) × Int)) (r_ : Bool) (h : zcP m m2 n n2 r m3 m4 = some r_) : Runs Tryz.prog 21 [(.one (.ref 0 0)), (.agg [(.pv (.int .i64 m)), (.pv (.int .u64 m2))])] [[(.pv (.int .i64 n)), (.pv (.int .u64 n2)), (.pv (.recs 5 (List.map zaa.pv r) false)), (.mp 1), (.mp 2)], [(.maph (.int .i64) false (List.map M_int_int.pv m3) [])], [(.maph (.st [.i64, .u64]) false (List.map M_deed_Mark_int.pv m4) [])]] [] (zir m m2 n n2 r m3 m4 r_) := by
 unfold zcP at h
 cases h1 : (mget (m, m2) m4) with
 | some n3 =>
  simp only [h1] at h
  have h := zaf h
  subst h
  have t_ := tT (rfl : true = true) <| tT (show kget [(.int .i64 m), (.int .u64 m2)] (List.map M_deed_Mark_int.pv m4) = some [(.int .i64 n3)] from by first | (simp only [M_deed_Mark_int.set, M_int_int.set, M_deed_Mark_int.get, M_int_int.get, h1, Option.map_some, Option.map_none]; done) | (simp only [M_deed_Mark_int.set, M_int_int.set, M_deed_Mark_int.get, M_int_int.get, h1, Option.map_some, Option.map_none]; rfl) | (rw [← List.map_nil]; simp only [M_deed_Mark_int.set, M_int_int.set, M_deed_Mark_int.get, M_int_int.get, h1, Option.map_some, Option.map_none]; rfl)) <| tE (.el [(.int .i64 n3)]) <| tN
  exact zag (C := cfg) (sc := t_.ev) (.k1 t_.pf (by kernel_rfl) (by kernel_rfl))
 | none =>
  simp only [h1] at h
  have h := zaf h
  subst h
  have t_ := tT (rfl : true = true) <| tF (show kget [(.int .i64 m), (.int .u64 m2)] (List.map M_deed_Mark_int.pv m4) = none from by first | (simp only [M_deed_Mark_int.set, M_int_int.set, M_deed_Mark_int.get, M_int_int.get, h1, Option.map_some, Option.map_none]; done) | (simp only [M_deed_Mark_int.set, M_int_int.set, M_deed_Mark_int.get, M_int_int.get, h1, Option.map_some, Option.map_none]; rfl) | (rw [← List.map_nil]; simp only [M_deed_Mark_int.set, M_int_int.set, M_deed_Mark_int.get, M_int_int.get, h1, Option.map_some, Option.map_none]; rfl)) <| tN
  exact zag (C := cfg) (sc := t_.ev) (.k1 t_.pf (by kernel_rfl) (by kernel_rfl))
noncomputable def zbF (g g2 g3 : Int) (g4 : Bool) (g5 : zad) (n n2 : Int) (r : List zaa) (m : List (Int × Int)) (m2 : List ((Int × Int) × Int)) : Option (Int × List ((Int × Int) × Int)) :=
 (zbC g g2 g3 g4 g5).bind fun b =>
 bif b then
  bif (decide ((g3 : Int) = n)) then
   (zcP g2 g n n2 r m m2).bind fun b2 =>
   bif b2 then
    some (14, m2)
   else
    match (mget (g2, g) m2) with
    | .some n3 =>
     some (0, (mset (g2, g) (iadd .i64 n3 1) (mset (g2, g) n3 m2)))
    | .none =>
     some (0, (mset (g2, g) 1 (mset (g2, g) 0 m2)))
  else
   some (1, m2)
 else
  some (1, m2)
theorem zax (g g2 g3 : Int) (g4 : Bool) (g5 : zad) (n n2 : Int) (r : List zaa) (m : List (Int × Int)) (m2 : List ((Int × Int) × Int)) (r_ : Int × List ((Int × Int) × Int)) (h : zbF g g2 g3 g4 g5 n n2 r m m2 = some r_) : Runs Tryz.prog 19 [(.one (.ref 0 0)), (.agg [(.pv (.int .u64 g)), (.pv (.int .i64 g2)), (.pv (.int .i64 g3)), (.pv (.bool g4)), (.pv (zad.pv g5))])] [[(.pv (.int .i64 n)), (.pv (.int .u64 n2)), (.pv (.recs 5 (List.map zaa.pv r) false)), (.mp 1), (.mp 2)], [(.maph (.int .i64) false (List.map M_int_int.pv m) [])], [(.maph (.st [.i64, .u64]) false (List.map M_deed_Mark_int.pv m2) [])]] [] (zim g g2 g3 g4 g5 n n2 r m m2 r_) := by
 unfold zbF at h
 obtain ⟨b, h1, h⟩ := zae h
 rcases zaj h with ⟨h2, h⟩ | ⟨h2, h⟩
 ·rcases zaj h with ⟨h3, h⟩ | ⟨h3, h⟩
  ·obtain ⟨b2, h4, h⟩ := zae h
   rcases zaj h with ⟨h5, h⟩ | ⟨h5, h⟩
   ·have h := zaf h
    subst h
    have t_ := tF (rfl : false = false) <| tR (zaW g g2 g3 g4 g5 _ h1) <| tF (zaz h2) <| tF (zaz h3) <| tR (zcZ g2 g n n2 r m m2 _ h4) <| tT h5 <| tN
    exact zag (C := cfg) (sc := t_.ev) (.k1 t_.pf (by kernel_rfl) (by kernel_rfl))
   ·cases h6 : (mget (g2, g) m2) with
    | some n3 =>
     simp only [h6] at h
     have h := zaf h
     subst h
     have t_ := tF (rfl : false = false) <| tR (zaW g g2 g3 g4 g5 _ h1) <| tF (zaz h2) <| tF (zaz h3) <| tR (zcZ g2 g n n2 r m m2 _ h4) <| tF h5 <| tT (show kget [(.int .i64 g2), (.int .u64 g)] (List.map M_deed_Mark_int.pv m2) = some [(.int .i64 n3)] from by first | (simp only [M_deed_Mark_int.set, M_int_int.set, M_deed_Mark_int.get, M_int_int.get, h6, Option.map_some, Option.map_none]; done) | (simp only [M_deed_Mark_int.set, M_int_int.set, M_deed_Mark_int.get, M_int_int.get, h6, Option.map_some, Option.map_none]; rfl) | (rw [← List.map_nil]; simp only [M_deed_Mark_int.set, M_int_int.set, M_deed_Mark_int.get, M_int_int.get, h6, Option.map_some, Option.map_none]; rfl)) <| tE (.el [(.int .i64 n3)]) <| tT (show kget [(.int .i64 g2), (.int .u64 g)] (List.map M_deed_Mark_int.pv m2) = some [(.int .i64 n3)] from by first | (simp only [M_deed_Mark_int.set, M_int_int.set, M_deed_Mark_int.get, M_int_int.get, h6, Option.map_some, Option.map_none]; done) | (simp only [M_deed_Mark_int.set, M_int_int.set, M_deed_Mark_int.get, M_int_int.get, h6, Option.map_some, Option.map_none]; rfl) | (rw [← List.map_nil]; simp only [M_deed_Mark_int.set, M_int_int.set, M_deed_Mark_int.get, M_int_int.get, h6, Option.map_some, Option.map_none]; rfl)) <| tE (.el [(.int .i64 n3)]) <| tT (show kget [(.int .i64 g2), (.int .u64 g)] (List.map M_deed_Mark_int.pv m2) = some [(.int .i64 n3)] from by first | (simp only [M_deed_Mark_int.set, M_int_int.set, M_deed_Mark_int.get, M_int_int.get, h6, Option.map_some, Option.map_none]; done) | (simp only [M_deed_Mark_int.set, M_int_int.set, M_deed_Mark_int.get, M_int_int.get, h6, Option.map_some, Option.map_none]; rfl) | (rw [← List.map_nil]; simp only [M_deed_Mark_int.set, M_int_int.set, M_deed_Mark_int.get, M_int_int.get, h6, Option.map_some, Option.map_none]; rfl)) <| tE (.el [(.int .i64 n3)]) <| tT (show kget [(.int .i64 g2), (.int .u64 g)] (kset [(.int .i64 g2), (.int .u64 g)] [(.int .i64 n3)] (List.map M_deed_Mark_int.pv m2)) = some [(.int .i64 n3)] from by exact zix (by simp [keq]) _ _) <| tE (.el [(.int .i64 n3)]) <| tN
     exact Runs.out (zag (C := cfg) (res := ([(.one (.pv (.int .i64 0)))], [[(.pv (.int .i64 n)), (.pv (.int .u64 n2)), (.pv (.recs 5 (List.map zaa.pv r) false)), (.mp 1), (.mp 2)], [(.maph (.int .i64) false (List.map M_int_int.pv m) [])], [(.maph (.st [.i64, .u64]) false (kset [(.int .i64 g2), (.int .u64 g)] [(.int .i64 (iadd .i64 n3 1))] (kset [(.int .i64 g2), (.int .u64 g)] [(.int .i64 n3)] (List.map M_deed_Mark_int.pv m2))) [])]], [])) (sc := t_.ev) (.k1 t_.pf (by kernel_rfl) (by kernel_rfl))) ⟨.eq rfl, trivial⟩ ⟨⟨.eq rfl, .eq rfl, .eq rfl, .eq rfl, .eq rfl, trivial⟩, ⟨.eq rfl, trivial⟩, ⟨.maph (WkEs.to (WkEs.set (.cons (.eq rfl) (.nil)) (WkEs.set (.cons (.eq rfl) (.nil)) (WkEs.refl _))) (by first | rfl | (simp only [M_deed_Mark_int.set, M_int_int.set]; done) | (simp only [M_deed_Mark_int.set, M_int_int.set, kset, kdel]; rfl))), trivial⟩, trivial⟩ trivial rfl
    | none =>
     simp only [h6] at h
     have h := zaf h
     subst h
     have t_ := tF (rfl : false = false) <| tR (zaW g g2 g3 g4 g5 _ h1) <| tF (zaz h2) <| tF (zaz h3) <| tR (zcZ g2 g n n2 r m m2 _ h4) <| tF h5 <| tF (show kget [(.int .i64 g2), (.int .u64 g)] (List.map M_deed_Mark_int.pv m2) = none from by first | (simp only [M_deed_Mark_int.set, M_int_int.set, M_deed_Mark_int.get, M_int_int.get, h6, Option.map_some, Option.map_none]; done) | (simp only [M_deed_Mark_int.set, M_int_int.set, M_deed_Mark_int.get, M_int_int.get, h6, Option.map_some, Option.map_none]; rfl) | (rw [← List.map_nil]; simp only [M_deed_Mark_int.set, M_int_int.set, M_deed_Mark_int.get, M_int_int.get, h6, Option.map_some, Option.map_none]; rfl)) <| tF (show kget [(.int .i64 g2), (.int .u64 g)] (List.map M_deed_Mark_int.pv m2) = none from by first | (simp only [M_deed_Mark_int.set, M_int_int.set, M_deed_Mark_int.get, M_int_int.get, h6, Option.map_some, Option.map_none]; done) | (simp only [M_deed_Mark_int.set, M_int_int.set, M_deed_Mark_int.get, M_int_int.get, h6, Option.map_some, Option.map_none]; rfl) | (rw [← List.map_nil]; simp only [M_deed_Mark_int.set, M_int_int.set, M_deed_Mark_int.get, M_int_int.get, h6, Option.map_some, Option.map_none]; rfl)) <| tF (show kget [(.int .i64 g2), (.int .u64 g)] (List.map M_deed_Mark_int.pv m2) = none from by first | (simp only [M_deed_Mark_int.set, M_int_int.set, M_deed_Mark_int.get, M_int_int.get, h6, Option.map_some, Option.map_none]; done) | (simp only [M_deed_Mark_int.set, M_int_int.set, M_deed_Mark_int.get, M_int_int.get, h6, Option.map_some, Option.map_none]; rfl) | (rw [← List.map_nil]; simp only [M_deed_Mark_int.set, M_int_int.set, M_deed_Mark_int.get, M_int_int.get, h6, Option.map_some, Option.map_none]; rfl)) <| tT (show kget [(.int .i64 g2), (.int .u64 g)] (kset [(.int .i64 g2), (.int .u64 g)] [(.int .i64 0)] (List.map M_deed_Mark_int.pv m2)) = some [(.int .i64 0)] from by exact zix (by simp [keq]) _ _) <| tE (.el [(.int .i64 0)]) <| tN
     exact Runs.out (zag (C := cfg) (res := ([(.one (.pv (.int .i64 0)))], [[(.pv (.int .i64 n)), (.pv (.int .u64 n2)), (.pv (.recs 5 (List.map zaa.pv r) false)), (.mp 1), (.mp 2)], [(.maph (.int .i64) false (List.map M_int_int.pv m) [])], [(.maph (.st [.i64, .u64]) false (kset [(.int .i64 g2), (.int .u64 g)] [(.int .i64 1)] (kset [(.int .i64 g2), (.int .u64 g)] [(.int .i64 0)] (List.map M_deed_Mark_int.pv m2))) [])]], [])) (sc := t_.ev) (.k1 t_.pf (by kernel_rfl) (by kernel_rfl))) ⟨.eq rfl, trivial⟩ ⟨⟨.eq rfl, .eq rfl, .eq rfl, .eq rfl, .eq rfl, trivial⟩, ⟨.eq rfl, trivial⟩, ⟨.maph (WkEs.to (WkEs.set (.cons (.eq rfl) (.nil)) (WkEs.set (.cons (.eq rfl) (.nil)) (WkEs.refl _))) (by first | rfl | (simp only [M_deed_Mark_int.set, M_int_int.set]; done) | (simp only [M_deed_Mark_int.set, M_int_int.set, kset, kdel]; rfl))), trivial⟩, trivial⟩ trivial rfl
  ·have h := zaf h
   subst h
   have t_ := tF (rfl : false = false) <| tR (zaW g g2 g3 g4 g5 _ h1) <| tF (zaz h2) <| tT (zbc h3) <| tN
   exact zag (C := cfg) (sc := t_.ev) (.k1 t_.pf (by kernel_rfl) (by kernel_rfl))
 ·have h := zaf h
  subst h
  have t_ := tF (rfl : false = false) <| tR (zaW g g2 g3 g4 g5 _ h1) <| tT (zbc h2) <| tT (rfl : true = true) <| tN
  exact zag (C := cfg) (sc := t_.ev) (.k1 t_.pf (by kernel_rfl) (by kernel_rfl))
def zid (to : Int) (share : Bool) (share2 : zad) (n n2 : Int) (r : List zaa) (m : List (Int × Int)) (m2 : List ((Int × Int) × Int)) : Int × Int × Int × Bool × zad × Int × Int × List zaa × List (Int × Int) → Res
 | (r1, r2, r3, r4, r5, r6, r7, r8, r9) => ([(.agg [(.pv (.int .u64 r1)), (.pv (.int .i64 r2)), (.pv (.int .i64 r3)), (.pv (.bool r4)), (.pv (zad.pv r5))]), (.one (.pv (.int .i64 r6)))], [[(.pv (.int .i64 n)), (.pv (.int .u64 r7)), (.pv (.recs 5 (List.map zaa.pv r8) false)), (.mp 1), (.mp 2)], [(.maph (.int .i64) false (List.map M_int_int.pv r9) [])], [(.maph (.st [.i64, .u64]) false (List.map M_deed_Mark_int.pv m2) [])]], [])
def zig (n n2 : Int) (r : List zaa) (m : List (Int × Int)) (m2 : List ((Int × Int) × Int)) : Unit → Res
 | _ => ([(.one (.pv (.int .u64 n2)))], [[(.pv (.int .i64 n)), (.pv (.int .u64 n2)), (.pv (.recs 5 (List.map zaa.pv r) false)), (.mp 1), (.mp 2)], [(.maph (.int .i64) false (List.map M_int_int.pv m) [])], [(.maph (.st [.i64, .u64]) false (List.map M_deed_Mark_int.pv m2) [])]], [])
noncomputable def zbN (n n2 : Int) (r : List zaa) (m : List (Int × Int)) (m2 : List ((Int × Int) × Int)) : Option (Unit) :=
 some ()
theorem zbo (n n2 : Int) (r : List zaa) (m : List (Int × Int)) (m2 : List ((Int × Int) × Int)) (r_ : Unit) (h : zbN n n2 r m m2 = some r_) : Runs Tryz.prog 23 [(.one (.ref 0 0))] [[(.pv (.int .i64 n)), (.pv (.int .u64 n2)), (.pv (.recs 5 (List.map zaa.pv r) false)), (.mp 1), (.mp 2)], [(.maph (.int .i64) false (List.map M_int_int.pv m) [])], [(.maph (.st [.i64, .u64]) false (List.map M_deed_Mark_int.pv m2) [])]] [] (zig n n2 r m m2 r_) := by
 unfold zbN at h
 have h := zaf h
 subst h
 have t_ := tF (rfl : false = false) <| tN
 exact zag (C := cfg) (sc := t_.ev) (.k0 t_.pf (by kernel_rfl))
def zij (n n2 : Int) (r : List zaa) (m : List (Int × Int)) (m2 : List ((Int × Int) × Int)) : Unit → Res
 | _ => ([(.one (.pv (.int .i64 n)))], [[(.pv (.int .i64 n)), (.pv (.int .u64 n2)), (.pv (.recs 5 (List.map zaa.pv r) false)), (.mp 1), (.mp 2)], [(.maph (.int .i64) false (List.map M_int_int.pv m) [])], [(.maph (.st [.i64, .u64]) false (List.map M_deed_Mark_int.pv m2) [])]], [])
noncomputable def zbO (n n2 : Int) (r : List zaa) (m : List (Int × Int)) (m2 : List ((Int × Int) × Int)) : Option (Unit) :=
 some ()
theorem zbp (n n2 : Int) (r : List zaa) (m : List (Int × Int)) (m2 : List ((Int × Int) × Int)) (r_ : Unit) (h : zbO n n2 r m m2 = some r_) : Runs Tryz.prog 22 [(.one (.ref 0 0))] [[(.pv (.int .i64 n)), (.pv (.int .u64 n2)), (.pv (.recs 5 (List.map zaa.pv r) false)), (.mp 1), (.mp 2)], [(.maph (.int .i64) false (List.map M_int_int.pv m) [])], [(.maph (.st [.i64, .u64]) false (List.map M_deed_Mark_int.pv m2) [])]] [] (zij n n2 r m m2 r_) := by
 unfold zbO at h
 have h := zaf h
 subst h
 have t_ := tF (rfl : false = false) <| tN
 exact zag (C := cfg) (sc := t_.ev) (.k0 t_.pf (by kernel_rfl))
def zjA (to n n2 : Int) (r : List zaa) (m : List (Int × Int)) (m2 : List ((Int × Int) × Int)) : Int × Int × Int × Bool × zad × Bool → Res
 | (r1, r2, r3, r4, r5, r6) => ([(.agg [(.pv (.int .u64 r1)), (.pv (.int .i64 r2)), (.pv (.int .i64 r3)), (.pv (.bool r4)), (.pv (zad.pv r5))]), (.one (.pv (.bool r6)))], [[(.pv (.int .i64 n)), (.pv (.int .u64 n2)), (.pv (.recs 5 (List.map zaa.pv r) false)), (.mp 1), (.mp 2)], [(.maph (.int .i64) false (List.map M_int_int.pv m) [])], [(.maph (.st [.i64, .u64]) false (List.map M_deed_Mark_int.pv m2) [])]], [])
def zd3 (to n n2 n3 : Int) (r : List zaa) (m : List (Int × Int)) (m2 : List ((Int × Int) × Int)) (r2 : List zaa) : Int → St
 | n4 => ⟨[(1, (.av (.one (.pv (.int .i64 to))))), (4, (.av (.one (.ref 3 0)))), (9, (.av (.one (.own 0 0 ((List.map zaa.pv r2)).length false)))), (10, (.av (.one (.pv (.int .i64 n))))), (11, (.av (.one (.pv (.int .i64 n4)))))], [(0, [(.pv (.int .i64 n2)), (.pv (.int .u64 n3)), (.pv (.recs 5 (List.map zaa.pv r) false)), (.mp 1), (.mp 2)]), (1, [(.maph (.int .i64) false (List.map M_int_int.pv m) [])]), (2, [(.maph (.st [.i64, .u64]) false (List.map M_deed_Mark_int.pv m2) [])]), (3, [(.pv (.int .u64 0)), (.pv (.int .i64 0)), (.pv (.int .i64 0)), (.pv (.bool false)), (.pv (zad.pv zad.nil))])], [(0, (.live (.recs 5 (List.map zaa.pv r2))))]⟩
def zcs (to n n2 n3 : Int) (r : List zaa) (m : List (Int × Int)) (m2 : List ((Int × Int) × Int)) (r2 : List zaa) : (Int × Int × Int × Bool × zad) ⊕ (Unit) → Ex × St
 | .inl (r1, r3, r4, r5, r6) => (.ret, ⟨[(4, (.av (.one (.ref 3 0)))), (5, (.av (.one (.pv (.bool true)))))], [(0, [(.pv (.int .i64 n2)), (.pv (.int .u64 n3)), (.pv (.recs 5 (List.map zaa.pv r) false)), (.mp 1), (.mp 2)]), (1, [(.maph (.int .i64) false (List.map M_int_int.pv m) [])]), (2, [(.maph (.st [.i64, .u64]) false (List.map M_deed_Mark_int.pv m2) [])]), (3, [(.pv (.int .u64 r1)), (.pv (.int .i64 r3)), (.pv (.int .i64 r4)), (.pv (.bool r5)), (.pv (zad.pv r6))])], []⟩)
 | .inr _ => ((.exit 0), ⟨[(4, (.av (.one (.ref 3 0))))], [(0, [(.pv (.int .i64 n2)), (.pv (.int .u64 n3)), (.pv (.recs 5 (List.map zaa.pv r) false)), (.mp 1), (.mp 2)]), (1, [(.maph (.int .i64) false (List.map M_int_int.pv m) [])]), (2, [(.maph (.st [.i64, .u64]) false (List.map M_deed_Mark_int.pv m2) [])]), (3, [(.pv (.int .u64 0)), (.pv (.int .i64 0)), (.pv (.int .i64 0)), (.pv (.bool false)), (.pv (zad.pv zad.nil))])], [(0, (.live (.recs 5 (List.map zaa.pv r2))))]⟩)
noncomputable def zbk (to n n2 n3 : Int) (r : List zaa) (m : List (Int × Int)) (m2 : List ((Int × Int) × Int)) (r2 : List zaa) : Int → Option ((Int) ⊕ ((Int × Int × Int × Bool × zad) ⊕ (Unit)))
 | n4 =>
 bif (decide ((n4 : Int) < n)) then
  bif decide ((0 : Int) ≤ n4) && decide ((n4 : Int) < (((List.map zaa.pv r2)).length : Int)) then
  (r2[(0 + (n4).toNat)]?).bind fun e_ => match e_ with
  | .mk n5 n6 n7 b t =>
  bif (decide ((n7 : Int) = to)) then
   some (.inr (.inl (n5, n6, n7, b, t)))
  else
   some (.inl (iadd .i64 n4 1))
  else none
 else
  some (.inr (.inr ()))
theorem zip (to n n2 n3 : Int) (r : List zaa) (m : List (Int × Int)) (m2 : List ((Int × Int) × Int)) (r2 : List zaa) (n4 : Int) (z_ : (Int) ⊕ ((Int × Int × Int × Bool × zad) ⊕ (Unit))) (h : zbk to n n2 n3 r m m2 r2 n4 = some z_) : zbQ Tryz.prog cfg 17 3 (zbe Tryz.prog 17 0) (zd3 to n n2 n3 r m m2 r2) (zcs to n n2 n3 r m m2 r2) n4 z_ := by
 rcases zaj h with ⟨h1, h⟩ | ⟨h1, h⟩
 ·obtain ⟨h2, h⟩ := zar h
  obtain ⟨⟨n5, n6, n7, b, t⟩, h3, h⟩ := zae h
  rcases zaj h with ⟨h4, h⟩ | ⟨h4, h⟩
  ·have h := zaf h
   subst h
   have t_ := tT h1 <| tO h2 <| tE (.el [(.int .u64 n5), (.int .i64 n6), (.int .i64 n7), (.bool b), (zad.pv t)]) <| tO (zdi (f := zaa.pv) h3) <| tT h4 <| tN
   exact ⟨t_.ev, (zcs to n n2 n3 r m m2 r2 (.inl (n5, n6, n7, b, t))).2, .k0 t_.pf (by kernel_rfl), .same (by kernel_rfl)⟩
  ·have h := zaf h
   subst h
   have t_ := tT h1 <| tO h2 <| tE (.el [(.int .u64 n5), (.int .i64 n6), (.int .i64 n7), (.bool b), (zad.pv t)]) <| tO (zdi (f := zaa.pv) h3) <| tF h4 <| tN
   exact ⟨t_.ev, zd3 to n n2 n3 r m m2 r2 (iadd .i64 n4 1), .k0 t_.pf (by kernel_rfl), .same (by kernel_rfl)⟩
 ·have h := zaf h
  subst h
  have t_ := tF h1 <| tN
  exact ⟨t_.ev, ⟨[(12, (.av (.one (.pv (.bool false))))), (1, (.av (.one (.pv (.int .i64 to))))), (4, (.av (.one (.ref 3 0)))), (9, (.av (.one (.own 0 0 ((List.map zaa.pv r2)).length false)))), (10, (.av (.one (.pv (.int .i64 n))))), (11, (.av (.one (.pv (.int .i64 n4))))), (12, (.av (.one (.pv (.bool (decide ((n4 : Int) < n)))))))], [(0, [(.pv (.int .i64 n2)), (.pv (.int .u64 n3)), (.pv (.recs 5 (List.map zaa.pv r) false)), (.mp 1), (.mp 2)]), (1, [(.maph (.int .i64) false (List.map M_int_int.pv m) [])]), (2, [(.maph (.st [.i64, .u64]) false (List.map M_deed_Mark_int.pv m2) [])]), (3, [(.pv (.int .u64 0)), (.pv (.int .i64 0)), (.pv (.int .i64 0)), (.pv (.bool false)), (.pv (zad.pv zad.nil))])], [(0, (.live (.recs 5 (List.map zaa.pv r2))))]⟩, .k0 t_.pf (by kernel_rfl), ⟨⟨⟨_, rfl, .eq rfl⟩, trivial⟩, ⟨⟨rfl, ⟨.eq rfl, .eq rfl, .eq rfl, .eq rfl, .eq rfl, trivial⟩⟩, ⟨rfl, ⟨.eq rfl, trivial⟩⟩, ⟨rfl, ⟨.eq rfl, trivial⟩⟩, ⟨rfl, ⟨.eq rfl, .eq rfl, .eq rfl, .eq rfl, .eq rfl, trivial⟩⟩, trivial⟩, ⟨⟨rfl, .eq rfl⟩, trivial⟩⟩⟩
theorem zcM (to n n2 n3 : Int) (r : List zaa) (m : List (Int × Int)) (m2 : List ((Int × Int) × Int)) (r2 : List zaa) (s_ : Int) (r_ : (Int × Int × Int × Bool × zad) ⊕ (Unit)) (h : runL (zbk to n n2 n3 r m m2 r2) s_ = some r_) : zbK Tryz.prog (lEnv Tryz.prog cfg 17 3).nt 3 (.loop (zbe Tryz.prog 17 0)) (zd3 to n n2 n3 r m m2 r2 s_) (zcs to n n2 n3 r m m2 r2 r_).1 (zcs to n n2 n3 r m m2 r2 r_).2 :=
 zbA h (zip to n n2 n3 r m m2 r2) (by intro r_; rcases r_ with ⟨r1, r3, r4, r5, r6⟩ | _ <;> simp [zcs])
noncomputable def zcR (to n n2 : Int) (r : List zaa) (m : List (Int × Int)) (m2 : List ((Int × Int) × Int)) : Option (Int × Int × Int × Bool × zad × Bool) :=
 (za4 n n2 r m m2).bind fun _ =>
 (runL (zbk to (((List.map zaa.pv r)).length : Int) n n2 r m m2 r) 0).bind fun z_ => match z_ with
 | .inl (n3, n4, n5, b, t) =>
  some (n3, n4, n5, b, t, true)
 | .inr _ =>
  some (0, 0, 0, false, zad.nil, false)
theorem zca (to n n2 : Int) (r : List zaa) (m : List (Int × Int)) (m2 : List ((Int × Int) × Int)) (r_ : Int × Int × Int × Bool × zad × Bool) (h : zcR to n n2 r m m2 = some r_) : Runs Tryz.prog 17 [(.one (.ref 0 0)), (.one (.pv (.int .i64 to)))] [[(.pv (.int .i64 n)), (.pv (.int .u64 n2)), (.pv (.recs 5 (List.map zaa.pv r) false)), (.mp 1), (.mp 2)], [(.maph (.int .i64) false (List.map M_int_int.pv m) [])], [(.maph (.st [.i64, .u64]) false (List.map M_deed_Mark_int.pv m2) [])]] [] (zjA to n n2 r m m2 r_) := by
 unfold zcR at h
 obtain ⟨_, h1, h⟩ := zae h
 obtain ⟨z_, h2, h⟩ := zae h
 rcases z_ with ⟨n3, n4, n5, b, t⟩ | _
 ·have h := zaf h
  subst h
  have t_ := tR (zam n n2 r m m2 _ h1) <| tL (zbK.coe (s0 := ⟨[(1, (.av (.one (.pv (.int .i64 to))))), (4, (.av (.one (.ref 3 0)))), (9, (.av (.one (.own 0 0 ((List.map zaa.pv r)).length false)))), (10, (.av (.one (.pv (.int .i64 (((List.map zaa.pv r)).length : Int)))))), (11, (.av (.one (.pv (.int .i64 0)))))], [(0, [(.pv (.int .i64 n)), (.pv (.int .u64 n2)), (.pv (.recs 5 (List.map zaa.pv r) false)), (.mp 1), (.mp 2)]), (1, [(.maph (.int .i64) false (List.map M_int_int.pv m) [])]), (2, [(.maph (.st [.i64, .u64]) false (List.map M_deed_Mark_int.pv m2) [])]), (3, [(.pv (.int .u64 0)), (.pv (.int .i64 0)), (.pv (.int .i64 0)), (.pv (.bool false)), (.pv .nilp)])], [(0, (.live (.recs 5 (List.map zaa.pv r))))]⟩) (zcM to (((List.map zaa.pv r)).length : Int) n n2 r m m2 r _ _ h2) ⟨⟨⟨_, rfl, .eq rfl⟩, ⟨_, rfl, .eq rfl⟩, ⟨_, rfl, .eq rfl⟩, ⟨_, rfl, .eq rfl⟩, ⟨_, rfl, .eq rfl⟩, trivial⟩, ⟨⟨rfl, ⟨.eq rfl, .eq rfl, .eq rfl, .eq rfl, .eq rfl, trivial⟩⟩, ⟨rfl, ⟨.eq rfl, trivial⟩⟩, ⟨rfl, ⟨.eq rfl, trivial⟩⟩, ⟨rfl, ⟨.eq rfl, .eq rfl, .eq rfl, .eq rfl, .eq rfl, trivial⟩⟩, trivial⟩, ⟨⟨rfl, .eq rfl⟩, trivial⟩⟩) <| tN
  exact zag (C := cfg) (sc := t_.ev) (.k0 t_.pf (by kernel_rfl))
 ·have h := zaf h
  subst h
  have t_ := tR (zam n n2 r m m2 _ h1) <| tL (zbK.coe (s0 := ⟨[(1, (.av (.one (.pv (.int .i64 to))))), (4, (.av (.one (.ref 3 0)))), (9, (.av (.one (.own 0 0 ((List.map zaa.pv r)).length false)))), (10, (.av (.one (.pv (.int .i64 (((List.map zaa.pv r)).length : Int)))))), (11, (.av (.one (.pv (.int .i64 0)))))], [(0, [(.pv (.int .i64 n)), (.pv (.int .u64 n2)), (.pv (.recs 5 (List.map zaa.pv r) false)), (.mp 1), (.mp 2)]), (1, [(.maph (.int .i64) false (List.map M_int_int.pv m) [])]), (2, [(.maph (.st [.i64, .u64]) false (List.map M_deed_Mark_int.pv m2) [])]), (3, [(.pv (.int .u64 0)), (.pv (.int .i64 0)), (.pv (.int .i64 0)), (.pv (.bool false)), (.pv .nilp)])], [(0, (.live (.recs 5 (List.map zaa.pv r))))]⟩) (zcM to (((List.map zaa.pv r)).length : Int) n n2 r m m2 r _ _ h2) ⟨⟨⟨_, rfl, .eq rfl⟩, ⟨_, rfl, .eq rfl⟩, ⟨_, rfl, .eq rfl⟩, ⟨_, rfl, .eq rfl⟩, ⟨_, rfl, .eq rfl⟩, trivial⟩, ⟨⟨rfl, ⟨.eq rfl, .eq rfl, .eq rfl, .eq rfl, .eq rfl, trivial⟩⟩, ⟨rfl, ⟨.eq rfl, trivial⟩⟩, ⟨rfl, ⟨.eq rfl, trivial⟩⟩, ⟨rfl, ⟨.eq rfl, .eq rfl, .eq rfl, .eq rfl, .eq rfl, trivial⟩⟩, trivial⟩, ⟨⟨rfl, .eq rfl⟩, trivial⟩⟩) <| tN
  exact Runs.out (zag (C := cfg) (res := ([(.agg [(.pv (.int .u64 0)), (.pv (.int .i64 0)), (.pv (.int .i64 0)), (.pv (.bool false)), (.pv .nilp)]), (.one (.pv (.bool false)))], [[(.pv (.int .i64 n)), (.pv (.int .u64 n2)), (.pv (.recs 5 (List.map zaa.pv r) false)), (.mp 1), (.mp 2)], [(.maph (.int .i64) false (List.map M_int_int.pv m) [])], [(.maph (.st [.i64, .u64]) false (List.map M_deed_Mark_int.pv m2) [])]], [])) (sc := t_.ev) (.k0 t_.pf (by kernel_rfl))) ⟨⟨.eq rfl, .eq rfl, .eq rfl, .eq rfl, .eq rfl, trivial⟩, .eq rfl, trivial⟩ ⟨⟨.eq rfl, .eq rfl, .eq rfl, .eq rfl, .eq rfl, trivial⟩, ⟨.eq rfl, trivial⟩, ⟨.eq rfl, trivial⟩, trivial⟩ trivial rfl
end Go.Proofs.YtjjcmgdgifcmgaaGreat
