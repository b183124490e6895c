/- What functions compute, and that they do. -/
import Derived.Test.YtjjcmgdgifcmgaaGreatCfg
set_option linter.unusedVariables false
set_option linter.unusedSimpArgs false
set_option maxRecDepth 100000
namespace Go.Proofs.YtjjcmgdgifcmgaaGreat
open Go.Ev
theorem zno  : evFn Tryz.prog cfg (zhB Tryz.prog) (zaT Tryz.prog (lEnv Tryz.prog cfg 93 0).nt 0) 93 [(.one (.pv .nils))] [] []
  [.br true] =
 some (([(.one (.pv .nils))], [], []), obs [
  true = true]) := by kernel_rfl
theorem znn  : evFn Tryz.prog cfg (zhB Tryz.prog) (zaT Tryz.prog (lEnv Tryz.prog cfg 93 0).nt 0) 93 [(.one (.pv .emp))] [] []
  [.br false, .br true] =
 some (([(.one (.own 0 0 0 false))], [], [(.ints .u8 [])]), obs [
  false = false,
  true = true]) := by kernel_rfl
theorem zoR (l : List Int) (t : Bool) : evFn Tryz.prog cfg (zhB Tryz.prog) (zaT Tryz.prog (lEnv Tryz.prog cfg 93 0).nt 0) 93 [(.one (.pv (.ints .u8 l t)))] [] []
  [.br false, .br false] =
 some (([(.one (.own 0 0 (([] ++ l)).length false))], [], [(.ints .u8 ([] ++ l))]), obs [
  (!(Nat.beq (l).length 0)) = true,
  false = false,
  (!(Nat.beq (l).length 0)) = true,
  (fits (([] ++ l)).length) = true]) := by kernel_rfl
theorem zgF {l : List Int} {t : Bool} (hl : fits l.length = true) : Runs Tryz.prog 93 [.one (.pv (.ints .u8 l t))] [] [] ([.one (.pv (.ints .u8 l false))], [], []) := by
 cases l with
 | nil =>
  have h1 : Runs Tryz.prog 93 [.one (.pv .nils)] [] [] ([.one (.pv (.ints .u8 [] false))], [], []) := by
   have h0 : Runs Tryz.prog 93 [.one (.pv .nils)] [] [] ([.one (.pv .nils)], [], []) := zah (Says.of zno ⟨rfl, trivial⟩)
   refine h0.res rfl (Nat.zero_le _) fun y v hs hv => ⟨y, rfl, Ext.refl y, rfl, hs, zul hv⟩
  have h2 : Runs Tryz.prog 93 [.one (.pv .emp)] [] [] ([.one (.pv (.ints .u8 [] false))], [], []) :=
   Runs.close0 (rw := .ints .u8 []) (zah (Says.of znn ⟨rfl, rfl, trivial⟩)) rfl
  refine h1.split h2 fun x vals hr => ?_
  match vals, hr with
  | [v], hr =>
   rcases zrh hr.1 with h | h
   ·exact .inl ⟨h, trivial⟩
   ·exact .inr ⟨h, trivial⟩
 | cons a l =>
  have H := zoR (a :: l) t
  rw [List.nil_append] at H
  exact Runs.close0 (rw := .ints .u8 (a :: l)) (zah (Says.of H ⟨by simp [Nat.beq], rfl, by simp [Nat.beq], hl, trivial⟩)) rfl
theorem zhs  : evFn Tryz.prog cfg (zhB Tryz.prog) (zaT Tryz.prog (lEnv Tryz.prog cfg 50 0).nt 0) 50 [(.one (.pv .nils))] [] []
  [.br true] =
 some (([(.one (.pv .nils))], [], []), obs [
  true = true]) := by kernel_rfl
theorem zhr  : evFn Tryz.prog cfg (zhB Tryz.prog) (zaT Tryz.prog (lEnv Tryz.prog cfg 50 0).nt 0) 50 [(.one (.pv .emp))] [] []
  [.br false, .br true] =
 some (([(.one (.own 0 0 0 false))], [], [(.recs 5 [])]), obs [
  false = false,
  true = true]) := by kernel_rfl
theorem zhL (l : List zaa) : evFn Tryz.prog cfg (zhB Tryz.prog) (zaT Tryz.prog (lEnv Tryz.prog cfg 50 0).nt 0) 50 [(.one (.pv (.recs 5 (List.map zaa.pv l) false)))] [] []
  [.br false, .br false] =
 some (([(.one (.own 0 0 ((([] : List (List PV)) ++ (List.map zaa.pv l))).length false))], [], [(.recs 5 (([] : List (List PV)) ++ (List.map zaa.pv l)))]), obs [
  (!(Nat.beq ((List.map zaa.pv l)).length 0)) = true,
  false = false,
  (!(Nat.beq ((List.map zaa.pv l)).length 0)) = true,
  (fits ((([] : List (List PV)) ++ (List.map zaa.pv l))).length) = true]) := by kernel_rfl
noncomputable def zbm (l : List zaa) : Option Unit := if fits l.length = true then some () else none
def zht (l : List zaa) : Unit → Res
 | _ => ([(.one (.own 0 0 (List.map zaa.pv l).length false))], [], [(.recs 5 (List.map zaa.pv l))])
theorem zeG (l : List zaa) (r_ : Unit) (h : zbm l = some r_) : Runs Tryz.prog 50 [(.one (.pv (.recs 5 (List.map zaa.pv l) false)))] [] [] (zht l r_) := by
 unfold zbm at h
 split at h
 ·rename_i hf
  cases l with
  | nil =>
   have h1 : Runs Tryz.prog 50 [.one (.pv .nils)] [] [] ([.one (.own 0 0 0 false)], [], [.recs 5 []]) := Runs.void (by decide) (zah (Says.of zhs ⟨rfl, trivial⟩))
   have h2 : Runs Tryz.prog 50 [.one (.pv .emp)] [] [] ([.one (.own 0 0 0 false)], [], [.recs 5 []]) := zah (Says.of zhr ⟨rfl, rfl, trivial⟩)
   refine h1.split h2 fun x vals hr => ?_
   match vals, hr with
   | [v], hr =>
    rcases ztw hr.1 with h | h
    ·exact .inl ⟨h, trivial⟩
    ·exact .inr ⟨h, trivial⟩
  | cons a l =>
   have H := zhL (a :: l)
   rw [List.nil_append] at H
   exact zah (Says.of H ⟨by simp [Nat.beq], rfl, by simp [Nat.beq], by simpa using hf, trivial⟩)
 ·cases h
theorem zjQ  : evFn Tryz.prog cfg (zhB Tryz.prog) (zaT Tryz.prog (lEnv Tryz.prog cfg 27 0).nt 0) 27 [(.one (.pv .nils))] [] []
  [.br true] =
 some (([(.one (.pv .nils))], [], []), obs [
  true = true]) := by kernel_rfl
theorem zjP  : evFn Tryz.prog cfg (zhB Tryz.prog) (zaT Tryz.prog (lEnv Tryz.prog cfg 27 0).nt 0) 27 [(.one (.pv .emp))] [] []
  [.br false, .br true] =
 some (([(.one (.own 0 0 0 false))], [], [(.ints .u8 [])]), obs [
  false = false,
  true = true]) := by kernel_rfl
theorem zkn (l : List Int) : evFn Tryz.prog cfg (zhB Tryz.prog) (zaT Tryz.prog (lEnv Tryz.prog cfg 27 0).nt 0) 27 [(.one (.pv (.ints .u8 l false)))] [] []
  [.br false, .br false] =
 some (([(.one (.own 0 0 (([] ++ l)).length false))], [], [(.ints .u8 ([] ++ l))]), obs [
  (!(Nat.beq (l).length 0)) = true,
  false = false,
  (!(Nat.beq (l).length 0)) = true,
  (fits (([] ++ l)).length) = true]) := by kernel_rfl
noncomputable def zdS (l : List Int) : Option Unit := if fits l.length = true then some () else none
def zjR (l : List Int) : Unit → Res
 | _ => ([(.one (.own 0 0 l.length false))], [], [(.ints .u8 l)])
theorem zji (l : List Int) (r_ : Unit) (h : zdS l = some r_) : Runs Tryz.prog 27 [(.one (.pv (.ints .u8 l false)))] [] [] (zjR l r_) := by
 unfold zdS at h
 split at h
 ·rename_i hf
  cases l with
  | nil =>
   have h1 : Runs Tryz.prog 27 [.one (.pv .nils)] [] [] ([.one (.own 0 0 0 false)], [], [.ints .u8 []]) := Runs.void (by decide) (zah (Says.of zjQ ⟨rfl, trivial⟩))
   have h2 : Runs Tryz.prog 27 [.one (.pv .emp)] [] [] ([.one (.own 0 0 0 false)], [], [.ints .u8 []]) := zah (Says.of zjP ⟨rfl, rfl, trivial⟩)
   refine h1.split h2 fun x vals hr => ?_
   match vals, hr with
   | [v], hr =>
    rcases zrh hr.1 with h | h
    ·exact .inl ⟨h, trivial⟩
    ·exact .inr ⟨h, trivial⟩
  | cons a l =>
   have H := zkn (a :: l)
   rw [List.nil_append] at H
   exact zah (Says.of H ⟨by simp [Nat.beq], rfl, by simp [Nat.beq], by simpa using hf, trivial⟩)
 ·cases h
def Tryz.del_ren : Go.Shelf.Ren := ⟨fun | 45 => 45 | n => n, fun | 22 => 64 | 23 => 48 | n => n, fun n => n⟩
theorem Tryz.delLays : Go.Proofs.DelLays Tryz.prog Tryz.del_ren 5 := {
 mixed := by kernel_rfl
 f45 := ⟨Tryz.f45.name, by decide, Tryz.func45.trans (congrArg some (by kernel_rfl))⟩
 t0 := by kernel_rfl
 a0 := Tryz.isAgg0
 z0 := Tryz.sizeOf0
 v0 := Tryz.zeroValue0
 t3 := by kernel_rfl
 a3 := Tryz.isAgg3
 z3 := Tryz.sizeOf3
 v3 := Tryz.zeroValue3
 t4 := by kernel_rfl
 a4 := Tryz.isAgg4
 z4 := Tryz.sizeOf4
 v4 := Tryz.zeroValue4
 t22 := by kernel_rfl
 a22 := Tryz.isAgg64
 z22 := Tryz.sizeOf64
 v22 := Tryz.zeroValue64
 z23 := Tryz.sizeOf48
 i23 := by kernel_rfl }
noncomputable def zcY (i j : Int) (r : List zaa) : Option (Nat × List zaa) := if 0 ≤ i ∧ i ≤ j ∧ j ≤ (r.length : Int) ∧ r.length < 4611686018427387904 then some (r.length - (j.toNat - i.toNat), r.take i.toNat ++ (r.drop j.toNat ++ List.replicate (j.toNat - i.toNat) (zaa.mk 0 0 0 false .nil))) else none
def zeH (i j : Int) (r : List zaa) : Nat × List zaa → Res
 | (k, r2) => ([(.one (.own 0 0 k false))], [], [(.recs 5 (List.map zaa.pv r2))])
theorem zgX (i j : Int) (r : List zaa) (r_ : Nat × List zaa) (h : zcY i j r = some r_) : Runs Tryz.prog 45 [(.one (.own 0 0 ((List.map zaa.pv r)).length false)), (.one (.pv (.int .i64 i))), (.one (.pv (.int .i64 j)))] [] [(.recs 5 (List.map zaa.pv r))] (zeH i j r r_) := by
 unfold zcY at h
 split at h
 ·rename_i hc
  obtain ⟨h1, h2, h3, h4⟩ := hc
  cases h
  obtain ⟨a, rfl⟩ := Int.eq_ofNat_of_zero_le h1
  obtain ⟨b, rfl⟩ := Int.eq_ofNat_of_zero_le (Int.le_trans h1 h2)
  have h0 := Runs.delete Tryz.delLays (by kernel_rfl) (by decide) (zaa.pv (zaa.mk 0 0 0 false .nil)) rfl (ti := (zeZ Tryz.prog 48).get (by kernel_rfl)) (by kernel_rfl) (by kernel_rfl) (List.map zaa.pv r) (by rw [List.length_map]; exact h4) a b (by omega) (by rw [List.length_map]; omega)
  have e_ : zli (List.map zaa.pv r) (zaa.pv (zaa.mk 0 0 0 false .nil)) a b = List.map zaa.pv (r.take a ++ (r.drop b ++ List.replicate (b - a) (zaa.mk 0 0 0 false .nil))) := by simp [zli]
  rw [e_] at h0
  simp only [zeH, Int.toNat_natCast]
  rw [List.length_map] at h0 ⊢
  exact h0
 ·cases h
def zoW (a a2 b b2 : Int) : Int → Res
 | r1 => ([(.one (.pv (.int .i64 r1)))], [], [])
def zkH (x y : Int) : Int → Res
 | r1 => ([(.one (.pv (.int .i64 r1)))], [], [])
def zlS (x : Int) : Bool → Res
 | r1 => ([(.one (.pv (.bool r1)))], [], [])
noncomputable def zdV (x : Int) : Option (Bool) :=
 some (!(decide ((x : Int) = x)))
theorem zaS [DLaw] (x : Int) (r_ : Bool) (h : zdV x = some r_) : Runs Tryz.prog 123 [(.one (.pv (.int .i64 x)))] [] [] (zlS x r_) := by
 unfold zdV at h
 have h := zad h
 subst h
 have t_ := tN
 exact zah (C := cfg) (sc := t_.ev) (.k0 t_.pf (by kernel_rfl))
noncomputable def zcA (x y : Int) : Option (Int) :=
 (zdV x).bind fun b =>
 (zdV y).bind fun b2 =>
 bif b then
  bif b2 then
   some 0
  else
   some (-1)
 else
  bif b2 then
   some 1
  else
   bif (decide ((x : Int) < y)) then
    some (-1)
   else
    bif (decide ((y : Int) < x)) then
     some 1
    else
     some 0
theorem zcP [DLaw] (x y r_ : Int) (h : zcA x y = some r_) : Runs Tryz.prog 91 [(.one (.pv (.int .i64 x))), (.one (.pv (.int .i64 y)))] [] [] (zkH x y r_) := by
 unfold zcA at h
 obtain ⟨b, h1, h⟩ := zaf h
 obtain ⟨b2, h2, h⟩ := zaf h
 rcases zaj h with ⟨h3, h⟩ | ⟨h3, h⟩
 ·rcases zaj h with ⟨h4, h⟩ | ⟨h4, h⟩
  ·have h := zad h
   subst h
   have t_ := tR (zaS x _ h1) <| tR (zaS y _ h2) <| tT h3 <| tT h4 <| tN
   exact zah (C := cfg) (sc := t_.ev) (.k0 t_.pf (by kernel_rfl))
  ·have h := zad h
   subst h
   have t_ := tR (zaS x _ h1) <| tR (zaS y _ h2) <| tT h3 <| tF h4 <| tN
   exact zah (C := cfg) (sc := t_.ev) (.k0 t_.pf (by kernel_rfl))
 ·rcases zaj h with ⟨h4, h⟩ | ⟨h4, h⟩
  ·have h := zad h
   subst h
   have t_ := tR (zaS x _ h1) <| tR (zaS y _ h2) <| tF h3 <| tT h4 <| tN
   exact zah (C := cfg) (sc := t_.ev) (.k0 t_.pf (by kernel_rfl))
  ·rcases zaj h with ⟨h5, h⟩ | ⟨h5, h⟩
   ·have h := zad h
    subst h
    have t_ := tR (zaS x _ h1) <| tR (zaS y _ h2) <| tF h3 <| tF h4 <| tT h5 <| tN
    exact zah (C := cfg) (sc := t_.ev) (.k0 t_.pf (by kernel_rfl))
   ·rcases zaj h with ⟨h6, h⟩ | ⟨h6, h⟩
    ·have h := zad h
     subst h
     have t_ := tR (zaS x _ h1) <| tR (zaS y _ h2) <| tF h3 <| tF h4 <| tF h5 <| tT h6 <| tN
     exact zah (C := cfg) (sc := t_.ev) (.k0 t_.pf (by kernel_rfl))
    ·have h := zad h
     subst h
     have t_ := tR (zaS x _ h1) <| tR (zaS y _ h2) <| tF h3 <| tF h4 <| tF h5 <| tF h6 <| tN
     exact zah (C := cfg) (sc := t_.ev) (.k0 t_.pf (by kernel_rfl))
def zi6 (x y : Int) : Int → Res
 | r1 => ([(.one (.pv (.int .i64 r1)))], [], [])
def zka (x : Int) : Bool → Res
 | r1 => ([(.one (.pv (.bool r1)))], [], [])
noncomputable def zcI (x : Int) : Option (Bool) :=
 some (!(decide ((x : Int) = x)))
theorem zaK [DLaw] (x : Int) (r_ : Bool) (h : zcI x = some r_) : Runs Tryz.prog 124 [(.one (.pv (.int .u64 x)))] [] [] (zka x r_) := by
 unfold zcI at h
 have h := zad h
 subst h
 have t_ := tN
 exact zah (C := cfg) (sc := t_.ev) (.k0 t_.pf (by kernel_rfl))
noncomputable def zbR (x y : Int) : Option (Int) :=
 (zcI x).bind fun b =>
 (zcI y).bind fun b2 =>
 bif b then
  bif b2 then
   some 0
  else
   some (-1)
 else
  bif b2 then
   some 1
  else
   bif (decide ((x : Int) < y)) then
    some (-1)
   else
    bif (decide ((y : Int) < x)) then
     some 1
    else
     some 0
theorem zfn [DLaw] (x y r_ : Int) (h : zbR x y = some r_) : Runs Tryz.prog 92 [(.one (.pv (.int .u64 x))), (.one (.pv (.int .u64 y)))] [] [] (zi6 x y r_) := by
 unfold zbR at h
 obtain ⟨b, h1, h⟩ := zaf h
 obtain ⟨b2, h2, h⟩ := zaf h
 rcases zaj h with ⟨h3, h⟩ | ⟨h3, h⟩
 ·rcases zaj h with ⟨h4, h⟩ | ⟨h4, h⟩
  ·have h := zad h
   subst h
   have t_ := tR (zaK x _ h1) <| tR (zaK y _ h2) <| tT h3 <| tT h4 <| tN
   exact zah (C := cfg) (sc := t_.ev) (.k0 t_.pf (by kernel_rfl))
  ·have h := zad h
   subst h
   have t_ := tR (zaK x _ h1) <| tR (zaK y _ h2) <| tT h3 <| tF h4 <| tN
   exact zah (C := cfg) (sc := t_.ev) (.k0 t_.pf (by kernel_rfl))
 ·rcases zaj h with ⟨h4, h⟩ | ⟨h4, h⟩
  ·have h := zad h
   subst h
   have t_ := tR (zaK x _ h1) <| tR (zaK y _ h2) <| tF h3 <| tT h4 <| tN
   exact zah (C := cfg) (sc := t_.ev) (.k0 t_.pf (by kernel_rfl))
  ·rcases zaj h with ⟨h5, h⟩ | ⟨h5, h⟩
   ·have h := zad h
    subst h
    have t_ := tR (zaK x _ h1) <| tR (zaK y _ h2) <| tF h3 <| tF h4 <| tT h5 <| tN
    exact zah (C := cfg) (sc := t_.ev) (.k0 t_.pf (by kernel_rfl))
   ·rcases zaj h with ⟨h6, h⟩ | ⟨h6, h⟩
    ·have h := zad h
     subst h
     have t_ := tR (zaK x _ h1) <| tR (zaK y _ h2) <| tF h3 <| tF h4 <| tF h5 <| tT h6 <| tN
     exact zah (C := cfg) (sc := t_.ev) (.k0 t_.pf (by kernel_rfl))
    ·have h := zad h
     subst h
     have t_ := tR (zaK x _ h1) <| tR (zaK y _ h2) <| tF h3 <| tF h4 <| tF h5 <| tF h6 <| tN
     exact zah (C := cfg) (sc := t_.ev) (.k0 t_.pf (by kernel_rfl))
def zoS (vals : List Int) : Int → Res
 | r1 => ([(.one (.pv (.int .i64 r1)))], [], [])
def zgG (l : List Int) (n : Int) : Int → St
 | n2 => ⟨[(3, (.av (.one (.pv (.int .i64 0))))), (6, (.av (.one (.pv (.ints .i64 l false))))), (7, (.av (.one (.pv (.int .i64 n))))), (8, (.av (.one (.pv (.int .i64 n2)))))], [], []⟩
def zd9 (l : List Int) (n : Int) : (Int) ⊕ (Unit) → Ex × St
 | .inl r1 => (.ret, ⟨[(2, (.av (.one (.pv (.int .i64 r1)))))], [], []⟩)
 | .inr _ => ((.exit 0), ⟨[(3, (.av (.one (.pv (.int .i64 0)))))], [], []⟩)
noncomputable def zbn (l : List Int) (n : Int) : Int → Option ((Int) ⊕ ((Int) ⊕ (Unit)))
 | n2 =>
 bif (decide ((n2 : Int) < n)) then
  bif decide ((0 : Int) ≤ n2) && decide ((n2 : Int) < ((l).length : Int)) then
  bif (decide (((l.getD (n2).toNat 0) : Int) = 0)) then
   some (.inl (iadd .i64 n2 1))
  else
   some (.inr (.inl (l.getD (n2).toNat 0)))
  else none
 else
  some (.inr (.inr ()))
theorem zmI [DLaw] (l : List Int) (n n2 : Int) (z_ : (Int) ⊕ ((Int) ⊕ (Unit))) (h : zbn l n n2 = some z_) : zaP Tryz.prog cfg 90 0 (zax Tryz.prog 90 0) (zgG l n) (zd9 l n) n2 z_ := by
 rcases zaj h with ⟨h1, h⟩ | ⟨h1, h⟩
 ·obtain ⟨h2, h⟩ := zaq h
  rcases zaj h with ⟨h3, h⟩ | ⟨h3, h⟩
  ·have h := zad h
   subst h
   have t_ := tT h1 <| tO h2 <| tF (zan h3) <| tN
   exact ⟨t_.ev, zgG l n (iadd .i64 n2 1), .k0 t_.pf (by kernel_rfl), .same (by kernel_rfl)⟩
  ·have h := zad h
   subst h
   have t_ := tT h1 <| tO h2 <| tT (za7 h3) <| tN
   exact ⟨t_.ev, (zd9 l n (.inl (l.getD (n2).toNat 0))).2, .k0 t_.pf (by kernel_rfl), .same (by kernel_rfl)⟩
 ·have h := zad h
  subst h
  have t_ := tF h1 <| tN
  exact ⟨t_.ev, ⟨[(9, (.av (.one (.pv (.bool false))))), (3, (.av (.one (.pv (.int .i64 0))))), (6, (.av (.one (.pv (.ints .i64 l false))))), (7, (.av (.one (.pv (.int .i64 n))))), (8, (.av (.one (.pv (.int .i64 n2))))), (9, (.av (.one (.pv (.bool (decide ((n2 : Int) < n)))))))], [], []⟩, .k0 t_.pf (by kernel_rfl), ⟨⟨⟨_, rfl, .eq rfl⟩, trivial⟩, trivial, trivial⟩⟩
theorem zhv [DLaw] (l : List Int) (n s_ : Int) (r_ : (Int) ⊕ (Unit)) (h : runL (zbn l n) s_ = some r_) : zaT Tryz.prog (lEnv Tryz.prog cfg 90 0).nt 0 (.loop (zax Tryz.prog 90 0)) (zgG l n s_) (zd9 l n r_).1 (zd9 l n r_).2 :=
 zaJ h (zmI l n) (by intro r_; rcases r_ with r1 | _ <;> simp [zd9])
noncomputable def zhR (vals : List Int) : Option (Int) :=
 (runL (zbn vals ((vals).length : Int)) 0).bind fun z_ => match z_ with
 | .inl n =>
  some n
 | .inr _ =>
  some 0
theorem znp [DLaw] (vals : List Int) (r_ : Int) (h : zhR vals = some r_) : Runs Tryz.prog 90 [(.one (.pv (.ints .i64 vals false)))] [] [] (zoS vals r_) := by
 unfold zhR at h
 obtain ⟨z_, h1, h⟩ := zaf h
 rcases z_ with n | _
 ·have h := zad h
  subst h
  have t_ := tL (zhv vals ((vals).length : Int) _ _ h1) <| tN
  exact zah (C := cfg) (sc := t_.ev) (.k0 t_.pf (by kernel_rfl))
 ·have h := zad h
  subst h
  have t_ := tL (zhv vals ((vals).length : Int) _ _ h1) <| tN
  exact zah (C := cfg) (sc := t_.ev) (.k0 t_.pf (by kernel_rfl))
noncomputable def zfU (a a2 b b2 : Int) : Option (Int) :=
 (zcA a b).bind fun n =>
 (zbR a2 b2).bind fun n2 =>
 (zhR [n, n2]).bind fun n3 =>
 some n3
theorem zg3 [DLaw] (a a2 b b2 r_ : Int) (h : zfU a a2 b b2 = some r_) : Runs Tryz.prog 53 [(.agg [(.pv (.int .i64 a)), (.pv (.int .u64 a2))]), (.agg [(.pv (.int .i64 b)), (.pv (.int .u64 b2))])] [] [] (zoW a a2 b b2 r_) := by
 unfold zfU at h
 obtain ⟨n, h1, h⟩ := zaf h
 obtain ⟨n2, h2, h⟩ := zaf h
 obtain ⟨n3, h3, h⟩ := zaf h
 have h := zad h
 subst h
 have t_ := tR (zcP a b _ h1) <| tR (zcP a b _ h1) <| tR (zcP a b _ h1) <| tR (zcP a b _ h1) <| tR (zfn a2 b2 _ h2) <| tR (Runs.coe (as' := [(.one (.pv (.ints .i64 [n, n2] true)))]) (objs' := []) (rows' := []) (znp [n, n2] _ h3) ⟨.pv (.ints rfl), trivial⟩ trivial trivial) <| tN
 exact zah (C := cfg) (sc := t_.ev) (.k1 t_.pf (by kernel_rfl) (by kernel_rfl))
end Go.Proofs.YtjjcmgdgifcmgaaGreat
