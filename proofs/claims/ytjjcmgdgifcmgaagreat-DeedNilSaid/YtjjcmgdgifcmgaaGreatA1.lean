/- What functions compute, and that they do. -/
import Derived.Test.YtjjcmgdgifcmgaaGreatCfg
set_option linter.unusedVariables false
set_option linter.unusedSimpArgs false
set_option maxRecDepth 100000
namespace Go.Proofs.YtjjcmgdgifcmgaaGreat
open Go.Ev
theorem zlS  : evFn Tryz.prog cfg (zhO Tryz.prog) (zbK Tryz.prog (lEnv Tryz.prog cfg 93 0).nt 0) 93 [(.one (.pv .nils))] [] []
  [.br true] =
 some (([(.one (.pv .nils))], [], []), obs [
  true = true]) := by kernel_rfl
theorem zlR  : evFn Tryz.prog cfg (zhO Tryz.prog) (zbK Tryz.prog (lEnv Tryz.prog cfg 93 0).nt 0) 93 [(.one (.pv .emp))] [] []
  [.br false, .br true] =
 some (([(.one (.own 0 0 0 false))], [], [(.ints .u8 [])]), obs [
  false = false,
  true = true]) := by kernel_rfl
theorem zm8 (l : List Int) (t : Bool) : evFn Tryz.prog cfg (zhO Tryz.prog) (zbK Tryz.prog (lEnv Tryz.prog cfg 93 0).nt 0) 93 [(.one (.pv (.ints .u8 l t)))] [] []
  [.br false, .br false] =
 some (([(.one (.own 0 0 (([] ++ l)).length false))], [], [(.ints .u8 ([] ++ l))]), obs [
  (!(Nat.beq (l).length 0)) = true,
  false = false,
  (!(Nat.beq (l).length 0)) = true,
  (fits (([] ++ l)).length) = true]) := by kernel_rfl
theorem zlo {l : List Int} {t : Bool} (hl : fits l.length = true) : Runs Tryz.prog 93 [.one (.pv (.ints .u8 l t))] [] [] ([.one (.pv (.ints .u8 l false))], [], []) := by
 cases l with
 | nil =>
  have h1 : Runs Tryz.prog 93 [.one (.pv .nils)] [] [] ([.one (.pv (.ints .u8 [] false))], [], []) := by
   have h0 : Runs Tryz.prog 93 [.one (.pv .nils)] [] [] ([.one (.pv .nils)], [], []) := zag (Says.of zlS ⟨rfl, trivial⟩)
   refine h0.res rfl (Nat.zero_le _) fun y v hs hv => ⟨y, rfl, Ext.refl y, rfl, hs, zsz hv⟩
  have h2 : Runs Tryz.prog 93 [.one (.pv .emp)] [] [] ([.one (.pv (.ints .u8 [] false))], [], []) :=
   Runs.close0 (rw := .ints .u8 []) (zag (Says.of zlR ⟨rfl, rfl, trivial⟩)) rfl
  refine h1.split h2 fun x vals hr => ?_
  match vals, hr with
  | [v], hr =>
   rcases zsN hr.1 with h | h
   ·exact .inl ⟨h, trivial⟩
   ·exact .inr ⟨h, trivial⟩
 | cons a l =>
  have H := zm8 (a :: l) t
  rw [List.nil_append] at H
  exact Runs.close0 (rw := .ints .u8 (a :: l)) (zag (Says.of H ⟨by simp [Nat.beq], rfl, by simp [Nat.beq], hl, trivial⟩)) rfl
theorem zgs  : evFn Tryz.prog cfg (zhO Tryz.prog) (zbK Tryz.prog (lEnv Tryz.prog cfg 50 0).nt 0) 50 [(.one (.pv .nils))] [] []
  [.br true] =
 some (([(.one (.pv .nils))], [], []), obs [
  true = true]) := by kernel_rfl
theorem zgr  : evFn Tryz.prog cfg (zhO Tryz.prog) (zbK Tryz.prog (lEnv Tryz.prog cfg 50 0).nt 0) 50 [(.one (.pv .emp))] [] []
  [.br false, .br true] =
 some (([(.one (.own 0 0 0 false))], [], [(.recs 5 [])]), obs [
  false = false,
  true = true]) := by kernel_rfl
theorem zgI (l : List zaa) : evFn Tryz.prog cfg (zhO Tryz.prog) (zbK Tryz.prog (lEnv Tryz.prog cfg 50 0).nt 0) 50 [(.one (.pv (.recs 5 (List.map zaa.pv l) false)))] [] []
  [.br false, .br false] =
 some (([(.one (.own 0 0 ((([] : List (List PV)) ++ (List.map zaa.pv l))).length false))], [], [(.recs 5 (([] : List (List PV)) ++ (List.map zaa.pv l)))]), obs [
  (!(Nat.beq ((List.map zaa.pv l)).length 0)) = true,
  false = false,
  (!(Nat.beq ((List.map zaa.pv l)).length 0)) = true,
  (fits ((([] : List (List PV)) ++ (List.map zaa.pv l))).length) = true]) := by kernel_rfl
noncomputable def zbr (l : List zaa) : Option Unit := if fits l.length = true then some () else none
def zgt (l : List zaa) : Unit → Res
 | _ => ([(.one (.own 0 0 (List.map zaa.pv l).length false))], [], [(.recs 5 (List.map zaa.pv l))])
theorem zcT (l : List zaa) (r_ : Unit) (h : zbr l = some r_) : Runs Tryz.prog 50 [(.one (.pv (.recs 5 (List.map zaa.pv l) false)))] [] [] (zgt l r_) := by
 unfold zbr at h
 split at h
 ·rename_i hf
  cases l with
  | nil =>
   have h1 : Runs Tryz.prog 50 [.one (.pv .nils)] [] [] ([.one (.own 0 0 0 false)], [], [.recs 5 []]) := Runs.void (by decide) (zag (Says.of zgs ⟨rfl, trivial⟩))
   have h2 : Runs Tryz.prog 50 [.one (.pv .emp)] [] [] ([.one (.own 0 0 0 false)], [], [.recs 5 []]) := zag (Says.of zgr ⟨rfl, rfl, trivial⟩)
   refine h1.split h2 fun x vals hr => ?_
   match vals, hr with
   | [v], hr =>
    rcases zrI hr.1 with h | h
    ·exact .inl ⟨h, trivial⟩
    ·exact .inr ⟨h, trivial⟩
  | cons a l =>
   have H := zgI (a :: l)
   rw [List.nil_append] at H
   exact zag (Says.of H ⟨by simp [Nat.beq], rfl, by simp [Nat.beq], by simpa using hf, trivial⟩)
 ·cases h
def Tryz.del_ren : Go.Shelf.Ren := ⟨fun | 45 => 45 | n => n, fun | 22 => 64 | 23 => 48 | n => n, fun n => n⟩
theorem Tryz.delLays : Go.Proofs.DelLays Tryz.prog Tryz.del_ren 5 := {
 mixed := by kernel_rfl
 f45 := ⟨Tryz.f45.name, by decide, Tryz.func45.trans (congrArg some (by kernel_rfl))⟩
 t0 := by kernel_rfl
 a0 := Tryz.isAgg0
 z0 := Tryz.sizeOf0
 v0 := Tryz.zeroValue0
 t3 := by kernel_rfl
 a3 := Tryz.isAgg3
 z3 := Tryz.sizeOf3
 v3 := Tryz.zeroValue3
 t4 := by kernel_rfl
 a4 := Tryz.isAgg4
 z4 := Tryz.sizeOf4
 v4 := Tryz.zeroValue4
 t22 := by kernel_rfl
 a22 := Tryz.isAgg64
 z22 := Tryz.sizeOf64
 v22 := Tryz.zeroValue64
 z23 := Tryz.sizeOf48
 i23 := by kernel_rfl }
noncomputable def zb8 (i j : Int) (r : List zaa) : Option (Nat × List zaa) := if 0 ≤ i ∧ i ≤ j ∧ j ≤ (r.length : Int) ∧ r.length < 4611686018427387904 then some (r.length - (j.toNat - i.toNat), r.take i.toNat ++ (r.drop j.toNat ++ List.replicate (j.toNat - i.toNat) (zaa.mk 0 0 0 false .nil))) else none
def zea (i j : Int) (r : List zaa) : Nat × List zaa → Res
 | (k, r2) => ([(.one (.own 0 0 k false))], [], [(.recs 5 (List.map zaa.pv r2))])
theorem zdX (i j : Int) (r : List zaa) (r_ : Nat × List zaa) (h : zb8 i j r = some r_) : Runs Tryz.prog 45 [(.one (.own 0 0 ((List.map zaa.pv r)).length false)), (.one (.pv (.int .i64 i))), (.one (.pv (.int .i64 j)))] [] [(.recs 5 (List.map zaa.pv r))] (zea i j r r_) := by
 unfold zb8 at h
 split at h
 ·rename_i hc
  obtain ⟨h1, h2, h3, h4⟩ := hc
  cases h
  obtain ⟨a, rfl⟩ := Int.eq_ofNat_of_zero_le h1
  obtain ⟨b, rfl⟩ := Int.eq_ofNat_of_zero_le (Int.le_trans h1 h2)
  have h0 := Runs.delete Tryz.delLays (by kernel_rfl) (by decide) (zaa.pv (zaa.mk 0 0 0 false .nil)) rfl (ti := (zer Tryz.prog 48).get (by kernel_rfl)) (by kernel_rfl) (by kernel_rfl) (List.map zaa.pv r) (by rw [List.length_map]; exact h4) a b (by omega) (by rw [List.length_map]; omega)
  have e_ : zjZ (List.map zaa.pv r) (zaa.pv (zaa.mk 0 0 0 false .nil)) a b = List.map zaa.pv (r.take a ++ (r.drop b ++ List.replicate (b - a) (zaa.mk 0 0 0 false .nil))) := by simp [zjZ]
  rw [e_] at h0
  simp only [zea, Int.toNat_natCast]
  rw [List.length_map] at h0 ⊢
  exact h0
 ·cases h
def znc (a a2 b b2 : Int) : Int → Res
 | r1 => ([(.one (.pv (.int .i64 r1)))], [], [])
def zjs (x y : Int) : Int → Res
 | r1 => ([(.one (.pv (.int .i64 r1)))], [], [])
def zkI (x : Int) : Bool → Res
 | r1 => ([(.one (.pv (.bool r1)))], [], [])
noncomputable def zed (x : Int) : Option (Bool) :=
 some (!(decide ((x : Int) = x)))
theorem zbb [DLaw] (x : Int) (r_ : Bool) (h : zed x = some r_) : Runs Tryz.prog 123 [(.one (.pv (.int .i64 x)))] [] [] (zkI x r_) := by
 unfold zed at h
 have h := zaf h
 subst h
 have t_ := tN
 exact zag (C := cfg) (sc := t_.ev) (.k0 t_.pf (by kernel_rfl))
noncomputable def zd0 (x y : Int) : Option (Int) :=
 (zed x).bind fun b =>
 (zed y).bind fun b2 =>
 bif b then
  bif b2 then
   some 0
  else
   some (-1)
 else
  bif b2 then
   some 1
  else
   bif (decide ((x : Int) < y)) then
    some (-1)
   else
    bif (decide ((y : Int) < x)) then
     some 1
    else
     some 0
theorem zdj [DLaw] (x y r_ : Int) (h : zd0 x y = some r_) : Runs Tryz.prog 91 [(.one (.pv (.int .i64 x))), (.one (.pv (.int .i64 y)))] [] [] (zjs x y r_) := by
 unfold zd0 at h
 obtain ⟨b, h1, h⟩ := zae h
 obtain ⟨b2, h2, h⟩ := zae h
 rcases zaj h with ⟨h3, h⟩ | ⟨h3, h⟩
 ·rcases zaj h with ⟨h4, h⟩ | ⟨h4, h⟩
  ·have h := zaf h
   subst h
   have t_ := tR (zbb x _ h1) <| tR (zbb y _ h2) <| tT h3 <| tT h4 <| tN
   exact zag (C := cfg) (sc := t_.ev) (.k0 t_.pf (by kernel_rfl))
  ·have h := zaf h
   subst h
   have t_ := tR (zbb x _ h1) <| tR (zbb y _ h2) <| tT h3 <| tF h4 <| tN
   exact zag (C := cfg) (sc := t_.ev) (.k0 t_.pf (by kernel_rfl))
 ·rcases zaj h with ⟨h4, h⟩ | ⟨h4, h⟩
  ·have h := zaf h
   subst h
   have t_ := tR (zbb x _ h1) <| tR (zbb y _ h2) <| tF h3 <| tT h4 <| tN
   exact zag (C := cfg) (sc := t_.ev) (.k0 t_.pf (by kernel_rfl))
  ·rcases zaj h with ⟨h5, h⟩ | ⟨h5, h⟩
   ·have h := zaf h
    subst h
    have t_ := tR (zbb x _ h1) <| tR (zbb y _ h2) <| tF h3 <| tF h4 <| tT h5 <| tN
    exact zag (C := cfg) (sc := t_.ev) (.k0 t_.pf (by kernel_rfl))
   ·rcases zaj h with ⟨h6, h⟩ | ⟨h6, h⟩
    ·have h := zaf h
     subst h
     have t_ := tR (zbb x _ h1) <| tR (zbb y _ h2) <| tF h3 <| tF h4 <| tF h5 <| tT h6 <| tN
     exact zag (C := cfg) (sc := t_.ev) (.k0 t_.pf (by kernel_rfl))
    ·have h := zaf h
     subst h
     have t_ := tR (zbb x _ h1) <| tR (zbb y _ h2) <| tF h3 <| tF h4 <| tF h5 <| tF h6 <| tN
     exact zag (C := cfg) (sc := t_.ev) (.k0 t_.pf (by kernel_rfl))
def zhS (x y : Int) : Int → Res
 | r1 => ([(.one (.pv (.int .i64 r1)))], [], [])
def zi5 (x : Int) : Bool → Res
 | r1 => ([(.one (.pv (.bool r1)))], [], [])
noncomputable def zc4 (x : Int) : Option (Bool) :=
 some (!(decide ((x : Int) = x)))
theorem zaY [DLaw] (x : Int) (r_ : Bool) (h : zc4 x = some r_) : Runs Tryz.prog 124 [(.one (.pv (.int .u64 x)))] [] [] (zi5 x r_) := by
 unfold zc4 at h
 have h := zaf h
 subst h
 have t_ := tN
 exact zag (C := cfg) (sc := t_.ev) (.k0 t_.pf (by kernel_rfl))
noncomputable def zc7 (x y : Int) : Option (Int) :=
 (zc4 x).bind fun b =>
 (zc4 y).bind fun b2 =>
 bif b then
  bif b2 then
   some 0
  else
   some (-1)
 else
  bif b2 then
   some 1
  else
   bif (decide ((x : Int) < y)) then
    some (-1)
   else
    bif (decide ((y : Int) < x)) then
     some 1
    else
     some 0
theorem zhj [DLaw] (x y r_ : Int) (h : zc7 x y = some r_) : Runs Tryz.prog 92 [(.one (.pv (.int .u64 x))), (.one (.pv (.int .u64 y)))] [] [] (zhS x y r_) := by
 unfold zc7 at h
 obtain ⟨b, h1, h⟩ := zae h
 obtain ⟨b2, h2, h⟩ := zae h
 rcases zaj h with ⟨h3, h⟩ | ⟨h3, h⟩
 ·rcases zaj h with ⟨h4, h⟩ | ⟨h4, h⟩
  ·have h := zaf h
   subst h
   have t_ := tR (zaY x _ h1) <| tR (zaY y _ h2) <| tT h3 <| tT h4 <| tN
   exact zag (C := cfg) (sc := t_.ev) (.k0 t_.pf (by kernel_rfl))
  ·have h := zaf h
   subst h
   have t_ := tR (zaY x _ h1) <| tR (zaY y _ h2) <| tT h3 <| tF h4 <| tN
   exact zag (C := cfg) (sc := t_.ev) (.k0 t_.pf (by kernel_rfl))
 ·rcases zaj h with ⟨h4, h⟩ | ⟨h4, h⟩
  ·have h := zaf h
   subst h
   have t_ := tR (zaY x _ h1) <| tR (zaY y _ h2) <| tF h3 <| tT h4 <| tN
   exact zag (C := cfg) (sc := t_.ev) (.k0 t_.pf (by kernel_rfl))
  ·rcases zaj h with ⟨h5, h⟩ | ⟨h5, h⟩
   ·have h := zaf h
    subst h
    have t_ := tR (zaY x _ h1) <| tR (zaY y _ h2) <| tF h3 <| tF h4 <| tT h5 <| tN
    exact zag (C := cfg) (sc := t_.ev) (.k0 t_.pf (by kernel_rfl))
   ·rcases zaj h with ⟨h6, h⟩ | ⟨h6, h⟩
    ·have h := zaf h
     subst h
     have t_ := tR (zaY x _ h1) <| tR (zaY y _ h2) <| tF h3 <| tF h4 <| tF h5 <| tT h6 <| tN
     exact zag (C := cfg) (sc := t_.ev) (.k0 t_.pf (by kernel_rfl))
    ·have h := zaf h
     subst h
     have t_ := tR (zaY x _ h1) <| tR (zaY y _ h2) <| tF h3 <| tF h4 <| tF h5 <| tF h6 <| tN
     exact zag (C := cfg) (sc := t_.ev) (.k0 t_.pf (by kernel_rfl))
def zm9 (vals : List Int) : Int → Res
 | r1 => ([(.one (.pv (.int .i64 r1)))], [], [])
def zfD (l : List Int) (n : Int) : Int → St
 | n2 => ⟨[(3, (.av (.one (.pv (.int .i64 0))))), (6, (.av (.one (.pv (.ints .i64 l false))))), (7, (.av (.one (.pv (.int .i64 n))))), (8, (.av (.one (.pv (.int .i64 n2)))))], [], []⟩
def zdJ (l : List Int) (n : Int) : (Int) ⊕ (Unit) → Ex × St
 | .inl r1 => (.ret, ⟨[(2, (.av (.one (.pv (.int .i64 r1)))))], [], []⟩)
 | .inr _ => ((.exit 0), ⟨[(3, (.av (.one (.pv (.int .i64 0)))))], [], []⟩)
noncomputable def zbJ (l : List Int) (n : Int) : Int → Option ((Int) ⊕ ((Int) ⊕ (Unit)))
 | n2 =>
 bif (decide ((n2 : Int) < n)) then
  bif decide ((0 : Int) ≤ n2) && decide ((n2 : Int) < ((l).length : Int)) then
  bif (decide (((l.getD (n2).toNat 0) : Int) = 0)) then
   some (.inl (iadd .i64 n2 1))
  else
   some (.inr (.inl (l.getD (n2).toNat 0)))
  else none
 else
  some (.inr (.inr ()))
theorem zlp [DLaw] (l : List Int) (n n2 : Int) (z_ : (Int) ⊕ ((Int) ⊕ (Unit))) (h : zbJ l n n2 = some z_) : zbQ Tryz.prog cfg 90 0 (zbe Tryz.prog 90 0) (zfD l n) (zdJ l n) n2 z_ := by
 rcases zaj h with ⟨h1, h⟩ | ⟨h1, h⟩
 ·obtain ⟨h2, h⟩ := zar h
  rcases zaj h with ⟨h3, h⟩ | ⟨h3, h⟩
  ·have h := zaf h
   subst h
   have t_ := tT h1 <| tO h2 <| tF (zaz h3) <| tN
   exact ⟨t_.ev, zfD l n (iadd .i64 n2 1), .k0 t_.pf (by kernel_rfl), .same (by kernel_rfl)⟩
  ·have h := zaf h
   subst h
   have t_ := tT h1 <| tO h2 <| tT (zbc h3) <| tN
   exact ⟨t_.ev, (zdJ l n (.inl (l.getD (n2).toNat 0))).2, .k0 t_.pf (by kernel_rfl), .same (by kernel_rfl)⟩
 ·have h := zaf h
  subst h
  have t_ := tF h1 <| tN
  exact ⟨t_.ev, ⟨[(9, (.av (.one (.pv (.bool false))))), (3, (.av (.one (.pv (.int .i64 0))))), (6, (.av (.one (.pv (.ints .i64 l false))))), (7, (.av (.one (.pv (.int .i64 n))))), (8, (.av (.one (.pv (.int .i64 n2))))), (9, (.av (.one (.pv (.bool (decide ((n2 : Int) < n)))))))], [], []⟩, .k0 t_.pf (by kernel_rfl), ⟨⟨⟨_, rfl, .eq rfl⟩, trivial⟩, trivial, trivial⟩⟩
theorem zgv [DLaw] (l : List Int) (n s_ : Int) (r_ : (Int) ⊕ (Unit)) (h : runL (zbJ l n) s_ = some r_) : zbK Tryz.prog (lEnv Tryz.prog cfg 90 0).nt 0 (.loop (zbe Tryz.prog 90 0)) (zfD l n s_) (zdJ l n r_).1 (zdJ l n r_).2 :=
 zbA h (zlp l n) (by intro r_; rcases r_ with r1 | _ <;> simp [zdJ])
noncomputable def zgO (vals : List Int) : Option (Int) :=
 (runL (zbJ vals ((vals).length : Int)) 0).bind fun z_ => match z_ with
 | .inl n =>
  some n
 | .inr _ =>
  some 0
theorem zlT [DLaw] (vals : List Int) (r_ : Int) (h : zgO vals = some r_) : Runs Tryz.prog 90 [(.one (.pv (.ints .i64 vals false)))] [] [] (zm9 vals r_) := by
 unfold zgO at h
 obtain ⟨z_, h1, h⟩ := zae h
 rcases z_ with n | _
 ·have h := zaf h
  subst h
  have t_ := tL (zgv vals ((vals).length : Int) _ _ h1) <| tN
  exact zag (C := cfg) (sc := t_.ev) (.k0 t_.pf (by kernel_rfl))
 ·have h := zaf h
  subst h
  have t_ := tL (zgv vals ((vals).length : Int) _ _ h1) <| tN
  exact zag (C := cfg) (sc := t_.ev) (.k0 t_.pf (by kernel_rfl))
noncomputable def ziR (a a2 b b2 : Int) : Option (Int) :=
 (zd0 a b).bind fun n =>
 (zc7 a2 b2).bind fun n2 =>
 (zgO [n, n2]).bind fun n3 =>
 some n3
theorem zlW [DLaw] (a a2 b b2 r_ : Int) (h : ziR a a2 b b2 = some r_) : Runs Tryz.prog 53 [(.agg [(.pv (.int .i64 a)), (.pv (.int .u64 a2))]), (.agg [(.pv (.int .i64 b)), (.pv (.int .u64 b2))])] [] [] (znc a a2 b b2 r_) := by
 unfold ziR at h
 obtain ⟨n, h1, h⟩ := zae h
 obtain ⟨n2, h2, h⟩ := zae h
 obtain ⟨n3, h3, h⟩ := zae h
 have h := zaf h
 subst h
 have t_ := tR (zdj a b _ h1) <| tR (zdj a b _ h1) <| tR (zdj a b _ h1) <| tR (zdj a b _ h1) <| tR (zhj a2 b2 _ h2) <| tR (Runs.coe (as' := [(.one (.pv (.ints .i64 [n, n2] true)))]) (objs' := []) (rows' := []) (zlT [n, n2] _ h3) ⟨.pv (.ints rfl), trivial⟩ trivial trivial) <| tN
 exact zag (C := cfg) (sc := t_.ev) (.k1 t_.pf (by kernel_rfl) (by kernel_rfl))
end Go.Proofs.YtjjcmgdgifcmgaaGreat
