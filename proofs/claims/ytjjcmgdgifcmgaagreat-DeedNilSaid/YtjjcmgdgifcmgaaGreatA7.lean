/- What functions compute, and that they do. -/
import Derived.Test.YtjjcmgdgifcmgaaGreatA6
set_option linter.unusedVariables false
set_option linter.unusedSimpArgs false
set_option maxRecDepth 100000
namespace Go.Proofs.YtjjcmgdgifcmgaaGreat
open Go.Ev
def zc8 (self : Int) (share : List Int) (r : List zao) (n n2 : Int) (r2 : List zaa) (m : List (Int × Int)) (m2 : List ((Int × Int) × Int)) (n3 : Int) (r3 : List zab) (l : List Int) (r4 : List zac) (n4 : Int) (m3 : List (Int × Int)) (m4 : List ((Int × Int) × Int)) (n5 : Int) (r5 : List zab) (l2 : List Int) (r6 : List zac) (r7 : List zaa) : (Unit) ⊕ (Int × Int × List zaa × List (Int × Int) × List ((Int × Int) × Int) × Int × List zab × List Int × List zac) → St
 | .inl _ => ⟨[(0, (.av (.one (.pv (.int .i64 self))))), (3, (.av (.one (.pv (.ints .u8 share false))))), (9, (.av (.one (.ref 0 0)))), (10, (.av (.one (.ref 3 0)))), (13, (.av (.one (.ref 4 0)))), (14, (.av (.one (.ref 7 0)))), (50, (.av (.one (.pv (.recs 5 (List.map zao.pv r) false))))), (51, (.av (.one (.pv (.int .i64 n))))), (52, (.av (.one (.pv (.int .i64 0)))))], [(0, [(.pv (.int .i64 3)), (.pv (.int .u64 n2)), (.pv (.recs 5 (List.map zaa.pv r2) false)), (.mp 1), (.mp 2)]), (1, [(.maph (.int .i64) false (List.map M_int_int.pv m) [])]), (2, [(.maph (.st [.i64, .u64]) false (List.map M_deed_Mark_int.pv m2) [])]), (3, [(.pv (.int .i64 3)), (.pv (.int .u64 n3)), (.pv (.recs 4 (List.map zab.pv r3) false)), (.pv (.ints .i64 l false)), (.pv (.recs 2 (List.map zac.pv r4) false))]), (4, [(.pv (.int .i64 3)), (.pv (.int .u64 n4)), (.own 0 0 ((List.map zaa.pv r7)).length false), (.mp 5), (.mp 6)]), (5, [(.maph (.int .i64) false (List.map M_int_int.pv m3) [])]), (6, [(.maph (.st [.i64, .u64]) false (List.map M_deed_Mark_int.pv m4) [])]), (7, [(.pv (.int .i64 3)), (.pv (.int .u64 n5)), (.pv (.recs 4 (List.map zab.pv r5) false)), (.pv (.ints .i64 l2 false)), (.pv (.recs 2 (List.map zac.pv r6) false))])], [(0, (.live (.recs 5 (List.map zaa.pv r7))))]⟩
 | .inr (n8, n6, r8, m5, m6, n7, r9, l3, r10) => ⟨[(0, (.av (.one (.pv (.int .i64 self))))), (3, (.av (.one (.pv (.ints .u8 share false))))), (9, (.av (.one (.ref 0 0)))), (10, (.av (.one (.ref 3 0)))), (13, (.av (.one (.ref 4 0)))), (14, (.av (.one (.ref 7 0)))), (50, (.av (.one (.pv (.recs 5 (List.map zao.pv r) false))))), (51, (.av (.one (.pv (.int .i64 n))))), (52, (.av (.one (.pv (.int .i64 n8)))))], [(0, [(.pv (.int .i64 3)), (.pv (.int .u64 n2)), (.pv (.recs 5 (List.map zaa.pv r2) false)), (.mp 1), (.mp 2)]), (1, [(.maph (.int .i64) false (List.map M_int_int.pv m) [])]), (2, [(.maph (.st [.i64, .u64]) false (List.map M_deed_Mark_int.pv m2) [])]), (3, [(.pv (.int .i64 3)), (.pv (.int .u64 n3)), (.pv (.recs 4 (List.map zab.pv r3) false)), (.pv (.ints .i64 l false)), (.pv (.recs 2 (List.map zac.pv r4) false))]), (4, [(.pv (.int .i64 3)), (.pv (.int .u64 n6)), (.pv (.recs 5 (List.map zaa.pv r8) false)), (.mp 5), (.mp 6)]), (5, [(.maph (.int .i64) false (List.map M_int_int.pv m5) [])]), (6, [(.maph (.st [.i64, .u64]) false (List.map M_deed_Mark_int.pv m6) [])]), (7, [(.pv (.int .i64 3)), (.pv (.int .u64 n7)), (.pv (.recs 4 (List.map zab.pv r9) false)), (.pv (.ints .i64 l3 false)), (.pv (.recs 2 (List.map zac.pv r10) false))])], []⟩
def zcy (self : Int) (share : List Int) (r : List zao) (n n2 : Int) (r2 : List zaa) (m : List (Int × Int)) (m2 : List ((Int × Int) × Int)) (n3 : Int) (r3 : List zab) (l : List Int) (r4 : List zac) (n4 : Int) (m3 : List (Int × Int)) (m4 : List ((Int × Int) × Int)) (n5 : Int) (r5 : List zab) (l2 : List Int) (r6 : List zac) (r7 : List zaa) : (Unit) ⊕ ((Unit) ⊕ (Int × List zaa × List (Int × Int) × List ((Int × Int) × Int) × Int × List zab × List Int × List zac)) → Ex × St
 | .inl _ => (.ret, ⟨[(8, (.av (.one (.pv (.bool false)))))], [], []⟩)
 | .inr (.inl _) => ((.exit 2), ⟨[(0, (.av (.one (.pv (.int .i64 self))))), (3, (.av (.one (.pv (.ints .u8 share false))))), (9, (.av (.one (.ref 0 0)))), (10, (.av (.one (.ref 3 0)))), (13, (.av (.one (.ref 4 0)))), (14, (.av (.one (.ref 7 0))))], [(0, [(.pv (.int .i64 3)), (.pv (.int .u64 n2)), (.pv (.recs 5 (List.map zaa.pv r2) false)), (.mp 1), (.mp 2)]), (1, [(.maph (.int .i64) false (List.map M_int_int.pv m) [])]), (2, [(.maph (.st [.i64, .u64]) false (List.map M_deed_Mark_int.pv m2) [])]), (3, [(.pv (.int .i64 3)), (.pv (.int .u64 n3)), (.pv (.recs 4 (List.map zab.pv r3) false)), (.pv (.ints .i64 l false)), (.pv (.recs 2 (List.map zac.pv r4) false))]), (4, [(.pv (.int .i64 3)), (.pv (.int .u64 n4)), (.own 0 0 ((List.map zaa.pv r7)).length false), (.mp 5), (.mp 6)]), (5, [(.maph (.int .i64) false (List.map M_int_int.pv m3) [])]), (6, [(.maph (.st [.i64, .u64]) false (List.map M_deed_Mark_int.pv m4) [])]), (7, [(.pv (.int .i64 3)), (.pv (.int .u64 n5)), (.pv (.recs 4 (List.map zab.pv r5) false)), (.pv (.ints .i64 l2 false)), (.pv (.recs 2 (List.map zac.pv r6) false))])], [(0, (.live (.recs 5 (List.map zaa.pv r7))))]⟩)
 | .inr (.inr (r1, r8, r9, r10, r11, r12, r13, r14)) => ((.exit 2), ⟨[(0, (.av (.one (.pv (.int .i64 self))))), (3, (.av (.one (.pv (.ints .u8 share false))))), (9, (.av (.one (.ref 0 0)))), (10, (.av (.one (.ref 3 0)))), (13, (.av (.one (.ref 4 0)))), (14, (.av (.one (.ref 7 0))))], [(0, [(.pv (.int .i64 3)), (.pv (.int .u64 n2)), (.pv (.recs 5 (List.map zaa.pv r2) false)), (.mp 1), (.mp 2)]), (1, [(.maph (.int .i64) false (List.map M_int_int.pv m) [])]), (2, [(.maph (.st [.i64, .u64]) false (List.map M_deed_Mark_int.pv m2) [])]), (3, [(.pv (.int .i64 3)), (.pv (.int .u64 n3)), (.pv (.recs 4 (List.map zab.pv r3) false)), (.pv (.ints .i64 l false)), (.pv (.recs 2 (List.map zac.pv r4) false))]), (4, [(.pv (.int .i64 3)), (.pv (.int .u64 r1)), (.pv (.recs 5 (List.map zaa.pv r8) false)), (.mp 5), (.mp 6)]), (5, [(.maph (.int .i64) false (List.map M_int_int.pv r9) [])]), (6, [(.maph (.st [.i64, .u64]) false (List.map M_deed_Mark_int.pv r10) [])]), (7, [(.pv (.int .i64 3)), (.pv (.int .u64 r11)), (.pv (.recs 4 (List.map zab.pv r12) false)), (.pv (.ints .i64 r13 false)), (.pv (.recs 2 (List.map zac.pv r14) false))])], []⟩)
noncomputable def zaX (N : Nat) (self : Int) (share : List Int) (r : List zao) (n n2 : Int) (r2 : List zaa) (m : List (Int × Int)) (m2 : List ((Int × Int) × Int)) (n3 : Int) (r3 : List zab) (l : List Int) (r4 : List zac) (n4 : Int) (m3 : List (Int × Int)) (m4 : List ((Int × Int) × Int)) (n5 : Int) (r5 : List zab) (l2 : List Int) (r6 : List zac) (r7 : List zaa) : (Unit) ⊕ (Int × Int × List zaa × List (Int × Int) × List ((Int × Int) × Int) × Int × List zab × List Int × List zac) → Option (((Unit) ⊕ (Int × Int × List zaa × List (Int × Int) × List ((Int × Int) × Int) × Int × List zab × List Int × List zac)) ⊕ ((Unit) ⊕ ((Unit) ⊕ (Int × List zaa × List (Int × Int) × List ((Int × Int) × Int) × Int × List zab × List Int × List zac))))
 | .inl _ =>
  bif (decide ((0 : Int) < n)) then
   bif decide ((0 : Int) ≤ 0) && decide ((0 : Int) < (((List.map zao.pv r)).length : Int)) then
   (r[0]?).bind fun e_ => match e_ with
   | .mk n6 n7 n8 n9 l_ =>
   (ziA N n6 n7 n8 n9 l_ 3 n4 m3 m4 3 n5 r5 l2 r6 r7).bind fun (b, n10, r8, m_, m_2, n11, r9, l_2, r10) =>
   bif b then
    some (.inl (.inr (1, n10, r8, m_, m_2, n11, r9, l_2, r10)))
   else
    some (.inr (.inl ()))
   else none
  else
   some (.inr (.inr (.inl ())))
 | .inr (n8, n6, r8, m5, m6, n7, r9, l3, r10) =>
  bif (decide ((n8 : Int) < n)) then
   bif decide ((0 : Int) ≤ n8) && decide ((n8 : Int) < (((List.map zao.pv r)).length : Int)) then
   (r[(n8).toNat]?).bind fun e_ => match e_ with
   | .mk n9 n10 n11 n12 l_ =>
   bif (decide ((n8 : Int) < 15)) then
    (zfw N n9 n10 n11 n12 l_ 3 n6 r8 m5 m6 3 n7 r9 l3 r10).bind fun (b, n13, r11, m_, m_2, n14, r12, l_2, r13) =>
    bif b then
     some (.inl (.inr ((iadd .i64 n8 1), n13, r11, m_, m_2, n14, r12, l_2, r13)))
    else
     some (.inr (.inl ()))
   else
    some (.inl (.inr ((iadd .i64 n8 1), n6, r8, m5, m6, n7, r9, l3, r10)))
   else none
  else
   some (.inr (.inr (.inr (n6, r8, m5, m6, n7, r9, l3, r10))))
theorem zj8 (N : Nat) (self : Int) (share : List Int) (r : List zao) (n n2 : Int) (r2 : List zaa) (m : List (Int × Int)) (m2 : List ((Int × Int) × Int)) (n3 : Int) (r3 : List zab) (l : List Int) (r4 : List zac) (n4 : Int) (m3 : List (Int × Int)) (m4 : List ((Int × Int) × Int)) (n5 : Int) (r5 : List zab) (l2 : List Int) (r6 : List zac) (r7 : List zaa) (s_ : (Unit) ⊕ (Int × Int × List zaa × List (Int × Int) × List ((Int × Int) × Int) × Int × List zab × List Int × List zac)) (z_ : ((Unit) ⊕ (Int × Int × List zaa × List (Int × Int) × List ((Int × Int) × Int) × Int × List zab × List Int × List zac)) ⊕ ((Unit) ⊕ ((Unit) ⊕ (Int × List zaa × List (Int × Int) × List ((Int × Int) × Int) × Int × List zab × List Int × List zac)))) (h : zaX N self share r n n2 r2 m m2 n3 r3 l r4 n4 m3 m4 n5 r5 l2 r6 r7 s_ = some z_) : zbQ Tryz.prog cfg 4 0 (zbe Tryz.prog 4 1) (zc8 self share r n n2 r2 m m2 n3 r3 l r4 n4 m3 m4 n5 r5 l2 r6 r7) (zcy self share r n n2 r2 m m2 n3 r3 l r4 n4 m3 m4 n5 r5 l2 r6 r7) s_ z_ := by
 rcases s_ with _ | ⟨n8, n6, r8, m5, m6, n7, r9, l3, r10⟩
 ·rcases zaj h with ⟨h1, h⟩ | ⟨h1, h⟩
  ·obtain ⟨h2, h⟩ := zar h
   obtain ⟨⟨n6, n7, n8, n9, l_⟩, h3, h⟩ := zae h
   obtain ⟨⟨b, n10, r8, m_, m_2, n11, r9, l_2, r10⟩, h4, h⟩ := zae h
   have q_4 := (zni N n6 n7 n8 n9 l_ 3 n4 m3 m4 3 n5 r5 l2 r6 r7 _ h4)
   rcases zaj h with ⟨h5, h⟩ | ⟨h5, h⟩
   ·have h := zaf h
    subst h
    have t_ := tT h1 <| tO h2 <| tE (.el [(.int .u8 n6), (.int .i64 n7), (.int .i64 n8), (.int .u64 n9), (.ints .u8 l_ false)]) <| tO (zdi (f := zao.pv) h3) <| tT (rfl : true = true) <| tR q_4 <| tF (zaz h5) <| tN
    exact ⟨t_.ev, zc8 self share r n n2 r2 m m2 n3 r3 l r4 n4 m3 m4 n5 r5 l2 r6 r7 (.inr (1, n10, r8, m_, m_2, n11, r9, l_2, r10)), .k0 t_.pf (by kernel_rfl), .same (by kernel_rfl)⟩
   ·have h := zaf h
    subst h
    have t_ := tT h1 <| tO h2 <| tE (.el [(.int .u8 n6), (.int .i64 n7), (.int .i64 n8), (.int .u64 n9), (.ints .u8 l_ false)]) <| tO (zdi (f := zao.pv) h3) <| tT (rfl : true = true) <| tR q_4 <| tT (zbc h5) <| tN
    exact ⟨t_.ev, (zcy self share r n n2 r2 m m2 n3 r3 l r4 n4 m3 m4 n5 r5 l2 r6 r7 (.inl ())).2, .k0 t_.pf (by kernel_rfl), .same (by kernel_rfl)⟩
  ·have h := zaf h
   subst h
   have t_ := tF h1 <| tN
   exact ⟨t_.ev, ⟨[(53, (.av (.one (.pv (.bool false))))), (0, (.av (.one (.pv (.int .i64 self))))), (3, (.av (.one (.pv (.ints .u8 share false))))), (9, (.av (.one (.ref 0 0)))), (10, (.av (.one (.ref 3 0)))), (13, (.av (.one (.ref 4 0)))), (14, (.av (.one (.ref 7 0)))), (50, (.av (.one (.pv (.recs 5 (List.map zao.pv r) false))))), (51, (.av (.one (.pv (.int .i64 n))))), (52, (.av (.one (.pv (.int .i64 0))))), (53, (.av (.one (.pv (.bool (decide ((0 : Int) < n)))))))], [(0, [(.pv (.int .i64 3)), (.pv (.int .u64 n2)), (.pv (.recs 5 (List.map zaa.pv r2) false)), (.mp 1), (.mp 2)]), (1, [(.maph (.int .i64) false (List.map M_int_int.pv m) [])]), (2, [(.maph (.st [.i64, .u64]) false (List.map M_deed_Mark_int.pv m2) [])]), (3, [(.pv (.int .i64 3)), (.pv (.int .u64 n3)), (.pv (.recs 4 (List.map zab.pv r3) false)), (.pv (.ints .i64 l false)), (.pv (.recs 2 (List.map zac.pv r4) false))]), (4, [(.pv (.int .i64 3)), (.pv (.int .u64 n4)), (.own 0 0 ((List.map zaa.pv r7)).length false), (.mp 5), (.mp 6)]), (5, [(.maph (.int .i64) false (List.map M_int_int.pv m3) [])]), (6, [(.maph (.st [.i64, .u64]) false (List.map M_deed_Mark_int.pv m4) [])]), (7, [(.pv (.int .i64 3)), (.pv (.int .u64 n5)), (.pv (.recs 4 (List.map zab.pv r5) false)), (.pv (.ints .i64 l2 false)), (.pv (.recs 2 (List.map zac.pv r6) false))])], [(0, (.live (.recs 5 (List.map zaa.pv r7))))]⟩, .k0 t_.pf (by kernel_rfl), ⟨⟨⟨_, rfl, .eq rfl⟩, ⟨_, rfl, .eq rfl⟩, ⟨_, rfl, .eq rfl⟩, ⟨_, rfl, .eq rfl⟩, ⟨_, rfl, .eq rfl⟩, ⟨_, rfl, .eq rfl⟩, trivial⟩, ⟨⟨rfl, ⟨.eq rfl, .eq rfl, .eq rfl, .eq rfl, .eq rfl, trivial⟩⟩, ⟨rfl, ⟨.eq rfl, trivial⟩⟩, ⟨rfl, ⟨.eq rfl, trivial⟩⟩, ⟨rfl, ⟨.eq rfl, .eq rfl, .eq rfl, .eq rfl, .eq rfl, trivial⟩⟩, ⟨rfl, ⟨.eq rfl, .eq rfl, .eq rfl, .eq rfl, .eq rfl, trivial⟩⟩, ⟨rfl, ⟨.eq rfl, trivial⟩⟩, ⟨rfl, ⟨.eq rfl, trivial⟩⟩, ⟨rfl, ⟨.eq rfl, .eq rfl, .eq rfl, .eq rfl, .eq rfl, trivial⟩⟩, trivial⟩, ⟨⟨rfl, .eq rfl⟩, trivial⟩⟩⟩
 ·rcases zaj h with ⟨h1, h⟩ | ⟨h1, h⟩
  ·obtain ⟨h2, h⟩ := zar h
   obtain ⟨⟨n9, n10, n11, n12, l_⟩, h3, h⟩ := zae h
   rcases zaj h with ⟨h4, h⟩ | ⟨h4, h⟩
   ·obtain ⟨⟨b, n13, r11, m_, m_2, n14, r12, l_2, r13⟩, h5, h⟩ := zae h
    have q_5 := (zje N n9 n10 n11 n12 l_ 3 n6 r8 m5 m6 3 n7 r9 l3 r10 _ h5)
    rcases zaj h with ⟨h6, h⟩ | ⟨h6, h⟩
    ·have h := zaf h
     subst h
     have t_ := tT h1 <| tO h2 <| tE (.el [(.int .u8 n9), (.int .i64 n10), (.int .i64 n11), (.int .u64 n12), (.ints .u8 l_ false)]) <| tO (zdi (f := zao.pv) h3) <| tT h4 <| tR q_5 <| tF (zaz h6) <| tN
     exact ⟨t_.ev, zc8 self share r n n2 r2 m m2 n3 r3 l r4 n4 m3 m4 n5 r5 l2 r6 r7 (.inr ((iadd .i64 n8 1), n13, r11, m_, m_2, n14, r12, l_2, r13)), .k0 t_.pf (by kernel_rfl), .same (by kernel_rfl)⟩
    ·have h := zaf h
     subst h
     have t_ := tT h1 <| tO h2 <| tE (.el [(.int .u8 n9), (.int .i64 n10), (.int .i64 n11), (.int .u64 n12), (.ints .u8 l_ false)]) <| tO (zdi (f := zao.pv) h3) <| tT h4 <| tR q_5 <| tT (zbc h6) <| tN
     exact ⟨t_.ev, (zcy self share r n n2 r2 m m2 n3 r3 l r4 n4 m3 m4 n5 r5 l2 r6 r7 (.inl ())).2, .k0 t_.pf (by kernel_rfl), .same (by kernel_rfl)⟩
   ·have h := zaf h
    subst h
    have t_ := tT h1 <| tO h2 <| tE (.el [(.int .u8 n9), (.int .i64 n10), (.int .i64 n11), (.int .u64 n12), (.ints .u8 l_ false)]) <| tO (zdi (f := zao.pv) h3) <| tF h4 <| tF (rfl : false = false) <| tN
    exact ⟨t_.ev, zc8 self share r n n2 r2 m m2 n3 r3 l r4 n4 m3 m4 n5 r5 l2 r6 r7 (.inr ((iadd .i64 n8 1), n6, r8, m5, m6, n7, r9, l3, r10)), .k0 t_.pf (by kernel_rfl), .same (by kernel_rfl)⟩
  ·have h := zaf h
   subst h
   have t_ := tF h1 <| tN
   exact ⟨t_.ev, ⟨[(53, (.av (.one (.pv (.bool false))))), (0, (.av (.one (.pv (.int .i64 self))))), (3, (.av (.one (.pv (.ints .u8 share false))))), (9, (.av (.one (.ref 0 0)))), (10, (.av (.one (.ref 3 0)))), (13, (.av (.one (.ref 4 0)))), (14, (.av (.one (.ref 7 0)))), (50, (.av (.one (.pv (.recs 5 (List.map zao.pv r) false))))), (51, (.av (.one (.pv (.int .i64 n))))), (52, (.av (.one (.pv (.int .i64 n8))))), (53, (.av (.one (.pv (.bool (decide ((n8 : Int) < n)))))))], [(0, [(.pv (.int .i64 3)), (.pv (.int .u64 n2)), (.pv (.recs 5 (List.map zaa.pv r2) false)), (.mp 1), (.mp 2)]), (1, [(.maph (.int .i64) false (List.map M_int_int.pv m) [])]), (2, [(.maph (.st [.i64, .u64]) false (List.map M_deed_Mark_int.pv m2) [])]), (3, [(.pv (.int .i64 3)), (.pv (.int .u64 n3)), (.pv (.recs 4 (List.map zab.pv r3) false)), (.pv (.ints .i64 l false)), (.pv (.recs 2 (List.map zac.pv r4) false))]), (4, [(.pv (.int .i64 3)), (.pv (.int .u64 n6)), (.pv (.recs 5 (List.map zaa.pv r8) false)), (.mp 5), (.mp 6)]), (5, [(.maph (.int .i64) false (List.map M_int_int.pv m5) [])]), (6, [(.maph (.st [.i64, .u64]) false (List.map M_deed_Mark_int.pv m6) [])]), (7, [(.pv (.int .i64 3)), (.pv (.int .u64 n7)), (.pv (.recs 4 (List.map zab.pv r9) false)), (.pv (.ints .i64 l3 false)), (.pv (.recs 2 (List.map zac.pv r10) false))])], []⟩, .k0 t_.pf (by kernel_rfl), ⟨⟨⟨_, rfl, .eq rfl⟩, ⟨_, rfl, .eq rfl⟩, ⟨_, rfl, .eq rfl⟩, ⟨_, rfl, .eq rfl⟩, ⟨_, rfl, .eq rfl⟩, ⟨_, rfl, .eq rfl⟩, trivial⟩, ⟨⟨rfl, ⟨.eq rfl, .eq rfl, .eq rfl, .eq rfl, .eq rfl, trivial⟩⟩, ⟨rfl, ⟨.eq rfl, trivial⟩⟩, ⟨rfl, ⟨.eq rfl, trivial⟩⟩, ⟨rfl, ⟨.eq rfl, .eq rfl, .eq rfl, .eq rfl, .eq rfl, trivial⟩⟩, ⟨rfl, ⟨.eq rfl, .eq rfl, .eq rfl, .eq rfl, .eq rfl, trivial⟩⟩, ⟨rfl, ⟨.eq rfl, trivial⟩⟩, ⟨rfl, ⟨.eq rfl, trivial⟩⟩, ⟨rfl, ⟨.eq rfl, .eq rfl, .eq rfl, .eq rfl, .eq rfl, trivial⟩⟩, trivial⟩, trivial⟩⟩
theorem zfN (N : Nat) (self : Int) (share : List Int) (r : List zao) (n n2 : Int) (r2 : List zaa) (m : List (Int × Int)) (m2 : List ((Int × Int) × Int)) (n3 : Int) (r3 : List zab) (l : List Int) (r4 : List zac) (n4 : Int) (m3 : List (Int × Int)) (m4 : List ((Int × Int) × Int)) (n5 : Int) (r5 : List zab) (l2 : List Int) (r6 : List zac) (r7 : List zaa) (s_ : (Unit) ⊕ (Int × Int × List zaa × List (Int × Int) × List ((Int × Int) × Int) × Int × List zab × List Int × List zac)) (r_ : (Unit) ⊕ ((Unit) ⊕ (Int × List zaa × List (Int × Int) × List ((Int × Int) × Int) × Int × List zab × List Int × List zac))) (h : runL (zaX N self share r n n2 r2 m m2 n3 r3 l r4 n4 m3 m4 n5 r5 l2 r6 r7) s_ = some r_) : zbK Tryz.prog (lEnv Tryz.prog cfg 4 0).nt 0 (.loop (zbe Tryz.prog 4 1)) (zc8 self share r n n2 r2 m m2 n3 r3 l r4 n4 m3 m4 n5 r5 l2 r6 r7 s_) (zcy self share r n n2 r2 m m2 n3 r3 l r4 n4 m3 m4 n5 r5 l2 r6 r7 r_).1 (zcy self share r n n2 r2 m m2 n3 r3 l r4 n4 m3 m4 n5 r5 l2 r6 r7 r_).2 :=
 zbA h (zj8 N self share r n n2 r2 m m2 n3 r3 l r4 n4 m3 m4 n5 r5 l2 r6 r7) (by intro r_; rcases r_ with _ | (_ | ⟨r1, r8, r9, r10, r11, r12, r13, r14⟩) <;> simp [zcy])
def zif (to : Int) (share : Bool) (share2 : zad) : Unit → Res
 | _ => ([(.agg [(.pv (.int .u64 0)), (.pv (.int .i64 0)), (.pv (.int .i64 0)), (.pv (.bool false)), (.pv (zad.pv zad.nil))]), (.one (.pv (.int .i64 2)))], [], [])
def zii : Unit → Res
 | _ => ([(.one (.pv (.int .u64 0)))], [], [])
noncomputable def zaT : Option (Unit) :=
 some ()
theorem zau (r_ : Unit) (h : zaT = some r_) : Runs Tryz.prog 23 [(.one (.pv .nilp))] [] [] (zii r_) := by
 unfold zaT at h
 have h := zaf h
 subst h
 have t_ := tT (rfl : true = true) <| tN
 exact zag (C := cfg) (sc := t_.ev) (.k0 t_.pf (by kernel_rfl))
def zil : Unit → Res
 | _ => ([(.one (.pv (.int .i64 0)))], [], [])
noncomputable def zaU : Option (Unit) :=
 some ()
theorem zaw (r_ : Unit) (h : zaU = some r_) : Runs Tryz.prog 22 [(.one (.pv .nilp))] [] [] (zil r_) := by
 unfold zaU at h
 have h := zaf h
 subst h
 have t_ := tT (rfl : true = true) <| tN
 exact zag (C := cfg) (sc := t_.ev) (.k0 t_.pf (by kernel_rfl))
def zjC (to : Int) : Int × Int × Int × Bool × zad × Bool → Res
 | (r1, r2, r3, r4, r5, r6) => ([(.agg [(.pv (.int .u64 r1)), (.pv (.int .i64 r2)), (.pv (.int .i64 r3)), (.pv (.bool r4)), (.pv (zad.pv r5))]), (.one (.pv (.bool r6)))], [], [])
def zgV : Unit → Res
 | _ => ([(.one (.pv (.recs 5 (List.map zaa.pv []) false)))], [], [])
noncomputable def zav : Option (Unit) :=
 some ()
theorem zat (r_ : Unit) (h : zav = some r_) : Runs Tryz.prog 25 [(.one (.pv .nilp))] [] [] (zgV r_) := by
 unfold zav at h
 have h := zaf h
 subst h
 have t_ := tT (rfl : true = true) <| tN
 exact Runs.out (zag (C := cfg) (res := ([(.one (.pv .nils))], [], [])) (sc := t_.ev) (.k0 t_.pf (by kernel_rfl))) ⟨.pv (.nilsR), trivial⟩ trivial trivial rfl
def zd4 (to n : Int) : Int → St
 | n2 => ⟨[(1, (.av (.one (.pv (.int .i64 to))))), (4, (.av (.one (.ref 0 0)))), (9, (.av (.one (.pv (.recs 5 (List.map zaa.pv []) false))))), (10, (.av (.one (.pv (.int .i64 n))))), (11, (.av (.one (.pv (.int .i64 n2)))))], [(0, [(.pv (.int .u64 0)), (.pv (.int .i64 0)), (.pv (.int .i64 0)), (.pv (.bool false)), (.pv (zad.pv zad.nil))])], []⟩
def zct (to n : Int) : (Int × Int × Int × Bool × zad) ⊕ (Unit) → Ex × St
 | .inl (r1, r2, r3, r4, r5) => (.ret, ⟨[(4, (.av (.one (.ref 0 0)))), (5, (.av (.one (.pv (.bool true)))))], [(0, [(.pv (.int .u64 r1)), (.pv (.int .i64 r2)), (.pv (.int .i64 r3)), (.pv (.bool r4)), (.pv (zad.pv r5))])], []⟩)
 | .inr _ => ((.exit 0), ⟨[(4, (.av (.one (.ref 0 0))))], [(0, [(.pv (.int .u64 0)), (.pv (.int .i64 0)), (.pv (.int .i64 0)), (.pv (.bool false)), (.pv (zad.pv zad.nil))])], []⟩)
noncomputable def zb3 (to n : Int) : Int → Option ((Int) ⊕ ((Int × Int × Int × Bool × zad) ⊕ (Unit)))
 | n2 =>
 bif (decide ((n2 : Int) < n)) then
  bif decide ((0 : Int) ≤ n2) && decide ((n2 : Int) < (((List.map zaa.pv [])).length : Int)) then
  (([] : List zaa)[(n2).toNat]?).bind fun e_ => match e_ with
  | .mk n3 n4 n5 b t =>
  bif (decide ((n5 : Int) = to)) then
   some (.inr (.inl (n3, n4, n5, b, t)))
  else
   some (.inl (iadd .i64 n2 1))
  else none
 else
  some (.inr (.inr ()))
theorem ziq (to n n2 : Int) (z_ : (Int) ⊕ ((Int × Int × Int × Bool × zad) ⊕ (Unit))) (h : zb3 to n n2 = some z_) : zbQ Tryz.prog cfg 17 0 (zbe Tryz.prog 17 0) (zd4 to n) (zct to n) n2 z_ := by
 rcases zaj h with ⟨h1, h⟩ | ⟨h1, h⟩
 ·obtain ⟨h2, h⟩ := zar h
  obtain ⟨⟨n3, n4, n5, b, t⟩, h3, h⟩ := zae h
  rcases zaj h with ⟨h4, h⟩ | ⟨h4, h⟩
  ·have h := zaf h
   subst h
   have t_ := tT h1 <| tO h2 <| tE (.el [(.int .u64 n3), (.int .i64 n4), (.int .i64 n5), (.bool b), (zad.pv t)]) <| tO (zdi (f := zaa.pv) h3) <| tT h4 <| tN
   exact ⟨t_.ev, (zct to n (.inl (n3, n4, n5, b, t))).2, .k0 t_.pf (by kernel_rfl), .same (by kernel_rfl)⟩
  ·have h := zaf h
   subst h
   have t_ := tT h1 <| tO h2 <| tE (.el [(.int .u64 n3), (.int .i64 n4), (.int .i64 n5), (.bool b), (zad.pv t)]) <| tO (zdi (f := zaa.pv) h3) <| tF h4 <| tN
   exact ⟨t_.ev, zd4 to n (iadd .i64 n2 1), .k0 t_.pf (by kernel_rfl), .same (by kernel_rfl)⟩
 ·have h := zaf h
  subst h
  have t_ := tF h1 <| tN
  exact ⟨t_.ev, ⟨[(12, (.av (.one (.pv (.bool false))))), (1, (.av (.one (.pv (.int .i64 to))))), (4, (.av (.one (.ref 0 0)))), (9, (.av (.one (.pv (.recs 5 (List.map zaa.pv []) false))))), (10, (.av (.one (.pv (.int .i64 n))))), (11, (.av (.one (.pv (.int .i64 n2))))), (12, (.av (.one (.pv (.bool (decide ((n2 : Int) < n)))))))], [(0, [(.pv (.int .u64 0)), (.pv (.int .i64 0)), (.pv (.int .i64 0)), (.pv (.bool false)), (.pv (zad.pv zad.nil))])], []⟩, .k0 t_.pf (by kernel_rfl), ⟨⟨⟨_, rfl, .eq rfl⟩, trivial⟩, ⟨⟨rfl, ⟨.eq rfl, .eq rfl, .eq rfl, .eq rfl, .eq rfl, trivial⟩⟩, trivial⟩, trivial⟩⟩
theorem zeR (to n s_ : Int) (r_ : (Int × Int × Int × Bool × zad) ⊕ (Unit)) (h : runL (zb3 to n) s_ = some r_) : zbK Tryz.prog (lEnv Tryz.prog cfg 17 0).nt 0 (.loop (zbe Tryz.prog 17 0)) (zd4 to n s_) (zct to n r_).1 (zct to n r_).2 :=
 zbA h (ziq to n) (by intro r_; rcases r_ with ⟨r1, r2, r3, r4, r5⟩ | _ <;> simp [zct])
noncomputable def zaI (to : Int) : Option (Int × Int × Int × Bool × zad × Bool) :=
 (zav).bind fun _ =>
 (runL (zb3 to (((List.map zaa.pv [])).length : Int)) 0).bind fun z_ => match z_ with
 | .inl (n, n2, n3, b, t) =>
  some (n, n2, n3, b, t, true)
 | .inr _ =>
  some (0, 0, 0, false, zad.nil, false)
theorem zaV (to : Int) (r_ : Int × Int × Int × Bool × zad × Bool) (h : zaI to = some r_) : Runs Tryz.prog 17 [(.one (.pv .nilp)), (.one (.pv (.int .i64 to)))] [] [] (zjC to r_) := by
 unfold zaI at h
 obtain ⟨_, h1, h⟩ := zae h
 obtain ⟨z_, h2, h⟩ := zae h
 rcases z_ with ⟨n, n2, n3, b, t⟩ | _
 ·have h := zaf h
  subst h
  have t_ := tR (zat _ h1) <| tL (zbK.coe (s0 := ⟨[(1, (.av (.one (.pv (.int .i64 to))))), (4, (.av (.one (.ref 0 0)))), (9, (.av (.one (.pv (.recs 5 (List.map zaa.pv []) false))))), (10, (.av (.one (.pv (.int .i64 (((List.map zaa.pv [])).length : Int)))))), (11, (.av (.one (.pv (.int .i64 0)))))], [(0, [(.pv (.int .u64 0)), (.pv (.int .i64 0)), (.pv (.int .i64 0)), (.pv (.bool false)), (.pv .nilp)])], []⟩) (zeR to (((List.map zaa.pv [])).length : Int) _ _ h2) ⟨⟨⟨_, rfl, .eq rfl⟩, ⟨_, rfl, .eq rfl⟩, ⟨_, rfl, .eq rfl⟩, ⟨_, rfl, .eq rfl⟩, ⟨_, rfl, .eq rfl⟩, trivial⟩, ⟨⟨rfl, ⟨.eq rfl, .eq rfl, .eq rfl, .eq rfl, .eq rfl, trivial⟩⟩, trivial⟩, trivial⟩) <| tN
  exact zag (C := cfg) (sc := t_.ev) (.k0 t_.pf (by kernel_rfl))
 ·have h := zaf h
  subst h
  have t_ := tR (zat _ h1) <| tL (zbK.coe (s0 := ⟨[(1, (.av (.one (.pv (.int .i64 to))))), (4, (.av (.one (.ref 0 0)))), (9, (.av (.one (.pv (.recs 5 (List.map zaa.pv []) false))))), (10, (.av (.one (.pv (.int .i64 (((List.map zaa.pv [])).length : Int)))))), (11, (.av (.one (.pv (.int .i64 0)))))], [(0, [(.pv (.int .u64 0)), (.pv (.int .i64 0)), (.pv (.int .i64 0)), (.pv (.bool false)), (.pv .nilp)])], []⟩) (zeR to (((List.map zaa.pv [])).length : Int) _ _ h2) ⟨⟨⟨_, rfl, .eq rfl⟩, ⟨_, rfl, .eq rfl⟩, ⟨_, rfl, .eq rfl⟩, ⟨_, rfl, .eq rfl⟩, ⟨_, rfl, .eq rfl⟩, trivial⟩, ⟨⟨rfl, ⟨.eq rfl, .eq rfl, .eq rfl, .eq rfl, .eq rfl, trivial⟩⟩, trivial⟩, trivial⟩) <| tN
  exact Runs.out (zag (C := cfg) (res := ([(.agg [(.pv (.int .u64 0)), (.pv (.int .i64 0)), (.pv (.int .i64 0)), (.pv (.bool false)), (.pv .nilp)]), (.one (.pv (.bool false)))], [], [])) (sc := t_.ev) (.k0 t_.pf (by kernel_rfl))) ⟨⟨.eq rfl, .eq rfl, .eq rfl, .eq rfl, .eq rfl, trivial⟩, .eq rfl, trivial⟩ trivial trivial rfl
noncomputable def zaC (to : Int) (share : Bool) (share2 : zad) : Option (Unit) :=
 (zaT).bind fun _ =>
 (zaU).bind fun _ =>
 (zaI to).bind fun (n, n2, n3, b, t, b2) =>
 some ()
theorem za7 (to : Int) (share : Bool) (share2 : zad) (r_ : Unit) (h : zaC to share share2 = some r_) : Runs Tryz.prog 14 [(.one (.pv .nilp)), (.one (.pv (.int .i64 to))), (.agg [(.pv (.bool share)), (.pv (zad.pv share2))])] [] [] (zif to share share2 r_) := by
 unfold zaC at h
 obtain ⟨_, h1, h⟩ := zae h
 obtain ⟨_, h2, h⟩ := zae h
 obtain ⟨⟨n, n2, n3, b, t, b2⟩, h3, h⟩ := zae h
 have h := zaf h
 subst h
 have t_ := tR (zau _ h1) <| tR (zau _ h1) <| tR (zau _ h1) <| tR (zaw _ h2) <| tR (zau _ h1) <| tR (zaw _ h2) <| tR (zaw _ h2) <| tR (zaw _ h2) <| tR (zaV to _ h3) <| tT (rfl : true = true) <| tN
 exact Runs.out (zag (C := cfg) (res := ([(.agg [(.pv (.int .u64 0)), (.pv (.int .i64 0)), (.pv (.int .i64 0)), (.pv (.bool false)), (.pv .nilp)]), (.one (.pv (.int .i64 2)))], [], [])) (sc := t_.ev) (.k1 t_.pf (by kernel_rfl) (by kernel_rfl))) ⟨⟨.eq rfl, .eq rfl, .eq rfl, .eq rfl, .eq rfl, trivial⟩, .eq rfl, trivial⟩ trivial trivial rfl
def zmf (n n2 : Int) (m : List (Int × Int)) (m2 : List ((Int × Int) × Int)) (n3 n4 : Int) (r : List zab) (l : List Int) (r2 : List zac) (r3 : List zaa) : List zaa → Res
 | r1 => ([(.one (.pv (.bool true)))], [[(.pv (.int .i64 n)), (.pv (.int .u64 n2)), (.pv (.recs 5 (List.map zaa.pv r1) false)), (.mp 1), (.mp 2)], [(.maph (.int .i64) false (List.map M_int_int.pv m) [])], [(.maph (.st [.i64, .u64]) false (List.map M_deed_Mark_int.pv m2) [])], [(.pv (.int .i64 n3)), (.pv (.int .u64 n4)), (.pv (.recs 4 (List.map zab.pv r) false)), (.pv (.ints .i64 l false)), (.pv (.recs 2 (List.map zac.pv r2) false))]], [])
noncomputable def zcC (N : Nat) (n n2 : Int) (m : List (Int × Int)) (m2 : List ((Int × Int) × Int)) (n3 n4 : Int) (r : List zab) (l : List Int) (r2 : List zac) (r3 : List zaa) : Option (List zaa) :=
 (zbS n n2 m m2 r3).bind fun (r4, r5) =>
 (zcA n n2 r4 m m2).bind fun r6 =>
 (zbO n n2 r4 m m2).bind fun _ =>
 bif (decide ((n : Int) = n3)) then
  (zbN n n2 r4 m m2).bind fun _ =>
  bif (decide ((n2 : Int) = n4)) then
   bif (decide (((((List.map zaa.pv r5)).length : Int) : Int) = (((List.map zab.pv r)).length : Int))) then
    bif (decide (((((List.map zal.pv r6)).length : Int) : Int) = (((List.map zac.pv r2)).length : Int))) then
     (zc5 N n n2 r4 m m2).bind fun l_ =>
     (zfZ N n3 n4 r l r2).bind fun l_2 =>
     (zg2 l_ l_2).bind fun b =>
     bif b then
      (runL (zcf N (((List.map zaa.pv r5)).length : Int) n n2 r4 m m2 n3 n4 r l r2 r5 r6) 0).bind fun z_ => match z_ with
      | .inl _ =>
       none
      | .inr _ =>
       (runL (zcg (((List.map zal.pv r6)).length : Int) n n2 r4 m m2 n3 n4 r l r2 r6) 0).bind fun z_ => match z_ with
       | .inl _ =>
        none
       | .inr _ =>
        (runL (zbG N n n2 r4 m m2 n3 n4 r l r2) (-1)).bind fun z_ => match z_ with
        | .inl _ =>
         none
        | .inr _ =>
         some r4
     else
      none
    else
     none
   else
    none
  else
   none
 else
  none
theorem zdM (N : Nat) (n n2 : Int) (m : List (Int × Int)) (m2 : List ((Int × Int) × Int)) (n3 n4 : Int) (r : List zab) (l : List Int) (r2 : List zac) (r3 r_ : List zaa) (h : zcC N n n2 m m2 n3 n4 r l r2 r3 = some r_) : Runs Tryz.prog 10 [(.one (.ref 0 0)), (.one (.ref 3 0))] [[(.pv (.int .i64 n)), (.pv (.int .u64 n2)), (.own 0 0 ((List.map zaa.pv r3)).length false), (.mp 1), (.mp 2)], [(.maph (.int .i64) false (List.map M_int_int.pv m) [])], [(.maph (.st [.i64, .u64]) false (List.map M_deed_Mark_int.pv m2) [])], [(.pv (.int .i64 n3)), (.pv (.int .u64 n4)), (.pv (.recs 4 (List.map zab.pv r) false)), (.pv (.ints .i64 l false)), (.pv (.recs 2 (List.map zac.pv r2) false))]] [(.recs 5 (List.map zaa.pv r3))] (zmf n n2 m m2 n3 n4 r l r2 r3 r_) := by
 unfold zcC at h
 obtain ⟨⟨r4, r5⟩, h1, h⟩ := zae h
 obtain ⟨r6, h2, h⟩ := zae h
 obtain ⟨_, h3, h⟩ := zae h
 rcases zaj h with ⟨h4, h⟩ | ⟨h4, h⟩
 ·obtain ⟨_, h5, h⟩ := zae h
  rcases zaj h with ⟨h6, h⟩ | ⟨h6, h⟩
  ·rcases zaj h with ⟨h7, h⟩ | ⟨h7, h⟩
   ·rcases zaj h with ⟨h8, h⟩ | ⟨h8, h⟩
    ·obtain ⟨l_, h9, h⟩ := zae h
     obtain ⟨l_2, h10, h⟩ := zae h
     obtain ⟨b, h11, h⟩ := zae h
     have q_11 := (Runs.coe (as' := [(.one (.pv (.ints .u8 (List.take (l_).length l_) false))), (.one (.pv (.ints .u8 (List.take (l_2).length l_2) false)))]) (objs' := []) (rows' := []) (zjh l_ l_2 _ h11) ⟨.pv (.ints (by first | rfl | (simp only [List.take_length]; done) | (simp; done) | (simp only [List.map_take, List.map_drop, List.map_append, List.take_length, List.nil_append]; done) | (simp only [List.length_map, List.take_length, List.length_append, List.drop_zero, List.map_append, List.map_take, List.map_drop, List.map_replicate, List.map_cons, List.map_nil, List.append_nil, List.nil_append]; done))), .pv (.ints (by first | rfl | (simp only [List.take_length]; done) | (simp; done) | (simp only [List.map_take, List.map_drop, List.map_append, List.take_length, List.nil_append]; done) | (simp only [List.length_map, List.take_length, List.length_append, List.drop_zero, List.map_append, List.map_take, List.map_drop, List.map_replicate, List.map_cons, List.map_nil, List.append_nil, List.nil_append]; done))), trivial⟩ trivial trivial)
     rcases zaj h with ⟨h12, h⟩ | ⟨h12, h⟩
     ·obtain ⟨z_, h13, h⟩ := zae h
      rcases z_ with _ | _
      ·cases h
      ·have q_13 := (zgY N (((List.map zaa.pv r5)).length : Int) n n2 r4 m m2 n3 n4 r l r2 r5 r6 _ _ h13)
       obtain ⟨z_, h14, h⟩ := zae h
       rcases z_ with _ | _
       ·cases h
       ·have q_14 := (zgZ (((List.map zal.pv r6)).length : Int) n n2 r4 m m2 n3 n4 r l r2 r6 _ _ h14)
        obtain ⟨z_, h15, h⟩ := zae h
        rcases z_ with _ | _
        ·cases h
        ·have h := zaf h
         subst h
         have t_ := tR (zbW n n2 m m2 r3 _ h1) <| tR (zd2 n n2 r4 m m2 _ h2) <| tR (zbp n n2 r4 m m2 _ h3) <| tR (zbp n n2 r4 m m2 _ h3) <| tF (zaz h4) <| tR (zbo n n2 r4 m m2 _ h5) <| tR (zbo n n2 r4 m m2 _ h5) <| tF (zaz h6) <| tF (zaz h7) <| tF (zaz h8) <| tR (zfs N n n2 r4 m m2 _ h9) <| tR (ziG N n3 n4 r l r2 _ h10) <| tR q_11 <| tF (zaz h12) <| tL q_13 <| tL q_14 <| tL (zg0 N n n2 r4 m m2 n3 n4 r l r2 _ _ h15) <| tN
         exact zag (C := cfg) (sc := t_.ev) (.k1 t_.pf (by kernel_rfl) (by kernel_rfl))
     ·cases h
    ·cases h
   ·cases h
  ·cases h
 ·cases h
def zib (no : Int) : Unit → Res
 | _ => ([(.one (.pv (.int .i64 2)))], [], [])
noncomputable def zgJ (s : List zaa) (i j : Int) : Option (Unit) :=
 bif decide ((0 : Int) ≤ i) && decide ((i : Int) ≤ j) && decide ((j : Int) ≤ (((List.map zaa.pv s)).length : Int)) && decide (((((List.map zaa.pv s)).length : Int) : Int) = j) then
 bif (decide ((i : Int) = j)) then
  some ()
 else
  bif decide ((0 : Int) ≤ 0) && decide ((0 : Int) ≤ i) && decide ((i : Int) ≤ (((List.map zaa.pv s)).length : Int)) && decide ((i : Int) = i) then
  bif decide ((0 : Int) ≤ j) && decide ((j : Int) ≤ (((List.map zaa.pv s)).length : Int)) && decide (((((List.map zaa.pv s)).length : Int) : Int) ≤ (((List.map zaa.pv s)).length : Int)) && decide (((((List.map zaa.pv s)).length : Int) : Int) = (((List.map zaa.pv s)).length : Int)) then
  none
  else none
  else none
 else none
noncomputable def zaS (no : Int) : Option (Unit) :=
 (zav).bind fun _ =>
 (zbj [] no).bind fun n =>
 bif (decide ((n : Int) < 0)) then
  some ()
 else
  (zgJ [] n (iadd .i64 n 1)).bind fun _ =>
  none
theorem zaM (no : Int) (r_ : Unit) (h : zaS no = some r_) : Runs Tryz.prog 18 [(.one (.pv .nilp)), (.one (.pv (.int .u64 no)))] [] [] (zib no r_) := by
 unfold zaS at h
 obtain ⟨_, h1, h⟩ := zae h
 obtain ⟨n, h2, h⟩ := zae h
 rcases zaj h with ⟨h3, h⟩ | ⟨h3, h⟩
 ·have h := zaf h
  subst h
  have t_ := tR (zat _ h1) <| tR (zcn [] no _ h2) <| tT h3 <| tN
  exact zag (C := cfg) (sc := t_.ev) (.k0 t_.pf (by kernel_rfl))
 ·obtain ⟨_, h4, h⟩ := zae h
  cases h
def zio (g g2 g3 : Int) (g4 : Bool) (g5 : zad) : Unit → Res
 | _ => ([(.one (.pv (.int .i64 2)))], [], [])
noncomputable def za1 (g g2 g3 : Int) (g4 : Bool) (g5 : zad) : Option (Unit) :=
 some ()
theorem zaO (g g2 g3 : Int) (g4 : Bool) (g5 : zad) (r_ : Unit) (h : za1 g g2 g3 g4 g5 = some r_) : Runs Tryz.prog 19 [(.one (.pv .nilp)), (.agg [(.pv (.int .u64 g)), (.pv (.int .i64 g2)), (.pv (.int .i64 g3)), (.pv (.bool g4)), (.pv (zad.pv g5))])] [] [] (zio g g2 g3 g4 g5 r_) := by
 unfold za1 at h
 have h := zaf h
 subst h
 have t_ := tT (rfl : true = true) <| tN
 exact zag (C := cfg) (sc := t_.ev) (.k0 t_.pf (by kernel_rfl))
def zic (to : Int) : Unit → Res
 | _ => ([(.one (.pv (.bool false)))], [], [])
noncomputable def za0 (to : Int) : Option (Unit) :=
 some ()
theorem zaN (to : Int) (r_ : Unit) (h : za0 to = some r_) : Runs Tryz.prog 20 [(.one (.pv .nilp)), (.one (.pv (.int .i64 to)))] [] [] (zic to r_) := by
 unfold za0 at h
 have h := zaf h
 subst h
 have t_ := tF (rfl : false = false) <| tN
 exact zag (C := cfg) (sc := t_.ev) (.k0 t_.pf (by kernel_rfl))
def zit (m m2 : Int) : Unit → Res
 | _ => ([(.one (.pv (.bool false)))], [], [])
noncomputable def za2 (m m2 : Int) : Option (Unit) :=
 some ()
theorem zaP (m m2 : Int) (r_ : Unit) (h : za2 m m2 = some r_) : Runs Tryz.prog 21 [(.one (.pv .nilp)), (.agg [(.pv (.int .i64 m)), (.pv (.int .u64 m2))])] [] [] (zit m m2 r_) := by
 unfold za2 at h
 have h := zaf h
 subst h
 have t_ := tF (rfl : false = false) <| tN
 exact zag (C := cfg) (sc := t_.ev) (.k1 t_.pf (by kernel_rfl) (by kernel_rfl))
def zh8 : Unit → Res
 | _ => ([(.one (.pv .nilp))], [], [])
noncomputable def zaZ : Option (Unit) :=
 some ()
theorem zaL (r_ : Unit) (h : zaZ = some r_) : Runs Tryz.prog 11 [(.one (.pv .nilp))] [] [] (zh8 r_) := by
 unfold zaZ at h
 have h := zaf h
 subst h
 have t_ := tT (rfl : true = true) <| tN
 exact zag (C := cfg) (sc := t_.ev) (.k0 t_.pf (by kernel_rfl))
def zhT : Unit → Res
 | _ => ([(.one (.pv (.ints .u8 [] false)))], [], [])
noncomputable def zaQ : Option (Unit) :=
 some ()
theorem zaJ (r_ : Unit) (h : zaQ = some r_) : Runs Tryz.prog 24 [(.one (.pv .nilp))] [] [] (zhT r_) := by
 unfold zaQ at h
 have h := zaf h
 subst h
 have t_ := tT (rfl : true = true) <| tN
 exact Runs.out (zag (C := cfg) (res := ([(.one (.pv .nils))], [], [])) (sc := t_.ev) (.k0 t_.pf (by kernel_rfl))) ⟨.pv (.nilsI), trivial⟩ trivial trivial rfl
def zhZ : Unit → Res
 | _ => ([(.one (.pv (.recs 2 (List.map zal.pv []) false)))], [], [])
noncomputable def zaR : Option (Unit) :=
 some ()
theorem zaK (r_ : Unit) (h : zaR = some r_) : Runs Tryz.prog 26 [(.one (.pv .nilp))] [] [] (zhZ r_) := by
 unfold zaR at h
 have h := zaf h
 subst h
 have t_ := tT (rfl : true = true) <| tN
 exact Runs.out (zag (C := cfg) (res := ([(.one (.pv .nils))], [], [])) (sc := t_.ev) (.k0 t_.pf (by kernel_rfl))) ⟨.pv (.nilsR), trivial⟩ trivial trivial rfl
noncomputable def zeu (N : Nat) (self : Int) (acts more : List zao) (share : List Int) : Option (Bool) :=
 (zgX).bind fun b =>
 bif b then
  (zgw 3).bind fun _ =>
  (runL (za8 N self more share acts (((List.map zao.pv acts)).length : Int)) (0, 0, [], [], [], 0, [], [], [])).bind fun (n, r, m_, m_2, n2, r2, l_, r3) =>
  (zd1 3 n r m_ m_2).bind fun _ =>
  (zkh 3 n2 r2 l_ r3).bind fun _ =>
  (runL (zaX N self share more (((List.map zao.pv more)).length : Int) n r m_ m_2 n2 r2 l_ r3 n m_ m_2 n2 r2 l_ r3 r) (.inl ())).bind fun z_ => match z_ with
  | .inl _ =>
   none
  | .inr (.inl _) =>
   (zfx N share).bind fun (b2, t, t2) =>
   (zgw self).bind fun _ =>
   (zbL 3 b2 t self 0 [] []).bind fun z_ => match z_ with
   | .inl n3 =>
    bif (decide ((0 : Int) ≤ self)) then
     bif (decide ((self : Int) < 12)) then
      bif (decide ((self : Int) = 3)) then
       (zdK).bind fun _ =>
       (zaC 1 true zad.nil).bind fun _ =>
       (zaI 1).bind fun (n4, n5, n6, b3, t3, b4) =>
       (zbh N 3 n r m_ m_2 3 n2 r2 l_ r3).bind fun _ =>
       (zcC N 3 n m_ m_2 3 n2 r2 l_ r3 r).bind fun r4 =>
       bif ((decide ((n3 : Int) = 0)) == false) then
        bif (decide ((n3 : Int) = 1)) then
         (zaS 1).bind fun _ =>
         (za1 0 0 0 false zad.nil).bind fun _ =>
         bif b4 then
          none
         else
          (za0 1).bind fun _ =>
          (za2 0 0).bind fun _ =>
          (zaU).bind fun _ =>
          (zaT).bind fun _ =>
          (zaZ).bind fun _ =>
          (zaQ).bind fun _ =>
          (zav).bind fun _ =>
          (zaR).bind fun _ =>
          some (decide (((iadd .i64 (iadd .i64 0 (((List.map zaa.pv [])).length : Int)) (((List.map zal.pv [])).length : Int)) : Int) = 0))
        else
         none
       else
        none
      else
       (zbq b2 t).bind fun b3 =>
       (zdK).bind fun _ =>
       (zaC 1 true zad.nil).bind fun _ =>
       (zaI 1).bind fun (n4, n5, n6, b4, t3, b5) =>
       (zbh N 3 n r m_ m_2 3 n2 r2 l_ r3).bind fun _ =>
       (zcC N 3 n m_ m_2 3 n2 r2 l_ r3 r).bind fun r4 =>
       bif ((decide ((n3 : Int) = 0)) == (!b3)) then
        bif b3 then
         bif (decide ((n3 : Int) = 1)) then
          (zaS 1).bind fun _ =>
          (za1 0 0 0 false zad.nil).bind fun _ =>
          bif b5 then
           none
          else
           (za0 1).bind fun _ =>
           (za2 0 0).bind fun _ =>
           (zaU).bind fun _ =>
           (zaT).bind fun _ =>
           (zaZ).bind fun _ =>
           (zaQ).bind fun _ =>
           (zav).bind fun _ =>
           (zaR).bind fun _ =>
           some (decide (((iadd .i64 (iadd .i64 0 (((List.map zaa.pv [])).length : Int)) (((List.map zal.pv [])).length : Int)) : Int) = 0))
         else
          none
        else
         (zaS 1).bind fun _ =>
         (za1 0 0 0 false zad.nil).bind fun _ =>
         bif b5 then
          none
         else
          (za0 1).bind fun _ =>
          (za2 0 0).bind fun _ =>
          (zaU).bind fun _ =>
          (zaT).bind fun _ =>
          (zaZ).bind fun _ =>
          (zaQ).bind fun _ =>
          (zav).bind fun _ =>
          (zaR).bind fun _ =>
          some (decide (((iadd .i64 (iadd .i64 0 (((List.map zaa.pv [])).length : Int)) (((List.map zal.pv [])).length : Int)) : Int) = 0))
       else
        none
     else
      (zdK).bind fun _ =>
      (zaC 1 true zad.nil).bind fun _ =>
      (zaI 1).bind fun (n4, n5, n6, b3, t3, b4) =>
      (zbh N 3 n r m_ m_2 3 n2 r2 l_ r3).bind fun _ =>
      (zcC N 3 n m_ m_2 3 n2 r2 l_ r3 r).bind fun r4 =>
      bif ((decide ((n3 : Int) = 0)) == false) then
       bif (decide ((n3 : Int) = 1)) then
        (zaS 1).bind fun _ =>
        (za1 0 0 0 false zad.nil).bind fun _ =>
        bif b4 then
         none
        else
         (za0 1).bind fun _ =>
         (za2 0 0).bind fun _ =>
         (zaU).bind fun _ =>
         (zaT).bind fun _ =>
         (zaZ).bind fun _ =>
         (zaQ).bind fun _ =>
         (zav).bind fun _ =>
         (zaR).bind fun _ =>
         some (decide (((iadd .i64 (iadd .i64 0 (((List.map zaa.pv [])).length : Int)) (((List.map zal.pv [])).length : Int)) : Int) = 0))
       else
        none
      else
       none
    else
     (zdK).bind fun _ =>
     (zaC 1 true zad.nil).bind fun _ =>
     (zaI 1).bind fun (n4, n5, n6, b3, t3, b4) =>
     (zbh N 3 n r m_ m_2 3 n2 r2 l_ r3).bind fun _ =>
     (zcC N 3 n m_ m_2 3 n2 r2 l_ r3 r).bind fun r4 =>
     bif ((decide ((n3 : Int) = 0)) == false) then
      bif (decide ((n3 : Int) = 1)) then
       (zaS 1).bind fun _ =>
       (za1 0 0 0 false zad.nil).bind fun _ =>
       bif b4 then
        none
       else
        (za0 1).bind fun _ =>
        (za2 0 0).bind fun _ =>
        (zaU).bind fun _ =>
        (zaT).bind fun _ =>
        (zaZ).bind fun _ =>
        (zaQ).bind fun _ =>
        (zav).bind fun _ =>
        (zaR).bind fun _ =>
        some (decide (((iadd .i64 (iadd .i64 0 (((List.map zaa.pv [])).length : Int)) (((List.map zal.pv [])).length : Int)) : Int) = 0))
      else
       none
     else
      none
   | .inr (n3, n4, r4, m_3) =>
    bif (decide ((0 : Int) ≤ self)) then
     bif (decide ((self : Int) < 12)) then
      bif (decide ((self : Int) = 3)) then
       (zdK).bind fun _ =>
       (zaC 1 true zad.nil).bind fun _ =>
       (zaI 1).bind fun (n5, n6, n7, b3, t3, b4) =>
       (zbh N 3 n r m_ m_2 3 n2 r2 l_ r3).bind fun _ =>
       (zcC N 3 n m_ m_2 3 n2 r2 l_ r3 r).bind fun r5 =>
       none
      else
       (zbq b2 t).bind fun b3 =>
       (zdK).bind fun _ =>
       (zaC 1 true zad.nil).bind fun _ =>
       (zaI 1).bind fun (n5, n6, n7, b4, t3, b5) =>
       (zbh N 3 n r m_ m_2 3 n2 r2 l_ r3).bind fun _ =>
       (zcC N 3 n m_ m_2 3 n2 r2 l_ r3 r).bind fun r5 =>
       bif (true == (!b3)) then
        bif b3 then
         none
        else
         (zaS 1).bind fun _ =>
         (za1 0 0 0 false zad.nil).bind fun _ =>
         bif b5 then
          none
         else
          (za0 1).bind fun _ =>
          (za2 0 0).bind fun _ =>
          (zaU).bind fun _ =>
          (zaT).bind fun _ =>
          (zaZ).bind fun _ =>
          (zaQ).bind fun _ =>
          (zav).bind fun _ =>
          (zaR).bind fun _ =>
          some (decide (((iadd .i64 (iadd .i64 0 (((List.map zaa.pv [])).length : Int)) (((List.map zal.pv [])).length : Int)) : Int) = 0))
       else
        none
     else
      (zdK).bind fun _ =>
      (zaC 1 true zad.nil).bind fun _ =>
      (zaI 1).bind fun (n5, n6, n7, b3, t3, b4) =>
      (zbh N 3 n r m_ m_2 3 n2 r2 l_ r3).bind fun _ =>
      (zcC N 3 n m_ m_2 3 n2 r2 l_ r3 r).bind fun r5 =>
      none
    else
     (zdK).bind fun _ =>
     (zaC 1 true zad.nil).bind fun _ =>
     (zaI 1).bind fun (n5, n6, n7, b3, t3, b4) =>
     (zbh N 3 n r m_ m_2 3 n2 r2 l_ r3).bind fun _ =>
     (zcC N 3 n m_ m_2 3 n2 r2 l_ r3 r).bind fun r5 =>
     none
  | .inr (.inr (n3, r4, m_3, m_4, n4, r5, l_2, r6)) =>
   (zfx N share).bind fun (b2, t, t2) =>
   (zgw self).bind fun _ =>
   (zbL 3 b2 t self 0 [] []).bind fun z_ => match z_ with
   | .inl n5 =>
    bif (decide ((0 : Int) ≤ self)) then
     bif (decide ((self : Int) < 12)) then
      bif (decide ((self : Int) = 3)) then
       (zdK).bind fun _ =>
       (zaC 1 true zad.nil).bind fun _ =>
       (zaI 1).bind fun (n6, n7, n8, b3, t3, b4) =>
       (zbh N 3 n r m_ m_2 3 n2 r2 l_ r3).bind fun _ =>
       (zbh N 3 n3 r4 m_3 m_4 3 n4 r5 l_2 r6).bind fun _ =>
       bif ((decide ((n5 : Int) = 0)) == false) then
        bif (decide ((n5 : Int) = 1)) then
         (zaS 1).bind fun _ =>
         (za1 0 0 0 false zad.nil).bind fun _ =>
         bif b4 then
          none
         else
          (za0 1).bind fun _ =>
          (za2 0 0).bind fun _ =>
          (zaU).bind fun _ =>
          (zaT).bind fun _ =>
          (zaZ).bind fun _ =>
          (zaQ).bind fun _ =>
          (zav).bind fun _ =>
          (zaR).bind fun _ =>
          some (decide (((iadd .i64 (iadd .i64 0 (((List.map zaa.pv [])).length : Int)) (((List.map zal.pv [])).length : Int)) : Int) = 0))
        else
         none
       else
        none
      else
       (zbq b2 t).bind fun b3 =>
       (zdK).bind fun _ =>
       (zaC 1 true zad.nil).bind fun _ =>
       (zaI 1).bind fun (n6, n7, n8, b4, t3, b5) =>
       (zbh N 3 n r m_ m_2 3 n2 r2 l_ r3).bind fun _ =>
       (zbh N 3 n3 r4 m_3 m_4 3 n4 r5 l_2 r6).bind fun _ =>
       bif ((decide ((n5 : Int) = 0)) == (!b3)) then
        bif b3 then
         bif (decide ((n5 : Int) = 1)) then
          (zaS 1).bind fun _ =>
          (za1 0 0 0 false zad.nil).bind fun _ =>
          bif b5 then
           none
          else
           (za0 1).bind fun _ =>
           (za2 0 0).bind fun _ =>
           (zaU).bind fun _ =>
           (zaT).bind fun _ =>
           (zaZ).bind fun _ =>
           (zaQ).bind fun _ =>
           (zav).bind fun _ =>
           (zaR).bind fun _ =>
           some (decide (((iadd .i64 (iadd .i64 0 (((List.map zaa.pv [])).length : Int)) (((List.map zal.pv [])).length : Int)) : Int) = 0))
         else
          none
        else
         (zaS 1).bind fun _ =>
         (za1 0 0 0 false zad.nil).bind fun _ =>
         bif b5 then
          none
         else
          (za0 1).bind fun _ =>
          (za2 0 0).bind fun _ =>
          (zaU).bind fun _ =>
          (zaT).bind fun _ =>
          (zaZ).bind fun _ =>
          (zaQ).bind fun _ =>
          (zav).bind fun _ =>
          (zaR).bind fun _ =>
          some (decide (((iadd .i64 (iadd .i64 0 (((List.map zaa.pv [])).length : Int)) (((List.map zal.pv [])).length : Int)) : Int) = 0))
       else
        none
     else
      (zdK).bind fun _ =>
      (zaC 1 true zad.nil).bind fun _ =>
      (zaI 1).bind fun (n6, n7, n8, b3, t3, b4) =>
      (zbh N 3 n r m_ m_2 3 n2 r2 l_ r3).bind fun _ =>
      (zbh N 3 n3 r4 m_3 m_4 3 n4 r5 l_2 r6).bind fun _ =>
      bif ((decide ((n5 : Int) = 0)) == false) then
       bif (decide ((n5 : Int) = 1)) then
        (zaS 1).bind fun _ =>
        (za1 0 0 0 false zad.nil).bind fun _ =>
        bif b4 then
         none
        else
         (za0 1).bind fun _ =>
         (za2 0 0).bind fun _ =>
         (zaU).bind fun _ =>
         (zaT).bind fun _ =>
         (zaZ).bind fun _ =>
         (zaQ).bind fun _ =>
         (zav).bind fun _ =>
         (zaR).bind fun _ =>
         some (decide (((iadd .i64 (iadd .i64 0 (((List.map zaa.pv [])).length : Int)) (((List.map zal.pv [])).length : Int)) : Int) = 0))
       else
        none
      else
       none
    else
     (zdK).bind fun _ =>
     (zaC 1 true zad.nil).bind fun _ =>
     (zaI 1).bind fun (n6, n7, n8, b3, t3, b4) =>
     (zbh N 3 n r m_ m_2 3 n2 r2 l_ r3).bind fun _ =>
     (zbh N 3 n3 r4 m_3 m_4 3 n4 r5 l_2 r6).bind fun _ =>
     bif ((decide ((n5 : Int) = 0)) == false) then
      bif (decide ((n5 : Int) = 1)) then
       (zaS 1).bind fun _ =>
       (za1 0 0 0 false zad.nil).bind fun _ =>
       bif b4 then
        none
       else
        (za0 1).bind fun _ =>
        (za2 0 0).bind fun _ =>
        (zaU).bind fun _ =>
        (zaT).bind fun _ =>
        (zaZ).bind fun _ =>
        (zaQ).bind fun _ =>
        (zav).bind fun _ =>
        (zaR).bind fun _ =>
        some (decide (((iadd .i64 (iadd .i64 0 (((List.map zaa.pv [])).length : Int)) (((List.map zal.pv [])).length : Int)) : Int) = 0))
      else
       none
     else
      none
   | .inr (n5, n6, r7, m_5) =>
    bif (decide ((0 : Int) ≤ self)) then
     bif (decide ((self : Int) < 12)) then
      bif (decide ((self : Int) = 3)) then
       (zdK).bind fun _ =>
       (zaC 1 true zad.nil).bind fun _ =>
       (zaI 1).bind fun (n7, n8, n9, b3, t3, b4) =>
       (zbh N 3 n r m_ m_2 3 n2 r2 l_ r3).bind fun _ =>
       (zbh N 3 n3 r4 m_3 m_4 3 n4 r5 l_2 r6).bind fun _ =>
       none
      else
       (zbq b2 t).bind fun b3 =>
       (zdK).bind fun _ =>
       (zaC 1 true zad.nil).bind fun _ =>
       (zaI 1).bind fun (n7, n8, n9, b4, t3, b5) =>
       (zbh N 3 n r m_ m_2 3 n2 r2 l_ r3).bind fun _ =>
       (zbh N 3 n3 r4 m_3 m_4 3 n4 r5 l_2 r6).bind fun _ =>
       bif (true == (!b3)) then
        bif b3 then
         none
        else
         (zaS 1).bind fun _ =>
         (za1 0 0 0 false zad.nil).bind fun _ =>
         bif b5 then
          none
         else
          (za0 1).bind fun _ =>
          (za2 0 0).bind fun _ =>
          (zaU).bind fun _ =>
          (zaT).bind fun _ =>
          (zaZ).bind fun _ =>
          (zaQ).bind fun _ =>
          (zav).bind fun _ =>
          (zaR).bind fun _ =>
          some (decide (((iadd .i64 (iadd .i64 0 (((List.map zaa.pv [])).length : Int)) (((List.map zal.pv [])).length : Int)) : Int) = 0))
       else
        none
     else
      (zdK).bind fun _ =>
      (zaC 1 true zad.nil).bind fun _ =>
      (zaI 1).bind fun (n7, n8, n9, b3, t3, b4) =>
      (zbh N 3 n r m_ m_2 3 n2 r2 l_ r3).bind fun _ =>
      (zbh N 3 n3 r4 m_3 m_4 3 n4 r5 l_2 r6).bind fun _ =>
      none
    else
     (zdK).bind fun _ =>
     (zaC 1 true zad.nil).bind fun _ =>
     (zaI 1).bind fun (n7, n8, n9, b3, t3, b4) =>
     (zbh N 3 n r m_ m_2 3 n2 r2 l_ r3).bind fun _ =>
     (zbh N 3 n3 r4 m_3 m_4 3 n4 r5 l_2 r6).bind fun _ =>
     none
 else
  none
theorem zjG (N : Nat) (self : Int) (acts more : List zao) (share : List Int) (r_ : Bool) (h : zeu N self acts more share = some r_) : Runs Tryz.prog 4 [(.one (.pv (.int .i64 self))), (.one (.pv (.recs 5 (List.map zao.pv acts) false))), (.one (.pv (.recs 5 (List.map zao.pv more) false))), (.one (.pv (.ints .u8 share false)))] [] [] (zj7 self acts more share r_) := by
 unfold zeu at h
 obtain ⟨b, h1, h⟩ := zae h
 rcases zaj h with ⟨h2, h⟩ | ⟨h2, h⟩
 ·obtain ⟨_, h3, h⟩ := zae h
  obtain ⟨⟨n, r, m_, m_2, n2, r2, l_, r3⟩, h4, h⟩ := zae h
  have q_4 := (zbK.coe (s0 := ⟨[(0, (.av (.one (.pv (.int .i64 self))))), (2, (.av (.one (.pv (.recs 5 (List.map zao.pv more) false))))), (3, (.av (.one (.pv (.ints .u8 share false))))), (9, (.av (.one (.ref 0 0)))), (10, (.av (.one (.ref 3 0)))), (32, (.av (.one (.pv (.recs 5 (List.map zao.pv acts) false))))), (33, (.av (.one (.pv (.int .i64 (((List.map zao.pv acts)).length : Int)))))), (34, (.av (.one (.pv (.int .i64 0)))))], [(0, [(.pv (.int .i64 3)), (.pv (.int .u64 0)), (.pv (.recs 5 [] false)), (.mp 1), (.mp 2)]), (1, [(.maph (.int .i64) false (List.map M_int_int.pv []) [])]), (2, [(.maph (.st [.i64, .u64]) false (List.map M_deed_Mark_int.pv []) [])]), (3, [(.pv (.int .i64 3)), (.pv (.int .u64 0)), (.pv (.recs 4 [] false)), (.pv (.ints .i64 [] false)), (.pv (.recs 2 [] false))])], []⟩) (zh1 N self more share acts (((List.map zao.pv acts)).length : Int) _ _ h4) ⟨⟨⟨_, rfl, .eq rfl⟩, ⟨_, rfl, .eq rfl⟩, ⟨_, rfl, .eq rfl⟩, ⟨_, rfl, .eq rfl⟩, ⟨_, rfl, .eq rfl⟩, ⟨_, rfl, .eq rfl⟩, ⟨_, rfl, .eq rfl⟩, ⟨_, rfl, .eq rfl⟩, trivial⟩, ⟨⟨rfl, ⟨.eq rfl, .eq rfl, .pv (.recsT (.nil)), .eq rfl, .eq rfl, trivial⟩⟩, ⟨rfl, ⟨.eq rfl, trivial⟩⟩, ⟨rfl, ⟨.eq rfl, trivial⟩⟩, ⟨rfl, ⟨.eq rfl, .eq rfl, .pv (.recsT (.nil)), .eq rfl, .pv (.recsT (.nil)), trivial⟩⟩, trivial⟩, trivial⟩)
  obtain ⟨_, h5, h⟩ := zae h
  obtain ⟨_, h6, h⟩ := zae h
  obtain ⟨z_, h7, h⟩ := zae h
  rcases z_ with _ | (_ | ⟨n3, r4, m_3, m_4, n4, r5, l_2, r6⟩)
  ·cases h
  ·have q_7 := (zfN N self share more (((List.map zao.pv more)).length : Int) n r m_ m_2 n2 r2 l_ r3 n m_ m_2 n2 r2 l_ r3 r _ _ h7)
   obtain ⟨⟨b2, t, t2⟩, h8, h⟩ := zae h
   obtain ⟨_, h9, h⟩ := zae h
   have p9_ := fun {sc_ : List Ev} {Q_ : Prop} (t_ : Tell sc_ Q_) => tR (ziz _ h1) <| tF (zaz h2) <| tR (zaH 3 _ h3) <| tL q_4 <| tR (zfL 3 n r m_ m_2 _ h5) <| tR (zji 3 n2 r2 l_ r3 _ h6) <| tL q_7 <| tR (zbM N share _ h8) <| tR (zaH self _ h9) <| tR (zaH self _ h9) <| tR (zaH self _ h9) <| t_
   obtain ⟨z_, h10, h⟩ := zae h
   rcases z_ with n3 | ⟨n3, n4, r4, m_3⟩
   ·have q_10 := (zb9 3 b2 t self 0 [] [] _ h10)
    rcases zaj h with ⟨h11, h⟩ | ⟨h11, h⟩
    ·rcases zaj h with ⟨h12, h⟩ | ⟨h12, h⟩
     ·rcases zaj h with ⟨h13, h⟩ | ⟨h13, h⟩
      ·obtain ⟨_, h14, h⟩ := zae h
       obtain ⟨_, h15, h⟩ := zae h
       have q_15 := (za7 1 true zad.nil _ h15)
       obtain ⟨⟨n4, n5, n6, b3, t3, b4⟩, h16, h⟩ := zae h
       obtain ⟨_, h17, h⟩ := zae h
       have q_17 := (zbm N 3 n r m_ m_2 3 n2 r2 l_ r3 _ h17)
       obtain ⟨r4, h18, h⟩ := zae h
       have q_18 := (zdM N 3 n m_ m_2 3 n2 r2 l_ r3 r _ h18)
       rcases zaj h with ⟨h19, h⟩ | ⟨h19, h⟩
       ·rcases zaj h with ⟨h20, h⟩ | ⟨h20, h⟩
        ·obtain ⟨_, h21, h⟩ := zae h
         obtain ⟨_, h22, h⟩ := zae h
         have q_22 := (Runs.coe (as' := [(.one (.pv .nilp)), (.agg [(.pv (.int .u64 0)), (.pv (.int .i64 0)), (.pv (.int .i64 0)), (.pv (.bool false)), (.pv .nilp)])]) (objs' := []) (rows' := []) (zaO 0 0 0 false zad.nil _ h22) ⟨.eq rfl, ⟨.eq rfl, .eq rfl, .eq rfl, .eq rfl, .eq rfl, trivial⟩, trivial⟩ trivial trivial)
         rcases zaj h with ⟨h23, h⟩ | ⟨h23, h⟩
         ·cases h
         ·obtain ⟨_, h24, h⟩ := zae h
          obtain ⟨_, h25, h⟩ := zae h
          obtain ⟨_, h26, h⟩ := zae h
          obtain ⟨_, h27, h⟩ := zae h
          obtain ⟨_, h28, h⟩ := zae h
          obtain ⟨_, h29, h⟩ := zae h
          obtain ⟨_, h30, h⟩ := zae h
          obtain ⟨_, h31, h⟩ := zae h
          have h := zaf h
          subst h
          have t_ := p9_ <| tR q_10 <| tR (zaH self _ h9) <| tR q_10 <| tT h11 <| tT h12 <| tF (zaz h13) <| tR (zbl _ h14) <| tR q_15 <| tR (zaV 1 _ h16) <| tR q_17 <| tT (rfl : true = true) <| tR q_18 <| tT (rfl : true = true) <| tT h19 <| tF (rfl : false = false) <| tT h20 <| tT (rfl : true = true) <| tR (zaM 1 _ h21) <| tT (rfl : true = true) <| tR q_22 <| tT (rfl : true = true) <| tT (zbc h23) <| tR (zaN 1 _ h24) <| tT (rfl : true = true) <| tR (zaP 0 0 _ h25) <| tT (rfl : true = true) <| tR (zaw _ h26) <| tT (rfl : true = true) <| tR (zau _ h27) <| tT (rfl : true = true) <| tR (zaL _ h28) <| tT (rfl : true = true) <| tR (zaJ _ h29) <| tR (zat _ h30) <| tR (zaK _ h31) <| tN
          exact zag (C := cfg) (sc := t_.ev) (.k1 t_.pf (by kernel_rfl) (by kernel_rfl))
        ·cases h
       ·cases h
      ·obtain ⟨b3, h14, h⟩ := zae h
       obtain ⟨_, h15, h⟩ := zae h
       obtain ⟨_, h16, h⟩ := zae h
       have q_16 := (za7 1 true zad.nil _ h16)
       obtain ⟨⟨n4, n5, n6, b4, t3, b5⟩, h17, h⟩ := zae h
       obtain ⟨_, h18, h⟩ := zae h
       have q_18 := (zbm N 3 n r m_ m_2 3 n2 r2 l_ r3 _ h18)
       obtain ⟨r4, h19, h⟩ := zae h
       have q_19 := (zdM N 3 n m_ m_2 3 n2 r2 l_ r3 r _ h19)
       rcases zaj h with ⟨h20, h⟩ | ⟨h20, h⟩
       ·rcases zaj h with ⟨h21, h⟩ | ⟨h21, h⟩
        ·rcases zaj h with ⟨h22, h⟩ | ⟨h22, h⟩
         ·obtain ⟨_, h23, h⟩ := zae h
          obtain ⟨_, h24, h⟩ := zae h
          have q_24 := (Runs.coe (as' := [(.one (.pv .nilp)), (.agg [(.pv (.int .u64 0)), (.pv (.int .i64 0)), (.pv (.int .i64 0)), (.pv (.bool false)), (.pv .nilp)])]) (objs' := []) (rows' := []) (zaO 0 0 0 false zad.nil _ h24) ⟨.eq rfl, ⟨.eq rfl, .eq rfl, .eq rfl, .eq rfl, .eq rfl, trivial⟩, trivial⟩ trivial trivial)
          rcases zaj h with ⟨h25, h⟩ | ⟨h25, h⟩
          ·cases h
          ·obtain ⟨_, h26, h⟩ := zae h
           obtain ⟨_, h27, h⟩ := zae h
           obtain ⟨_, h28, h⟩ := zae h
           obtain ⟨_, h29, h⟩ := zae h
           obtain ⟨_, h30, h⟩ := zae h
           obtain ⟨_, h31, h⟩ := zae h
           obtain ⟨_, h32, h⟩ := zae h
           obtain ⟨_, h33, h⟩ := zae h
           have h := zaf h
           subst h
           have t_ := p9_ <| tR q_10 <| tR (zaH self _ h9) <| tR q_10 <| tT h11 <| tT h12 <| tT (zbc h13) <| tR (zap b2 t _ h14) <| tR (zbl _ h15) <| tR q_16 <| tR (zaV 1 _ h17) <| tR q_18 <| tT (rfl : true = true) <| tR q_19 <| tT (rfl : true = true) <| tT h20 <| tF (zaz h21) <| tT h22 <| tT (rfl : true = true) <| tR (zaM 1 _ h23) <| tT (rfl : true = true) <| tR q_24 <| tT (rfl : true = true) <| tT (zbc h25) <| tR (zaN 1 _ h26) <| tT (rfl : true = true) <| tR (zaP 0 0 _ h27) <| tT (rfl : true = true) <| tR (zaw _ h28) <| tT (rfl : true = true) <| tR (zau _ h29) <| tT (rfl : true = true) <| tR (zaL _ h30) <| tT (rfl : true = true) <| tR (zaJ _ h31) <| tR (zat _ h32) <| tR (zaK _ h33) <| tN
           exact zag (C := cfg) (sc := t_.ev) (.k1 t_.pf (by kernel_rfl) (by kernel_rfl))
         ·cases h
        ·obtain ⟨_, h22, h⟩ := zae h
         obtain ⟨_, h23, h⟩ := zae h
         have q_23 := (Runs.coe (as' := [(.one (.pv .nilp)), (.agg [(.pv (.int .u64 0)), (.pv (.int .i64 0)), (.pv (.int .i64 0)), (.pv (.bool false)), (.pv .nilp)])]) (objs' := []) (rows' := []) (zaO 0 0 0 false zad.nil _ h23) ⟨.eq rfl, ⟨.eq rfl, .eq rfl, .eq rfl, .eq rfl, .eq rfl, trivial⟩, trivial⟩ trivial trivial)
         rcases zaj h with ⟨h24, h⟩ | ⟨h24, h⟩
         ·cases h
         ·obtain ⟨_, h25, h⟩ := zae h
          obtain ⟨_, h26, h⟩ := zae h
          obtain ⟨_, h27, h⟩ := zae h
          obtain ⟨_, h28, h⟩ := zae h
          obtain ⟨_, h29, h⟩ := zae h
          obtain ⟨_, h30, h⟩ := zae h
          obtain ⟨_, h31, h⟩ := zae h
          obtain ⟨_, h32, h⟩ := zae h
          have h := zaf h
          subst h
          have t_ := p9_ <| tR q_10 <| tR (zaH self _ h9) <| tR q_10 <| tT h11 <| tT h12 <| tT (zbc h13) <| tR (zap b2 t _ h14) <| tR (zbl _ h15) <| tR q_16 <| tR (zaV 1 _ h17) <| tR q_18 <| tT (rfl : true = true) <| tR q_19 <| tT (rfl : true = true) <| tT h20 <| tT (zbc h21) <| tT (rfl : true = true) <| tT (rfl : true = true) <| tR (zaM 1 _ h22) <| tT (rfl : true = true) <| tR q_23 <| tT (rfl : true = true) <| tT (zbc h24) <| tR (zaN 1 _ h25) <| tT (rfl : true = true) <| tR (zaP 0 0 _ h26) <| tT (rfl : true = true) <| tR (zaw _ h27) <| tT (rfl : true = true) <| tR (zau _ h28) <| tT (rfl : true = true) <| tR (zaL _ h29) <| tT (rfl : true = true) <| tR (zaJ _ h30) <| tR (zat _ h31) <| tR (zaK _ h32) <| tN
          exact zag (C := cfg) (sc := t_.ev) (.k1 t_.pf (by kernel_rfl) (by kernel_rfl))
       ·cases h
     ·obtain ⟨_, h13, h⟩ := zae h
      obtain ⟨_, h14, h⟩ := zae h
      have q_14 := (za7 1 true zad.nil _ h14)
      obtain ⟨⟨n4, n5, n6, b3, t3, b4⟩, h15, h⟩ := zae h
      obtain ⟨_, h16, h⟩ := zae h
      have q_16 := (zbm N 3 n r m_ m_2 3 n2 r2 l_ r3 _ h16)
      obtain ⟨r4, h17, h⟩ := zae h
      have q_17 := (zdM N 3 n m_ m_2 3 n2 r2 l_ r3 r _ h17)
      rcases zaj h with ⟨h18, h⟩ | ⟨h18, h⟩
      ·rcases zaj h with ⟨h19, h⟩ | ⟨h19, h⟩
       ·obtain ⟨_, h20, h⟩ := zae h
        obtain ⟨_, h21, h⟩ := zae h
        have q_21 := (Runs.coe (as' := [(.one (.pv .nilp)), (.agg [(.pv (.int .u64 0)), (.pv (.int .i64 0)), (.pv (.int .i64 0)), (.pv (.bool false)), (.pv .nilp)])]) (objs' := []) (rows' := []) (zaO 0 0 0 false zad.nil _ h21) ⟨.eq rfl, ⟨.eq rfl, .eq rfl, .eq rfl, .eq rfl, .eq rfl, trivial⟩, trivial⟩ trivial trivial)
        rcases zaj h with ⟨h22, h⟩ | ⟨h22, h⟩
        ·cases h
        ·obtain ⟨_, h23, h⟩ := zae h
         obtain ⟨_, h24, h⟩ := zae h
         obtain ⟨_, h25, h⟩ := zae h
         obtain ⟨_, h26, h⟩ := zae h
         obtain ⟨_, h27, h⟩ := zae h
         obtain ⟨_, h28, h⟩ := zae h
         obtain ⟨_, h29, h⟩ := zae h
         obtain ⟨_, h30, h⟩ := zae h
         have h := zaf h
         subst h
         have t_ := p9_ <| tR q_10 <| tR (zaH self _ h9) <| tR q_10 <| tT h11 <| tF h12 <| tF (rfl : false = false) <| tR (zbl _ h13) <| tR q_14 <| tR (zaV 1 _ h15) <| tR q_16 <| tT (rfl : true = true) <| tR q_17 <| tT (rfl : true = true) <| tT h18 <| tF (rfl : false = false) <| tT h19 <| tT (rfl : true = true) <| tR (zaM 1 _ h20) <| tT (rfl : true = true) <| tR q_21 <| tT (rfl : true = true) <| tT (zbc h22) <| tR (zaN 1 _ h23) <| tT (rfl : true = true) <| tR (zaP 0 0 _ h24) <| tT (rfl : true = true) <| tR (zaw _ h25) <| tT (rfl : true = true) <| tR (zau _ h26) <| tT (rfl : true = true) <| tR (zaL _ h27) <| tT (rfl : true = true) <| tR (zaJ _ h28) <| tR (zat _ h29) <| tR (zaK _ h30) <| tN
         exact zag (C := cfg) (sc := t_.ev) (.k1 t_.pf (by kernel_rfl) (by kernel_rfl))
       ·cases h
      ·cases h
    ·obtain ⟨_, h12, h⟩ := zae h
     obtain ⟨_, h13, h⟩ := zae h
     have q_13 := (za7 1 true zad.nil _ h13)
     obtain ⟨⟨n4, n5, n6, b3, t3, b4⟩, h14, h⟩ := zae h
     obtain ⟨_, h15, h⟩ := zae h
     have q_15 := (zbm N 3 n r m_ m_2 3 n2 r2 l_ r3 _ h15)
     obtain ⟨r4, h16, h⟩ := zae h
     have q_16 := (zdM N 3 n m_ m_2 3 n2 r2 l_ r3 r _ h16)
     rcases zaj h with ⟨h17, h⟩ | ⟨h17, h⟩
     ·rcases zaj h with ⟨h18, h⟩ | ⟨h18, h⟩
      ·obtain ⟨_, h19, h⟩ := zae h
       obtain ⟨_, h20, h⟩ := zae h
       have q_20 := (Runs.coe (as' := [(.one (.pv .nilp)), (.agg [(.pv (.int .u64 0)), (.pv (.int .i64 0)), (.pv (.int .i64 0)), (.pv (.bool false)), (.pv .nilp)])]) (objs' := []) (rows' := []) (zaO 0 0 0 false zad.nil _ h20) ⟨.eq rfl, ⟨.eq rfl, .eq rfl, .eq rfl, .eq rfl, .eq rfl, trivial⟩, trivial⟩ trivial trivial)
       rcases zaj h with ⟨h21, h⟩ | ⟨h21, h⟩
       ·cases h
       ·obtain ⟨_, h22, h⟩ := zae h
        obtain ⟨_, h23, h⟩ := zae h
        obtain ⟨_, h24, h⟩ := zae h
        obtain ⟨_, h25, h⟩ := zae h
        obtain ⟨_, h26, h⟩ := zae h
        obtain ⟨_, h27, h⟩ := zae h
        obtain ⟨_, h28, h⟩ := zae h
        obtain ⟨_, h29, h⟩ := zae h
        have h := zaf h
        subst h
        have t_ := p9_ <| tR q_10 <| tR (zaH self _ h9) <| tR q_10 <| tF h11 <| tF (rfl : false = false) <| tF (rfl : false = false) <| tR (zbl _ h12) <| tR q_13 <| tR (zaV 1 _ h14) <| tR q_15 <| tT (rfl : true = true) <| tR q_16 <| tT (rfl : true = true) <| tT h17 <| tF (rfl : false = false) <| tT h18 <| tT (rfl : true = true) <| tR (zaM 1 _ h19) <| tT (rfl : true = true) <| tR q_20 <| tT (rfl : true = true) <| tT (zbc h21) <| tR (zaN 1 _ h22) <| tT (rfl : true = true) <| tR (zaP 0 0 _ h23) <| tT (rfl : true = true) <| tR (zaw _ h24) <| tT (rfl : true = true) <| tR (zau _ h25) <| tT (rfl : true = true) <| tR (zaL _ h26) <| tT (rfl : true = true) <| tR (zaJ _ h27) <| tR (zat _ h28) <| tR (zaK _ h29) <| tN
        exact zag (C := cfg) (sc := t_.ev) (.k1 t_.pf (by kernel_rfl) (by kernel_rfl))
      ·cases h
     ·cases h
   ·have q_10 := (zb9 3 b2 t self 0 [] [] _ h10)
    rcases zaj h with ⟨h11, h⟩ | ⟨h11, h⟩
    ·rcases zaj h with ⟨h12, h⟩ | ⟨h12, h⟩
     ·rcases zaj h with ⟨h13, h⟩ | ⟨h13, h⟩
      ·obtain ⟨_, h14, h⟩ := zae h
       obtain ⟨_, h15, h⟩ := zae h
       obtain ⟨⟨n5, n6, n7, b3, t3, b4⟩, h16, h⟩ := zae h
       obtain ⟨_, h17, h⟩ := zae h
       obtain ⟨r5, h18, h⟩ := zae h
       cases h
      ·obtain ⟨b3, h14, h⟩ := zae h
       obtain ⟨_, h15, h⟩ := zae h
       obtain ⟨_, h16, h⟩ := zae h
       have q_16 := (za7 1 true zad.nil _ h16)
       obtain ⟨⟨n5, n6, n7, b4, t3, b5⟩, h17, h⟩ := zae h
       obtain ⟨_, h18, h⟩ := zae h
       have q_18 := (zbm N 3 n r m_ m_2 3 n2 r2 l_ r3 _ h18)
       obtain ⟨r5, h19, h⟩ := zae h
       have q_19 := (zdM N 3 n m_ m_2 3 n2 r2 l_ r3 r _ h19)
       rcases zaj h with ⟨h20, h⟩ | ⟨h20, h⟩
       ·rcases zaj h with ⟨h21, h⟩ | ⟨h21, h⟩
        ·cases h
        ·obtain ⟨_, h22, h⟩ := zae h
         obtain ⟨_, h23, h⟩ := zae h
         have q_23 := (Runs.coe (as' := [(.one (.pv .nilp)), (.agg [(.pv (.int .u64 0)), (.pv (.int .i64 0)), (.pv (.int .i64 0)), (.pv (.bool false)), (.pv .nilp)])]) (objs' := []) (rows' := []) (zaO 0 0 0 false zad.nil _ h23) ⟨.eq rfl, ⟨.eq rfl, .eq rfl, .eq rfl, .eq rfl, .eq rfl, trivial⟩, trivial⟩ trivial trivial)
         rcases zaj h with ⟨h24, h⟩ | ⟨h24, h⟩
         ·cases h
         ·obtain ⟨_, h25, h⟩ := zae h
          obtain ⟨_, h26, h⟩ := zae h
          obtain ⟨_, h27, h⟩ := zae h
          obtain ⟨_, h28, h⟩ := zae h
          obtain ⟨_, h29, h⟩ := zae h
          obtain ⟨_, h30, h⟩ := zae h
          obtain ⟨_, h31, h⟩ := zae h
          obtain ⟨_, h32, h⟩ := zae h
          have h := zaf h
          subst h
          have t_ := p9_ <| tR q_10 <| tR (zaH self _ h9) <| tR q_10 <| tT h11 <| tT h12 <| tT (zbc h13) <| tR (zap b2 t _ h14) <| tR (zbl _ h15) <| tR q_16 <| tR (zaV 1 _ h17) <| tR q_18 <| tT (rfl : true = true) <| tR q_19 <| tT (rfl : true = true) <| tT h20 <| tT (zbc h21) <| tT (rfl : true = true) <| tT (rfl : true = true) <| tR (zaM 1 _ h22) <| tT (rfl : true = true) <| tR q_23 <| tT (rfl : true = true) <| tT (zbc h24) <| tR (zaN 1 _ h25) <| tT (rfl : true = true) <| tR (zaP 0 0 _ h26) <| tT (rfl : true = true) <| tR (zaw _ h27) <| tT (rfl : true = true) <| tR (zau _ h28) <| tT (rfl : true = true) <| tR (zaL _ h29) <| tT (rfl : true = true) <| tR (zaJ _ h30) <| tR (zat _ h31) <| tR (zaK _ h32) <| tN
          exact zag (C := cfg) (sc := t_.ev) (.k1 t_.pf (by kernel_rfl) (by kernel_rfl))
       ·cases h
     ·obtain ⟨_, h13, h⟩ := zae h
      obtain ⟨_, h14, h⟩ := zae h
      obtain ⟨⟨n5, n6, n7, b3, t3, b4⟩, h15, h⟩ := zae h
      obtain ⟨_, h16, h⟩ := zae h
      obtain ⟨r5, h17, h⟩ := zae h
      cases h
    ·obtain ⟨_, h12, h⟩ := zae h
     obtain ⟨_, h13, h⟩ := zae h
     obtain ⟨⟨n5, n6, n7, b3, t3, b4⟩, h14, h⟩ := zae h
     obtain ⟨_, h15, h⟩ := zae h
     obtain ⟨r5, h16, h⟩ := zae h
     cases h
  ·have q_7 := (zfN N self share more (((List.map zao.pv more)).length : Int) n r m_ m_2 n2 r2 l_ r3 n m_ m_2 n2 r2 l_ r3 r _ _ h7)
   obtain ⟨⟨b2, t, t2⟩, h8, h⟩ := zae h
   obtain ⟨_, h9, h⟩ := zae h
   have p9_ := fun {sc_ : List Ev} {Q_ : Prop} (t_ : Tell sc_ Q_) => tR (ziz _ h1) <| tF (zaz h2) <| tR (zaH 3 _ h3) <| tL q_4 <| tR (zfL 3 n r m_ m_2 _ h5) <| tR (zji 3 n2 r2 l_ r3 _ h6) <| tL q_7 <| tR (zbM N share _ h8) <| tR (zaH self _ h9) <| tR (zaH self _ h9) <| tR (zaH self _ h9) <| t_
   obtain ⟨z_, h10, h⟩ := zae h
   rcases z_ with n5 | ⟨n5, n6, r7, m_5⟩
   ·have q_10 := (zb9 3 b2 t self 0 [] [] _ h10)
    rcases zaj h with ⟨h11, h⟩ | ⟨h11, h⟩
    ·rcases zaj h with ⟨h12, h⟩ | ⟨h12, h⟩
     ·rcases zaj h with ⟨h13, h⟩ | ⟨h13, h⟩
      ·obtain ⟨_, h14, h⟩ := zae h
       obtain ⟨_, h15, h⟩ := zae h
       have q_15 := (za7 1 true zad.nil _ h15)
       obtain ⟨⟨n6, n7, n8, b3, t3, b4⟩, h16, h⟩ := zae h
       obtain ⟨_, h17, h⟩ := zae h
       have q_17 := (zbm N 3 n r m_ m_2 3 n2 r2 l_ r3 _ h17)
       obtain ⟨_, h18, h⟩ := zae h
       have q_18 := (zbm N 3 n3 r4 m_3 m_4 3 n4 r5 l_2 r6 _ h18)
       rcases zaj h with ⟨h19, h⟩ | ⟨h19, h⟩
       ·rcases zaj h with ⟨h20, h⟩ | ⟨h20, h⟩
        ·obtain ⟨_, h21, h⟩ := zae h
         obtain ⟨_, h22, h⟩ := zae h
         have q_22 := (Runs.coe (as' := [(.one (.pv .nilp)), (.agg [(.pv (.int .u64 0)), (.pv (.int .i64 0)), (.pv (.int .i64 0)), (.pv (.bool false)), (.pv .nilp)])]) (objs' := []) (rows' := []) (zaO 0 0 0 false zad.nil _ h22) ⟨.eq rfl, ⟨.eq rfl, .eq rfl, .eq rfl, .eq rfl, .eq rfl, trivial⟩, trivial⟩ trivial trivial)
         rcases zaj h with ⟨h23, h⟩ | ⟨h23, h⟩
         ·cases h
         ·obtain ⟨_, h24, h⟩ := zae h
          obtain ⟨_, h25, h⟩ := zae h
          obtain ⟨_, h26, h⟩ := zae h
          obtain ⟨_, h27, h⟩ := zae h
          obtain ⟨_, h28, h⟩ := zae h
          obtain ⟨_, h29, h⟩ := zae h
          obtain ⟨_, h30, h⟩ := zae h
          obtain ⟨_, h31, h⟩ := zae h
          have h := zaf h
          subst h
          have t_ := p9_ <| tR q_10 <| tR (zaH self _ h9) <| tR q_10 <| tT h11 <| tT h12 <| tF (zaz h13) <| tR (zbl _ h14) <| tR q_15 <| tR (zaV 1 _ h16) <| tR q_17 <| tT (rfl : true = true) <| tR q_18 <| tT (rfl : true = true) <| tT h19 <| tF (rfl : false = false) <| tT h20 <| tT (rfl : true = true) <| tR (zaM 1 _ h21) <| tT (rfl : true = true) <| tR q_22 <| tT (rfl : true = true) <| tT (zbc h23) <| tR (zaN 1 _ h24) <| tT (rfl : true = true) <| tR (zaP 0 0 _ h25) <| tT (rfl : true = true) <| tR (zaw _ h26) <| tT (rfl : true = true) <| tR (zau _ h27) <| tT (rfl : true = true) <| tR (zaL _ h28) <| tT (rfl : true = true) <| tR (zaJ _ h29) <| tR (zat _ h30) <| tR (zaK _ h31) <| tN
          exact zag (C := cfg) (sc := t_.ev) (.k1 t_.pf (by kernel_rfl) (by kernel_rfl))
        ·cases h
       ·cases h
      ·obtain ⟨b3, h14, h⟩ := zae h
       obtain ⟨_, h15, h⟩ := zae h
       obtain ⟨_, h16, h⟩ := zae h
       have q_16 := (za7 1 true zad.nil _ h16)
       obtain ⟨⟨n6, n7, n8, b4, t3, b5⟩, h17, h⟩ := zae h
       obtain ⟨_, h18, h⟩ := zae h
       have q_18 := (zbm N 3 n r m_ m_2 3 n2 r2 l_ r3 _ h18)
       obtain ⟨_, h19, h⟩ := zae h
       have q_19 := (zbm N 3 n3 r4 m_3 m_4 3 n4 r5 l_2 r6 _ h19)
       rcases zaj h with ⟨h20, h⟩ | ⟨h20, h⟩
       ·rcases zaj h with ⟨h21, h⟩ | ⟨h21, h⟩
        ·rcases zaj h with ⟨h22, h⟩ | ⟨h22, h⟩
         ·obtain ⟨_, h23, h⟩ := zae h
          obtain ⟨_, h24, h⟩ := zae h
          have q_24 := (Runs.coe (as' := [(.one (.pv .nilp)), (.agg [(.pv (.int .u64 0)), (.pv (.int .i64 0)), (.pv (.int .i64 0)), (.pv (.bool false)), (.pv .nilp)])]) (objs' := []) (rows' := []) (zaO 0 0 0 false zad.nil _ h24) ⟨.eq rfl, ⟨.eq rfl, .eq rfl, .eq rfl, .eq rfl, .eq rfl, trivial⟩, trivial⟩ trivial trivial)
          rcases zaj h with ⟨h25, h⟩ | ⟨h25, h⟩
          ·cases h
          ·obtain ⟨_, h26, h⟩ := zae h
           obtain ⟨_, h27, h⟩ := zae h
           obtain ⟨_, h28, h⟩ := zae h
           obtain ⟨_, h29, h⟩ := zae h
           obtain ⟨_, h30, h⟩ := zae h
           obtain ⟨_, h31, h⟩ := zae h
           obtain ⟨_, h32, h⟩ := zae h
           obtain ⟨_, h33, h⟩ := zae h
           have h := zaf h
           subst h
           have t_ := p9_ <| tR q_10 <| tR (zaH self _ h9) <| tR q_10 <| tT h11 <| tT h12 <| tT (zbc h13) <| tR (zap b2 t _ h14) <| tR (zbl _ h15) <| tR q_16 <| tR (zaV 1 _ h17) <| tR q_18 <| tT (rfl : true = true) <| tR q_19 <| tT (rfl : true = true) <| tT h20 <| tF (zaz h21) <| tT h22 <| tT (rfl : true = true) <| tR (zaM 1 _ h23) <| tT (rfl : true = true) <| tR q_24 <| tT (rfl : true = true) <| tT (zbc h25) <| tR (zaN 1 _ h26) <| tT (rfl : true = true) <| tR (zaP 0 0 _ h27) <| tT (rfl : true = true) <| tR (zaw _ h28) <| tT (rfl : true = true) <| tR (zau _ h29) <| tT (rfl : true = true) <| tR (zaL _ h30) <| tT (rfl : true = true) <| tR (zaJ _ h31) <| tR (zat _ h32) <| tR (zaK _ h33) <| tN
           exact zag (C := cfg) (sc := t_.ev) (.k1 t_.pf (by kernel_rfl) (by kernel_rfl))
         ·cases h
        ·obtain ⟨_, h22, h⟩ := zae h
         obtain ⟨_, h23, h⟩ := zae h
         have q_23 := (Runs.coe (as' := [(.one (.pv .nilp)), (.agg [(.pv (.int .u64 0)), (.pv (.int .i64 0)), (.pv (.int .i64 0)), (.pv (.bool false)), (.pv .nilp)])]) (objs' := []) (rows' := []) (zaO 0 0 0 false zad.nil _ h23) ⟨.eq rfl, ⟨.eq rfl, .eq rfl, .eq rfl, .eq rfl, .eq rfl, trivial⟩, trivial⟩ trivial trivial)
         rcases zaj h with ⟨h24, h⟩ | ⟨h24, h⟩
         ·cases h
         ·obtain ⟨_, h25, h⟩ := zae h
          obtain ⟨_, h26, h⟩ := zae h
          obtain ⟨_, h27, h⟩ := zae h
          obtain ⟨_, h28, h⟩ := zae h
          obtain ⟨_, h29, h⟩ := zae h
          obtain ⟨_, h30, h⟩ := zae h
          obtain ⟨_, h31, h⟩ := zae h
          obtain ⟨_, h32, h⟩ := zae h
          have h := zaf h
          subst h
          have t_ := p9_ <| tR q_10 <| tR (zaH self _ h9) <| tR q_10 <| tT h11 <| tT h12 <| tT (zbc h13) <| tR (zap b2 t _ h14) <| tR (zbl _ h15) <| tR q_16 <| tR (zaV 1 _ h17) <| tR q_18 <| tT (rfl : true = true) <| tR q_19 <| tT (rfl : true = true) <| tT h20 <| tT (zbc h21) <| tT (rfl : true = true) <| tT (rfl : true = true) <| tR (zaM 1 _ h22) <| tT (rfl : true = true) <| tR q_23 <| tT (rfl : true = true) <| tT (zbc h24) <| tR (zaN 1 _ h25) <| tT (rfl : true = true) <| tR (zaP 0 0 _ h26) <| tT (rfl : true = true) <| tR (zaw _ h27) <| tT (rfl : true = true) <| tR (zau _ h28) <| tT (rfl : true = true) <| tR (zaL _ h29) <| tT (rfl : true = true) <| tR (zaJ _ h30) <| tR (zat _ h31) <| tR (zaK _ h32) <| tN
          exact zag (C := cfg) (sc := t_.ev) (.k1 t_.pf (by kernel_rfl) (by kernel_rfl))
       ·cases h
     ·obtain ⟨_, h13, h⟩ := zae h
      obtain ⟨_, h14, h⟩ := zae h
      have q_14 := (za7 1 true zad.nil _ h14)
      obtain ⟨⟨n6, n7, n8, b3, t3, b4⟩, h15, h⟩ := zae h
      obtain ⟨_, h16, h⟩ := zae h
      have q_16 := (zbm N 3 n r m_ m_2 3 n2 r2 l_ r3 _ h16)
      obtain ⟨_, h17, h⟩ := zae h
      have q_17 := (zbm N 3 n3 r4 m_3 m_4 3 n4 r5 l_2 r6 _ h17)
      rcases zaj h with ⟨h18, h⟩ | ⟨h18, h⟩
      ·rcases zaj h with ⟨h19, h⟩ | ⟨h19, h⟩
       ·obtain ⟨_, h20, h⟩ := zae h
        obtain ⟨_, h21, h⟩ := zae h
        have q_21 := (Runs.coe (as' := [(.one (.pv .nilp)), (.agg [(.pv (.int .u64 0)), (.pv (.int .i64 0)), (.pv (.int .i64 0)), (.pv (.bool false)), (.pv .nilp)])]) (objs' := []) (rows' := []) (zaO 0 0 0 false zad.nil _ h21) ⟨.eq rfl, ⟨.eq rfl, .eq rfl, .eq rfl, .eq rfl, .eq rfl, trivial⟩, trivial⟩ trivial trivial)
        rcases zaj h with ⟨h22, h⟩ | ⟨h22, h⟩
        ·cases h
        ·obtain ⟨_, h23, h⟩ := zae h
         obtain ⟨_, h24, h⟩ := zae h
         obtain ⟨_, h25, h⟩ := zae h
         obtain ⟨_, h26, h⟩ := zae h
         obtain ⟨_, h27, h⟩ := zae h
         obtain ⟨_, h28, h⟩ := zae h
         obtain ⟨_, h29, h⟩ := zae h
         obtain ⟨_, h30, h⟩ := zae h
         have h := zaf h
         subst h
         have t_ := p9_ <| tR q_10 <| tR (zaH self _ h9) <| tR q_10 <| tT h11 <| tF h12 <| tF (rfl : false = false) <| tR (zbl _ h13) <| tR q_14 <| tR (zaV 1 _ h15) <| tR q_16 <| tT (rfl : true = true) <| tR q_17 <| tT (rfl : true = true) <| tT h18 <| tF (rfl : false = false) <| tT h19 <| tT (rfl : true = true) <| tR (zaM 1 _ h20) <| tT (rfl : true = true) <| tR q_21 <| tT (rfl : true = true) <| tT (zbc h22) <| tR (zaN 1 _ h23) <| tT (rfl : true = true) <| tR (zaP 0 0 _ h24) <| tT (rfl : true = true) <| tR (zaw _ h25) <| tT (rfl : true = true) <| tR (zau _ h26) <| tT (rfl : true = true) <| tR (zaL _ h27) <| tT (rfl : true = true) <| tR (zaJ _ h28) <| tR (zat _ h29) <| tR (zaK _ h30) <| tN
         exact zag (C := cfg) (sc := t_.ev) (.k1 t_.pf (by kernel_rfl) (by kernel_rfl))
       ·cases h
      ·cases h
    ·obtain ⟨_, h12, h⟩ := zae h
     obtain ⟨_, h13, h⟩ := zae h
     have q_13 := (za7 1 true zad.nil _ h13)
     obtain ⟨⟨n6, n7, n8, b3, t3, b4⟩, h14, h⟩ := zae h
     obtain ⟨_, h15, h⟩ := zae h
     have q_15 := (zbm N 3 n r m_ m_2 3 n2 r2 l_ r3 _ h15)
     obtain ⟨_, h16, h⟩ := zae h
     have q_16 := (zbm N 3 n3 r4 m_3 m_4 3 n4 r5 l_2 r6 _ h16)
     rcases zaj h with ⟨h17, h⟩ | ⟨h17, h⟩
     ·rcases zaj h with ⟨h18, h⟩ | ⟨h18, h⟩
      ·obtain ⟨_, h19, h⟩ := zae h
       obtain ⟨_, h20, h⟩ := zae h
       have q_20 := (Runs.coe (as' := [(.one (.pv .nilp)), (.agg [(.pv (.int .u64 0)), (.pv (.int .i64 0)), (.pv (.int .i64 0)), (.pv (.bool false)), (.pv .nilp)])]) (objs' := []) (rows' := []) (zaO 0 0 0 false zad.nil _ h20) ⟨.eq rfl, ⟨.eq rfl, .eq rfl, .eq rfl, .eq rfl, .eq rfl, trivial⟩, trivial⟩ trivial trivial)
       rcases zaj h with ⟨h21, h⟩ | ⟨h21, h⟩
       ·cases h
       ·obtain ⟨_, h22, h⟩ := zae h
        obtain ⟨_, h23, h⟩ := zae h
        obtain ⟨_, h24, h⟩ := zae h
        obtain ⟨_, h25, h⟩ := zae h
        obtain ⟨_, h26, h⟩ := zae h
        obtain ⟨_, h27, h⟩ := zae h
        obtain ⟨_, h28, h⟩ := zae h
        obtain ⟨_, h29, h⟩ := zae h
        have h := zaf h
        subst h
        have t_ := p9_ <| tR q_10 <| tR (zaH self _ h9) <| tR q_10 <| tF h11 <| tF (rfl : false = false) <| tF (rfl : false = false) <| tR (zbl _ h12) <| tR q_13 <| tR (zaV 1 _ h14) <| tR q_15 <| tT (rfl : true = true) <| tR q_16 <| tT (rfl : true = true) <| tT h17 <| tF (rfl : false = false) <| tT h18 <| tT (rfl : true = true) <| tR (zaM 1 _ h19) <| tT (rfl : true = true) <| tR q_20 <| tT (rfl : true = true) <| tT (zbc h21) <| tR (zaN 1 _ h22) <| tT (rfl : true = true) <| tR (zaP 0 0 _ h23) <| tT (rfl : true = true) <| tR (zaw _ h24) <| tT (rfl : true = true) <| tR (zau _ h25) <| tT (rfl : true = true) <| tR (zaL _ h26) <| tT (rfl : true = true) <| tR (zaJ _ h27) <| tR (zat _ h28) <| tR (zaK _ h29) <| tN
        exact zag (C := cfg) (sc := t_.ev) (.k1 t_.pf (by kernel_rfl) (by kernel_rfl))
      ·cases h
     ·cases h
   ·have q_10 := (zb9 3 b2 t self 0 [] [] _ h10)
    rcases zaj h with ⟨h11, h⟩ | ⟨h11, h⟩
    ·rcases zaj h with ⟨h12, h⟩ | ⟨h12, h⟩
     ·rcases zaj h with ⟨h13, h⟩ | ⟨h13, h⟩
      ·obtain ⟨_, h14, h⟩ := zae h
       obtain ⟨_, h15, h⟩ := zae h
       obtain ⟨⟨n7, n8, n9, b3, t3, b4⟩, h16, h⟩ := zae h
       obtain ⟨_, h17, h⟩ := zae h
       obtain ⟨_, h18, h⟩ := zae h
       cases h
      ·obtain ⟨b3, h14, h⟩ := zae h
       obtain ⟨_, h15, h⟩ := zae h
       obtain ⟨_, h16, h⟩ := zae h
       have q_16 := (za7 1 true zad.nil _ h16)
       obtain ⟨⟨n7, n8, n9, b4, t3, b5⟩, h17, h⟩ := zae h
       obtain ⟨_, h18, h⟩ := zae h
       have q_18 := (zbm N 3 n r m_ m_2 3 n2 r2 l_ r3 _ h18)
       obtain ⟨_, h19, h⟩ := zae h
       have q_19 := (zbm N 3 n3 r4 m_3 m_4 3 n4 r5 l_2 r6 _ h19)
       rcases zaj h with ⟨h20, h⟩ | ⟨h20, h⟩
       ·rcases zaj h with ⟨h21, h⟩ | ⟨h21, h⟩
        ·cases h
        ·obtain ⟨_, h22, h⟩ := zae h
         obtain ⟨_, h23, h⟩ := zae h
         have q_23 := (Runs.coe (as' := [(.one (.pv .nilp)), (.agg [(.pv (.int .u64 0)), (.pv (.int .i64 0)), (.pv (.int .i64 0)), (.pv (.bool false)), (.pv .nilp)])]) (objs' := []) (rows' := []) (zaO 0 0 0 false zad.nil _ h23) ⟨.eq rfl, ⟨.eq rfl, .eq rfl, .eq rfl, .eq rfl, .eq rfl, trivial⟩, trivial⟩ trivial trivial)
         rcases zaj h with ⟨h24, h⟩ | ⟨h24, h⟩
         ·cases h
         ·obtain ⟨_, h25, h⟩ := zae h
          obtain ⟨_, h26, h⟩ := zae h
          obtain ⟨_, h27, h⟩ := zae h
          obtain ⟨_, h28, h⟩ := zae h
          obtain ⟨_, h29, h⟩ := zae h
          obtain ⟨_, h30, h⟩ := zae h
          obtain ⟨_, h31, h⟩ := zae h
          obtain ⟨_, h32, h⟩ := zae h
          have h := zaf h
          subst h
          have t_ := p9_ <| tR q_10 <| tR (zaH self _ h9) <| tR q_10 <| tT h11 <| tT h12 <| tT (zbc h13) <| tR (zap b2 t _ h14) <| tR (zbl _ h15) <| tR q_16 <| tR (zaV 1 _ h17) <| tR q_18 <| tT (rfl : true = true) <| tR q_19 <| tT (rfl : true = true) <| tT h20 <| tT (zbc h21) <| tT (rfl : true = true) <| tT (rfl : true = true) <| tR (zaM 1 _ h22) <| tT (rfl : true = true) <| tR q_23 <| tT (rfl : true = true) <| tT (zbc h24) <| tR (zaN 1 _ h25) <| tT (rfl : true = true) <| tR (zaP 0 0 _ h26) <| tT (rfl : true = true) <| tR (zaw _ h27) <| tT (rfl : true = true) <| tR (zau _ h28) <| tT (rfl : true = true) <| tR (zaL _ h29) <| tT (rfl : true = true) <| tR (zaJ _ h30) <| tR (zat _ h31) <| tR (zaK _ h32) <| tN
          exact zag (C := cfg) (sc := t_.ev) (.k1 t_.pf (by kernel_rfl) (by kernel_rfl))
       ·cases h
     ·obtain ⟨_, h13, h⟩ := zae h
      obtain ⟨_, h14, h⟩ := zae h
      obtain ⟨⟨n7, n8, n9, b3, t3, b4⟩, h15, h⟩ := zae h
      obtain ⟨_, h16, h⟩ := zae h
      obtain ⟨_, h17, h⟩ := zae h
      cases h
    ·obtain ⟨_, h12, h⟩ := zae h
     obtain ⟨_, h13, h⟩ := zae h
     obtain ⟨⟨n7, n8, n9, b3, t3, b4⟩, h14, h⟩ := zae h
     obtain ⟨_, h15, h⟩ := zae h
     obtain ⟨_, h16, h⟩ := zae h
     cases h
 ·cases h
end Go.Proofs.YtjjcmgdgifcmgaaGreat
