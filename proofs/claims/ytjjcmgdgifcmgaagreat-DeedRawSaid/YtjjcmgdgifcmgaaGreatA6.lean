/- What functions compute, and that they do. -/
import Derived.Test.YtjjcmgdgifcmgaaGreatA5
set_option linter.unusedVariables false
set_option linter.unusedSimpArgs false
set_option maxRecDepth 100000
namespace Go.Proofs.YtjjcmgdgifcmgaaGreat
open Go.Ev
def zcd (r : List zag) (n n2 n3 : Int) (r2 : List zae) (l : List Int) (r3 : List zag) : Bool × Int → St
 | (ok, n4) => ⟨[(5, (.av (.one (.ref 0 0)))), (11, (.av (.one (.pv (.bool ok))))), (232, (.av (.one (.pv (.recs 2 (List.map zag.pv r) false))))), (233, (.av (.one (.pv (.int .i64 n))))), (234, (.av (.one (.pv (.int .i64 n4)))))], [(0, [(.pv (.int .i64 n2)), (.pv (.int .u64 n3)), (.pv (.recs 4 (List.map zae.pv r2) false)), (.pv (.ints .i64 l false)), (.pv (.recs 2 (List.map zag.pv r3) false))])], []⟩
def zfF (r : List zag) (n n2 n3 : Int) (r2 : List zae) (l : List Int) (r3 : List zag) : Bool → Ex × St
 | r1 => ((.exit 10), ⟨[(5, (.av (.one (.ref 0 0)))), (11, (.av (.one (.pv (.bool r1)))))], [(0, [(.pv (.int .i64 n2)), (.pv (.int .u64 n3)), (.pv (.recs 4 (List.map zae.pv r2) false)), (.pv (.ints .i64 l false)), (.pv (.recs 2 (List.map zag.pv r3) false))])], []⟩)
noncomputable def zbH (r : List zag) (n n2 n3 : Int) (r2 : List zae) (l : List Int) (r3 : List zag) : Bool × Int → Option ((Bool × Int) ⊕ (Bool))
 | (ok, n4) =>
 bif (decide ((n4 : Int) < n)) then
  bif decide ((0 : Int) ≤ n4) && decide ((n4 : Int) < (((List.map zag.pv r)).length : Int)) then
  (r[(n4).toNat]?).bind fun e_ => match e_ with
  | .mk n5 n6 =>
  bif ok then
   bif (decide ((n5 : Int) < 12)) then
    bif (decide ((n5 : Int) = n2)) then
     some (.inl (false, (iadd .i64 n4 1)))
    else
     bif (decide ((0 : Int) < n6)) then
      bif (decide ((n6 : Int) < 4611686018427387904)) then
       bif (decide ((n4 : Int) = 0)) then
        some (.inl (true, (iadd .i64 n4 1)))
       else
        bif decide ((0 : Int) ≤ (isub .i64 n4 1)) && decide (((isub .i64 n4 1) : Int) < (((List.map zag.pv r3)).length : Int)) then
        (r3[((isub .i64 n4 1)).toNat]?).bind fun e_ => match e_ with
        | .mk n7 n8 =>
        (zhh n7 n8 n5 n6).bind fun b =>
        some (.inl (b, (iadd .i64 n4 1)))
        else none
      else
       some (.inl (false, (iadd .i64 n4 1)))
     else
      some (.inl (false, (iadd .i64 n4 1)))
   else
    some (.inl (false, (iadd .i64 n4 1)))
  else
   some (.inl (false, (iadd .i64 n4 1)))
  else none
 else
  some (.inr ok)
theorem zn5 (r : List zag) (n n2 n3 : Int) (r2 : List zae) (l : List Int) (r3 : List zag) (s_ : Bool × Int) (z_ : (Bool × Int) ⊕ (Bool)) (h : zbH r n n2 n3 r2 l r3 s_ = some z_) : zaP Tryz.prog cfg 29 0 (zax Tryz.prog 29 5) (zcd r n n2 n3 r2 l r3) (zfF r n n2 n3 r2 l r3) s_ z_ := by
 rcases s_ with ⟨ok, n4⟩
 rcases zaj h with ⟨h1, h⟩ | ⟨h1, h⟩
 ·obtain ⟨h2, h⟩ := zaq h
  obtain ⟨⟨n5, n6⟩, h3, h⟩ := zaf h
  rcases zaj h with ⟨h4, h⟩ | ⟨h4, h⟩
  ·rcases zaj h with ⟨h5, h⟩ | ⟨h5, h⟩
   ·rcases zaj h with ⟨h6, h⟩ | ⟨h6, h⟩
    ·have h := zad h
     subst h
     have t_ := tT h1 <| tO h2 <| tE (.el [(.int .i64 n5), (.int .u64 n6)]) <| tO (zc0 (f := zag.pv) h3) <| tT h4 <| tT h5 <| tF (zan h6) <| tF (rfl : false = false) <| tF (rfl : false = false) <| tN
     exact ⟨t_.ev, zcd r n n2 n3 r2 l r3 (false, (iadd .i64 n4 1)), .k1 t_.pf (by kernel_rfl) (by kernel_rfl), .same (by kernel_rfl)⟩
    ·rcases zaj h with ⟨h7, h⟩ | ⟨h7, h⟩
     ·rcases zaj h with ⟨h8, h⟩ | ⟨h8, h⟩
      ·rcases zaj h with ⟨h9, h⟩ | ⟨h9, h⟩
       ·have h := zad h
        subst h
        have t_ := tT h1 <| tO h2 <| tE (.el [(.int .i64 n5), (.int .u64 n6)]) <| tO (zc0 (f := zag.pv) h3) <| tT h4 <| tT h5 <| tT (za7 h6) <| tT h7 <| tT h8 <| tT h9 <| tN
        exact ⟨t_.ev, zcd r n n2 n3 r2 l r3 (true, (iadd .i64 n4 1)), .k1 t_.pf (by kernel_rfl) (by kernel_rfl), .same (by kernel_rfl)⟩
       ·obtain ⟨h10, h⟩ := zaq h
        obtain ⟨⟨n7, n8⟩, h11, h⟩ := zaf h
        obtain ⟨b, h12, h⟩ := zaf h
        have h := zad h
        subst h
        have t_ := tT h1 <| tO h2 <| tE (.el [(.int .i64 n5), (.int .u64 n6)]) <| tO (zc0 (f := zag.pv) h3) <| tT h4 <| tT h5 <| tT (za7 h6) <| tT h7 <| tT h8 <| tF h9 <| tO h10 <| tE (.el [(.int .i64 n7), (.int .u64 n8)]) <| tO (zc0 (f := zag.pv) h11) <| tO h10 <| tE (.el [(.int .i64 n7), (.int .u64 n8)]) <| tO (zc0 (f := zag.pv) h11) <| tR (zm3 n7 n8 n5 n6 _ h12) <| tN
        exact ⟨t_.ev, zcd r n n2 n3 r2 l r3 (b, (iadd .i64 n4 1)), .k1 t_.pf (by kernel_rfl) (by kernel_rfl), .same (by kernel_rfl)⟩
      ·have h := zad h
       subst h
       have t_ := tT h1 <| tO h2 <| tE (.el [(.int .i64 n5), (.int .u64 n6)]) <| tO (zc0 (f := zag.pv) h3) <| tT h4 <| tT h5 <| tT (za7 h6) <| tT h7 <| tF h8 <| tN
       exact ⟨t_.ev, zcd r n n2 n3 r2 l r3 (false, (iadd .i64 n4 1)), .k1 t_.pf (by kernel_rfl) (by kernel_rfl), .same (by kernel_rfl)⟩
     ·have h := zad h
      subst h
      have t_ := tT h1 <| tO h2 <| tE (.el [(.int .i64 n5), (.int .u64 n6)]) <| tO (zc0 (f := zag.pv) h3) <| tT h4 <| tT h5 <| tT (za7 h6) <| tF h7 <| tF (rfl : false = false) <| tN
      exact ⟨t_.ev, zcd r n n2 n3 r2 l r3 (false, (iadd .i64 n4 1)), .k1 t_.pf (by kernel_rfl) (by kernel_rfl), .same (by kernel_rfl)⟩
   ·have h := zad h
    subst h
    have t_ := tT h1 <| tO h2 <| tE (.el [(.int .i64 n5), (.int .u64 n6)]) <| tO (zc0 (f := zag.pv) h3) <| tT h4 <| tF h5 <| tF (rfl : false = false) <| tF (rfl : false = false) <| tF (rfl : false = false) <| tN
    exact ⟨t_.ev, zcd r n n2 n3 r2 l r3 (false, (iadd .i64 n4 1)), .k1 t_.pf (by kernel_rfl) (by kernel_rfl), .same (by kernel_rfl)⟩
  ·have h := zad h
   subst h
   have t_ := tT h1 <| tO h2 <| tE (.el [(.int .i64 n5), (.int .u64 n6)]) <| tO (zc0 (f := zag.pv) h3) <| tF h4 <| tF (rfl : false = false) <| tF (rfl : false = false) <| tF (rfl : false = false) <| tF (rfl : false = false) <| tN
   exact ⟨t_.ev, zcd r n n2 n3 r2 l r3 (false, (iadd .i64 n4 1)), .k1 t_.pf (by kernel_rfl) (by kernel_rfl), .same (by kernel_rfl)⟩
 ·have h := zad h
  subst h
  have t_ := tF h1 <| tN
  exact ⟨t_.ev, ⟨[(235, (.av (.one (.pv (.bool false))))), (5, (.av (.one (.ref 0 0)))), (11, (.av (.one (.pv (.bool ok))))), (232, (.av (.one (.pv (.recs 2 (List.map zag.pv r) false))))), (233, (.av (.one (.pv (.int .i64 n))))), (234, (.av (.one (.pv (.int .i64 n4))))), (235, (.av (.one (.pv (.bool (decide ((n4 : Int) < n)))))))], [(0, [(.pv (.int .i64 n2)), (.pv (.int .u64 n3)), (.pv (.recs 4 (List.map zae.pv r2) false)), (.pv (.ints .i64 l false)), (.pv (.recs 2 (List.map zag.pv r3) false))])], []⟩, .k0 t_.pf (by kernel_rfl), ⟨⟨⟨_, rfl, .eq rfl⟩, ⟨_, rfl, .eq rfl⟩, trivial⟩, ⟨⟨rfl, ⟨.eq rfl, .eq rfl, .eq rfl, .eq rfl, .eq rfl, trivial⟩⟩, trivial⟩, trivial⟩⟩
theorem zmj (r : List zag) (n n2 n3 : Int) (r2 : List zae) (l : List Int) (r3 : List zag) (s_ : Bool × Int) (r_ : Bool) (h : runL (zbH r n n2 n3 r2 l r3) s_ = some r_) : zaT Tryz.prog (lEnv Tryz.prog cfg 29 0).nt 0 (.loop (zax Tryz.prog 29 5)) (zcd r n n2 n3 r2 l r3 s_) (zfF r n n2 n3 r2 l r3 r_).1 (zfF r n n2 n3 r2 l r3 r_).2 :=
 zaJ h (zn5 r n n2 n3 r2 l r3) (by intro r_; rcases r_ with r1 <;> simp [zfF])
def zf6 (r : List zae) (n n2 n3 : Int) (r2 : List zae) (l : List Int) (r3 : List zag) : Int → St
 | n4 => ⟨[(5, (.av (.one (.ref 0 0)))), (11, (.av (.one (.pv (.bool false))))), (126, (.av (.one (.pv (.recs 4 (List.map zae.pv r) false))))), (127, (.av (.one (.pv (.int .i64 n))))), (128, (.av (.one (.pv (.int .i64 n4)))))], [(0, [(.pv (.int .i64 n2)), (.pv (.int .u64 n3)), (.pv (.recs 4 (List.map zae.pv r2) false)), (.pv (.ints .i64 l false)), (.pv (.recs 2 (List.map zag.pv r3) false))])], []⟩
def zeR (r : List zae) (n n2 n3 : Int) (r2 : List zae) (l : List Int) (r3 : List zag) : Unit → Ex × St
 | _ => ((.exit 6), ⟨[(5, (.av (.one (.ref 0 0)))), (11, (.av (.one (.pv (.bool false)))))], [(0, [(.pv (.int .i64 n2)), (.pv (.int .u64 n3)), (.pv (.recs 4 (List.map zae.pv r2) false)), (.pv (.ints .i64 l false)), (.pv (.recs 2 (List.map zag.pv r3) false))])], []⟩)
noncomputable def zcr (r : List zae) (n n2 n3 : Int) (r2 : List zae) (l : List Int) (r3 : List zag) : Int → Option ((Int) ⊕ (Unit))
 | n4 =>
 bif (decide ((n4 : Int) < n)) then
  bif decide ((0 : Int) ≤ n4) && decide ((n4 : Int) < (((List.map zae.pv r)).length : Int)) then
  (r[(n4).toNat]?).bind fun e_ => match e_ with
  | .mk n5 n6 n7 t =>
  some (.inl (iadd .i64 n4 1))
  else none
 else
  some (.inr ())
theorem zme (r : List zae) (n n2 n3 : Int) (r2 : List zae) (l : List Int) (r3 : List zag) (n4 : Int) (z_ : (Int) ⊕ (Unit)) (h : zcr r n n2 n3 r2 l r3 n4 = some z_) : zaP Tryz.prog cfg 29 0 (zax Tryz.prog 29 3) (zf6 r n n2 n3 r2 l r3) (zeR r n n2 n3 r2 l r3) n4 z_ := by
 rcases zaj h with ⟨h1, h⟩ | ⟨h1, h⟩
 ·obtain ⟨h2, h⟩ := zaq h
  obtain ⟨⟨n5, n6, n7, t⟩, h3, h⟩ := zaf h
  have h := zad h
  subst h
  have t_ := tT h1 <| tO h2 <| tE (.el [(.int .u64 n5), (.int .i64 n6), (.int .i64 n7), (zai.pv t)]) <| tO (zc0 (f := zae.pv) h3) <| tF (rfl : false = false) <| tF (rfl : false = false) <| tF (rfl : false = false) <| tF (rfl : false = false) <| tF (rfl : false = false) <| tF (rfl : false = false) <| tN
  exact ⟨t_.ev, zf6 r n n2 n3 r2 l r3 (iadd .i64 n4 1), .k1 t_.pf (by kernel_rfl) (by kernel_rfl), .same (by kernel_rfl)⟩
 ·have h := zad h
  subst h
  have t_ := tF h1 <| tN
  exact ⟨t_.ev, ⟨[(129, (.av (.one (.pv (.bool false))))), (5, (.av (.one (.ref 0 0)))), (11, (.av (.one (.pv (.bool false))))), (126, (.av (.one (.pv (.recs 4 (List.map zae.pv r) false))))), (127, (.av (.one (.pv (.int .i64 n))))), (128, (.av (.one (.pv (.int .i64 n4))))), (129, (.av (.one (.pv (.bool (decide ((n4 : Int) < n)))))))], [(0, [(.pv (.int .i64 n2)), (.pv (.int .u64 n3)), (.pv (.recs 4 (List.map zae.pv r2) false)), (.pv (.ints .i64 l false)), (.pv (.recs 2 (List.map zag.pv r3) false))])], []⟩, .k0 t_.pf (by kernel_rfl), ⟨⟨⟨_, rfl, .eq rfl⟩, ⟨_, rfl, .eq rfl⟩, trivial⟩, ⟨⟨rfl, ⟨.eq rfl, .eq rfl, .eq rfl, .eq rfl, .eq rfl, trivial⟩⟩, trivial⟩, trivial⟩⟩
theorem zkW (r : List zae) (n n2 n3 : Int) (r2 : List zae) (l : List Int) (r3 : List zag) (s_ : Int) (r_ : Unit) (h : runL (zcr r n n2 n3 r2 l r3) s_ = some r_) : zaT Tryz.prog (lEnv Tryz.prog cfg 29 0).nt 0 (.loop (zax Tryz.prog 29 3)) (zf6 r n n2 n3 r2 l r3 s_) (zeR r n n2 n3 r2 l r3 r_).1 (zeR r n n2 n3 r2 l r3 r_).2 :=
 zaJ h (zme r n n2 n3 r2 l r3) (by intro r_; rcases r_ with _ <;> simp [zeR])
def zf7 (l : List Int) (n n2 n3 : Int) (r : List zae) (l2 : List Int) (r2 : List zag) : Int → St
 | n4 => ⟨[(5, (.av (.one (.ref 0 0)))), (11, (.av (.one (.pv (.bool false))))), (192, (.av (.one (.pv (.ints .i64 l false))))), (193, (.av (.one (.pv (.int .i64 n))))), (194, (.av (.one (.pv (.int .i64 n4)))))], [(0, [(.pv (.int .i64 n2)), (.pv (.int .u64 n3)), (.pv (.recs 4 (List.map zae.pv r) false)), (.pv (.ints .i64 l2 false)), (.pv (.recs 2 (List.map zag.pv r2) false))])], []⟩
def zeS (l : List Int) (n n2 n3 : Int) (r : List zae) (l2 : List Int) (r2 : List zag) : Unit → Ex × St
 | _ => ((.exit 8), ⟨[(5, (.av (.one (.ref 0 0)))), (11, (.av (.one (.pv (.bool false)))))], [(0, [(.pv (.int .i64 n2)), (.pv (.int .u64 n3)), (.pv (.recs 4 (List.map zae.pv r) false)), (.pv (.ints .i64 l2 false)), (.pv (.recs 2 (List.map zag.pv r2) false))])], []⟩)
noncomputable def zcs (l : List Int) (n n2 n3 : Int) (r : List zae) (l2 : List Int) (r2 : List zag) : Int → Option ((Int) ⊕ (Unit))
 | n4 =>
 bif (decide ((n4 : Int) < n)) then
  bif decide ((0 : Int) ≤ n4) && decide ((n4 : Int) < ((l).length : Int)) then
  some (.inl (iadd .i64 n4 1))
  else none
 else
  some (.inr ())
theorem zmg (l : List Int) (n n2 n3 : Int) (r : List zae) (l2 : List Int) (r2 : List zag) (n4 : Int) (z_ : (Int) ⊕ (Unit)) (h : zcs l n n2 n3 r l2 r2 n4 = some z_) : zaP Tryz.prog cfg 29 0 (zax Tryz.prog 29 4) (zf7 l n n2 n3 r l2 r2) (zeS l n n2 n3 r l2 r2) n4 z_ := by
 rcases zaj h with ⟨h1, h⟩ | ⟨h1, h⟩
 ·obtain ⟨h2, h⟩ := zaq h
  have h := zad h
  subst h
  have t_ := tT h1 <| tO h2 <| tF (rfl : false = false) <| tF (rfl : false = false) <| tF (rfl : false = false) <| tN
  exact ⟨t_.ev, zf7 l n n2 n3 r l2 r2 (iadd .i64 n4 1), .k0 t_.pf (by kernel_rfl), .same (by kernel_rfl)⟩
 ·have h := zad h
  subst h
  have t_ := tF h1 <| tN
  exact ⟨t_.ev, ⟨[(195, (.av (.one (.pv (.bool false))))), (5, (.av (.one (.ref 0 0)))), (11, (.av (.one (.pv (.bool false))))), (192, (.av (.one (.pv (.ints .i64 l false))))), (193, (.av (.one (.pv (.int .i64 n))))), (194, (.av (.one (.pv (.int .i64 n4))))), (195, (.av (.one (.pv (.bool (decide ((n4 : Int) < n)))))))], [(0, [(.pv (.int .i64 n2)), (.pv (.int .u64 n3)), (.pv (.recs 4 (List.map zae.pv r) false)), (.pv (.ints .i64 l2 false)), (.pv (.recs 2 (List.map zag.pv r2) false))])], []⟩, .k0 t_.pf (by kernel_rfl), ⟨⟨⟨_, rfl, .eq rfl⟩, ⟨_, rfl, .eq rfl⟩, trivial⟩, ⟨⟨rfl, ⟨.eq rfl, .eq rfl, .eq rfl, .eq rfl, .eq rfl, trivial⟩⟩, trivial⟩, trivial⟩⟩
theorem zkX (l : List Int) (n n2 n3 : Int) (r : List zae) (l2 : List Int) (r2 : List zag) (s_ : Int) (r_ : Unit) (h : runL (zcs l n n2 n3 r l2 r2) s_ = some r_) : zaT Tryz.prog (lEnv Tryz.prog cfg 29 0).nt 0 (.loop (zax Tryz.prog 29 4)) (zf7 l n n2 n3 r l2 r2 s_) (zeS l n n2 n3 r l2 r2 r_).1 (zeS l n n2 n3 r l2 r2 r_).2 :=
 zaJ h (zmg l n n2 n3 r l2 r2) (by intro r_; rcases r_ with _ <;> simp [zeS])
def zf8 (r : List zag) (n n2 n3 : Int) (r2 : List zae) (l : List Int) (r3 : List zag) : Int → St
 | n4 => ⟨[(5, (.av (.one (.ref 0 0)))), (11, (.av (.one (.pv (.bool false))))), (232, (.av (.one (.pv (.recs 2 (List.map zag.pv r) false))))), (233, (.av (.one (.pv (.int .i64 n))))), (234, (.av (.one (.pv (.int .i64 n4)))))], [(0, [(.pv (.int .i64 n2)), (.pv (.int .u64 n3)), (.pv (.recs 4 (List.map zae.pv r2) false)), (.pv (.ints .i64 l false)), (.pv (.recs 2 (List.map zag.pv r3) false))])], []⟩
def zeT (r : List zag) (n n2 n3 : Int) (r2 : List zae) (l : List Int) (r3 : List zag) : Unit → Ex × St
 | _ => ((.exit 10), ⟨[(5, (.av (.one (.ref 0 0)))), (11, (.av (.one (.pv (.bool false)))))], [(0, [(.pv (.int .i64 n2)), (.pv (.int .u64 n3)), (.pv (.recs 4 (List.map zae.pv r2) false)), (.pv (.ints .i64 l false)), (.pv (.recs 2 (List.map zag.pv r3) false))])], []⟩)
noncomputable def zct (r : List zag) (n n2 n3 : Int) (r2 : List zae) (l : List Int) (r3 : List zag) : Int → Option ((Int) ⊕ (Unit))
 | n4 =>
 bif (decide ((n4 : Int) < n)) then
  bif decide ((0 : Int) ≤ n4) && decide ((n4 : Int) < (((List.map zag.pv r)).length : Int)) then
  (r[(n4).toNat]?).bind fun e_ => match e_ with
  | .mk n5 n6 =>
  some (.inl (iadd .i64 n4 1))
  else none
 else
  some (.inr ())
theorem zmi (r : List zag) (n n2 n3 : Int) (r2 : List zae) (l : List Int) (r3 : List zag) (n4 : Int) (z_ : (Int) ⊕ (Unit)) (h : zct r n n2 n3 r2 l r3 n4 = some z_) : zaP Tryz.prog cfg 29 0 (zax Tryz.prog 29 5) (zf8 r n n2 n3 r2 l r3) (zeT r n n2 n3 r2 l r3) n4 z_ := by
 rcases zaj h with ⟨h1, h⟩ | ⟨h1, h⟩
 ·obtain ⟨h2, h⟩ := zaq h
  obtain ⟨⟨n5, n6⟩, h3, h⟩ := zaf h
  have h := zad h
  subst h
  have t_ := tT h1 <| tO h2 <| tE (.el [(.int .i64 n5), (.int .u64 n6)]) <| tO (zc0 (f := zag.pv) h3) <| tF (rfl : false = false) <| tF (rfl : false = false) <| tF (rfl : false = false) <| tF (rfl : false = false) <| tF (rfl : false = false) <| tN
  exact ⟨t_.ev, zf8 r n n2 n3 r2 l r3 (iadd .i64 n4 1), .k1 t_.pf (by kernel_rfl) (by kernel_rfl), .same (by kernel_rfl)⟩
 ·have h := zad h
  subst h
  have t_ := tF h1 <| tN
  exact ⟨t_.ev, ⟨[(235, (.av (.one (.pv (.bool false))))), (5, (.av (.one (.ref 0 0)))), (11, (.av (.one (.pv (.bool false))))), (232, (.av (.one (.pv (.recs 2 (List.map zag.pv r) false))))), (233, (.av (.one (.pv (.int .i64 n))))), (234, (.av (.one (.pv (.int .i64 n4))))), (235, (.av (.one (.pv (.bool (decide ((n4 : Int) < n)))))))], [(0, [(.pv (.int .i64 n2)), (.pv (.int .u64 n3)), (.pv (.recs 4 (List.map zae.pv r2) false)), (.pv (.ints .i64 l false)), (.pv (.recs 2 (List.map zag.pv r3) false))])], []⟩, .k0 t_.pf (by kernel_rfl), ⟨⟨⟨_, rfl, .eq rfl⟩, ⟨_, rfl, .eq rfl⟩, trivial⟩, ⟨⟨rfl, ⟨.eq rfl, .eq rfl, .eq rfl, .eq rfl, .eq rfl, trivial⟩⟩, trivial⟩, trivial⟩⟩
theorem zkY (r : List zag) (n n2 n3 : Int) (r2 : List zae) (l : List Int) (r3 : List zag) (s_ : Int) (r_ : Unit) (h : runL (zct r n n2 n3 r2 l r3) s_ = some r_) : zaT Tryz.prog (lEnv Tryz.prog cfg 29 0).nt 0 (.loop (zax Tryz.prog 29 5)) (zf8 r n n2 n3 r2 l r3 s_) (zeT r n n2 n3 r2 l r3 r_).1 (zeT r n n2 n3 r2 l r3 r_).2 :=
 zaJ h (zmi r n n2 n3 r2 l r3) (by intro r_; rcases r_ with _ <;> simp [zeT])
noncomputable def zgD (N : Nat) (p : List Int) : Option ((Int × Int × List zae × List Int × List zag) ⊕ (Int)) :=
 (zdD p 0 0).bind fun (n, n2, n3) =>
 (zcc p n2 n3).bind fun (n4, n5, n6) =>
 (zcc p n5 n6).bind fun (n7, n8, n9) =>
 (runL (zbC N p n n4) (n7, n8, n9, [])).bind fun (n10, n11, r) =>
 (zcc p n10 n11).bind fun (n12, n13, n14) =>
 (runL (zbD p n n4 r) (n12, n13, n14, [])).bind fun (n15, n16, l_) =>
 (zcc p n15 n16).bind fun (n17, n18, n19) =>
 (runL (zbE p n n4 r l_) (n17, n18, n19, [])).bind fun (n20, n21, r2) =>
 (zls p n20 n21).bind fun (n22, n23) =>
 bif (decide ((n22 : Int) = 0)) then
  bif (decide ((n : Int) < 12)) then
   (runL (zbF (List.take ((List.map zae.pv r)).length r) (((List.map zae.pv r)).length : Int) n n4 (List.take ((List.map zae.pv r)).length r) l_ (List.take ((List.map zag.pv r2)).length r2)) ((decide ((n4 : Int) < 4611686018427387904)), 0)).bind fun b =>
   (runL (zbG l_ ((l_).length : Int) n n4 (List.take ((List.map zae.pv r)).length r) l_ (List.take ((List.map zag.pv r2)).length r2)) (b, 0)).bind fun b2 =>
   (runL (zbH (List.take ((List.map zag.pv r2)).length r2) (((List.map zag.pv (List.take ((List.map zag.pv r2)).length r2))).length : Int) n n4 (List.take ((List.map zae.pv r)).length r) l_ (List.take ((List.map zag.pv r2)).length r2)) (b2, 0)).bind fun b3 =>
   bif b3 then
    some (.inl (n, n4, (List.take ((List.map zae.pv r)).length r), l_, (List.take ((List.map zag.pv r2)).length r2)))
   else
    some (.inr 6)
  else
   (runL (zcr (List.take ((List.map zae.pv r)).length r) (((List.map zae.pv r)).length : Int) n n4 (List.take ((List.map zae.pv r)).length r) l_ (List.take ((List.map zag.pv r2)).length r2)) 0).bind fun _ =>
   (runL (zcs l_ ((l_).length : Int) n n4 (List.take ((List.map zae.pv r)).length r) l_ (List.take ((List.map zag.pv r2)).length r2)) 0).bind fun _ =>
   (runL (zct (List.take ((List.map zag.pv r2)).length r2) (((List.map zag.pv (List.take ((List.map zag.pv r2)).length r2))).length : Int) n n4 (List.take ((List.map zae.pv r)).length r) l_ (List.take ((List.map zag.pv r2)).length r2)) 0).bind fun _ =>
   some (.inr 6)
 else
  some (.inr n22)
theorem zgn (N : Nat) (p : List Int) (r_ : (Int × Int × List zae × List Int × List zag) ⊕ (Int)) (h : zgD N p = some r_) : Runs Tryz.prog 29 [(.one (.pv (.ints .u8 p false)))] [] [] (zqd p r_) := by
 unfold zgD at h
 obtain ⟨⟨n, n2, n3⟩, h1, h⟩ := zaf h
 obtain ⟨⟨n4, n5, n6⟩, h2, h⟩ := zaf h
 obtain ⟨⟨n7, n8, n9⟩, h3, h⟩ := zaf h
 obtain ⟨⟨n10, n11, r⟩, h4, h⟩ := zaf h
 have q_4 := (zaT.coe (s0 := ⟨[(4, (.av (.one (.ref 0 0)))), (5, (.av (.one (.ref 1 0)))), (6, (.av (.one (.pv (.int .u64 n7)))))], [(0, [(.pv (.ints .u8 p false)), (.pv (.int .i64 n8)), (.pv (.int .i64 n9))]), (1, [(.pv (.int .i64 n)), (.pv (.int .u64 n4)), (.own 0 0 0 false), (.pv .nils), (.pv .nils)])], [(0, (.live (.recs 4 [])))]⟩) (zmb N p n n4 _ _ h4) ⟨⟨⟨_, rfl, .eq rfl⟩, ⟨_, rfl, .eq rfl⟩, ⟨_, rfl, .eq rfl⟩, trivial⟩, ⟨⟨rfl, ⟨.eq rfl, .eq rfl, .eq rfl, trivial⟩⟩, ⟨rfl, ⟨.eq rfl, .eq rfl, .own (by first | rfl | (simp only [List.take_length]; done) | (simp; done) | (simp only [List.map_take, List.map_drop, List.map_append, List.take_length, List.nil_append]; done) | (simp only [List.length_map, List.take_length, List.length_append, List.drop_zero, List.map_append, List.map_take, List.map_drop, List.map_replicate, List.map_cons, List.map_nil, List.append_nil, List.nil_append]; done)), .eq rfl, .eq rfl, trivial⟩⟩, trivial⟩, ⟨⟨rfl, .recs (.nil)⟩, trivial⟩⟩)
 obtain ⟨⟨n12, n13, n14⟩, h5, h⟩ := zaf h
 obtain ⟨⟨n15, n16, l_⟩, h6, h⟩ := zaf h
 have q_6 := (zaT.coe (s0 := ⟨[(4, (.av (.one (.ref 0 0)))), (5, (.av (.one (.ref 1 0)))), (7, (.av (.one (.pv (.int .u64 n12)))))], [(0, [(.pv (.ints .u8 p false)), (.pv (.int .i64 n13)), (.pv (.int .i64 n14))]), (1, [(.pv (.int .i64 n)), (.pv (.int .u64 n4)), (.own 0 0 ((List.map zae.pv r)).length false), (.own 1 0 0 false), (.pv .nils)])], [(0, (.live (.recs 4 (List.map zae.pv r)))), (1, (.live (.ints .i64 [])))]⟩) (zmc p n n4 r _ _ h6) ⟨⟨⟨_, rfl, .eq rfl⟩, ⟨_, rfl, .eq rfl⟩, ⟨_, rfl, .eq rfl⟩, trivial⟩, ⟨⟨rfl, ⟨.eq rfl, .eq rfl, .eq rfl, trivial⟩⟩, ⟨rfl, ⟨.eq rfl, .eq rfl, .eq rfl, .own (by first | rfl | (simp only [List.take_length]; done) | (simp; done) | (simp only [List.map_take, List.map_drop, List.map_append, List.take_length, List.nil_append]; done) | (simp only [List.length_map, List.take_length, List.length_append, List.drop_zero, List.map_append, List.map_take, List.map_drop, List.map_replicate, List.map_cons, List.map_nil, List.append_nil, List.nil_append]; done)), .eq rfl, trivial⟩⟩, trivial⟩, ⟨⟨rfl, .eq rfl⟩, ⟨rfl, .eq rfl⟩, trivial⟩⟩)
 obtain ⟨⟨n17, n18, n19⟩, h7, h⟩ := zaf h
 obtain ⟨⟨n20, n21, r2⟩, h8, h⟩ := zaf h
 have q_8 := (zaT.coe (s0 := ⟨[(4, (.av (.one (.ref 0 0)))), (5, (.av (.one (.ref 1 0)))), (8, (.av (.one (.pv (.int .u64 n17)))))], [(0, [(.pv (.ints .u8 p false)), (.pv (.int .i64 n18)), (.pv (.int .i64 n19))]), (1, [(.pv (.int .i64 n)), (.pv (.int .u64 n4)), (.own 0 0 ((List.map zae.pv r)).length false), (.own 1 0 (l_).length false), (.own 2 0 0 false)])], [(0, (.live (.recs 4 (List.map zae.pv r)))), (1, (.live (.ints .i64 l_))), (2, (.live (.recs 2 [])))]⟩) (zmd p n n4 r l_ _ _ h8) ⟨⟨⟨_, rfl, .eq rfl⟩, ⟨_, rfl, .eq rfl⟩, ⟨_, rfl, .eq rfl⟩, trivial⟩, ⟨⟨rfl, ⟨.eq rfl, .eq rfl, .eq rfl, trivial⟩⟩, ⟨rfl, ⟨.eq rfl, .eq rfl, .eq rfl, .eq rfl, .own (by first | rfl | (simp only [List.take_length]; done) | (simp; done) | (simp only [List.map_take, List.map_drop, List.map_append, List.take_length, List.nil_append]; done) | (simp only [List.length_map, List.take_length, List.length_append, List.drop_zero, List.map_append, List.map_take, List.map_drop, List.map_replicate, List.map_cons, List.map_nil, List.append_nil, List.nil_append]; done)), trivial⟩⟩, trivial⟩, ⟨⟨rfl, .eq rfl⟩, ⟨rfl, .eq rfl⟩, ⟨rfl, .recs (.nil)⟩, trivial⟩⟩)
 obtain ⟨⟨n22, n23⟩, h9, h⟩ := zaf h
 have p9_ := fun {sc_ : List Ev} {Q_ : Prop} (t_ : Tell sc_ Q_) => tR (zbw p 0 0 _ h1) <| tR (zbi p n2 n3 _ h2) <| tR (zbi p n5 n6 _ h3) <| tL q_4 <| tR (zbi p n10 n11 _ h5) <| tL q_6 <| tR (zbi p n15 n16 _ h7) <| tL q_8 <| tR (zp9 p n20 n21 _ h9) <| t_
 rcases zaj h with ⟨h10, h⟩ | ⟨h10, h⟩
 ·rcases zaj h with ⟨h11, h⟩ | ⟨h11, h⟩
  ·obtain ⟨b, h12, h⟩ := zaf h
   have q_12 := (zaT.coe (s0 := ⟨[(5, (.av (.one (.ref 0 0)))), (11, (.av (.one (.pv (.bool (decide ((n4 : Int) < 4611686018427387904))))))), (126, (.av (.one (.pv (.recs 4 (List.take ((List.map zae.pv r)).length (List.map zae.pv r)) false))))), (127, (.av (.one (.pv (.int .i64 (((List.map zae.pv r)).length : Int)))))), (128, (.av (.one (.pv (.int .i64 0)))))], [(0, [(.pv (.int .i64 n)), (.pv (.int .u64 n4)), (.pv (.recs 4 (List.take ((List.map zae.pv r)).length (List.map zae.pv r)) false)), (.pv (.ints .i64 (List.take (l_).length l_) false)), (.pv (.recs 2 (List.take ((List.map zag.pv r2)).length (List.map zag.pv r2)) false))])], []⟩) (zmf (List.take ((List.map zae.pv r)).length r) (((List.map zae.pv r)).length : Int) n n4 (List.take ((List.map zae.pv r)).length r) l_ (List.take ((List.map zag.pv r2)).length r2) _ _ h12) ⟨⟨⟨_, rfl, .eq rfl⟩, ⟨_, rfl, .eq rfl⟩, ⟨_, rfl, .pv (.recsT (.eq (by first | rfl | (simp only [List.take_length]; done) | (simp; done) | (simp only [List.map_take, List.map_drop, List.map_append, List.take_length, List.nil_append]; done) | (simp only [List.length_map, List.take_length, List.length_append, List.drop_zero, List.map_append, List.map_take, List.map_drop, List.map_replicate, List.map_cons, List.map_nil, List.append_nil, List.nil_append]; done))))⟩, ⟨_, rfl, .eq rfl⟩, ⟨_, rfl, .eq rfl⟩, trivial⟩, ⟨⟨rfl, ⟨.eq rfl, .eq rfl, .pv (.recsT (.eq (by first | rfl | (simp only [List.take_length]; done) | (simp; done) | (simp only [List.map_take, List.map_drop, List.map_append, List.take_length, List.nil_append]; done) | (simp only [List.length_map, List.take_length, List.length_append, List.drop_zero, List.map_append, List.map_take, List.map_drop, List.map_replicate, List.map_cons, List.map_nil, List.append_nil, List.nil_append]; done)))), .pv (.ints (by first | rfl | (simp only [List.take_length]; done) | (simp; done) | (simp only [List.map_take, List.map_drop, List.map_append, List.take_length, List.nil_append]; done) | (simp only [List.length_map, List.take_length, List.length_append, List.drop_zero, List.map_append, List.map_take, List.map_drop, List.map_replicate, List.map_cons, List.map_nil, List.append_nil, List.nil_append]; done))), .pv (.recsT (.eq (by first | rfl | (simp only [List.take_length]; done) | (simp; done) | (simp only [List.map_take, List.map_drop, List.map_append, List.take_length, List.nil_append]; done) | (simp only [List.length_map, List.take_length, List.length_append, List.drop_zero, List.map_append, List.map_take, List.map_drop, List.map_replicate, List.map_cons, List.map_nil, List.append_nil, List.nil_append]; done)))), trivial⟩⟩, trivial⟩, trivial⟩)
   obtain ⟨b2, h13, h⟩ := zaf h
   have q_13 := (zmh l_ ((l_).length : Int) n n4 (List.take ((List.map zae.pv r)).length r) l_ (List.take ((List.map zag.pv r2)).length r2) _ _ h13)
   obtain ⟨b3, h14, h⟩ := zaf h
   have q_14 := (zmj (List.take ((List.map zag.pv r2)).length r2) (((List.map zag.pv (List.take ((List.map zag.pv r2)).length r2))).length : Int) n n4 (List.take ((List.map zae.pv r)).length r) l_ (List.take ((List.map zag.pv r2)).length r2) _ _ h14)
   rcases zaj h with ⟨h15, h⟩ | ⟨h15, h⟩
   ·have h := zad h
    subst h
    have t_ := p9_ <| tF (zan h10) <| tT h11 <| tL q_12 <| tL q_13 <| tL q_14 <| tF (zan h15) <| tN
    exact zah (C := cfg) (sc := t_.ev) (.k0 t_.pf (by kernel_rfl))
   ·have h := zad h
    subst h
    have t_ := p9_ <| tF (zan h10) <| tT h11 <| tL q_12 <| tL q_13 <| tL q_14 <| tT (za7 h15) <| tN
    exact zah (C := cfg) (sc := t_.ev) (.k0 t_.pf (by kernel_rfl))
  ·obtain ⟨_, h12, h⟩ := zaf h
   obtain ⟨_, h13, h⟩ := zaf h
   obtain ⟨_, h14, h⟩ := zaf h
   have h := zad h
   subst h
   have t_ := p9_ <| tF (zan h10) <| tF h11 <| tL (zaT.coe (s0 := ⟨[(5, (.av (.one (.ref 0 0)))), (11, (.av (.one (.pv (.bool false))))), (126, (.av (.one (.pv (.recs 4 (List.take ((List.map zae.pv r)).length (List.map zae.pv r)) false))))), (127, (.av (.one (.pv (.int .i64 (((List.map zae.pv r)).length : Int)))))), (128, (.av (.one (.pv (.int .i64 0)))))], [(0, [(.pv (.int .i64 n)), (.pv (.int .u64 n4)), (.pv (.recs 4 (List.take ((List.map zae.pv r)).length (List.map zae.pv r)) false)), (.pv (.ints .i64 (List.take (l_).length l_) false)), (.pv (.recs 2 (List.take ((List.map zag.pv r2)).length (List.map zag.pv r2)) false))])], []⟩) (zkW (List.take ((List.map zae.pv r)).length r) (((List.map zae.pv r)).length : Int) n n4 (List.take ((List.map zae.pv r)).length r) l_ (List.take ((List.map zag.pv r2)).length r2) _ _ h12) ⟨⟨⟨_, rfl, .eq rfl⟩, ⟨_, rfl, .eq rfl⟩, ⟨_, rfl, .pv (.recsT (.eq (by first | rfl | (simp only [List.take_length]; done) | (simp; done) | (simp only [List.map_take, List.map_drop, List.map_append, List.take_length, List.nil_append]; done) | (simp only [List.length_map, List.take_length, List.length_append, List.drop_zero, List.map_append, List.map_take, List.map_drop, List.map_replicate, List.map_cons, List.map_nil, List.append_nil, List.nil_append]; done))))⟩, ⟨_, rfl, .eq rfl⟩, ⟨_, rfl, .eq rfl⟩, trivial⟩, ⟨⟨rfl, ⟨.eq rfl, .eq rfl, .pv (.recsT (.eq (by first | rfl | (simp only [List.take_length]; done) | (simp; done) | (simp only [List.map_take, List.map_drop, List.map_append, List.take_length, List.nil_append]; done) | (simp only [List.length_map, List.take_length, List.length_append, List.drop_zero, List.map_append, List.map_take, List.map_drop, List.map_replicate, List.map_cons, List.map_nil, List.append_nil, List.nil_append]; done)))), .pv (.ints (by first | rfl | (simp only [List.take_length]; done) | (simp; done) | (simp only [List.map_take, List.map_drop, List.map_append, List.take_length, List.nil_append]; done) | (simp only [List.length_map, List.take_length, List.length_append, List.drop_zero, List.map_append, List.map_take, List.map_drop, List.map_replicate, List.map_cons, List.map_nil, List.append_nil, List.nil_append]; done))), .pv (.recsT (.eq (by first | rfl | (simp only [List.take_length]; done) | (simp; done) | (simp only [List.map_take, List.map_drop, List.map_append, List.take_length, List.nil_append]; done) | (simp only [List.length_map, List.take_length, List.length_append, List.drop_zero, List.map_append, List.map_take, List.map_drop, List.map_replicate, List.map_cons, List.map_nil, List.append_nil, List.nil_append]; done)))), trivial⟩⟩, trivial⟩, trivial⟩) <| tL (zkX l_ ((l_).length : Int) n n4 (List.take ((List.map zae.pv r)).length r) l_ (List.take ((List.map zag.pv r2)).length r2) _ _ h13) <| tL (zkY (List.take ((List.map zag.pv r2)).length r2) (((List.map zag.pv (List.take ((List.map zag.pv r2)).length r2))).length : Int) n n4 (List.take ((List.map zae.pv r)).length r) l_ (List.take ((List.map zag.pv r2)).length r2) _ _ h14) <| tT (rfl : true = true) <| tN
   exact zah (C := cfg) (sc := t_.ev) (.k0 t_.pf (by kernel_rfl))
 ·have h := zad h
  subst h
  have t_ := p9_ <| tT (za7 h10) <| tN
  exact zah (C := cfg) (sc := t_.ev) (.k0 t_.pf (by kernel_rfl))
def zke (n n2 : Int) (r : List zaa) (m : List (Int × Int)) (m2 : List ((Int × Int) × Int)) : List Int → Res
 | r1 => ([(.one (.own 0 0 (r1).length false))], [[(.pv (.int .i64 n)), (.pv (.int .u64 n2)), (.pv (.recs 5 (List.map zaa.pv r) false)), (.mp 1), (.mp 2)], [(.maph (.int .i64) false (List.map M_int_int.pv m) [])], [(.maph (.st [.i64, .u64]) false (List.map M_deed_Mark_int.pv m2) [])]], [(.ints .u8 r1)])
def zrz (p : List Int) (n : Int) : List Int → Res
 | r1 => ([(.one (.own 0 0 (r1).length false))], [], [(.ints .u8 r1)])
def zgp (p : List Int) (n : Int) : (Unit) ⊕ (Int × List Int) → St
 | .inl _ => ⟨[(0, (.av (.one (.pv (.ints .u8 p true))))), (1, (.av (.one (.pv (.int .u64 n)))))], [], []⟩
 | .inr (n2, l) => ⟨[(0, (.av (.one (.own 0 0 (l).length false)))), (1, (.av (.one (.pv (.int .u64 n2)))))], [], [(0, (.live (.ints .u8 l)))]⟩
def zgo (p : List Int) (n : Int) : (Unit) ⊕ (Int × List Int) → Ex × St
 | .inl _ => ((.exit 0), ⟨[(0, (.av (.one (.pv (.ints .u8 p true))))), (1, (.av (.one (.pv (.int .u64 n)))))], [], []⟩)
 | .inr (r1, r2) => ((.exit 0), ⟨[(0, (.av (.one (.own 0 0 (r2).length false)))), (1, (.av (.one (.pv (.int .u64 r1)))))], [], [(0, (.live (.ints .u8 r2)))]⟩)
noncomputable def zbj (p : List Int) (n : Int) : (Unit) ⊕ (Int × List Int) → Option (((Unit) ⊕ (Int × List Int)) ⊕ ((Unit) ⊕ (Int × List Int)))
 | .inl _ =>
  bif (decide ((128 : Int) ≤ n)) then
   bif fits ((p ++ [(ior .u8 (IntKind.u8.wrap n) 128)])).length then
   some (.inl (.inr ((ishr .u64 n 7), (p ++ [(ior .u8 (IntKind.u8.wrap n) 128)]))))
   else none
  else
   some (.inr (.inl ()))
 | .inr (n2, l) =>
  bif (decide ((128 : Int) ≤ n2)) then
   bif fits ((l ++ [(ior .u8 (IntKind.u8.wrap n2) 128)])).length then
   some (.inl (.inr ((ishr .u64 n2 7), (l ++ [(ior .u8 (IntKind.u8.wrap n2) 128)]))))
   else none
  else
   some (.inr (.inr (n2, l)))
theorem zpe (p : List Int) (n : Int) (s_ : (Unit) ⊕ (Int × List Int)) (z_ : ((Unit) ⊕ (Int × List Int)) ⊕ ((Unit) ⊕ (Int × List Int))) (h : zbj p n s_ = some z_) : zaP Tryz.prog cfg 46 0 (zax Tryz.prog 46 0) (zgp p n) (zgo p n) s_ z_ := by
 rcases s_ with _ | ⟨n2, l⟩
 ·rcases zaj h with ⟨h1, h⟩ | ⟨h1, h⟩
  ·obtain ⟨h2, h⟩ := zaq h
   have h := zad h
   subst h
   have t_ := tT h1 <| tF (rfl : true = true) <| tO h2 <| tO (rfl : true = true) <| tN
   exact ⟨t_.ev, zgp p n (.inr ((ishr .u64 n 7), (p ++ [(ior .u8 (IntKind.u8.wrap n) 128)]))), .k0 t_.pf (by kernel_rfl), .same (by kernel_rfl)⟩
  ·have h := zad h
   subst h
   have t_ := tF h1 <| tN
   exact ⟨t_.ev, ⟨[(12, (.av (.one (.pv (.bool false))))), (0, (.av (.one (.pv (.ints .u8 p true))))), (1, (.av (.one (.pv (.int .u64 n))))), (12, (.av (.one (.pv (.bool (decide ((128 : Int) ≤ n)))))))], [], []⟩, .k0 t_.pf (by kernel_rfl), ⟨⟨⟨_, rfl, .eq rfl⟩, ⟨_, rfl, .eq rfl⟩, trivial⟩, trivial, trivial⟩⟩
 ·rcases zaj h with ⟨h1, h⟩ | ⟨h1, h⟩
  ·obtain ⟨h2, h⟩ := zaq h
   have h := zad h
   subst h
   have t_ := tT h1 <| tO (show (Nat.beq (l).length (l).length) = true from Nat.beq_refl _) <| tO h2 <| tO (rfl : true = true) <| tN
   exact ⟨t_.ev, zgp p n (.inr ((ishr .u64 n2 7), (l ++ [(ior .u8 (IntKind.u8.wrap n2) 128)]))), .k0 t_.pf (by kernel_rfl), .same (by kernel_rfl)⟩
  ·have h := zad h
   subst h
   have t_ := tF h1 <| tN
   exact ⟨t_.ev, ⟨[(12, (.av (.one (.pv (.bool false))))), (0, (.av (.one (.own 0 0 (l).length false)))), (1, (.av (.one (.pv (.int .u64 n2))))), (12, (.av (.one (.pv (.bool (decide ((128 : Int) ≤ n2)))))))], [], [(0, (.live (.ints .u8 l)))]⟩, .k0 t_.pf (by kernel_rfl), ⟨⟨⟨_, rfl, .eq rfl⟩, ⟨_, rfl, .eq rfl⟩, trivial⟩, trivial, ⟨⟨rfl, .eq rfl⟩, trivial⟩⟩⟩
theorem zi2 (p : List Int) (n : Int) (s_ : (Unit) ⊕ (Int × List Int)) (r_ : (Unit) ⊕ (Int × List Int)) (h : runL (zbj p n) s_ = some r_) : zaT Tryz.prog (lEnv Tryz.prog cfg 46 0).nt 0 (.loop (zax Tryz.prog 46 0)) (zgp p n s_) (zgo p n r_).1 (zgo p n r_).2 :=
 zaJ h (zpe p n) (by intro r_; rcases r_ with _ | ⟨r1, r2⟩ <;> simp [zgo])
noncomputable def zdH (p : List Int) (n : Int) : Option (List Int) :=
 bif decide ((0 : Int) ≤ 0) && decide ((0 : Int) ≤ ((p).length : Int)) && decide ((((p).length : Int) : Int) ≤ ((p).length : Int)) && decide ((((p).length : Int) : Int) = ((p).length : Int)) then
 (runL (zbj (List.take (((p).length : Int) - 0).toNat p) n) (.inl ())).bind fun z_ => match z_ with
 | .inl _ =>
  bif fits (((List.take (((p).length : Int) - 0).toNat p) ++ [(IntKind.u8.wrap n)])).length then
  some ((List.take (((p).length : Int) - 0).toNat p) ++ [(IntKind.u8.wrap n)])
  else none
 | .inr (n2, l_) =>
  bif fits ((l_ ++ [(IntKind.u8.wrap n2)])).length then
  some (l_ ++ [(IntKind.u8.wrap n2)])
  else none
 else none
theorem zaM (p : List Int) (n : Int) (r_ : List Int) (h : zdH p n = some r_) : Runs Tryz.prog 46 [(.one (.pv (.ints .u8 p false))), (.one (.pv (.int .u64 n)))] [] [] (zrz p n r_) := by
 unfold zdH at h
 obtain ⟨h1, h⟩ := zaq h
 obtain ⟨z_, h2, h⟩ := zaf h
 rcases z_ with _ | ⟨n2, l_⟩
 ·obtain ⟨h3, h⟩ := zaq h
  have h := zad h
  subst h
  have t_ := tO h1 <| tL (zi2 (List.take (((p).length : Int) - 0).toNat p) n _ _ h2) <| tF (rfl : true = true) <| tO h3 <| tN
  exact zah (C := cfg) (sc := t_.ev) (.k0 t_.pf (by kernel_rfl))
 ·obtain ⟨h3, h⟩ := zaq h
  have h := zad h
  subst h
  have t_ := tO h1 <| tL (zi2 (List.take (((p).length : Int) - 0).toNat p) n _ _ h2) <| tO (show (Nat.beq (l_).length (l_).length) = true from Nat.beq_refl _) <| tO h3 <| tN
  exact zah (C := cfg) (sc := t_.ev) (.k0 t_.pf (by kernel_rfl))
def zmL (p : List Int) (g g2 g3 : Int) (g4 : Bool) (g5 : zab) : List Int → Res
 | r1 => ([(.one (.own 0 0 (r1).length false))], [], [(.ints .u8 r1)])
def zrG (i : Bool) (i2 : zab) : List Int → Res
 | r1 => ([(.one (.pv (.ints .u8 r1 false)))], [], [])
def zla : Unit → Res
 | _ => ([(.one (.ref 0 0))], [[(.pv .nils), (.pv (.int .i64 0))]], [])
noncomputable def zgi : Option (Unit) :=
 some ()
theorem zkC (r_ : Unit) (h : zgi = some r_) : Runs Tryz.prog 115 [] [] [] (zla r_) := by
 unfold zgi at h
 have h := zad h
 subst h
 have t_ := tN
 exact zah (C := cfg) (sc := t_.ev) (.k0 t_.pf (by kernel_rfl))
def zoU (i : Bool) (i2 : zab) (n : Int) : Int × List Int → Res
 | (r1, r2) => ([], [[(.own 0 0 (r2).length false), (.pv (.int .i64 r1))]], [(.ints .u8 r2)])
def zo0 (i : Bool) (i2 : zab) : Bool × zab → Res
 | (r1, r2) => ([(.agg [(.pv (.bool r1)), (.pv (zab.pv r2))])], [], [])
noncomputable def zfh (i : Bool) (i2 : zab) : Option (Bool × zab) :=
 match i2 with
 | .nil =>
  some (i, i2)
 | .mk b t b2 t2 =>
  some (b, t)
theorem zaO (i : Bool) (i2 : zab) (r_ : Bool × zab) (h : zfh i i2 = some r_) : Runs Tryz.prog 133 [(.agg [(.pv (.bool i)), (.pv (zab.pv i2))])] [] [] (zo0 i i2 r_) := by
 unfold zfh at h
 cases i2 with
 | nil =>
  have h := zad h
  subst h
  have t_ := tT (rfl : true = true) <| tN
  exact zah (C := cfg) (sc := t_.ev) (.k0 t_.pf (by kernel_rfl))
 | mk b t b2 t2 =>
  have h := zad h
  subst h
  have t_ := tF (rfl : false = false) <| tN
  exact zah (C := cfg) (sc := t_.ev) (.k0 t_.pf (by kernel_rfl))
def znP (i : Bool) (i2 : zab) : Bool × zab → Res
 | (r1, r2) => ([(.agg [(.pv (.bool r1)), (.pv (zab.pv r2))])], [], [])
noncomputable def zeC (i : Bool) (i2 : zab) : Option (Bool × zab) :=
 match i2 with
 | .nil =>
  some (i, i2)
 | .mk b t b2 t2 =>
  some (b2, t2)
theorem zck (i : Bool) (i2 : zab) (r_ : Bool × zab) (h : zeC i i2 = some r_) : Runs Tryz.prog 134 [(.agg [(.pv (.bool i)), (.pv (zab.pv i2))])] [] [] (znP i i2 r_) := by
 unfold zeC at h
 cases i2 with
 | nil =>
  have h := zad h
  subst h
  have t_ := tT (rfl : true = true) <| tN
  exact zah (C := cfg) (sc := t_.ev) (.k0 t_.pf (by kernel_rfl))
 | mk b t b2 t2 =>
  have h := zad h
  subst h
  have t_ := tF (rfl : false = false) <| tN
  exact zah (C := cfg) (sc := t_.ev) (.k0 t_.pf (by kernel_rfl))
def zkG (n k n2 : Int) : Int × List Int → Res
 | (r1, r2) => ([], [[(.own 0 0 (r2).length false), (.pv (.int .i64 r1))]], [(.ints .u8 r2)])
def zdt (n : Int) : Int × Int × List Int → St
 | (i, n2, l) => ⟨[(0, (.av (.one (.ref 0 0)))), (1, (.av (.one (.pv (.int .u64 n))))), (6, (.av (.one (.pv (.int .i64 i)))))], [(0, [(.own 0 0 (l).length false), (.pv (.int .i64 n2))])], [(0, (.live (.ints .u8 l)))]⟩
def zds (n : Int) : Int × List Int → Ex × St
 | (r1, r2) => ((.exit 0), ⟨[], [(0, [(.own 0 0 (r2).length false), (.pv (.int .i64 r1))])], [(0, (.live (.ints .u8 r2)))]⟩)
noncomputable def zcW (n : Int) : Int × Int × List Int → Option ((Int × Int × List Int) ⊕ (Int × List Int))
 | (i, n2, l) =>
 bif (decide ((0 : Int) ≤ i)) then
  bif (decide (((irem .i64 n2 8) : Int) = 0)) then
   bif fits ((l ++ [0])).length then
   bif decide ((0 : Int) ≤ i) then
   bif (decide (((iand .u64 (ishr .u64 n i) 1) : Int) = 1)) then
    bif decide ((0 : Int) ≤ (irem .i64 n2 8)) then
    bif decide ((0 : Int) ≤ (iquo .i64 n2 8)) && decide (((iquo .i64 n2 8) : Int) < (((l ++ [0])).length : Int)) then
    some (.inl ((isub .i64 i 1), (iadd .i64 n2 1), ((l ++ [0]).set (0 + ((iquo .i64 n2 8)).toNat) (ior .u8 ((l ++ [0]).getD (0 + ((iquo .i64 n2 8)).toNat) 0) (ishr .u8 128 (irem .i64 n2 8))))))
    else none
    else none
   else
    some (.inl ((isub .i64 i 1), (iadd .i64 n2 1), (l ++ [0])))
   else none
   else none
  else
   bif decide ((0 : Int) ≤ i) then
   bif (decide (((iand .u64 (ishr .u64 n i) 1) : Int) = 1)) then
    bif decide ((0 : Int) ≤ (irem .i64 n2 8)) then
    bif decide ((0 : Int) ≤ (iquo .i64 n2 8)) && decide (((iquo .i64 n2 8) : Int) < ((l).length : Int)) then
    some (.inl ((isub .i64 i 1), (iadd .i64 n2 1), (l.set (0 + ((iquo .i64 n2 8)).toNat) (ior .u8 (l.getD (0 + ((iquo .i64 n2 8)).toNat) 0) (ishr .u8 128 (irem .i64 n2 8))))))
    else none
    else none
   else
    some (.inl ((isub .i64 i 1), (iadd .i64 n2 1), l))
   else none
 else
  some (.inr (n2, l))
theorem zjq (n : Int) (s_ : Int × Int × List Int) (z_ : (Int × Int × List Int) ⊕ (Int × List Int)) (h : zcW n s_ = some z_) : zaP Tryz.prog cfg 135 1 (zax Tryz.prog 135 0) (zdt n) (zds n) s_ z_ := by
 rcases s_ with ⟨i, n2, l⟩
 rcases zaj h with ⟨h1, h⟩ | ⟨h1, h⟩
 ·rcases zaj h with ⟨h2, h⟩ | ⟨h2, h⟩
  ·obtain ⟨h3, h⟩ := zaq h
   obtain ⟨h4, h⟩ := zaq h
   rcases zaj h with ⟨h5, h⟩ | ⟨h5, h⟩
   ·obtain ⟨h6, h⟩ := zaq h
    obtain ⟨h7, h⟩ := zaq h
    have h := zad h
    subst h
    have t_ := tT h1 <| tO (rfl : true = true) <| tT h2 <| tO (show (Nat.beq (l).length (l).length) = true from Nat.beq_refl _) <| tO h3 <| tO h4 <| tT h5 <| tO (rfl : true = true) <| tO (rfl : true = true) <| tO (rfl : true = true) <| tO (rfl : true = true) <| tO h6 <| tO (rfl : true = true) <| tO h7 <| tO h6 <| tO h6 <| tO (rfl : true = true) <| tO (rfl : true = true) <| tO (rfl : true = true) <| tO (rfl : true = true) <| tO h6 <| tO h7 <| tO h6 <| tO h7 <| tN
    exact ⟨t_.ev, ⟨[(0, (.av (.one (.ref 0 0)))), (1, (.av (.one (.pv (.int .u64 n))))), (6, (.av (.one (.pv (.int .i64 (isub .i64 i 1))))))], [(0, [(.own 0 0 ((l ++ [0])).length false), (.pv (.int .i64 (iadd .i64 n2 1)))])], [(0, (.live (.ints .u8 ((l ++ [0]).set (0 + ((iquo .i64 n2 8)).toNat) (ior .u8 ((l ++ [0]).getD (0 + ((iquo .i64 n2 8)).toNat) 0) (ishr .u8 128 (irem .i64 n2 8)))))))]⟩, .k1 t_.pf (by kernel_rfl) (by kernel_rfl), ⟨⟨⟨_, rfl, .eq rfl⟩, ⟨_, rfl, .eq rfl⟩, ⟨_, rfl, .eq rfl⟩, trivial⟩, ⟨⟨rfl, ⟨.own (by first | rfl | (simp only [List.take_length]; done) | (simp; done) | (simp only [List.map_take, List.map_drop, List.map_append, List.take_length, List.nil_append]; done) | (simp only [List.length_map, List.take_length, List.length_append, List.drop_zero, List.map_append, List.map_take, List.map_drop, List.map_replicate, List.map_cons, List.map_nil, List.append_nil, List.nil_append]; done)), .eq rfl, trivial⟩⟩, trivial⟩, ⟨⟨rfl, .eq rfl⟩, trivial⟩⟩⟩
   ·have h := zad h
    subst h
    have t_ := tT h1 <| tO (rfl : true = true) <| tT h2 <| tO (show (Nat.beq (l).length (l).length) = true from Nat.beq_refl _) <| tO h3 <| tO h4 <| tF h5 <| tN
    exact ⟨t_.ev, zdt n ((isub .i64 i 1), (iadd .i64 n2 1), (l ++ [0])), .k0 t_.pf (by kernel_rfl), .same (by kernel_rfl)⟩
  ·obtain ⟨h3, h⟩ := zaq h
   rcases zaj h with ⟨h4, h⟩ | ⟨h4, h⟩
   ·obtain ⟨h5, h⟩ := zaq h
    obtain ⟨h6, h⟩ := zaq h
    have h := zad h
    subst h
    have t_ := tT h1 <| tO (rfl : true = true) <| tF h2 <| tO h3 <| tT h4 <| tO (rfl : true = true) <| tO (rfl : true = true) <| tO (rfl : true = true) <| tO (rfl : true = true) <| tO h5 <| tO (rfl : true = true) <| tO h6 <| tO h5 <| tO h5 <| tO (rfl : true = true) <| tO (rfl : true = true) <| tO (rfl : true = true) <| tO (rfl : true = true) <| tO h5 <| tO h6 <| tO h5 <| tO h6 <| tN
    exact ⟨t_.ev, ⟨[(0, (.av (.one (.ref 0 0)))), (1, (.av (.one (.pv (.int .u64 n))))), (6, (.av (.one (.pv (.int .i64 (isub .i64 i 1))))))], [(0, [(.own 0 0 (l).length false), (.pv (.int .i64 (iadd .i64 n2 1)))])], [(0, (.live (.ints .u8 (l.set (0 + ((iquo .i64 n2 8)).toNat) (ior .u8 (l.getD (0 + ((iquo .i64 n2 8)).toNat) 0) (ishr .u8 128 (irem .i64 n2 8)))))))]⟩, .k1 t_.pf (by kernel_rfl) (by kernel_rfl), ⟨⟨⟨_, rfl, .eq rfl⟩, ⟨_, rfl, .eq rfl⟩, ⟨_, rfl, .eq rfl⟩, trivial⟩, ⟨⟨rfl, ⟨.own (by first | rfl | (simp only [List.take_length]; done) | (simp; done) | (simp only [List.map_take, List.map_drop, List.map_append, List.take_length, List.nil_append]; done) | (simp only [List.length_map, List.take_length, List.length_append, List.drop_zero, List.map_append, List.map_take, List.map_drop, List.map_replicate, List.map_cons, List.map_nil, List.append_nil, List.nil_append]; done)), .eq rfl, trivial⟩⟩, trivial⟩, ⟨⟨rfl, .eq rfl⟩, trivial⟩⟩⟩
   ·have h := zad h
    subst h
    have t_ := tT h1 <| tO (rfl : true = true) <| tF h2 <| tO h3 <| tF h4 <| tN
    exact ⟨t_.ev, zdt n ((isub .i64 i 1), (iadd .i64 n2 1), l), .k0 t_.pf (by kernel_rfl), .same (by kernel_rfl)⟩
 ·have h := zad h
  subst h
  have t_ := tF h1 <| tN
  exact ⟨t_.ev, ⟨[(13, (.av (.one (.pv (.bool false))))), (0, (.av (.one (.ref 0 0)))), (1, (.av (.one (.pv (.int .u64 n))))), (6, (.av (.one (.pv (.int .i64 i))))), (13, (.av (.one (.pv (.bool (decide ((0 : Int) ≤ i)))))))], [(0, [(.own 0 0 (l).length false), (.pv (.int .i64 n2))])], [(0, (.live (.ints .u8 l)))]⟩, .k0 t_.pf (by kernel_rfl), ⟨trivial, ⟨⟨rfl, ⟨.eq rfl, .eq rfl, trivial⟩⟩, trivial⟩, ⟨⟨rfl, .eq rfl⟩, trivial⟩⟩⟩
theorem zix (n : Int) (s_ : Int × Int × List Int) (r_ : Int × List Int) (h : runL (zcW n) s_ = some r_) : zaT Tryz.prog (lEnv Tryz.prog cfg 135 1).nt 1 (.loop (zax Tryz.prog 135 0)) (zdt n s_) (zds n r_).1 (zds n r_).2 :=
 zaJ h (zjq n) (by intro r_; rcases r_ with ⟨r1, r2⟩ <;> simp [zds])
noncomputable def zb8 (n k n2 : Int) : Option (Int × List Int) :=
 (zex k).bind fun n3 =>
 (runL (zcW n) ((isub .i64 n3 1), n2, [])).bind fun (n4, l_) =>
 some (n4, l_)
theorem zcO (n k n2 : Int) (r_ : Int × List Int) (h : zb8 n k n2 = some r_) : Runs Tryz.prog 135 [(.one (.ref 0 0)), (.one (.pv (.int .u64 n))), (.one (.pv (.int .i64 k)))] [[(.pv .nils), (.pv (.int .i64 n2))]] [] (zkG n k n2 r_) := by
 unfold zb8 at h
 obtain ⟨n3, h1, h⟩ := zaf h
 obtain ⟨⟨n4, l_⟩, h2, h⟩ := zaf h
 have h := zad h
 subst h
 have t_ := tF (rfl : false = false) <| tR (zd8 k _ h1) <| tL (zaT.coe (s0 := ⟨[(0, (.av (.one (.ref 0 0)))), (1, (.av (.one (.pv (.int .u64 n))))), (6, (.av (.one (.pv (.int .i64 (isub .i64 n3 1))))))], [(0, [(.own 0 0 0 false), (.pv (.int .i64 n2))])], [(0, (.live (.ints .u8 [])))]⟩) (zix n _ _ h2) ⟨⟨⟨_, rfl, .eq rfl⟩, ⟨_, rfl, .eq rfl⟩, ⟨_, rfl, .eq rfl⟩, trivial⟩, ⟨⟨rfl, ⟨.own (by first | rfl | (simp only [List.take_length]; done) | (simp; done) | (simp only [List.map_take, List.map_drop, List.map_append, List.take_length, List.nil_append]; done) | (simp only [List.length_map, List.take_length, List.length_append, List.drop_zero, List.map_append, List.map_take, List.map_drop, List.map_replicate, List.map_cons, List.map_nil, List.append_nil, List.nil_append]; done)), .eq rfl, trivial⟩⟩, trivial⟩, ⟨⟨rfl, .eq rfl⟩, trivial⟩⟩) <| tN
 exact zah (C := cfg) (sc := t_.ev) (.k0 t_.pf (by kernel_rfl))
def zjp (n k n2 : Int) (l : List Int) : Int × List Int → Res
 | (r1, r2) => ([], [[(.own 0 0 (r2).length false), (.pv (.int .i64 r1))]], [(.ints .u8 r2)])
def zcV (n : Int) : Int × Int × List Int → St
 | (i, n2, l) => ⟨[(0, (.av (.one (.ref 0 0)))), (1, (.av (.one (.pv (.int .u64 n))))), (6, (.av (.one (.pv (.int .i64 i)))))], [(0, [(.own 0 0 (l).length false), (.pv (.int .i64 n2))])], [(0, (.live (.ints .u8 l)))]⟩
def zcU (n : Int) : Int × List Int → Ex × St
 | (r1, r2) => ((.exit 0), ⟨[], [(0, [(.own 0 0 (r2).length false), (.pv (.int .i64 r1))])], [(0, (.live (.ints .u8 r2)))]⟩)
noncomputable def zaQ (n : Int) : Int × Int × List Int → Option ((Int × Int × List Int) ⊕ (Int × List Int))
 | (i, n2, l) =>
 bif (decide ((0 : Int) ≤ i)) then
  bif (decide (((irem .i64 n2 8) : Int) = 0)) then
   bif fits ((l ++ [0])).length then
   bif decide ((0 : Int) ≤ i) then
   bif (decide (((iand .u64 (ishr .u64 n i) 1) : Int) = 1)) then
    bif decide ((0 : Int) ≤ (irem .i64 n2 8)) then
    bif decide ((0 : Int) ≤ (iquo .i64 n2 8)) && decide (((iquo .i64 n2 8) : Int) < (((l ++ [0])).length : Int)) then
    some (.inl ((isub .i64 i 1), (iadd .i64 n2 1), ((l ++ [0]).set (0 + ((iquo .i64 n2 8)).toNat) (ior .u8 ((l ++ [0]).getD (0 + ((iquo .i64 n2 8)).toNat) 0) (ishr .u8 128 (irem .i64 n2 8))))))
    else none
    else none
   else
    some (.inl ((isub .i64 i 1), (iadd .i64 n2 1), (l ++ [0])))
   else none
   else none
  else
   bif decide ((0 : Int) ≤ i) then
   bif (decide (((iand .u64 (ishr .u64 n i) 1) : Int) = 1)) then
    bif decide ((0 : Int) ≤ (irem .i64 n2 8)) then
    bif decide ((0 : Int) ≤ (iquo .i64 n2 8)) && decide (((iquo .i64 n2 8) : Int) < ((l).length : Int)) then
    some (.inl ((isub .i64 i 1), (iadd .i64 n2 1), (l.set (0 + ((iquo .i64 n2 8)).toNat) (ior .u8 (l.getD (0 + ((iquo .i64 n2 8)).toNat) 0) (ishr .u8 128 (irem .i64 n2 8))))))
    else none
    else none
   else
    some (.inl ((isub .i64 i 1), (iadd .i64 n2 1), l))
   else none
 else
  some (.inr (n2, l))
theorem ziw (n : Int) (s_ : Int × Int × List Int) (z_ : (Int × Int × List Int) ⊕ (Int × List Int)) (h : zaQ n s_ = some z_) : zaP Tryz.prog cfg 135 1 (zax Tryz.prog 135 0) (zcV n) (zcU n) s_ z_ := by
 rcases s_ with ⟨i, n2, l⟩
 rcases zaj h with ⟨h1, h⟩ | ⟨h1, h⟩
 ·rcases zaj h with ⟨h2, h⟩ | ⟨h2, h⟩
  ·obtain ⟨h3, h⟩ := zaq h
   obtain ⟨h4, h⟩ := zaq h
   rcases zaj h with ⟨h5, h⟩ | ⟨h5, h⟩
   ·obtain ⟨h6, h⟩ := zaq h
    obtain ⟨h7, h⟩ := zaq h
    have h := zad h
    subst h
    have t_ := tT h1 <| tO (rfl : true = true) <| tT h2 <| tO (show (Nat.beq (l).length (l).length) = true from Nat.beq_refl _) <| tO h3 <| tO h4 <| tT h5 <| tO (rfl : true = true) <| tO (rfl : true = true) <| tO (rfl : true = true) <| tO (rfl : true = true) <| tO h6 <| tO (rfl : true = true) <| tO h7 <| tO h6 <| tO h6 <| tO (rfl : true = true) <| tO (rfl : true = true) <| tO (rfl : true = true) <| tO (rfl : true = true) <| tO h6 <| tO h7 <| tO h6 <| tO h7 <| tN
    exact ⟨t_.ev, ⟨[(0, (.av (.one (.ref 0 0)))), (1, (.av (.one (.pv (.int .u64 n))))), (6, (.av (.one (.pv (.int .i64 (isub .i64 i 1))))))], [(0, [(.own 0 0 ((l ++ [0])).length false), (.pv (.int .i64 (iadd .i64 n2 1)))])], [(0, (.live (.ints .u8 ((l ++ [0]).set (0 + ((iquo .i64 n2 8)).toNat) (ior .u8 ((l ++ [0]).getD (0 + ((iquo .i64 n2 8)).toNat) 0) (ishr .u8 128 (irem .i64 n2 8)))))))]⟩, .k1 t_.pf (by kernel_rfl) (by kernel_rfl), ⟨⟨⟨_, rfl, .eq rfl⟩, ⟨_, rfl, .eq rfl⟩, ⟨_, rfl, .eq rfl⟩, trivial⟩, ⟨⟨rfl, ⟨.own (by first | rfl | (simp only [List.take_length]; done) | (simp; done) | (simp only [List.map_take, List.map_drop, List.map_append, List.take_length, List.nil_append]; done) | (simp only [List.length_map, List.take_length, List.length_append, List.drop_zero, List.map_append, List.map_take, List.map_drop, List.map_replicate, List.map_cons, List.map_nil, List.append_nil, List.nil_append]; done)), .eq rfl, trivial⟩⟩, trivial⟩, ⟨⟨rfl, .eq rfl⟩, trivial⟩⟩⟩
   ·have h := zad h
    subst h
    have t_ := tT h1 <| tO (rfl : true = true) <| tT h2 <| tO (show (Nat.beq (l).length (l).length) = true from Nat.beq_refl _) <| tO h3 <| tO h4 <| tF h5 <| tN
    exact ⟨t_.ev, zcV n ((isub .i64 i 1), (iadd .i64 n2 1), (l ++ [0])), .k0 t_.pf (by kernel_rfl), .same (by kernel_rfl)⟩
  ·obtain ⟨h3, h⟩ := zaq h
   rcases zaj h with ⟨h4, h⟩ | ⟨h4, h⟩
   ·obtain ⟨h5, h⟩ := zaq h
    obtain ⟨h6, h⟩ := zaq h
    have h := zad h
    subst h
    have t_ := tT h1 <| tO (rfl : true = true) <| tF h2 <| tO h3 <| tT h4 <| tO (rfl : true = true) <| tO (rfl : true = true) <| tO (rfl : true = true) <| tO (rfl : true = true) <| tO h5 <| tO (rfl : true = true) <| tO h6 <| tO h5 <| tO h5 <| tO (rfl : true = true) <| tO (rfl : true = true) <| tO (rfl : true = true) <| tO (rfl : true = true) <| tO h5 <| tO h6 <| tO h5 <| tO h6 <| tN
    exact ⟨t_.ev, ⟨[(0, (.av (.one (.ref 0 0)))), (1, (.av (.one (.pv (.int .u64 n))))), (6, (.av (.one (.pv (.int .i64 (isub .i64 i 1))))))], [(0, [(.own 0 0 (l).length false), (.pv (.int .i64 (iadd .i64 n2 1)))])], [(0, (.live (.ints .u8 (l.set (0 + ((iquo .i64 n2 8)).toNat) (ior .u8 (l.getD (0 + ((iquo .i64 n2 8)).toNat) 0) (ishr .u8 128 (irem .i64 n2 8)))))))]⟩, .k1 t_.pf (by kernel_rfl) (by kernel_rfl), ⟨⟨⟨_, rfl, .eq rfl⟩, ⟨_, rfl, .eq rfl⟩, ⟨_, rfl, .eq rfl⟩, trivial⟩, ⟨⟨rfl, ⟨.own (by first | rfl | (simp only [List.take_length]; done) | (simp; done) | (simp only [List.map_take, List.map_drop, List.map_append, List.take_length, List.nil_append]; done) | (simp only [List.length_map, List.take_length, List.length_append, List.drop_zero, List.map_append, List.map_take, List.map_drop, List.map_replicate, List.map_cons, List.map_nil, List.append_nil, List.nil_append]; done)), .eq rfl, trivial⟩⟩, trivial⟩, ⟨⟨rfl, .eq rfl⟩, trivial⟩⟩⟩
   ·have h := zad h
    subst h
    have t_ := tT h1 <| tO (rfl : true = true) <| tF h2 <| tO h3 <| tF h4 <| tN
    exact ⟨t_.ev, zcV n ((isub .i64 i 1), (iadd .i64 n2 1), l), .k0 t_.pf (by kernel_rfl), .same (by kernel_rfl)⟩
 ·have h := zad h
  subst h
  have t_ := tF h1 <| tN
  exact ⟨t_.ev, ⟨[(13, (.av (.one (.pv (.bool false))))), (0, (.av (.one (.ref 0 0)))), (1, (.av (.one (.pv (.int .u64 n))))), (6, (.av (.one (.pv (.int .i64 i))))), (13, (.av (.one (.pv (.bool (decide ((0 : Int) ≤ i)))))))], [(0, [(.own 0 0 (l).length false), (.pv (.int .i64 n2))])], [(0, (.live (.ints .u8 l)))]⟩, .k0 t_.pf (by kernel_rfl), ⟨trivial, ⟨⟨rfl, ⟨.eq rfl, .eq rfl, trivial⟩⟩, trivial⟩, ⟨⟨rfl, .eq rfl⟩, trivial⟩⟩⟩
theorem zhD (n : Int) (s_ : Int × Int × List Int) (r_ : Int × List Int) (h : runL (zaQ n) s_ = some r_) : zaT Tryz.prog (lEnv Tryz.prog cfg 135 1).nt 1 (.loop (zax Tryz.prog 135 0)) (zcV n s_) (zcU n r_).1 (zcU n r_).2 :=
 zaJ h (ziw n) (by intro r_; rcases r_ with ⟨r1, r2⟩ <;> simp [zcU])
noncomputable def zay (n k n2 : Int) (l : List Int) : Option (Int × List Int) :=
 (zex k).bind fun n3 =>
 (runL (zaQ n) ((isub .i64 n3 1), n2, l)).bind fun (n4, l_) =>
 some (n4, l_)
theorem zaV (n k n2 : Int) (l : List Int) (r_ : Int × List Int) (h : zay n k n2 l = some r_) : Runs Tryz.prog 135 [(.one (.ref 0 0)), (.one (.pv (.int .u64 n))), (.one (.pv (.int .i64 k)))] [[(.own 0 0 (l).length false), (.pv (.int .i64 n2))]] [(.ints .u8 l)] (zjp n k n2 l r_) := by
 unfold zay at h
 obtain ⟨n3, h1, h⟩ := zaf h
 obtain ⟨⟨n4, l_⟩, h2, h⟩ := zaf h
 have h := zad h
 subst h
 have t_ := tF (rfl : false = false) <| tR (zd8 k _ h1) <| tL (zhD n _ _ h2) <| tN
 exact zah (C := cfg) (sc := t_.ev) (.k0 t_.pf (by kernel_rfl))
def zgH (i : Bool) (i2 : zab) (n : Int) (l : List Int) : Int × List Int → Res
 | (r1, r2) => ([], [[(.own 0 0 (r2).length false), (.pv (.int .i64 r1))]], [(.ints .u8 r2)])
noncomputable def zed (rec_code_PutID_2 : Bool → zab → Int → List Int → Option (Int × List Int)) (i : Bool) (i2 : zab) (n : Int) (l : List Int) : Option (Int × List Int) :=
 (zfh i i2).bind fun (b, t) =>
 (zeC i i2).bind fun (b2, t2) =>
 (za0 i i2).bind fun b3 =>
 bif b3 then
  (zay 0 2 n l).bind fun (n2, l_) =>
  (zay 0 1 n2 l_).bind fun (n3, l_2) =>
  some (n3, l_2)
 else
  (zbf i i2).bind fun _ =>
  bif i then
   (zay 0 2 n l).bind fun (n2, l_) =>
   (zay 1 1 n2 l_).bind fun (n3, l_2) =>
   some (n3, l_2)
  else
   (za0 b t).bind fun b4 =>
   bif b4 then
    (zay 1 2 n l).bind fun (n2, l_) =>
    (rec_code_PutID_2 b2 t2 n2 l_).bind fun (n3, l_2) =>
    some (n3, l_2)
   else
    (za0 b2 t2).bind fun b5 =>
    bif b5 then
     (zay 2 2 n l).bind fun (n2, l_) =>
     (rec_code_PutID_2 b t n2 l_).bind fun (n3, l_2) =>
     some (n3, l_2)
    else
     (zay 3 2 n l).bind fun (n2, l_) =>
     (rec_code_PutID_2 b t n2 l_).bind fun (n3, l_2) =>
     (rec_code_PutID_2 b2 t2 n3 l_2).bind fun (n4, l_3) =>
     some (n4, l_3)
theorem zkI (rec_code_PutID_2 : Bool → zab → Int → List Int → Option (Int × List Int)) (hrec_code_PutID_2 : ∀ i i2 n l r_, rec_code_PutID_2 i i2 n l = some r_ → Runs Tryz.prog 116 [(.one (.ref 0 0)), (.agg [(.pv (.bool i)), (.pv (zab.pv i2))])] [[(.own 0 0 (l).length false), (.pv (.int .i64 n))]] [(.ints .u8 l)] (zgH i i2 n l r_)) (i : Bool) (i2 : zab) (n : Int) (l : List Int) (r_ : Int × List Int) (h : zed rec_code_PutID_2 i i2 n l = some r_) : Runs Tryz.prog 116 [(.one (.ref 0 0)), (.agg [(.pv (.bool i)), (.pv (zab.pv i2))])] [[(.own 0 0 (l).length false), (.pv (.int .i64 n))]] [(.ints .u8 l)] (zgH i i2 n l r_) := by
 unfold zed at h
 obtain ⟨⟨b, t⟩, h1, h⟩ := zaf h
 obtain ⟨⟨b2, t2⟩, h2, h⟩ := zaf h
 obtain ⟨b3, h3, h⟩ := zaf h
 have p3_ := fun {sc_ : List Ev} {Q_ : Prop} (t_ : Tell sc_ Q_) => tR (zaO i i2 _ h1) <| tR (zaO i i2 _ h1) <| tR (zaO i i2 _ h1) <| tR (zaO i i2 _ h1) <| tR (zaO i i2 _ h1) <| tR (zaO i i2 _ h1) <| tR (zaO i i2 _ h1) <| tR (zck i i2 _ h2) <| tR (zck i i2 _ h2) <| tR (zck i i2 _ h2) <| tR (zaO i i2 _ h1) <| tR (zck i i2 _ h2) <| tR (zap i i2 _ h3) <| t_
 rcases zaj h with ⟨h4, h⟩ | ⟨h4, h⟩
 ·obtain ⟨⟨n2, l_⟩, h5, h⟩ := zaf h
  obtain ⟨⟨n3, l_2⟩, h6, h⟩ := zaf h
  have h := zad h
  subst h
  have t_ := p3_ <| tT h4 <| tR (zaV 0 2 n l _ h5) <| tR (zaV 0 1 n2 l_ _ h6) <| tN
  exact zah (C := cfg) (sc := t_.ev) (.k1 t_.pf (by kernel_rfl) (by kernel_rfl))
 ·obtain ⟨_, h5, h⟩ := zaf h
  rcases zaj h with ⟨h6, h⟩ | ⟨h6, h⟩
  ·obtain ⟨⟨n2, l_⟩, h7, h⟩ := zaf h
   obtain ⟨⟨n3, l_2⟩, h8, h⟩ := zaf h
   have h := zad h
   subst h
   have t_ := p3_ <| tF h4 <| tR (zas i i2 _ h5) <| tT h6 <| tR (zaV 0 2 n l _ h7) <| tR (zaV 1 1 n2 l_ _ h8) <| tN
   exact zah (C := cfg) (sc := t_.ev) (.k1 t_.pf (by kernel_rfl) (by kernel_rfl))
  ·obtain ⟨b4, h7, h⟩ := zaf h
   rcases zaj h with ⟨h8, h⟩ | ⟨h8, h⟩
   ·obtain ⟨⟨n2, l_⟩, h9, h⟩ := zaf h
    obtain ⟨⟨n3, l_2⟩, h10, h⟩ := zaf h
    have h := zad h
    subst h
    have t_ := p3_ <| tF h4 <| tR (zas i i2 _ h5) <| tF h6 <| tR (zap b t _ h7) <| tT h8 <| tR (zaV 1 2 n l _ h9) <| tR (hrec_code_PutID_2 b2 t2 n2 l_ _ h10) <| tN
    exact zah (C := cfg) (sc := t_.ev) (.k1 t_.pf (by kernel_rfl) (by kernel_rfl))
   ·obtain ⟨b5, h9, h⟩ := zaf h
    rcases zaj h with ⟨h10, h⟩ | ⟨h10, h⟩
    ·obtain ⟨⟨n2, l_⟩, h11, h⟩ := zaf h
     obtain ⟨⟨n3, l_2⟩, h12, h⟩ := zaf h
     have h := zad h
     subst h
     have t_ := p3_ <| tF h4 <| tR (zas i i2 _ h5) <| tF h6 <| tR (zap b t _ h7) <| tF h8 <| tR (zap b2 t2 _ h9) <| tT h10 <| tR (zaV 2 2 n l _ h11) <| tR (hrec_code_PutID_2 b t n2 l_ _ h12) <| tN
     exact zah (C := cfg) (sc := t_.ev) (.k1 t_.pf (by kernel_rfl) (by kernel_rfl))
    ·obtain ⟨⟨n2, l_⟩, h11, h⟩ := zaf h
     obtain ⟨⟨n3, l_2⟩, h12, h⟩ := zaf h
     obtain ⟨⟨n4, l_3⟩, h13, h⟩ := zaf h
     have h := zad h
     subst h
     have t_ := p3_ <| tF h4 <| tR (zas i i2 _ h5) <| tF h6 <| tR (zap b t _ h7) <| tF h8 <| tR (zap b2 t2 _ h9) <| tF h10 <| tR (zaV 3 2 n l _ h11) <| tR (hrec_code_PutID_2 b t n2 l_ _ h12) <| tR (hrec_code_PutID_2 b2 t2 n3 l_2 _ h13) <| tN
     exact zah (C := cfg) (sc := t_.ev) (.k1 t_.pf (by kernel_rfl) (by kernel_rfl))
noncomputable def zcj : Nat → Bool → zab → Int → List Int → Option (Int × List Int)
 | 0, _, _, _, _ => none
 | N + 1, i, i2, n, l => zed (zcj N) i i2 n l
theorem zdJ : ∀ (N : Nat) (i : Bool) (i2 : zab) (n : Int) (l : List Int) (r_ : Int × List Int), zcj N i i2 n l = some r_ → Runs Tryz.prog 116 [(.one (.ref 0 0)), (.agg [(.pv (.bool i)), (.pv (zab.pv i2))])] [[(.own 0 0 (l).length false), (.pv (.int .i64 n))]] [(.ints .u8 l)] (zgH i i2 n l r_)
 | 0, _, _, _, _, _, h => by cases h
 | N + 1, i, i2, n, l, r_, h => zkI (zcj N) (zdJ N) i i2 n l r_ h
noncomputable def zhS (N : Nat) (i : Bool) (i2 : zab) (n : Int) : Option (Int × List Int) :=
 (zfh i i2).bind fun (b, t) =>
 (zeC i i2).bind fun (b2, t2) =>
 (za0 i i2).bind fun b3 =>
 bif b3 then
  (zb8 0 2 n).bind fun (n2, l_) =>
  (zay 0 1 n2 l_).bind fun (n3, l_2) =>
  some (n3, l_2)
 else
  (zbf i i2).bind fun _ =>
  bif i then
   (zb8 0 2 n).bind fun (n2, l_) =>
   (zay 1 1 n2 l_).bind fun (n3, l_2) =>
   some (n3, l_2)
  else
   (za0 b t).bind fun b4 =>
   bif b4 then
    (zb8 1 2 n).bind fun (n2, l_) =>
    (zcj N b2 t2 n2 l_).bind fun (n3, l_2) =>
    some (n3, l_2)
   else
    (za0 b2 t2).bind fun b5 =>
    bif b5 then
     (zb8 2 2 n).bind fun (n2, l_) =>
     (zcj N b t n2 l_).bind fun (n3, l_2) =>
     some (n3, l_2)
    else
     (zb8 3 2 n).bind fun (n2, l_) =>
     (zcj N b t n2 l_).bind fun (n3, l_2) =>
     (zcj N b2 t2 n3 l_2).bind fun (n4, l_3) =>
     some (n4, l_3)
theorem znr (N : Nat) (i : Bool) (i2 : zab) (n : Int) (r_ : Int × List Int) (h : zhS N i i2 n = some r_) : Runs Tryz.prog 116 [(.one (.ref 0 0)), (.agg [(.pv (.bool i)), (.pv (zab.pv i2))])] [[(.pv .nils), (.pv (.int .i64 n))]] [] (zoU i i2 n r_) := by
 unfold zhS at h
 obtain ⟨⟨b, t⟩, h1, h⟩ := zaf h
 obtain ⟨⟨b2, t2⟩, h2, h⟩ := zaf h
 obtain ⟨b3, h3, h⟩ := zaf h
 have p3_ := fun {sc_ : List Ev} {Q_ : Prop} (t_ : Tell sc_ Q_) => tR (zaO i i2 _ h1) <| tR (zaO i i2 _ h1) <| tR (zaO i i2 _ h1) <| tR (zaO i i2 _ h1) <| tR (zaO i i2 _ h1) <| tR (zaO i i2 _ h1) <| tR (zaO i i2 _ h1) <| tR (zck i i2 _ h2) <| tR (zck i i2 _ h2) <| tR (zck i i2 _ h2) <| tR (zaO i i2 _ h1) <| tR (zck i i2 _ h2) <| tR (zap i i2 _ h3) <| t_
 rcases zaj h with ⟨h4, h⟩ | ⟨h4, h⟩
 ·obtain ⟨⟨n2, l_⟩, h5, h⟩ := zaf h
  obtain ⟨⟨n3, l_2⟩, h6, h⟩ := zaf h
  have h := zad h
  subst h
  have t_ := p3_ <| tT h4 <| tR (zcO 0 2 n _ h5) <| tR (zaV 0 1 n2 l_ _ h6) <| tN
  exact zah (C := cfg) (sc := t_.ev) (.k1 t_.pf (by kernel_rfl) (by kernel_rfl))
 ·obtain ⟨_, h5, h⟩ := zaf h
  rcases zaj h with ⟨h6, h⟩ | ⟨h6, h⟩
  ·obtain ⟨⟨n2, l_⟩, h7, h⟩ := zaf h
   obtain ⟨⟨n3, l_2⟩, h8, h⟩ := zaf h
   have h := zad h
   subst h
   have t_ := p3_ <| tF h4 <| tR (zas i i2 _ h5) <| tT h6 <| tR (zcO 0 2 n _ h7) <| tR (zaV 1 1 n2 l_ _ h8) <| tN
   exact zah (C := cfg) (sc := t_.ev) (.k1 t_.pf (by kernel_rfl) (by kernel_rfl))
  ·obtain ⟨b4, h7, h⟩ := zaf h
   rcases zaj h with ⟨h8, h⟩ | ⟨h8, h⟩
   ·obtain ⟨⟨n2, l_⟩, h9, h⟩ := zaf h
    obtain ⟨⟨n3, l_2⟩, h10, h⟩ := zaf h
    have h := zad h
    subst h
    have t_ := p3_ <| tF h4 <| tR (zas i i2 _ h5) <| tF h6 <| tR (zap b t _ h7) <| tT h8 <| tR (zcO 1 2 n _ h9) <| tR (zdJ N b2 t2 n2 l_ _ h10) <| tN
    exact zah (C := cfg) (sc := t_.ev) (.k1 t_.pf (by kernel_rfl) (by kernel_rfl))
   ·obtain ⟨b5, h9, h⟩ := zaf h
    rcases zaj h with ⟨h10, h⟩ | ⟨h10, h⟩
    ·obtain ⟨⟨n2, l_⟩, h11, h⟩ := zaf h
     obtain ⟨⟨n3, l_2⟩, h12, h⟩ := zaf h
     have h := zad h
     subst h
     have t_ := p3_ <| tF h4 <| tR (zas i i2 _ h5) <| tF h6 <| tR (zap b t _ h7) <| tF h8 <| tR (zap b2 t2 _ h9) <| tT h10 <| tR (zcO 2 2 n _ h11) <| tR (zdJ N b t n2 l_ _ h12) <| tN
     exact zah (C := cfg) (sc := t_.ev) (.k1 t_.pf (by kernel_rfl) (by kernel_rfl))
    ·obtain ⟨⟨n2, l_⟩, h11, h⟩ := zaf h
     obtain ⟨⟨n3, l_2⟩, h12, h⟩ := zaf h
     obtain ⟨⟨n4, l_3⟩, h13, h⟩ := zaf h
     have h := zad h
     subst h
     have t_ := p3_ <| tF h4 <| tR (zas i i2 _ h5) <| tF h6 <| tR (zap b t _ h7) <| tF h8 <| tR (zap b2 t2 _ h9) <| tF h10 <| tR (zcO 3 2 n _ h11) <| tR (zdJ N b t n2 l_ _ h12) <| tR (zdJ N b2 t2 n3 l_2 _ h13) <| tN
     exact zah (C := cfg) (sc := t_.ev) (.k1 t_.pf (by kernel_rfl) (by kernel_rfl))
def zjo (n : Int) (l : List Int) : Unit → Res
 | _ => ([(.one (.pv (.ints .u8 l false)))], [[(.pv (.ints .u8 l false)), (.pv (.int .i64 n))]], [])
noncomputable def zeJ (n : Int) (l : List Int) : Option (Unit) :=
 bif fits ((List.take (l).length l)).length then
 some ()
 else none
theorem zi5 (n : Int) (l : List Int) (r_ : Unit) (h : zeJ n l = some r_) : Runs Tryz.prog 117 [(.one (.ref 0 0))] [[(.own 0 0 (l).length false), (.pv (.int .i64 n))]] [(.ints .u8 l)] (zjo n l r_) := by
 unfold zeJ at h
 obtain ⟨h1, h⟩ := zaq h
 have h := zad h
 subst h
 have t_ := tF (rfl : false = false) <| tR (zgF (l := (List.take (l).length l)) (t := false) h1) <| tN
 exact Runs.out (zah (C := cfg) (res := ([(.one (.pv (.ints .u8 (List.take (l).length l) false)))], [[(.pv (.ints .u8 (List.take (l).length l) false)), (.pv (.int .i64 n))]], [])) (sc := t_.ev) (.k0 t_.pf (by kernel_rfl))) ⟨.pv (.ints (by first | rfl | (simp only [List.take_length]; done) | (simp; done) | (simp only [List.map_take, List.map_drop, List.map_append, List.take_length, List.nil_append]; done) | (simp only [List.length_map, List.take_length, List.length_append, List.drop_zero, List.map_append, List.map_take, List.map_drop, List.map_replicate, List.map_cons, List.map_nil, List.append_nil, List.nil_append]; done))), trivial⟩ ⟨⟨.pv (.ints (by first | rfl | (simp only [List.take_length]; done) | (simp; done) | (simp only [List.map_take, List.map_drop, List.map_append, List.take_length, List.nil_append]; done) | (simp only [List.length_map, List.take_length, List.length_append, List.drop_zero, List.map_append, List.map_take, List.map_drop, List.map_replicate, List.map_cons, List.map_nil, List.append_nil, List.nil_append]; done))), .eq rfl, trivial⟩, trivial⟩ trivial rfl
noncomputable def zhE (N : Nat) (i : Bool) (i2 : zab) : Option (List Int) :=
 (zgi).bind fun _ =>
 (zhS N i i2 0).bind fun (n, l_) =>
 (zeJ n l_).bind fun _ =>
 some l_
theorem zqD (N : Nat) (i : Bool) (i2 : zab) (r_ : List Int) (h : zhE N i i2 = some r_) : Runs Tryz.prog 83 [(.agg [(.pv (.bool i)), (.pv (zab.pv i2))])] [] [] (zrG i i2 r_) := by
 unfold zhE at h
 obtain ⟨_, h1, h⟩ := zaf h
 obtain ⟨⟨n, l_⟩, h2, h⟩ := zaf h
 obtain ⟨_, h3, h⟩ := zaf h
 have h := zad h
 subst h
 have t_ := tR (zkC _ h1) <| tR (znr N i i2 0 _ h2) <| tR (zi5 n l_ _ h3) <| tN
 exact zah (C := cfg) (sc := t_.ev) (.k0 t_.pf (by kernel_rfl))
def zqu (p : List Int) (s : ByteArray) : List Int → Res
 | r1 => ([(.one (.own 0 0 (r1).length false))], [], [(.ints .u8 r1)])
noncomputable def zlQ (p : List Int) (s : ByteArray) : Option (List Int) :=
 (zdH p (IntKind.u64.wrap (s.size : Int))).bind fun l_ =>
 bif fits ((l_ ++ (zcn s))).length then
 some (l_ ++ (zcn s))
 else none
theorem zpf (p : List Int) (s : ByteArray) (r_ : List Int) (h : zlQ p s = some r_) : Runs Tryz.prog 82 [(.one (.pv (.ints .u8 p false))), (.one (.pv (.str s)))] [] [] (zqu p s r_) := by
 unfold zlQ at h
 obtain ⟨l_, h1, h⟩ := zaf h
 obtain ⟨h2, h⟩ := zaq h
 have h := zad h
 subst h
 have t_ := tR (zaM p (IntKind.u64.wrap (s.size : Int)) _ h1) <| tO (show (Nat.beq (l_).length (l_).length) = true from Nat.beq_refl _) <| tO h2 <| tN
 exact zah (C := cfg) (sc := t_.ev) (.k0 t_.pf (by kernel_rfl))
noncomputable def zgv (N : Nat) (p : List Int) (g g2 g3 : Int) (g4 : Bool) (g5 : zab) : Option (List Int) :=
 (zdH p g).bind fun l_ =>
 (zdH l_ (IntKind.u64.wrap g2)).bind fun l_2 =>
 (zdH l_2 (IntKind.u64.wrap g3)).bind fun l_3 =>
 (zhE N g4 g5).bind fun l_4 =>
 (zlQ l_3 (Ev.strOf l_4)).bind fun l_5 =>
 some l_5
theorem zlU (N : Nat) (p : List Int) (g g2 g3 : Int) (g4 : Bool) (g5 : zab) (r_ : List Int) (h : zgv N p g g2 g3 g4 g5 = some r_) : Runs Tryz.prog 47 [(.one (.pv (.ints .u8 p false))), (.agg [(.pv (.int .u64 g)), (.pv (.int .i64 g2)), (.pv (.int .i64 g3)), (.pv (.bool g4)), (.pv (zab.pv g5))])] [] [] (zmL p g g2 g3 g4 g5 r_) := by
 unfold zgv at h
 obtain ⟨l_, h1, h⟩ := zaf h
 obtain ⟨l_2, h2, h⟩ := zaf h
 obtain ⟨l_3, h3, h⟩ := zaf h
 obtain ⟨l_4, h4, h⟩ := zaf h
 obtain ⟨l_5, h5, h⟩ := zaf h
 have h := zad h
 subst h
 have t_ := tR (zaM p g _ h1) <| tR (zaM p g _ h1) <| tR (zaM p g _ h1) <| tR (Runs.coe (as' := [(.one (.pv (.ints .u8 (List.take (l_).length l_) false))), (.one (.pv (.int .u64 (IntKind.u64.wrap g2))))]) (objs' := []) (rows' := []) (zaM l_ (IntKind.u64.wrap g2) _ h2) ⟨.pv (.ints (by first | rfl | (simp only [List.take_length]; done) | (simp; done) | (simp only [List.map_take, List.map_drop, List.map_append, List.take_length, List.nil_append]; done) | (simp only [List.length_map, List.take_length, List.length_append, List.drop_zero, List.map_append, List.map_take, List.map_drop, List.map_replicate, List.map_cons, List.map_nil, List.append_nil, List.nil_append]; done))), .eq rfl, trivial⟩ trivial trivial) <| tR (zaM p g _ h1) <| tR (Runs.coe (as' := [(.one (.pv (.ints .u8 (List.take (l_).length l_) false))), (.one (.pv (.int .u64 (IntKind.u64.wrap g2))))]) (objs' := []) (rows' := []) (zaM l_ (IntKind.u64.wrap g2) _ h2) ⟨.pv (.ints (by first | rfl | (simp only [List.take_length]; done) | (simp; done) | (simp only [List.map_take, List.map_drop, List.map_append, List.take_length, List.nil_append]; done) | (simp only [List.length_map, List.take_length, List.length_append, List.drop_zero, List.map_append, List.map_take, List.map_drop, List.map_replicate, List.map_cons, List.map_nil, List.append_nil, List.nil_append]; done))), .eq rfl, trivial⟩ trivial trivial) <| tR (Runs.coe (as' := [(.one (.pv (.ints .u8 (List.take (l_2).length l_2) false))), (.one (.pv (.int .u64 (IntKind.u64.wrap g3))))]) (objs' := []) (rows' := []) (zaM l_2 (IntKind.u64.wrap g3) _ h3) ⟨.pv (.ints (by first | rfl | (simp only [List.take_length]; done) | (simp; done) | (simp only [List.map_take, List.map_drop, List.map_append, List.take_length, List.nil_append]; done) | (simp only [List.length_map, List.take_length, List.length_append, List.drop_zero, List.map_append, List.map_take, List.map_drop, List.map_replicate, List.map_cons, List.map_nil, List.append_nil, List.nil_append]; done))), .eq rfl, trivial⟩ trivial trivial) <| tR (zqD N g4 g5 _ h4) <| tR (Runs.coe (as' := [(.one (.pv (.ints .u8 (List.take (l_3).length l_3) false))), (.one (.pv (.str (Ev.strOf l_4))))]) (objs' := []) (rows' := []) (zpf l_3 (Ev.strOf l_4) _ h5) ⟨.pv (.ints (by first | rfl | (simp only [List.take_length]; done) | (simp; done) | (simp only [List.map_take, List.map_drop, List.map_append, List.take_length, List.nil_append]; done) | (simp only [List.length_map, List.take_length, List.length_append, List.drop_zero, List.map_append, List.map_take, List.map_drop, List.map_replicate, List.map_cons, List.map_nil, List.append_nil, List.nil_append]; done))), .eq rfl, trivial⟩ trivial trivial) <| tN
 exact zah (C := cfg) (sc := t_.ev) (.k1 t_.pf (by kernel_rfl) (by kernel_rfl))
def zeh (r : List zaa) (n n2 n3 : Int) (r2 : List zaa) (m : List (Int × Int)) (m2 : List ((Int × Int) × Int)) : Int × List Int → St
 | (n4, l) => ⟨[(0, (.av (.one (.ref 0 0)))), (3, (.av (.one (.own 0 0 (l).length false)))), (33, (.av (.one (.pv (.recs 5 (List.map zaa.pv r) false))))), (34, (.av (.one (.pv (.int .i64 n))))), (35, (.av (.one (.pv (.int .i64 n4)))))], [(0, [(.pv (.int .i64 n2)), (.pv (.int .u64 n3)), (.pv (.recs 5 (List.map zaa.pv r2) false)), (.mp 1), (.mp 2)]), (1, [(.maph (.int .i64) false (List.map M_int_int.pv m) [])]), (2, [(.maph (.st [.i64, .u64]) false (List.map M_deed_Mark_int.pv m2) [])])], [(0, (.live (.ints .u8 l)))]⟩
def zc6 (r : List zaa) (n n2 n3 : Int) (r2 : List zaa) (m : List (Int × Int)) (m2 : List ((Int × Int) × Int)) : List Int → Ex × St
 | r1 => ((.exit 0), ⟨[(0, (.av (.one (.ref 0 0)))), (3, (.av (.one (.own 0 0 (r1).length false))))], [(0, [(.pv (.int .i64 n2)), (.pv (.int .u64 n3)), (.pv (.recs 5 (List.map zaa.pv r2) false)), (.mp 1), (.mp 2)]), (1, [(.maph (.int .i64) false (List.map M_int_int.pv m) [])]), (2, [(.maph (.st [.i64, .u64]) false (List.map M_deed_Mark_int.pv m2) [])])], [(0, (.live (.ints .u8 r1)))]⟩)
noncomputable def zaW (N : Nat) (r : List zaa) (n n2 n3 : Int) (r2 : List zaa) (m : List (Int × Int)) (m2 : List ((Int × Int) × Int)) : Int × List Int → Option ((Int × List Int) ⊕ (List Int))
 | (n4, l) =>
 bif (decide ((n4 : Int) < n)) then
  bif decide ((0 : Int) ≤ n4) && decide ((n4 : Int) < (((List.map zaa.pv r)).length : Int)) then
  (r[(n4).toNat]?).bind fun e_ => match e_ with
  | .mk n5 n6 n7 b t =>
  (zgv N l n5 n6 n7 b t).bind fun l_ =>
  some (.inl ((iadd .i64 n4 1), l_))
  else none
 else
  some (.inr l)
theorem zi7 (N : Nat) (r : List zaa) (n n2 n3 : Int) (r2 : List zaa) (m : List (Int × Int)) (m2 : List ((Int × Int) × Int)) (s_ : Int × List Int) (z_ : (Int × List Int) ⊕ (List Int)) (h : zaW N r n n2 n3 r2 m m2 s_ = some z_) : zaP Tryz.prog cfg 24 3 (zax Tryz.prog 24 0) (zeh r n n2 n3 r2 m m2) (zc6 r n n2 n3 r2 m m2) s_ z_ := by
 rcases s_ with ⟨n4, l⟩
 rcases zaj h with ⟨h1, h⟩ | ⟨h1, h⟩
 ·obtain ⟨h2, h⟩ := zaq h
  obtain ⟨⟨n5, n6, n7, b, t⟩, h3, h⟩ := zaf h
  obtain ⟨l_, h4, h⟩ := zaf h
  have h := zad h
  subst h
  have t_ := tT h1 <| tO h2 <| tE (.el [(.int .u64 n5), (.int .i64 n6), (.int .i64 n7), (.bool b), (zab.pv t)]) <| tO (zc0 (f := zaa.pv) h3) <| tR (Runs.coe (as' := [(.one (.pv (.ints .u8 (List.take (l).length l) false))), (.agg [(.pv (.int .u64 n5)), (.pv (.int .i64 n6)), (.pv (.int .i64 n7)), (.pv (.bool b)), (.pv (zab.pv t))])]) (objs' := []) (rows' := []) (zlU N l n5 n6 n7 b t _ h4) ⟨.pv (.ints (by first | rfl | (simp only [List.take_length]; done) | (simp; done) | (simp only [List.map_take, List.map_drop, List.map_append, List.take_length, List.nil_append]; done) | (simp only [List.length_map, List.take_length, List.length_append, List.drop_zero, List.map_append, List.map_take, List.map_drop, List.map_replicate, List.map_cons, List.map_nil, List.append_nil, List.nil_append]; done))), ⟨.eq rfl, .eq rfl, .eq rfl, .eq rfl, .eq rfl, trivial⟩, trivial⟩ trivial trivial) <| tN
  exact ⟨t_.ev, zeh r n n2 n3 r2 m m2 ((iadd .i64 n4 1), l_), .k0 t_.pf (by kernel_rfl), .same (by kernel_rfl)⟩
 ·have h := zad h
  subst h
  have t_ := tF h1 <| tN
  exact ⟨t_.ev, ⟨[(36, (.av (.one (.pv (.bool false))))), (0, (.av (.one (.ref 0 0)))), (3, (.av (.one (.own 0 0 (l).length false)))), (33, (.av (.one (.pv (.recs 5 (List.map zaa.pv r) false))))), (34, (.av (.one (.pv (.int .i64 n))))), (35, (.av (.one (.pv (.int .i64 n4))))), (36, (.av (.one (.pv (.bool (decide ((n4 : Int) < n)))))))], [(0, [(.pv (.int .i64 n2)), (.pv (.int .u64 n3)), (.pv (.recs 5 (List.map zaa.pv r2) false)), (.mp 1), (.mp 2)]), (1, [(.maph (.int .i64) false (List.map M_int_int.pv m) [])]), (2, [(.maph (.st [.i64, .u64]) false (List.map M_deed_Mark_int.pv m2) [])])], [(0, (.live (.ints .u8 l)))]⟩, .k0 t_.pf (by kernel_rfl), ⟨⟨⟨_, rfl, .eq rfl⟩, ⟨_, rfl, .eq rfl⟩, trivial⟩, ⟨⟨rfl, ⟨.eq rfl, .eq rfl, .eq rfl, .eq rfl, .eq rfl, trivial⟩⟩, ⟨rfl, ⟨.eq rfl, trivial⟩⟩, ⟨rfl, ⟨.eq rfl, trivial⟩⟩, trivial⟩, ⟨⟨rfl, .eq rfl⟩, trivial⟩⟩⟩
theorem zhT (N : Nat) (r : List zaa) (n n2 n3 : Int) (r2 : List zaa) (m : List (Int × Int)) (m2 : List ((Int × Int) × Int)) (s_ : Int × List Int) (r_ : List Int) (h : runL (zaW N r n n2 n3 r2 m m2) s_ = some r_) : zaT Tryz.prog (lEnv Tryz.prog cfg 24 3).nt 3 (.loop (zax Tryz.prog 24 0)) (zeh r n n2 n3 r2 m m2 s_) (zc6 r n n2 n3 r2 m m2 r_).1 (zc6 r n n2 n3 r2 m m2 r_).2 :=
 zaJ h (zi7 N r n n2 n3 r2 m m2) (by intro r_; rcases r_ with r1 <;> simp [zc6])
def zmn (m : List (Int × Int)) : Unit → Res
 | _ => ([(.one (.fn 86 [(.ref 1 0)]))], [[(.maph (.int .i64) false (List.map M_int_int.pv m) [])], [(.mp 0)]], [])
noncomputable def zgS (m : List (Int × Int)) : Option (Unit) :=
 some ()
theorem zlw (m : List (Int × Int)) (r_ : Unit) (h : zgS m = some r_) : Runs Tryz.prog 49 [(.one (.mp 0))] [[(.maph (.int .i64) false (List.map M_int_int.pv m) [])]] [] (zmn m r_) := by
 unfold zgS at h
 have h := zad h
 subst h
 have t_ := tN
 exact zah (C := cfg) (sc := t_.ev) (.k0 t_.pf (by kernel_rfl))
def zei (n n2 n3 : Int) (r : List zaa) (m : List (Int × Int)) (m2 : List ((Int × Int) × Int)) (l2 : List Int) : Int × List Int → St
 | (n4, l) => ⟨[(0, (.av (.one (.ref 0 0)))), (3, (.av (.one (.own 0 0 (l).length false)))), (56, (.av (.one (.own 1 0 (l2).length false)))), (57, (.av (.one (.pv (.int .i64 n))))), (58, (.av (.one (.pv (.int .i64 n4)))))], [(0, [(.pv (.int .i64 n2)), (.pv (.int .u64 n3)), (.pv (.recs 5 (List.map zaa.pv r) false)), (.mp 1), (.mp 2)]), (1, [(.maph (.int .i64) false (List.map M_int_int.pv m) [])]), (2, [(.maph (.st [.i64, .u64]) false (List.map M_deed_Mark_int.pv m2) [])])], [(0, (.live (.ints .u8 l))), (1, (.live (.ints .i64 l2)))]⟩
def zc7 (n n2 n3 : Int) (r : List zaa) (m : List (Int × Int)) (m2 : List ((Int × Int) × Int)) (l2 : List Int) : List Int → Ex × St
 | r1 => ((.exit 2), ⟨[(0, (.av (.one (.ref 0 0)))), (3, (.av (.one (.own 0 0 (r1).length false))))], [(0, [(.pv (.int .i64 n2)), (.pv (.int .u64 n3)), (.pv (.recs 5 (List.map zaa.pv r) false)), (.mp 1), (.mp 2)]), (1, [(.maph (.int .i64) false (List.map M_int_int.pv m) [])]), (2, [(.maph (.st [.i64, .u64]) false (List.map M_deed_Mark_int.pv m2) [])])], [(0, (.live (.ints .u8 r1))), (1, (.live (.ints .i64 l2)))]⟩)
noncomputable def zaX (n n2 n3 : Int) (r : List zaa) (m : List (Int × Int)) (m2 : List ((Int × Int) × Int)) (l2 : List Int) : Int × List Int → Option ((Int × List Int) ⊕ (List Int))
 | (n4, l) =>
 bif (decide ((n4 : Int) < n)) then
  bif decide ((0 : Int) ≤ n4) && decide ((n4 : Int) < ((l2).length : Int)) then
  (zdH l (IntKind.u64.wrap (l2.getD (0 + (n4).toNat) 0))).bind fun l_ =>
  some (.inl ((iadd .i64 n4 1), l_))
  else none
 else
  some (.inr l)
theorem zi8 (n n2 n3 : Int) (r : List zaa) (m : List (Int × Int)) (m2 : List ((Int × Int) × Int)) (l2 : List Int) (s_ : Int × List Int) (z_ : (Int × List Int) ⊕ (List Int)) (h : zaX n n2 n3 r m m2 l2 s_ = some z_) : zaP Tryz.prog cfg 24 3 (zax Tryz.prog 24 1) (zei n n2 n3 r m m2 l2) (zc7 n n2 n3 r m m2 l2) s_ z_ := by
 rcases s_ with ⟨n4, l⟩
 rcases zaj h with ⟨h1, h⟩ | ⟨h1, h⟩
 ·obtain ⟨h2, h⟩ := zaq h
  obtain ⟨l_, h3, h⟩ := zaf h
  have h := zad h
  subst h
  have t_ := tT h1 <| tO h2 <| tR (Runs.coe (as' := [(.one (.pv (.ints .u8 (List.take (l).length l) false))), (.one (.pv (.int .u64 (IntKind.u64.wrap (l2.getD (0 + (n4).toNat) 0)))))]) (objs' := []) (rows' := []) (zaM l (IntKind.u64.wrap (l2.getD (0 + (n4).toNat) 0)) _ h3) ⟨.pv (.ints (by first | rfl | (simp only [List.take_length]; done) | (simp; done) | (simp only [List.map_take, List.map_drop, List.map_append, List.take_length, List.nil_append]; done) | (simp only [List.length_map, List.take_length, List.length_append, List.drop_zero, List.map_append, List.map_take, List.map_drop, List.map_replicate, List.map_cons, List.map_nil, List.append_nil, List.nil_append]; done))), .eq rfl, trivial⟩ trivial trivial) <| tN
  exact ⟨t_.ev, zei n n2 n3 r m m2 l2 ((iadd .i64 n4 1), l_), .k0 t_.pf (by kernel_rfl), .same (by kernel_rfl)⟩
 ·have h := zad h
  subst h
  have t_ := tF h1 <| tN
  exact ⟨t_.ev, ⟨[(59, (.av (.one (.pv (.bool false))))), (0, (.av (.one (.ref 0 0)))), (3, (.av (.one (.own 0 0 (l).length false)))), (56, (.av (.one (.own 1 0 (l2).length false)))), (57, (.av (.one (.pv (.int .i64 n))))), (58, (.av (.one (.pv (.int .i64 n4))))), (59, (.av (.one (.pv (.bool (decide ((n4 : Int) < n)))))))], [(0, [(.pv (.int .i64 n2)), (.pv (.int .u64 n3)), (.pv (.recs 5 (List.map zaa.pv r) false)), (.mp 1), (.mp 2)]), (1, [(.maph (.int .i64) false (List.map M_int_int.pv m) [])]), (2, [(.maph (.st [.i64, .u64]) false (List.map M_deed_Mark_int.pv m2) [])])], [(0, (.live (.ints .u8 l))), (1, (.live (.ints .i64 l2)))]⟩, .k0 t_.pf (by kernel_rfl), ⟨⟨⟨_, rfl, .eq rfl⟩, ⟨_, rfl, .eq rfl⟩, trivial⟩, ⟨⟨rfl, ⟨.eq rfl, .eq rfl, .eq rfl, .eq rfl, .eq rfl, trivial⟩⟩, ⟨rfl, ⟨.eq rfl, trivial⟩⟩, ⟨rfl, ⟨.eq rfl, trivial⟩⟩, trivial⟩, ⟨⟨rfl, .eq rfl⟩, ⟨rfl, .eq rfl⟩, trivial⟩⟩⟩
theorem zhU (n n2 n3 : Int) (r : List zaa) (m : List (Int × Int)) (m2 : List ((Int × Int) × Int)) (l2 : List Int) (s_ : Int × List Int) (r_ : List Int) (h : runL (zaX n n2 n3 r m m2 l2) s_ = some r_) : zaT Tryz.prog (lEnv Tryz.prog cfg 24 3).nt 3 (.loop (zax Tryz.prog 24 1)) (zei n n2 n3 r m m2 l2 s_) (zc7 n n2 n3 r m m2 l2 r_).1 (zc7 n n2 n3 r m m2 l2 r_).2 :=
 zaJ h (zi8 n n2 n3 r m m2 l2) (by intro r_; rcases r_ with r1 <;> simp [zc7])
def zkf (n n2 : Int) (r : List zaa) (m : List (Int × Int)) (m2 : List ((Int × Int) × Int)) : List zac → Res
 | r1 => ([(.one (.own 0 0 ((List.map zac.pv r1)).length false))], [[(.pv (.int .i64 n)), (.pv (.int .u64 n2)), (.pv (.recs 5 (List.map zaa.pv r) false)), (.mp 1), (.mp 2)], [(.maph (.int .i64) false (List.map M_int_int.pv m) [])], [(.maph (.st [.i64, .u64]) false (List.map M_deed_Mark_int.pv m2) [])]], [(.recs 2 (List.map zac.pv r1))])
def zk2 (m : List ((Int × Int) × Int)) : Unit → Res
 | _ => ([(.one (.fn 89 [(.ref 1 0)]))], [[(.maph (.st [.i64, .u64]) false (List.map M_deed_Mark_int.pv m) [])], [(.mp 0)]], [])
noncomputable def zfI (m : List ((Int × Int) × Int)) : Option (Unit) :=
 some ()
theorem zkm (m : List ((Int × Int) × Int)) (r_ : Unit) (h : zfI m = some r_) : Runs Tryz.prog 52 [(.one (.mp 0))] [[(.maph (.st [.i64, .u64]) false (List.map M_deed_Mark_int.pv m) [])]] [] (zk2 m r_) := by
 unfold zfI at h
 have h := zad h
 subst h
 have t_ := tN
 exact zah (C := cfg) (sc := t_.ev) (.k0 t_.pf (by kernel_rfl))
noncomputable def ze4 (n n2 : Int) (r : List zaa) (m : List (Int × Int)) (m2 : List ((Int × Int) × Int)) : Option (List zac) :=
 (zfI m2).bind fun _ =>
 (zcf m2).bind fun r2 =>
 some r2
theorem zjv (n n2 : Int) (r : List zaa) (m : List (Int × Int)) (m2 : List ((Int × Int) × Int)) (r_ : List zac) (h : ze4 n n2 r m m2 = some r_) : Runs Tryz.prog 26 [(.one (.ref 0 0))] [[(.pv (.int .i64 n)), (.pv (.int .u64 n2)), (.pv (.recs 5 (List.map zaa.pv r) false)), (.mp 1), (.mp 2)], [(.maph (.int .i64) false (List.map M_int_int.pv m) [])], [(.maph (.st [.i64, .u64]) false (List.map M_deed_Mark_int.pv m2) [])]] [] (zkf n n2 r m m2 r_) := by
 unfold ze4 at h
 obtain ⟨_, h1, h⟩ := zaf h
 obtain ⟨r2, h2, h⟩ := zaf h
 have h := zad h
 subst h
 have t_ := tF (rfl : false = false) <| tR (zkm m2 _ h1) <| tR (zgY m2 _ h2) <| tN
 exact zah (C := cfg) (sc := t_.ev) (.k0 t_.pf (by kernel_rfl))
def zej (n n2 n3 : Int) (r : List zaa) (m : List (Int × Int)) (m2 : List ((Int × Int) × Int)) (r2 : List zac) : Int × List Int → St
 | (n4, l) => ⟨[(3, (.av (.one (.own 0 0 (l).length false)))), (76, (.av (.one (.own 1 0 ((List.map zac.pv r2)).length false)))), (77, (.av (.one (.pv (.int .i64 n))))), (78, (.av (.one (.pv (.int .i64 n4)))))], [(0, [(.pv (.int .i64 n2)), (.pv (.int .u64 n3)), (.pv (.recs 5 (List.map zaa.pv r) false)), (.mp 1), (.mp 2)]), (1, [(.maph (.int .i64) false (List.map M_int_int.pv m) [])]), (2, [(.maph (.st [.i64, .u64]) false (List.map M_deed_Mark_int.pv m2) [])])], [(0, (.live (.ints .u8 l))), (1, (.live (.recs 2 (List.map zac.pv r2))))]⟩
def zc8 (n n2 n3 : Int) (r : List zaa) (m : List (Int × Int)) (m2 : List ((Int × Int) × Int)) (r2 : List zac) : List Int → Ex × St
 | r1 => ((.exit 4), ⟨[(3, (.av (.one (.own 0 0 (r1).length false))))], [(0, [(.pv (.int .i64 n2)), (.pv (.int .u64 n3)), (.pv (.recs 5 (List.map zaa.pv r) false)), (.mp 1), (.mp 2)]), (1, [(.maph (.int .i64) false (List.map M_int_int.pv m) [])]), (2, [(.maph (.st [.i64, .u64]) false (List.map M_deed_Mark_int.pv m2) [])])], [(0, (.live (.ints .u8 r1))), (1, (.live (.recs 2 (List.map zac.pv r2))))]⟩)
noncomputable def zaY (n n2 n3 : Int) (r : List zaa) (m : List (Int × Int)) (m2 : List ((Int × Int) × Int)) (r2 : List zac) : Int × List Int → Option ((Int × List Int) ⊕ (List Int))
 | (n4, l) =>
 bif (decide ((n4 : Int) < n)) then
  bif decide ((0 : Int) ≤ n4) && decide ((n4 : Int) < (((List.map zac.pv r2)).length : Int)) then
  (r2[(0 + (n4).toNat)]?).bind fun e_ => match e_ with
  | .mk n5 n6 =>
  (zdH l (IntKind.u64.wrap n5)).bind fun l_ =>
  (zdH l_ n6).bind fun l_2 =>
  some (.inl ((iadd .i64 n4 1), l_2))
  else none
 else
  some (.inr l)
theorem zi9 (n n2 n3 : Int) (r : List zaa) (m : List (Int × Int)) (m2 : List ((Int × Int) × Int)) (r2 : List zac) (s_ : Int × List Int) (z_ : (Int × List Int) ⊕ (List Int)) (h : zaY n n2 n3 r m m2 r2 s_ = some z_) : zaP Tryz.prog cfg 24 3 (zax Tryz.prog 24 2) (zej n n2 n3 r m m2 r2) (zc8 n n2 n3 r m m2 r2) s_ z_ := by
 rcases s_ with ⟨n4, l⟩
 rcases zaj h with ⟨h1, h⟩ | ⟨h1, h⟩
 ·obtain ⟨h2, h⟩ := zaq h
  obtain ⟨⟨n5, n6⟩, h3, h⟩ := zaf h
  obtain ⟨l_, h4, h⟩ := zaf h
  obtain ⟨l_2, h5, h⟩ := zaf h
  have h := zad h
  subst h
  have t_ := tT h1 <| tO h2 <| tE (.el [(.int .i64 n5), (.int .u64 n6)]) <| tO (zc0 (f := zac.pv) h3) <| tR (Runs.coe (as' := [(.one (.pv (.ints .u8 (List.take (l).length l) false))), (.one (.pv (.int .u64 (IntKind.u64.wrap n5))))]) (objs' := []) (rows' := []) (zaM l (IntKind.u64.wrap n5) _ h4) ⟨.pv (.ints (by first | rfl | (simp only [List.take_length]; done) | (simp; done) | (simp only [List.map_take, List.map_drop, List.map_append, List.take_length, List.nil_append]; done) | (simp only [List.length_map, List.take_length, List.length_append, List.drop_zero, List.map_append, List.map_take, List.map_drop, List.map_replicate, List.map_cons, List.map_nil, List.append_nil, List.nil_append]; done))), .eq rfl, trivial⟩ trivial trivial) <| tR (Runs.coe (as' := [(.one (.pv (.ints .u8 (List.take (l).length l) false))), (.one (.pv (.int .u64 (IntKind.u64.wrap n5))))]) (objs' := []) (rows' := []) (zaM l (IntKind.u64.wrap n5) _ h4) ⟨.pv (.ints (by first | rfl | (simp only [List.take_length]; done) | (simp; done) | (simp only [List.map_take, List.map_drop, List.map_append, List.take_length, List.nil_append]; done) | (simp only [List.length_map, List.take_length, List.length_append, List.drop_zero, List.map_append, List.map_take, List.map_drop, List.map_replicate, List.map_cons, List.map_nil, List.append_nil, List.nil_append]; done))), .eq rfl, trivial⟩ trivial trivial) <| tR (Runs.coe (as' := [(.one (.pv (.ints .u8 (List.take (l_).length l_) false))), (.one (.pv (.int .u64 n6)))]) (objs' := []) (rows' := []) (zaM l_ n6 _ h5) ⟨.pv (.ints (by first | rfl | (simp only [List.take_length]; done) | (simp; done) | (simp only [List.map_take, List.map_drop, List.map_append, List.take_length, List.nil_append]; done) | (simp only [List.length_map, List.take_length, List.length_append, List.drop_zero, List.map_append, List.map_take, List.map_drop, List.map_replicate, List.map_cons, List.map_nil, List.append_nil, List.nil_append]; done))), .eq rfl, trivial⟩ trivial trivial) <| tN
  exact ⟨t_.ev, zej n n2 n3 r m m2 r2 ((iadd .i64 n4 1), l_2), .k1 t_.pf (by kernel_rfl) (by kernel_rfl), .same (by kernel_rfl)⟩
 ·have h := zad h
  subst h
  have t_ := tF h1 <| tN
  exact ⟨t_.ev, ⟨[(79, (.av (.one (.pv (.bool false))))), (3, (.av (.one (.own 0 0 (l).length false)))), (76, (.av (.one (.own 1 0 ((List.map zac.pv r2)).length false)))), (77, (.av (.one (.pv (.int .i64 n))))), (78, (.av (.one (.pv (.int .i64 n4))))), (79, (.av (.one (.pv (.bool (decide ((n4 : Int) < n)))))))], [(0, [(.pv (.int .i64 n2)), (.pv (.int .u64 n3)), (.pv (.recs 5 (List.map zaa.pv r) false)), (.mp 1), (.mp 2)]), (1, [(.maph (.int .i64) false (List.map M_int_int.pv m) [])]), (2, [(.maph (.st [.i64, .u64]) false (List.map M_deed_Mark_int.pv m2) [])])], [(0, (.live (.ints .u8 l))), (1, (.live (.recs 2 (List.map zac.pv r2))))]⟩, .k0 t_.pf (by kernel_rfl), ⟨⟨⟨_, rfl, .eq rfl⟩, trivial⟩, ⟨⟨rfl, ⟨.eq rfl, .eq rfl, .eq rfl, .eq rfl, .eq rfl, trivial⟩⟩, ⟨rfl, ⟨.eq rfl, trivial⟩⟩, ⟨rfl, ⟨.eq rfl, trivial⟩⟩, trivial⟩, ⟨⟨rfl, .eq rfl⟩, ⟨rfl, .eq rfl⟩, trivial⟩⟩⟩
theorem zhV (n n2 n3 : Int) (r : List zaa) (m : List (Int × Int)) (m2 : List ((Int × Int) × Int)) (r2 : List zac) (s_ : Int × List Int) (r_ : List Int) (h : runL (zaY n n2 n3 r m m2 r2) s_ = some r_) : zaT Tryz.prog (lEnv Tryz.prog cfg 24 3).nt 3 (.loop (zax Tryz.prog 24 2)) (zej n n2 n3 r m m2 r2 s_) (zc8 n n2 n3 r m m2 r2 r_).1 (zc8 n n2 n3 r m m2 r2 r_).2 :=
 zaJ h (zi9 n n2 n3 r m m2 r2) (by intro r_; rcases r_ with r1 <;> simp [zc8])
end Go.Proofs.YtjjcmgdgifcmgaaGreat
