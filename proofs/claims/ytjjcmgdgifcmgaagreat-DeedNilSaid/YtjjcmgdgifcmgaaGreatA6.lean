/- What functions compute, and that they do. -/
import Derived.Test.YtjjcmgdgifcmgaaGreatA5
set_option linter.unusedVariables false
set_option linter.unusedSimpArgs false
set_option maxRecDepth 100000
namespace Go.Proofs.YtjjcmgdgifcmgaaGreat
open Go.Ev
def zeS (n n2 : Int) (r : List zaa) (m : List (Int × Int)) (m2 : List ((Int × Int) × Int)) (n3 n4 : Int) (r2 : List zab) (l : List Int) (r3 : List zac) : Int → St
 | n5 => ⟨[(0, (.av (.one (.ref 0 0)))), (1, (.av (.one (.ref 3 0)))), (9, (.av (.one (.pv (.int .i64 n5)))))], [(0, [(.pv (.int .i64 n)), (.pv (.int .u64 n2)), (.pv (.recs 5 (List.map zaa.pv r) false)), (.mp 1), (.mp 2)]), (1, [(.maph (.int .i64) false (List.map M_int_int.pv m) [])]), (2, [(.maph (.st [.i64, .u64]) false (List.map M_deed_Mark_int.pv m2) [])]), (3, [(.pv (.int .i64 n3)), (.pv (.int .u64 n4)), (.pv (.recs 4 (List.map zab.pv r2) false)), (.pv (.ints .i64 l false)), (.pv (.recs 2 (List.map zac.pv r3) false))])], []⟩
def zcv (n n2 : Int) (r : List zaa) (m : List (Int × Int)) (m2 : List ((Int × Int) × Int)) (n3 n4 : Int) (r2 : List zab) (l : List Int) (r3 : List zac) : (Unit) ⊕ (Unit) → Ex × St
 | .inl _ => (.ret, ⟨[(4, (.av (.one (.pv (.bool false)))))], [(0, [(.pv (.int .i64 n)), (.pv (.int .u64 n2)), (.pv (.recs 5 (List.map zaa.pv r) false)), (.mp 1), (.mp 2)]), (1, [(.maph (.int .i64) false (List.map M_int_int.pv m) [])]), (2, [(.maph (.st [.i64, .u64]) false (List.map M_deed_Mark_int.pv m2) [])]), (3, [(.pv (.int .i64 n3)), (.pv (.int .u64 n4)), (.pv (.recs 4 (List.map zab.pv r2) false)), (.pv (.ints .i64 l false)), (.pv (.recs 2 (List.map zac.pv r3) false))])], []⟩)
 | .inr _ => ((.exit 4), ⟨[], [(0, [(.pv (.int .i64 n)), (.pv (.int .u64 n2)), (.pv (.recs 5 (List.map zaa.pv r) false)), (.mp 1), (.mp 2)]), (1, [(.maph (.int .i64) false (List.map M_int_int.pv m) [])]), (2, [(.maph (.st [.i64, .u64]) false (List.map M_deed_Mark_int.pv m2) [])]), (3, [(.pv (.int .i64 n3)), (.pv (.int .u64 n4)), (.pv (.recs 4 (List.map zab.pv r2) false)), (.pv (.ints .i64 l false)), (.pv (.recs 2 (List.map zac.pv r3) false))])], []⟩)
noncomputable def zbG (N : Nat) (n n2 : Int) (r : List zaa) (m : List (Int × Int)) (m2 : List ((Int × Int) × Int)) (n3 n4 : Int) (r2 : List zab) (l : List Int) (r3 : List zac) : Int → Option ((Int) ⊕ ((Unit) ⊕ (Unit)))
 | n5 =>
 bif (decide ((n5 : Int) < 13)) then
  (zcR n5 n n2 r m m2).bind fun (n6, n7, n8, b, t, b2) =>
  (zg4 n5 n3 n4 r2 l r3).bind fun n9 =>
  (zcr n5 n n2 r m m2).bind fun b3 =>
  (zgd n5 n3 n4 r2 l r3).bind fun b4 =>
  bif (b3 == b4) then
   bif (b2 == (decide ((0 : Int) ≤ n9))) then
    bif b2 then
     bif decide ((0 : Int) ≤ n9) && decide ((n9 : Int) < (((List.map zab.pv r2)).length : Int)) then
     (r2[(n9).toNat]?).bind fun e_ => match e_ with
     | .mk n10 n11 n12 t2 =>
     (zfy N n6 n7 n8 b t n10 n11 n12 t2).bind fun b5 =>
     bif b5 then
      some (.inl (iadd .i64 n5 1))
     else
      some (.inr (.inl ()))
     else none
    else
     bif (decide ((n6 : Int) = 0)) then
      some (.inl (iadd .i64 n5 1))
     else
      some (.inr (.inl ()))
   else
    some (.inr (.inl ()))
  else
   some (.inr (.inl ()))
 else
  some (.inr (.inr ()))
theorem zmi (N : Nat) (n n2 : Int) (r : List zaa) (m : List (Int × Int)) (m2 : List ((Int × Int) × Int)) (n3 n4 : Int) (r2 : List zab) (l : List Int) (r3 : List zac) (n5 : Int) (z_ : (Int) ⊕ ((Unit) ⊕ (Unit))) (h : zbG N n n2 r m m2 n3 n4 r2 l r3 n5 = some z_) : zbQ Tryz.prog cfg 10 4 (zbe Tryz.prog 10 2) (zeS n n2 r m m2 n3 n4 r2 l r3) (zcv n n2 r m m2 n3 n4 r2 l r3) n5 z_ := by
 rcases zaj h with ⟨h1, h⟩ | ⟨h1, h⟩
 ·obtain ⟨⟨n6, n7, n8, b, t, b2⟩, h2, h⟩ := zae h
  obtain ⟨n9, h3, h⟩ := zae h
  obtain ⟨b3, h4, h⟩ := zae h
  obtain ⟨b4, h5, h⟩ := zae h
  have q_5 := (zlz n5 n3 n4 r2 l r3 _ h5)
  rcases zaj h with ⟨h6, h⟩ | ⟨h6, h⟩
  ·rcases zaj h with ⟨h7, h⟩ | ⟨h7, h⟩
   ·rcases zaj h with ⟨h8, h⟩ | ⟨h8, h⟩
    ·obtain ⟨h9, h⟩ := zar h
     obtain ⟨⟨n10, n11, n12, t2⟩, h10, h⟩ := zae h
     obtain ⟨b5, h11, h⟩ := zae h
     have q_11 := (zfp N n6 n7 n8 b t n10 n11 n12 t2 _ h11)
     have p11_ := fun {sc_ : List Ev} {Q_ : Prop} (t_ : Tell sc_ Q_) => tT h1 <| tR (zca n5 n n2 r m m2 _ h2) <| tR (zcq n5 n3 n4 r2 l r3 _ h3) <| tR (zbR n5 n n2 r m m2 _ h4) <| tR q_5 <| tF (zaz h6) <| tF (zaz h7) <| tT h8 <| tO h9 <| tO h9 <| tE (.el [(.int .u64 n10), (.int .i64 n11), (.int .i64 n12), (zah.pv t2)]) <| tO (zdi (f := zab.pv) h10) <| tE (.el [(.int .u64 n10), (.int .i64 n11), (.int .i64 n12), (zah.pv t2)]) <| tO (zdi (f := zab.pv) h10) <| tR q_11 <| t_
     rcases zaj h with ⟨h12, h⟩ | ⟨h12, h⟩
     ·have h := zaf h
      subst h
      have t_ := p11_ <| tF (zaz h12) <| tF (zaz h8) <| tF (rfl : false = false) <| tN
      exact ⟨t_.ev, zeS n n2 r m m2 n3 n4 r2 l r3 (iadd .i64 n5 1), .k1 t_.pf (by kernel_rfl) (by kernel_rfl), .same (by kernel_rfl)⟩
     ·have h := zaf h
      subst h
      have t_ := p11_ <| tT (zbc h12) <| tT (rfl : true = true) <| tN
      exact ⟨t_.ev, (zcv n n2 r m m2 n3 n4 r2 l r3 (.inl ())).2, .k1 t_.pf (by kernel_rfl) (by kernel_rfl), .same (by kernel_rfl)⟩
    ·rcases zaj h with ⟨h9, h⟩ | ⟨h9, h⟩
     ·have h := zaf h
      subst h
      have t_ := tT h1 <| tR (zca n5 n n2 r m m2 _ h2) <| tR (zcq n5 n3 n4 r2 l r3 _ h3) <| tR (zbR n5 n n2 r m m2 _ h4) <| tR q_5 <| tF (zaz h6) <| tF (zaz h7) <| tF h8 <| tF (rfl : false = false) <| tT (zbc h8) <| tF (zaz h9) <| tN
      exact ⟨t_.ev, zeS n n2 r m m2 n3 n4 r2 l r3 (iadd .i64 n5 1), .k1 t_.pf (by kernel_rfl) (by kernel_rfl), .same (by kernel_rfl)⟩
     ·have h := zaf h
      subst h
      have t_ := tT h1 <| tR (zca n5 n n2 r m m2 _ h2) <| tR (zcq n5 n3 n4 r2 l r3 _ h3) <| tR (zbR n5 n n2 r m m2 _ h4) <| tR q_5 <| tF (zaz h6) <| tF (zaz h7) <| tF h8 <| tF (rfl : false = false) <| tT (zbc h8) <| tT (zbc h9) <| tN
      exact ⟨t_.ev, (zcv n n2 r m m2 n3 n4 r2 l r3 (.inl ())).2, .k1 t_.pf (by kernel_rfl) (by kernel_rfl), .same (by kernel_rfl)⟩
   ·have h := zaf h
    subst h
    have t_ := tT h1 <| tR (zca n5 n n2 r m m2 _ h2) <| tR (zcq n5 n3 n4 r2 l r3 _ h3) <| tR (zbR n5 n n2 r m m2 _ h4) <| tR q_5 <| tF (zaz h6) <| tT (zbc h7) <| tT (rfl : true = true) <| tT (rfl : true = true) <| tN
    exact ⟨t_.ev, (zcv n n2 r m m2 n3 n4 r2 l r3 (.inl ())).2, .k1 t_.pf (by kernel_rfl) (by kernel_rfl), .same (by kernel_rfl)⟩
  ·have h := zaf h
   subst h
   have t_ := tT h1 <| tR (zca n5 n n2 r m m2 _ h2) <| tR (zcq n5 n3 n4 r2 l r3 _ h3) <| tR (zbR n5 n n2 r m m2 _ h4) <| tR q_5 <| tT (zbc h6) <| tT (rfl : true = true) <| tT (rfl : true = true) <| tT (rfl : true = true) <| tN
   exact ⟨t_.ev, (zcv n n2 r m m2 n3 n4 r2 l r3 (.inl ())).2, .k1 t_.pf (by kernel_rfl) (by kernel_rfl), .same (by kernel_rfl)⟩
 ·have h := zaf h
  subst h
  have t_ := tF h1 <| tN
  exact ⟨t_.ev, ⟨[(108, (.av (.one (.pv (.bool false))))), (0, (.av (.one (.ref 0 0)))), (1, (.av (.one (.ref 3 0)))), (9, (.av (.one (.pv (.int .i64 n5))))), (108, (.av (.one (.pv (.bool (decide ((n5 : Int) < 13)))))))], [(0, [(.pv (.int .i64 n)), (.pv (.int .u64 n2)), (.pv (.recs 5 (List.map zaa.pv r) false)), (.mp 1), (.mp 2)]), (1, [(.maph (.int .i64) false (List.map M_int_int.pv m) [])]), (2, [(.maph (.st [.i64, .u64]) false (List.map M_deed_Mark_int.pv m2) [])]), (3, [(.pv (.int .i64 n3)), (.pv (.int .u64 n4)), (.pv (.recs 4 (List.map zab.pv r2) false)), (.pv (.ints .i64 l false)), (.pv (.recs 2 (List.map zac.pv r3) false))])], []⟩, .k0 t_.pf (by kernel_rfl), ⟨trivial, ⟨⟨rfl, ⟨.eq rfl, .eq rfl, .eq rfl, .eq rfl, .eq rfl, trivial⟩⟩, ⟨rfl, ⟨.eq rfl, trivial⟩⟩, ⟨rfl, ⟨.eq rfl, trivial⟩⟩, ⟨rfl, ⟨.eq rfl, .eq rfl, .eq rfl, .eq rfl, .eq rfl, trivial⟩⟩, trivial⟩, trivial⟩⟩
theorem zg0 (N : Nat) (n n2 : Int) (r : List zaa) (m : List (Int × Int)) (m2 : List ((Int × Int) × Int)) (n3 n4 : Int) (r2 : List zab) (l : List Int) (r3 : List zac) (s_ : Int) (r_ : (Unit) ⊕ (Unit)) (h : runL (zbG N n n2 r m m2 n3 n4 r2 l r3) s_ = some r_) : zbK Tryz.prog (lEnv Tryz.prog cfg 10 4).nt 4 (.loop (zbe Tryz.prog 10 2)) (zeS n n2 r m m2 n3 n4 r2 l r3 s_) (zcv n n2 r m m2 n3 n4 r2 l r3 r_).1 (zcv n n2 r m m2 n3 n4 r2 l r3 r_).2 :=
 zbA h (zmi N n n2 r m m2 n3 n4 r2 l r3) (by intro r_; rcases r_ with _ | _ <;> simp [zcv])
noncomputable def zbh (N : Nat) (n n2 : Int) (r : List zaa) (m : List (Int × Int)) (m2 : List ((Int × Int) × Int)) (n3 n4 : Int) (r2 : List zab) (l : List Int) (r3 : List zac) : Option (Unit) :=
 (za4 n n2 r m m2).bind fun _ =>
 (zcA n n2 r m m2).bind fun r4 =>
 (zbO n n2 r m m2).bind fun _ =>
 bif (decide ((n : Int) = n3)) then
  (zbN n n2 r m m2).bind fun _ =>
  bif (decide ((n2 : Int) = n4)) then
   bif (decide (((((List.map zaa.pv r)).length : Int) : Int) = (((List.map zab.pv r2)).length : Int))) then
    bif (decide (((((List.map zal.pv r4)).length : Int) : Int) = (((List.map zac.pv r3)).length : Int))) then
     (zc5 N n n2 r m m2).bind fun l_ =>
     (zfZ N n3 n4 r2 l r3).bind fun l_2 =>
     (zg2 l_ l_2).bind fun b =>
     bif b then
      (runL (zcf N (((List.map zaa.pv r)).length : Int) n n2 r m m2 n3 n4 r2 l r3 r r4) 0).bind fun z_ => match z_ with
      | .inl _ =>
       none
      | .inr _ =>
       (runL (zcg (((List.map zal.pv r4)).length : Int) n n2 r m m2 n3 n4 r2 l r3 r4) 0).bind fun z_ => match z_ with
       | .inl _ =>
        none
       | .inr _ =>
        (runL (zbG N n n2 r m m2 n3 n4 r2 l r3) (-1)).bind fun z_ => match z_ with
        | .inl _ =>
         none
        | .inr _ =>
         some ()
     else
      none
    else
     none
   else
    none
  else
   none
 else
  none
theorem zbm (N : Nat) (n n2 : Int) (r : List zaa) (m : List (Int × Int)) (m2 : List ((Int × Int) × Int)) (n3 n4 : Int) (r2 : List zab) (l : List Int) (r3 : List zac) (r_ : Unit) (h : zbh N n n2 r m m2 n3 n4 r2 l r3 = some r_) : Runs Tryz.prog 10 [(.one (.ref 0 0)), (.one (.ref 3 0))] [[(.pv (.int .i64 n)), (.pv (.int .u64 n2)), (.pv (.recs 5 (List.map zaa.pv r) false)), (.mp 1), (.mp 2)], [(.maph (.int .i64) false (List.map M_int_int.pv m) [])], [(.maph (.st [.i64, .u64]) false (List.map M_deed_Mark_int.pv m2) [])], [(.pv (.int .i64 n3)), (.pv (.int .u64 n4)), (.pv (.recs 4 (List.map zab.pv r2) false)), (.pv (.ints .i64 l false)), (.pv (.recs 2 (List.map zac.pv r3) false))]] [] (zom n n2 r m m2 n3 n4 r2 l r3 r_) := by
 unfold zbh at h
 obtain ⟨_, h1, h⟩ := zae h
 obtain ⟨r4, h2, h⟩ := zae h
 obtain ⟨_, h3, h⟩ := zae h
 rcases zaj h with ⟨h4, h⟩ | ⟨h4, h⟩
 ·obtain ⟨_, h5, h⟩ := zae h
  rcases zaj h with ⟨h6, h⟩ | ⟨h6, h⟩
  ·rcases zaj h with ⟨h7, h⟩ | ⟨h7, h⟩
   ·rcases zaj h with ⟨h8, h⟩ | ⟨h8, h⟩
    ·obtain ⟨l_, h9, h⟩ := zae h
     obtain ⟨l_2, h10, h⟩ := zae h
     obtain ⟨b, h11, h⟩ := zae h
     have q_11 := (Runs.coe (as' := [(.one (.pv (.ints .u8 (List.take (l_).length l_) false))), (.one (.pv (.ints .u8 (List.take (l_2).length l_2) false)))]) (objs' := []) (rows' := []) (zjh l_ l_2 _ h11) ⟨.pv (.ints (by first | rfl | (simp only [List.take_length]; done) | (simp; done) | (simp only [List.map_take, List.map_drop, List.map_append, List.take_length, List.nil_append]; done) | (simp only [List.length_map, List.take_length, List.length_append, List.drop_zero, List.map_append, List.map_take, List.map_drop, List.map_replicate, List.map_cons, List.map_nil, List.append_nil, List.nil_append]; done))), .pv (.ints (by first | rfl | (simp only [List.take_length]; done) | (simp; done) | (simp only [List.map_take, List.map_drop, List.map_append, List.take_length, List.nil_append]; done) | (simp only [List.length_map, List.take_length, List.length_append, List.drop_zero, List.map_append, List.map_take, List.map_drop, List.map_replicate, List.map_cons, List.map_nil, List.append_nil, List.nil_append]; done))), trivial⟩ trivial trivial)
     rcases zaj h with ⟨h12, h⟩ | ⟨h12, h⟩
     ·obtain ⟨z_, h13, h⟩ := zae h
      rcases z_ with _ | _
      ·cases h
      ·have q_13 := (zgY N (((List.map zaa.pv r)).length : Int) n n2 r m m2 n3 n4 r2 l r3 r r4 _ _ h13)
       obtain ⟨z_, h14, h⟩ := zae h
       rcases z_ with _ | _
       ·cases h
       ·have q_14 := (zgZ (((List.map zal.pv r4)).length : Int) n n2 r m m2 n3 n4 r2 l r3 r4 _ _ h14)
        obtain ⟨z_, h15, h⟩ := zae h
        rcases z_ with _ | _
        ·cases h
        ·have h := zaf h
         subst h
         have t_ := tR (zam n n2 r m m2 _ h1) <| tR (zd2 n n2 r m m2 _ h2) <| tR (zbp n n2 r m m2 _ h3) <| tR (zbp n n2 r m m2 _ h3) <| tF (zaz h4) <| tR (zbo n n2 r m m2 _ h5) <| tR (zbo n n2 r m m2 _ h5) <| tF (zaz h6) <| tF (zaz h7) <| tF (zaz h8) <| tR (zfs N n n2 r m m2 _ h9) <| tR (ziG N n3 n4 r2 l r3 _ h10) <| tR q_11 <| tF (zaz h12) <| tL q_13 <| tL q_14 <| tL (zg0 N n n2 r m m2 n3 n4 r2 l r3 _ _ h15) <| tN
         exact zag (C := cfg) (sc := t_.ev) (.k1 t_.pf (by kernel_rfl) (by kernel_rfl))
     ·cases h
    ·cases h
   ·cases h
  ·cases h
 ·cases h
def zj7 (self : Int) (acts more : List zao) (share : List Int) : Bool → Res
 | r1 => ([(.one (.pv (.bool r1)))], [], [])
def zf7 (self : Int) (more : List zao) (share : List Int) (r : List zao) (n n2 : Int) (b : Bool) (n3 : Int) (r2 : List zaa) (m : List (Int × Int)) (m2 : List ((Int × Int) × Int)) (n4 : Int) (r3 : List zab) (l : List Int) (r4 : List zac) (n5 n6 n7 n8 : Int) (l2 : List Int) : Int × List zaa × List (Int × Int) × List ((Int × Int) × Int) × Int × List zab × List Int × List zac → Ex × St
 | (r1, r5, r6, r7, r8, r9, r10, r11) => (.normal, ⟨[(0, (.av (.one (.pv (.int .i64 self))))), (2, (.av (.one (.pv (.recs 5 (List.map zao.pv more) false))))), (3, (.av (.one (.pv (.ints .u8 share false))))), (9, (.av (.one (.ref 0 0)))), (10, (.av (.one (.ref 3 0)))), (32, (.av (.one (.pv (.recs 5 (List.map zao.pv r) false))))), (33, (.av (.one (.pv (.int .i64 n))))), (34, (.av (.one (.pv (.int .i64 n2)))))], [(0, [(.pv (.int .i64 3)), (.pv (.int .u64 r1)), (.pv (.recs 5 (List.map zaa.pv r5) false)), (.mp 1), (.mp 2)]), (1, [(.maph (.int .i64) false (List.map M_int_int.pv r6) [])]), (2, [(.maph (.st [.i64, .u64]) false (List.map M_deed_Mark_int.pv r7) [])]), (3, [(.pv (.int .i64 3)), (.pv (.int .u64 r8)), (.pv (.recs 4 (List.map zab.pv r9) false)), (.pv (.ints .i64 r10 false)), (.pv (.recs 2 (List.map zac.pv r11) false))])], []⟩)
noncomputable def zdL (N : Nat) (self : Int) (more : List zao) (share : List Int) (r : List zao) (n n2 : Int) (b : Bool) (n3 : Int) (r2 : List zaa) (m : List (Int × Int)) (m2 : List ((Int × Int) × Int)) (n4 : Int) (r3 : List zab) (l : List Int) (r4 : List zac) (n5 n6 n7 n8 : Int) (l2 : List Int) : Option (Int × List zaa × List (Int × Int) × List ((Int × Int) × Int) × Int × List zab × List Int × List zac) :=
 bif b then
  (zfw N n5 n6 n7 n8 l2 3 n3 r2 m m2 3 n4 r3 l r4).bind fun (b2, n9, r5, m_, m_2, n10, r6, l_, r7) =>
  some (n9, r5, m_, m_2, n10, r6, l_, r7)
 else
  some (n3, r2, m, m2, n4, r3, l, r4)
theorem ziy (N : Nat) (self : Int) (more : List zao) (share : List Int) (r : List zao) (n n2 : Int) (b : Bool) (n3 : Int) (r2 : List zaa) (m : List (Int × Int)) (m2 : List ((Int × Int) × Int)) (n4 : Int) (r3 : List zab) (l : List Int) (r4 : List zac) (n5 n6 n7 n8 : Int) (l2 : List Int) (r_ : Int × List zaa × List (Int × Int) × List ((Int × Int) × Int) × Int × List zab × List Int × List zac) (h : zdL N self more share r n n2 b n3 r2 m m2 n4 r3 l r4 n5 n6 n7 n8 l2 = some r_) : zbK Tryz.prog (lEnv Tryz.prog cfg 4 0).nt 0 (.cond (.tmp 40) (zt4 Tryz.prog 4 40).1 (zt4 Tryz.prog 4 40).2) ⟨[(0, (.av (.one (.pv (.int .i64 self))))), (2, (.av (.one (.pv (.recs 5 (List.map zao.pv more) false))))), (3, (.av (.one (.pv (.ints .u8 share false))))), (9, (.av (.one (.ref 0 0)))), (10, (.av (.one (.ref 3 0)))), (12, (.av (.one (.ref 4 0)))), (32, (.av (.one (.pv (.recs 5 (List.map zao.pv r) false))))), (33, (.av (.one (.pv (.int .i64 n))))), (34, (.av (.one (.pv (.int .i64 n2))))), (40, (.av (.one (.pv (.bool b)))))], [(0, [(.pv (.int .i64 3)), (.pv (.int .u64 n3)), (.pv (.recs 5 (List.map zaa.pv r2) false)), (.mp 1), (.mp 2)]), (1, [(.maph (.int .i64) false (List.map M_int_int.pv m) [])]), (2, [(.maph (.st [.i64, .u64]) false (List.map M_deed_Mark_int.pv m2) [])]), (3, [(.pv (.int .i64 3)), (.pv (.int .u64 n4)), (.pv (.recs 4 (List.map zab.pv r3) false)), (.pv (.ints .i64 l false)), (.pv (.recs 2 (List.map zac.pv r4) false))]), (4, [(.pv (.int .u8 n5)), (.pv (.int .i64 n6)), (.pv (.int .i64 n7)), (.pv (.int .u64 n8)), (.pv (.ints .u8 l2 false))])], []⟩ (zf7 self more share r n n2 b n3 r2 m m2 n4 r3 l r4 n5 n6 n7 n8 l2 r_).1 (zf7 self more share r n n2 b n3 r2 m m2 n4 r3 l r4 n5 n6 n7 n8 l2 r_).2 := by
 unfold zdL at h
 rcases zaj h with ⟨h1, h⟩ | ⟨h1, h⟩
 ·obtain ⟨⟨b2, n9, r5, m_, m_2, n10, r6, l_, r7⟩, h2, h⟩ := zae h
  have h := zaf h
  subst h
  have t_ := tT h1 <| tR (zje N n5 n6 n7 n8 l2 3 n3 r2 m m2 3 n4 r3 l r4 _ h2) <| tN
  exact zq5 (C := cfg) (sc := t_.ev) (.k0 t_.pf (by kernel_rfl))
 ·have h := zaf h
  subst h
  have t_ := tF h1 <| tN
  exact zq5 (C := cfg) (sc := t_.ev) (.k0 t_.pf (by kernel_rfl))
def zeq (self : Int) (more : List zao) (share : List Int) (r : List zao) (n : Int) : Int × Int × List zaa × List (Int × Int) × List ((Int × Int) × Int) × Int × List zab × List Int × List zac → St
 | (n2, n3, r2, m, m2, n4, r3, l, r4) => ⟨[(0, (.av (.one (.pv (.int .i64 self))))), (2, (.av (.one (.pv (.recs 5 (List.map zao.pv more) false))))), (3, (.av (.one (.pv (.ints .u8 share false))))), (9, (.av (.one (.ref 0 0)))), (10, (.av (.one (.ref 3 0)))), (32, (.av (.one (.pv (.recs 5 (List.map zao.pv r) false))))), (33, (.av (.one (.pv (.int .i64 n))))), (34, (.av (.one (.pv (.int .i64 n2)))))], [(0, [(.pv (.int .i64 3)), (.pv (.int .u64 n3)), (.pv (.recs 5 (List.map zaa.pv r2) false)), (.mp 1), (.mp 2)]), (1, [(.maph (.int .i64) false (List.map M_int_int.pv m) [])]), (2, [(.maph (.st [.i64, .u64]) false (List.map M_deed_Mark_int.pv m2) [])]), (3, [(.pv (.int .i64 3)), (.pv (.int .u64 n4)), (.pv (.recs 4 (List.map zab.pv r3) false)), (.pv (.ints .i64 l false)), (.pv (.recs 2 (List.map zac.pv r4) false))])], []⟩
def zdm (self : Int) (more : List zao) (share : List Int) (r : List zao) (n : Int) : Int × List zaa × List (Int × Int) × List ((Int × Int) × Int) × Int × List zab × List Int × List zac → Ex × St
 | (r1, r2, r3, r4, r5, r6, r7, r8) => ((.exit 0), ⟨[(0, (.av (.one (.pv (.int .i64 self))))), (2, (.av (.one (.pv (.recs 5 (List.map zao.pv more) false))))), (3, (.av (.one (.pv (.ints .u8 share false))))), (9, (.av (.one (.ref 0 0)))), (10, (.av (.one (.ref 3 0))))], [(0, [(.pv (.int .i64 3)), (.pv (.int .u64 r1)), (.pv (.recs 5 (List.map zaa.pv r2) false)), (.mp 1), (.mp 2)]), (1, [(.maph (.int .i64) false (List.map M_int_int.pv r3) [])]), (2, [(.maph (.st [.i64, .u64]) false (List.map M_deed_Mark_int.pv r4) [])]), (3, [(.pv (.int .i64 3)), (.pv (.int .u64 r5)), (.pv (.recs 4 (List.map zab.pv r6) false)), (.pv (.ints .i64 r7 false)), (.pv (.recs 2 (List.map zac.pv r8) false))])], []⟩)
noncomputable def za8 (N : Nat) (self : Int) (more : List zao) (share : List Int) (r : List zao) (n : Int) : Int × Int × List zaa × List (Int × Int) × List ((Int × Int) × Int) × Int × List zab × List Int × List zac → Option ((Int × Int × List zaa × List (Int × Int) × List ((Int × Int) × Int) × Int × List zab × List Int × List zac) ⊕ (Int × List zaa × List (Int × Int) × List ((Int × Int) × Int) × Int × List zab × List Int × List zac))
 | (n2, n3, r2, m, m2, n4, r3, l, r4) =>
 bif (decide ((n2 : Int) < n)) then
  bif decide ((0 : Int) ≤ n2) && decide ((n2 : Int) < (((List.map zao.pv r)).length : Int)) then
  (r[(n2).toNat]?).bind fun e_ => match e_ with
  | .mk n5 n6 n7 n8 l_ =>
  (zdL N self more share r n n2 (decide ((n2 : Int) < 15)) n3 r2 m m2 n4 r3 l r4 n5 n6 n7 n8 l_).bind fun (n9, r5, m_, m_2, n10, r6, l_2, r7) =>
  some (.inl ((iadd .i64 n2 1), n9, r5, m_, m_2, n10, r6, l_2, r7))
  else none
 else
  some (.inr (n3, r2, m, m2, n4, r3, l, r4))
theorem zi9 (N : Nat) (self : Int) (more : List zao) (share : List Int) (r : List zao) (n : Int) (s_ : Int × Int × List zaa × List (Int × Int) × List ((Int × Int) × Int) × Int × List zab × List Int × List zac) (z_ : (Int × Int × List zaa × List (Int × Int) × List ((Int × Int) × Int) × Int × List zab × List Int × List zac) ⊕ (Int × List zaa × List (Int × Int) × List ((Int × Int) × Int) × Int × List zab × List Int × List zac)) (h : za8 N self more share r n s_ = some z_) : zbQ Tryz.prog cfg 4 0 (zbe Tryz.prog 4 0) (zeq self more share r n) (zdm self more share r n) s_ z_ := by
 rcases s_ with ⟨n2, n3, r2, m, m2, n4, r3, l, r4⟩
 rcases zaj h with ⟨h1, h⟩ | ⟨h1, h⟩
 ·obtain ⟨h2, h⟩ := zar h
  obtain ⟨⟨n5, n6, n7, n8, l_⟩, h3, h⟩ := zae h
  obtain ⟨⟨n9, r5, m_, m_2, n10, r6, l_2, r7⟩, h4, h⟩ := zae h
  have h := zaf h
  subst h
  have t_ := tT h1 <| tO h2 <| tE (.el [(.int .u8 n5), (.int .i64 n6), (.int .i64 n7), (.int .u64 n8), (.ints .u8 l_ false)]) <| tO (zdi (f := zao.pv) h3) <| tL (ziy N self more share r n n2 (decide ((n2 : Int) < 15)) n3 r2 m m2 n4 r3 l r4 n5 n6 n7 n8 l_ _ h4) <| tN
  exact ⟨t_.ev, zeq self more share r n ((iadd .i64 n2 1), n9, r5, m_, m_2, n10, r6, l_2, r7), .k0 t_.pf (by kernel_rfl), .same (by kernel_rfl)⟩
 ·have h := zaf h
  subst h
  have t_ := tF h1 <| tN
  exact ⟨t_.ev, ⟨[(35, (.av (.one (.pv (.bool false))))), (0, (.av (.one (.pv (.int .i64 self))))), (2, (.av (.one (.pv (.recs 5 (List.map zao.pv more) false))))), (3, (.av (.one (.pv (.ints .u8 share false))))), (9, (.av (.one (.ref 0 0)))), (10, (.av (.one (.ref 3 0)))), (32, (.av (.one (.pv (.recs 5 (List.map zao.pv r) false))))), (33, (.av (.one (.pv (.int .i64 n))))), (34, (.av (.one (.pv (.int .i64 n2))))), (35, (.av (.one (.pv (.bool (decide ((n2 : Int) < n)))))))], [(0, [(.pv (.int .i64 3)), (.pv (.int .u64 n3)), (.pv (.recs 5 (List.map zaa.pv r2) false)), (.mp 1), (.mp 2)]), (1, [(.maph (.int .i64) false (List.map M_int_int.pv m) [])]), (2, [(.maph (.st [.i64, .u64]) false (List.map M_deed_Mark_int.pv m2) [])]), (3, [(.pv (.int .i64 3)), (.pv (.int .u64 n4)), (.pv (.recs 4 (List.map zab.pv r3) false)), (.pv (.ints .i64 l false)), (.pv (.recs 2 (List.map zac.pv r4) false))])], []⟩, .k0 t_.pf (by kernel_rfl), ⟨⟨⟨_, rfl, .eq rfl⟩, ⟨_, rfl, .eq rfl⟩, ⟨_, rfl, .eq rfl⟩, ⟨_, rfl, .eq rfl⟩, ⟨_, rfl, .eq rfl⟩, trivial⟩, ⟨⟨rfl, ⟨.eq rfl, .eq rfl, .eq rfl, .eq rfl, .eq rfl, trivial⟩⟩, ⟨rfl, ⟨.eq rfl, trivial⟩⟩, ⟨rfl, ⟨.eq rfl, trivial⟩⟩, ⟨rfl, ⟨.eq rfl, .eq rfl, .eq rfl, .eq rfl, .eq rfl, trivial⟩⟩, trivial⟩, trivial⟩⟩
theorem zh1 (N : Nat) (self : Int) (more : List zao) (share : List Int) (r : List zao) (n : Int) (s_ : Int × Int × List zaa × List (Int × Int) × List ((Int × Int) × Int) × Int × List zab × List Int × List zac) (r_ : Int × List zaa × List (Int × Int) × List ((Int × Int) × Int) × Int × List zab × List Int × List zac) (h : runL (za8 N self more share r n) s_ = some r_) : zbK Tryz.prog (lEnv Tryz.prog cfg 4 0).nt 0 (.loop (zbe Tryz.prog 4 0)) (zeq self more share r n s_) (zdm self more share r n r_).1 (zdm self more share r n r_).2 :=
 zbA h (zi9 N self more share r n) (by intro r_; rcases r_ with ⟨r1, r2, r3, r4, r5, r6, r7, r8⟩ <;> simp [zdm])
def zju (n n2 : Int) (r : List zaa) (m : List (Int × Int)) (m2 : List ((Int × Int) × Int)) : Unit → Res
 | _ => ([(.one (.ref 3 0))], [[(.pv (.int .i64 n)), (.pv (.int .u64 n2)), (.pv (.recs 5 (List.map zaa.pv r) false)), (.mp 1), (.mp 2)], [(.maph (.int .i64) false (List.map M_int_int.pv m) [])], [(.maph (.st [.i64, .u64]) false (List.map M_deed_Mark_int.pv m2) [])], [(.pv (.int .i64 n)), (.pv (.int .u64 n2)), (.own 0 0 ((List.map zaa.pv r)).length false), (.mp 4), (.mp 5)], [(.maph (.int .i64) false (List.map M_int_int.pv m) [])], [(.maph (.st [.i64, .u64]) false (List.map M_deed_Mark_int.pv m2) [])]], [(.recs 5 (List.map zaa.pv r))])
noncomputable def zd1 (n n2 : Int) (r : List zaa) (m : List (Int × Int)) (m2 : List ((Int × Int) × Int)) : Option (Unit) :=
 (za4 n n2 r m m2).bind fun _ =>
 (ziI m).bind fun _ =>
 (ziJ m2).bind fun _ =>
 some ()
theorem zfL (n n2 : Int) (r : List zaa) (m : List (Int × Int)) (m2 : List ((Int × Int) × Int)) (r_ : Unit) (h : zd1 n n2 r m m2 = some r_) : Runs Tryz.prog 11 [(.one (.ref 0 0))] [[(.pv (.int .i64 n)), (.pv (.int .u64 n2)), (.pv (.recs 5 (List.map zaa.pv r) false)), (.mp 1), (.mp 2)], [(.maph (.int .i64) false (List.map M_int_int.pv m) [])], [(.maph (.st [.i64, .u64]) false (List.map M_deed_Mark_int.pv m2) [])]] [] (zju n n2 r m m2 r_) := by
 unfold zd1 at h
 obtain ⟨_, h1, h⟩ := zae h
 obtain ⟨_, h2, h⟩ := zae h
 obtain ⟨_, h3, h⟩ := zae h
 have h := zaf h
 subst h
 have t_ := tF (rfl : false = false) <| tR (zam n n2 r m m2 _ h1) <| tR (zam n n2 r m m2 _ h1) <| tR (zam n n2 r m m2 _ h1) <| tR (zam n n2 r m m2 _ h1) <| tR (zam n n2 r m m2 _ h1) <| tR (zam n n2 r m m2 _ h1) <| tR (zbI m _ h2) <| tR (zam n n2 r m m2 _ h1) <| tR (zam n n2 r m m2 _ h1) <| tR (zam n n2 r m m2 _ h1) <| tR (zam n n2 r m m2 _ h1) <| tR (zam n n2 r m m2 _ h1) <| tR (zam n n2 r m m2 _ h1) <| tR (zam n n2 r m m2 _ h1) <| tR (zbI m _ h2) <| tR (zbI m _ h2) <| tR (zbI m _ h2) <| tR (zam n n2 r m m2 _ h1) <| tR (zam n n2 r m m2 _ h1) <| tR (zbI m _ h2) <| tR (zdn m2 _ h3) <| tR (zbI m _ h2) <| tR (zbI m _ h2) <| tR (zam n n2 r m m2 _ h1) <| tR (zdn m2 _ h3) <| tR (zdn m2 _ h3) <| tR (zbI m _ h2) <| tR (zdn m2 _ h3) <| tN
 exact zag (C := cfg) (sc := t_.ev) (.k1 t_.pf (by kernel_rfl) (by kernel_rfl))
def zou (n n2 : Int) (r : List zab) (l : List Int) (r2 : List zac) : Unit → Res
 | _ => ([(.one (.ref 1 0))], [[(.pv (.int .i64 n)), (.pv (.int .u64 n2)), (.pv (.recs 4 (List.map zab.pv r) false)), (.pv (.ints .i64 l false)), (.pv (.recs 2 (List.map zac.pv r2) false))], [(.pv (.int .i64 n)), (.pv (.int .u64 n2)), (.pv (.recs 4 (List.map zab.pv r) false)), (.pv (.ints .i64 l false)), (.pv (.recs 2 (List.map zac.pv r2) false))]], [])
noncomputable def zkh (n n2 : Int) (r : List zab) (l : List Int) (r2 : List zac) : Option (Unit) :=
 some ()
theorem zji (n n2 : Int) (r : List zab) (l : List Int) (r2 : List zac) (r_ : Unit) (h : zkh n n2 r l r2 = some r_) : Runs Tryz.prog 12 [(.one (.ref 0 0))] [[(.pv (.int .i64 n)), (.pv (.int .u64 n2)), (.pv (.recs 4 (List.map zab.pv r) false)), (.pv (.ints .i64 l false)), (.pv (.recs 2 (List.map zac.pv r2) false))]] [] (zou n n2 r l r2 r_) := by
 unfold zkh at h
 have h := zaf h
 subst h
 have t_ := tN
 exact zag (C := cfg) (sc := t_.ev) (.k0 t_.pf (by kernel_rfl))
def zol (a a2 a3 a4 : Int) (a5 : List Int) (n n2 : Int) (m : List (Int × Int)) (m2 : List ((Int × Int) × Int)) (n3 n4 : Int) (r : List zab) (l : List Int) (r2 : List zac) (r3 : List zaa) : Bool × Int × List zaa × List (Int × Int) × List ((Int × Int) × Int) × Int × List zab × List Int × List zac → Res
 | (r1, r4, r5, r6, r7, r8, r9, r10, r11) => ([(.one (.pv (.bool r1)))], [[(.pv (.int .i64 n)), (.pv (.int .u64 r4)), (.pv (.recs 5 (List.map zaa.pv r5) false)), (.mp 1), (.mp 2)], [(.maph (.int .i64) false (List.map M_int_int.pv r6) [])], [(.maph (.st [.i64, .u64]) false (List.map M_deed_Mark_int.pv r7) [])], [(.pv (.int .i64 n3)), (.pv (.int .u64 r8)), (.pv (.recs 4 (List.map zab.pv r9) false)), (.pv (.ints .i64 r10 false)), (.pv (.recs 2 (List.map zac.pv r11) false))]], [])
def zia (no n n2 : Int) (m : List (Int × Int)) (m2 : List ((Int × Int) × Int)) (r : List zaa) : Int × List zaa → Res
 | (r1, r2) => ([(.one (.pv (.int .i64 r1)))], [[(.pv (.int .i64 n)), (.pv (.int .u64 n2)), (.pv (.recs 5 (List.map zaa.pv r2) false)), (.mp 1), (.mp 2)], [(.maph (.int .i64) false (List.map M_int_int.pv m) [])], [(.maph (.st [.i64, .u64]) false (List.map M_deed_Mark_int.pv m2) [])]], [])
def zgU (n n2 : Int) (m : List (Int × Int)) (m2 : List ((Int × Int) × Int)) (r : List zaa) : List zaa × List zaa → Res
 | (r1, r2) => ([(.one (.own 0 0 ((List.map zaa.pv r2)).length false))], [[(.pv (.int .i64 n)), (.pv (.int .u64 n2)), (.pv (.recs 5 (List.map zaa.pv r1) false)), (.mp 1), (.mp 2)], [(.maph (.int .i64) false (List.map M_int_int.pv m) [])], [(.maph (.st [.i64, .u64]) false (List.map M_deed_Mark_int.pv m2) [])]], [(.recs 5 (List.map zaa.pv r2))])
noncomputable def zbS (n n2 : Int) (m : List (Int × Int)) (m2 : List ((Int × Int) × Int)) (r : List zaa) : Option (List zaa × List zaa) :=
 (zbr (List.take ((List.map zaa.pv r)).length r)).bind fun _ =>
 some ((List.take ((List.map zaa.pv r)).length r), (List.take ((List.map zaa.pv r)).length r))
theorem zbW (n n2 : Int) (m : List (Int × Int)) (m2 : List ((Int × Int) × Int)) (r : List zaa) (r_ : List zaa × List zaa) (h : zbS n n2 m m2 r = some r_) : Runs Tryz.prog 25 [(.one (.ref 0 0))] [[(.pv (.int .i64 n)), (.pv (.int .u64 n2)), (.own 0 0 ((List.map zaa.pv r)).length false), (.mp 1), (.mp 2)], [(.maph (.int .i64) false (List.map M_int_int.pv m) [])], [(.maph (.st [.i64, .u64]) false (List.map M_deed_Mark_int.pv m2) [])]] [(.recs 5 (List.map zaa.pv r))] (zgU n n2 m m2 r r_) := by
 unfold zbS at h
 obtain ⟨_, h1, h⟩ := zae h
 have h := zaf h
 subst h
 have t_ := tF (rfl : false = false) <| tR (Runs.coe (as' := [(.one (.pv (.recs 5 (List.take ((List.map zaa.pv r)).length (List.map zaa.pv r)) false)))]) (objs' := []) (rows' := []) (zcT (List.take ((List.map zaa.pv r)).length r) _ h1) ⟨.pv (.recsT (.eq (by first | rfl | (simp only [List.take_length]; done) | (simp; done) | (simp only [List.map_take, List.map_drop, List.map_append, List.take_length, List.nil_append]; done) | (simp only [List.length_map, List.take_length, List.length_append, List.drop_zero, List.map_append, List.map_take, List.map_drop, List.map_replicate, List.map_cons, List.map_nil, List.append_nil, List.nil_append]; done)))), trivial⟩ trivial trivial) <| tN
 exact Runs.out (zag (C := cfg) (res := ([(.one (.own 0 0 ((List.map zaa.pv (List.take ((List.map zaa.pv r)).length r))).length false))], [[(.pv (.int .i64 n)), (.pv (.int .u64 n2)), (.pv (.recs 5 (List.take ((List.map zaa.pv r)).length (List.map zaa.pv r)) false)), (.mp 1), (.mp 2)], [(.maph (.int .i64) false (List.map M_int_int.pv m) [])], [(.maph (.st [.i64, .u64]) false (List.map M_deed_Mark_int.pv m2) [])]], [(.recs 5 (List.map zaa.pv (List.take ((List.map zaa.pv r)).length r)))])) (sc := t_.ev) (.k0 t_.pf (by kernel_rfl))) ⟨.eq rfl, trivial⟩ ⟨⟨.eq rfl, .eq rfl, .pv (.recsT (.eq (by first | rfl | (simp only [List.take_length]; done) | (simp; done) | (simp only [List.map_take, List.map_drop, List.map_append, List.take_length, List.nil_append]; done) | (simp only [List.length_map, List.take_length, List.length_append, List.drop_zero, List.map_append, List.map_take, List.map_drop, List.map_replicate, List.map_cons, List.map_nil, List.append_nil, List.nil_append]; done)))), .eq rfl, .eq rfl, trivial⟩, ⟨.eq rfl, trivial⟩, ⟨.eq rfl, trivial⟩, trivial⟩ ⟨.eq rfl, trivial⟩ rfl
noncomputable def zdr (no n n2 : Int) (m : List (Int × Int)) (m2 : List ((Int × Int) × Int)) (r : List zaa) : Option (Int × List zaa) :=
 (zbS n n2 m m2 r).bind fun (r2, r3) =>
 (zbj (List.take ((List.map zaa.pv r3)).length r3) no).bind fun n3 =>
 bif (decide ((n3 : Int) < 0)) then
  some (2, r2)
 else
  (za4 n n2 r2 m m2).bind fun _ =>
  (zb8 n3 (iadd .i64 n3 1) r2).bind fun (k, r4) =>
  some (0, (List.take k r4))
theorem ze4 (no n n2 : Int) (m : List (Int × Int)) (m2 : List ((Int × Int) × Int)) (r : List zaa) (r_ : Int × List zaa) (h : zdr no n n2 m m2 r = some r_) : Runs Tryz.prog 18 [(.one (.ref 0 0)), (.one (.pv (.int .u64 no)))] [[(.pv (.int .i64 n)), (.pv (.int .u64 n2)), (.own 0 0 ((List.map zaa.pv r)).length false), (.mp 1), (.mp 2)], [(.maph (.int .i64) false (List.map M_int_int.pv m) [])], [(.maph (.st [.i64, .u64]) false (List.map M_deed_Mark_int.pv m2) [])]] [(.recs 5 (List.map zaa.pv r))] (zia no n n2 m m2 r r_) := by
 unfold zdr at h
 obtain ⟨⟨r2, r3⟩, h1, h⟩ := zae h
 obtain ⟨n3, h2, h⟩ := zae h
 have q_2 := (Runs.coe (as' := [(.one (.bor (.recs 5 (List.take ((List.map zaa.pv r3)).length (List.map zaa.pv r3)) false))), (.one (.fn 44 [(.ref 0 0)]))]) (objs' := [[(.pv (.int .u64 no))]]) (rows' := []) (zcn (List.take ((List.map zaa.pv r3)).length r3) no _ h2) ⟨.bor (.recsT (.eq (by first | rfl | (simp only [List.take_length]; done) | (simp; done) | (simp only [List.map_take, List.map_drop, List.map_append, List.take_length, List.nil_append]; done) | (simp only [List.length_map, List.take_length, List.length_append, List.drop_zero, List.map_append, List.map_take, List.map_drop, List.map_replicate, List.map_cons, List.map_nil, List.append_nil, List.nil_append]; done)))), .eq rfl, trivial⟩ ⟨⟨.eq rfl, trivial⟩, trivial⟩ trivial)
 rcases zaj h with ⟨h3, h⟩ | ⟨h3, h⟩
 ·have h := zaf h
  subst h
  have t_ := tR (zbW n n2 m m2 r _ h1) <| tR q_2 <| tT h3 <| tN
  exact zag (C := cfg) (sc := t_.ev) (.k0 t_.pf (by kernel_rfl))
 ·obtain ⟨_, h4, h⟩ := zae h
  obtain ⟨⟨k, r4⟩, h5, h⟩ := zae h
  have h := zaf h
  subst h
  have t_ := tR (zbW n n2 m m2 r _ h1) <| tR q_2 <| tF h3 <| tR (zam n n2 r2 m m2 _ h4) <| tR (zdX n3 (iadd .i64 n3 1) r2 _ h5) <| tN
  exact Runs.out (Runs.shut (zag (C := cfg) (res := ([(.one (.pv (.int .i64 0)))], [[(.pv (.int .i64 n)), (.pv (.int .u64 n2)), (.own 0 0 k false), (.mp 1), (.mp 2)], [(.maph (.int .i64) false (List.map M_int_int.pv m) [])], [(.maph (.st [.i64, .u64]) false (List.map M_deed_Mark_int.pv m2) [])]], [(.recs 5 (List.map zaa.pv r4))])) (sc := t_.ev) (.k0 t_.pf (by kernel_rfl))) (res' := ([(.one (.pv (.int .i64 0)))], [[(.pv (.int .i64 n)), (.pv (.int .u64 n2)), (.pv (.recs 5 (List.take k (List.map zaa.pv r4)) false)), (.mp 1), (.mp 2)], [(.maph (.int .i64) false (List.map M_int_int.pv m) [])], [(.maph (.st [.i64, .u64]) false (List.map M_deed_Mark_int.pv m2) [])]], [])) [0] (by kernel_rfl)) ⟨.eq rfl, trivial⟩ ⟨⟨.eq rfl, .eq rfl, .pv (.recsT (.eq (by first | rfl | (simp only [List.take_length]; done) | (simp; done) | (simp only [List.map_take, List.map_drop, List.map_append, List.take_length, List.nil_append]; done) | (simp only [List.length_map, List.take_length, List.length_append, List.drop_zero, List.map_append, List.map_take, List.map_drop, List.map_replicate, List.map_cons, List.map_nil, List.append_nil, List.nil_append]; done)))), .eq rfl, .eq rfl, trivial⟩, ⟨.eq rfl, trivial⟩, ⟨.eq rfl, trivial⟩, trivial⟩ trivial rfl
def zin (g g2 g3 : Int) (g4 : Bool) (g5 : zad) (n n2 : Int) (m : List (Int × Int)) (m2 : List ((Int × Int) × Int)) (r : List zaa) : Int × List ((Int × Int) × Int) → Res
 | (r1, r2) => ([(.one (.pv (.int .i64 r1)))], [[(.pv (.int .i64 n)), (.pv (.int .u64 n2)), (.own 0 0 ((List.map zaa.pv r)).length false), (.mp 1), (.mp 2)], [(.maph (.int .i64) false (List.map M_int_int.pv m) [])], [(.maph (.st [.i64, .u64]) false (List.map M_deed_Mark_int.pv r2) [])]], [(.recs 5 (List.map zaa.pv r))])
def zis (m m2 n n2 : Int) (m3 : List (Int × Int)) (m4 : List ((Int × Int) × Int)) (r : List zaa) : Bool → Res
 | r1 => ([(.one (.pv (.bool r1)))], [[(.pv (.int .i64 n)), (.pv (.int .u64 n2)), (.own 0 0 ((List.map zaa.pv r)).length false), (.mp 1), (.mp 2)], [(.maph (.int .i64) false (List.map M_int_int.pv m3) [])], [(.maph (.st [.i64, .u64]) false (List.map M_deed_Mark_int.pv m4) [])]], [(.recs 5 (List.map zaa.pv r))])
noncomputable def ze7 (m m2 n n2 : Int) (m3 : List (Int × Int)) (m4 : List ((Int × Int) × Int)) (r : List zaa) : Option (Bool) :=
 match (mget (m, m2) m4) with
 | .some n3 =>
  some (decide ((0 : Int) < n3))
 | .none =>
  some false
theorem zdT (m m2 n n2 : Int) (m3 : List (Int × Int)) (m4 : List ((Int × Int) × Int)) (r : List zaa) (r_ : Bool) (h : ze7 m m2 n n2 m3 m4 r = some r_) : Runs Tryz.prog 21 [(.one (.ref 0 0)), (.agg [(.pv (.int .i64 m)), (.pv (.int .u64 m2))])] [[(.pv (.int .i64 n)), (.pv (.int .u64 n2)), (.own 0 0 ((List.map zaa.pv r)).length false), (.mp 1), (.mp 2)], [(.maph (.int .i64) false (List.map M_int_int.pv m3) [])], [(.maph (.st [.i64, .u64]) false (List.map M_deed_Mark_int.pv m4) [])]] [(.recs 5 (List.map zaa.pv r))] (zis m m2 n n2 m3 m4 r r_) := by
 unfold ze7 at h
 cases h1 : (mget (m, m2) m4) with
 | some n3 =>
  simp only [h1] at h
  have h := zaf h
  subst h
  have t_ := tT (rfl : true = true) <| tT (show kget [(.int .i64 m), (.int .u64 m2)] (List.map M_deed_Mark_int.pv m4) = some [(.int .i64 n3)] from by first | (simp only [M_deed_Mark_int.set, M_int_int.set, M_deed_Mark_int.get, M_int_int.get, h1, Option.map_some, Option.map_none]; done) | (simp only [M_deed_Mark_int.set, M_int_int.set, M_deed_Mark_int.get, M_int_int.get, h1, Option.map_some, Option.map_none]; rfl) | (rw [← List.map_nil]; simp only [M_deed_Mark_int.set, M_int_int.set, M_deed_Mark_int.get, M_int_int.get, h1, Option.map_some, Option.map_none]; rfl)) <| tE (.el [(.int .i64 n3)]) <| tN
  exact zag (C := cfg) (sc := t_.ev) (.k1 t_.pf (by kernel_rfl) (by kernel_rfl))
 | none =>
  simp only [h1] at h
  have h := zaf h
  subst h
  have t_ := tT (rfl : true = true) <| tF (show kget [(.int .i64 m), (.int .u64 m2)] (List.map M_deed_Mark_int.pv m4) = none from by first | (simp only [M_deed_Mark_int.set, M_int_int.set, M_deed_Mark_int.get, M_int_int.get, h1, Option.map_some, Option.map_none]; done) | (simp only [M_deed_Mark_int.set, M_int_int.set, M_deed_Mark_int.get, M_int_int.get, h1, Option.map_some, Option.map_none]; rfl) | (rw [← List.map_nil]; simp only [M_deed_Mark_int.set, M_int_int.set, M_deed_Mark_int.get, M_int_int.get, h1, Option.map_some, Option.map_none]; rfl)) <| tN
  exact zag (C := cfg) (sc := t_.ev) (.k1 t_.pf (by kernel_rfl) (by kernel_rfl))
noncomputable def zdv (g g2 g3 : Int) (g4 : Bool) (g5 : zad) (n n2 : Int) (m : List (Int × Int)) (m2 : List ((Int × Int) × Int)) (r : List zaa) : Option (Int × List ((Int × Int) × Int)) :=
 (zbC g g2 g3 g4 g5).bind fun b =>
 bif b then
  bif (decide ((g3 : Int) = n)) then
   (ze7 g2 g n n2 m m2 r).bind fun b2 =>
   bif b2 then
    some (14, m2)
   else
    match (mget (g2, g) m2) with
    | .some n3 =>
     some (0, (mset (g2, g) (iadd .i64 n3 1) (mset (g2, g) n3 m2)))
    | .none =>
     some (0, (mset (g2, g) 1 (mset (g2, g) 0 m2)))
  else
   some (1, m2)
 else
  some (1, m2)
theorem zay (g g2 g3 : Int) (g4 : Bool) (g5 : zad) (n n2 : Int) (m : List (Int × Int)) (m2 : List ((Int × Int) × Int)) (r : List zaa) (r_ : Int × List ((Int × Int) × Int)) (h : zdv g g2 g3 g4 g5 n n2 m m2 r = some r_) : Runs Tryz.prog 19 [(.one (.ref 0 0)), (.agg [(.pv (.int .u64 g)), (.pv (.int .i64 g2)), (.pv (.int .i64 g3)), (.pv (.bool g4)), (.pv (zad.pv g5))])] [[(.pv (.int .i64 n)), (.pv (.int .u64 n2)), (.own 0 0 ((List.map zaa.pv r)).length false), (.mp 1), (.mp 2)], [(.maph (.int .i64) false (List.map M_int_int.pv m) [])], [(.maph (.st [.i64, .u64]) false (List.map M_deed_Mark_int.pv m2) [])]] [(.recs 5 (List.map zaa.pv r))] (zin g g2 g3 g4 g5 n n2 m m2 r r_) := by
 unfold zdv at h
 obtain ⟨b, h1, h⟩ := zae h
 rcases zaj h with ⟨h2, h⟩ | ⟨h2, h⟩
 ·rcases zaj h with ⟨h3, h⟩ | ⟨h3, h⟩
  ·obtain ⟨b2, h4, h⟩ := zae h
   rcases zaj h with ⟨h5, h⟩ | ⟨h5, h⟩
   ·have h := zaf h
    subst h
    have t_ := tF (rfl : false = false) <| tR (zaW g g2 g3 g4 g5 _ h1) <| tF (zaz h2) <| tF (zaz h3) <| tR (zdT g2 g n n2 m m2 r _ h4) <| tT h5 <| tN
    exact zag (C := cfg) (sc := t_.ev) (.k1 t_.pf (by kernel_rfl) (by kernel_rfl))
   ·cases h6 : (mget (g2, g) m2) with
    | some n3 =>
     simp only [h6] at h
     have h := zaf h
     subst h
     have t_ := tF (rfl : false = false) <| tR (zaW g g2 g3 g4 g5 _ h1) <| tF (zaz h2) <| tF (zaz h3) <| tR (zdT g2 g n n2 m m2 r _ h4) <| tF h5 <| tT (show kget [(.int .i64 g2), (.int .u64 g)] (List.map M_deed_Mark_int.pv m2) = some [(.int .i64 n3)] from by first | (simp only [M_deed_Mark_int.set, M_int_int.set, M_deed_Mark_int.get, M_int_int.get, h6, Option.map_some, Option.map_none]; done) | (simp only [M_deed_Mark_int.set, M_int_int.set, M_deed_Mark_int.get, M_int_int.get, h6, Option.map_some, Option.map_none]; rfl) | (rw [← List.map_nil]; simp only [M_deed_Mark_int.set, M_int_int.set, M_deed_Mark_int.get, M_int_int.get, h6, Option.map_some, Option.map_none]; rfl)) <| tE (.el [(.int .i64 n3)]) <| tT (show kget [(.int .i64 g2), (.int .u64 g)] (List.map M_deed_Mark_int.pv m2) = some [(.int .i64 n3)] from by first | (simp only [M_deed_Mark_int.set, M_int_int.set, M_deed_Mark_int.get, M_int_int.get, h6, Option.map_some, Option.map_none]; done) | (simp only [M_deed_Mark_int.set, M_int_int.set, M_deed_Mark_int.get, M_int_int.get, h6, Option.map_some, Option.map_none]; rfl) | (rw [← List.map_nil]; simp only [M_deed_Mark_int.set, M_int_int.set, M_deed_Mark_int.get, M_int_int.get, h6, Option.map_some, Option.map_none]; rfl)) <| tE (.el [(.int .i64 n3)]) <| tT (show kget [(.int .i64 g2), (.int .u64 g)] (List.map M_deed_Mark_int.pv m2) = some [(.int .i64 n3)] from by first | (simp only [M_deed_Mark_int.set, M_int_int.set, M_deed_Mark_int.get, M_int_int.get, h6, Option.map_some, Option.map_none]; done) | (simp only [M_deed_Mark_int.set, M_int_int.set, M_deed_Mark_int.get, M_int_int.get, h6, Option.map_some, Option.map_none]; rfl) | (rw [← List.map_nil]; simp only [M_deed_Mark_int.set, M_int_int.set, M_deed_Mark_int.get, M_int_int.get, h6, Option.map_some, Option.map_none]; rfl)) <| tE (.el [(.int .i64 n3)]) <| tT (show kget [(.int .i64 g2), (.int .u64 g)] (kset [(.int .i64 g2), (.int .u64 g)] [(.int .i64 n3)] (List.map M_deed_Mark_int.pv m2)) = some [(.int .i64 n3)] from by exact zix (by simp [keq]) _ _) <| tE (.el [(.int .i64 n3)]) <| tN
     exact Runs.out (zag (C := cfg) (res := ([(.one (.pv (.int .i64 0)))], [[(.pv (.int .i64 n)), (.pv (.int .u64 n2)), (.own 0 0 ((List.map zaa.pv r)).length false), (.mp 1), (.mp 2)], [(.maph (.int .i64) false (List.map M_int_int.pv m) [])], [(.maph (.st [.i64, .u64]) false (kset [(.int .i64 g2), (.int .u64 g)] [(.int .i64 (iadd .i64 n3 1))] (kset [(.int .i64 g2), (.int .u64 g)] [(.int .i64 n3)] (List.map M_deed_Mark_int.pv m2))) [])]], [(.recs 5 (List.map zaa.pv r))])) (sc := t_.ev) (.k1 t_.pf (by kernel_rfl) (by kernel_rfl))) ⟨.eq rfl, trivial⟩ ⟨⟨.eq rfl, .eq rfl, .eq rfl, .eq rfl, .eq rfl, trivial⟩, ⟨.eq rfl, trivial⟩, ⟨.maph (WkEs.to (WkEs.set (.cons (.eq rfl) (.nil)) (WkEs.set (.cons (.eq rfl) (.nil)) (WkEs.refl _))) (by first | rfl | (simp only [M_deed_Mark_int.set, M_int_int.set]; done) | (simp only [M_deed_Mark_int.set, M_int_int.set, kset, kdel]; rfl))), trivial⟩, trivial⟩ ⟨.eq rfl, trivial⟩ rfl
    | none =>
     simp only [h6] at h
     have h := zaf h
     subst h
     have t_ := tF (rfl : false = false) <| tR (zaW g g2 g3 g4 g5 _ h1) <| tF (zaz h2) <| tF (zaz h3) <| tR (zdT g2 g n n2 m m2 r _ h4) <| tF h5 <| tF (show kget [(.int .i64 g2), (.int .u64 g)] (List.map M_deed_Mark_int.pv m2) = none from by first | (simp only [M_deed_Mark_int.set, M_int_int.set, M_deed_Mark_int.get, M_int_int.get, h6, Option.map_some, Option.map_none]; done) | (simp only [M_deed_Mark_int.set, M_int_int.set, M_deed_Mark_int.get, M_int_int.get, h6, Option.map_some, Option.map_none]; rfl) | (rw [← List.map_nil]; simp only [M_deed_Mark_int.set, M_int_int.set, M_deed_Mark_int.get, M_int_int.get, h6, Option.map_some, Option.map_none]; rfl)) <| tF (show kget [(.int .i64 g2), (.int .u64 g)] (List.map M_deed_Mark_int.pv m2) = none from by first | (simp only [M_deed_Mark_int.set, M_int_int.set, M_deed_Mark_int.get, M_int_int.get, h6, Option.map_some, Option.map_none]; done) | (simp only [M_deed_Mark_int.set, M_int_int.set, M_deed_Mark_int.get, M_int_int.get, h6, Option.map_some, Option.map_none]; rfl) | (rw [← List.map_nil]; simp only [M_deed_Mark_int.set, M_int_int.set, M_deed_Mark_int.get, M_int_int.get, h6, Option.map_some, Option.map_none]; rfl)) <| tF (show kget [(.int .i64 g2), (.int .u64 g)] (List.map M_deed_Mark_int.pv m2) = none from by first | (simp only [M_deed_Mark_int.set, M_int_int.set, M_deed_Mark_int.get, M_int_int.get, h6, Option.map_some, Option.map_none]; done) | (simp only [M_deed_Mark_int.set, M_int_int.set, M_deed_Mark_int.get, M_int_int.get, h6, Option.map_some, Option.map_none]; rfl) | (rw [← List.map_nil]; simp only [M_deed_Mark_int.set, M_int_int.set, M_deed_Mark_int.get, M_int_int.get, h6, Option.map_some, Option.map_none]; rfl)) <| tT (show kget [(.int .i64 g2), (.int .u64 g)] (kset [(.int .i64 g2), (.int .u64 g)] [(.int .i64 0)] (List.map M_deed_Mark_int.pv m2)) = some [(.int .i64 0)] from by exact zix (by simp [keq]) _ _) <| tE (.el [(.int .i64 0)]) <| tN
     exact Runs.out (zag (C := cfg) (res := ([(.one (.pv (.int .i64 0)))], [[(.pv (.int .i64 n)), (.pv (.int .u64 n2)), (.own 0 0 ((List.map zaa.pv r)).length false), (.mp 1), (.mp 2)], [(.maph (.int .i64) false (List.map M_int_int.pv m) [])], [(.maph (.st [.i64, .u64]) false (kset [(.int .i64 g2), (.int .u64 g)] [(.int .i64 1)] (kset [(.int .i64 g2), (.int .u64 g)] [(.int .i64 0)] (List.map M_deed_Mark_int.pv m2))) [])]], [(.recs 5 (List.map zaa.pv r))])) (sc := t_.ev) (.k1 t_.pf (by kernel_rfl) (by kernel_rfl))) ⟨.eq rfl, trivial⟩ ⟨⟨.eq rfl, .eq rfl, .eq rfl, .eq rfl, .eq rfl, trivial⟩, ⟨.eq rfl, trivial⟩, ⟨.maph (WkEs.to (WkEs.set (.cons (.eq rfl) (.nil)) (WkEs.set (.cons (.eq rfl) (.nil)) (WkEs.refl _))) (by first | rfl | (simp only [M_deed_Mark_int.set, M_int_int.set]; done) | (simp only [M_deed_Mark_int.set, M_int_int.set, kset, kdel]; rfl))), trivial⟩, trivial⟩ ⟨.eq rfl, trivial⟩ rfl
  ·have h := zaf h
   subst h
   have t_ := tF (rfl : false = false) <| tR (zaW g g2 g3 g4 g5 _ h1) <| tF (zaz h2) <| tT (zbc h3) <| tN
   exact zag (C := cfg) (sc := t_.ev) (.k1 t_.pf (by kernel_rfl) (by kernel_rfl))
 ·have h := zaf h
  subst h
  have t_ := tF (rfl : false = false) <| tR (zaW g g2 g3 g4 g5 _ h1) <| tT (zbc h2) <| tT (rfl : true = true) <| tN
  exact zag (C := cfg) (sc := t_.ev) (.k1 t_.pf (by kernel_rfl) (by kernel_rfl))
def zie (to : Int) (share : Bool) (share2 : zad) (n n2 : Int) (m : List (Int × Int)) (m2 : List ((Int × Int) × Int)) (r : List zaa) : Int × Int × Int × Bool × zad × Int × Int × List zaa × List (Int × Int) → Res
 | (r1, r2, r3, r4, r5, r6, r7, r8, r9) => ([(.agg [(.pv (.int .u64 r1)), (.pv (.int .i64 r2)), (.pv (.int .i64 r3)), (.pv (.bool r4)), (.pv (zad.pv r5))]), (.one (.pv (.int .i64 r6)))], [[(.pv (.int .i64 n)), (.pv (.int .u64 r7)), (.pv (.recs 5 (List.map zaa.pv r8) false)), (.mp 1), (.mp 2)], [(.maph (.int .i64) false (List.map M_int_int.pv r9) [])], [(.maph (.st [.i64, .u64]) false (List.map M_deed_Mark_int.pv m2) [])]], [])
def zih (n n2 : Int) (m : List (Int × Int)) (m2 : List ((Int × Int) × Int)) (r : List zaa) : Unit → Res
 | _ => ([(.one (.pv (.int .u64 n2)))], [[(.pv (.int .i64 n)), (.pv (.int .u64 n2)), (.own 0 0 ((List.map zaa.pv r)).length false), (.mp 1), (.mp 2)], [(.maph (.int .i64) false (List.map M_int_int.pv m) [])], [(.maph (.st [.i64, .u64]) false (List.map M_deed_Mark_int.pv m2) [])]], [(.recs 5 (List.map zaa.pv r))])
noncomputable def zef (n n2 : Int) (m : List (Int × Int)) (m2 : List ((Int × Int) × Int)) (r : List zaa) : Option (Unit) :=
 some ()
theorem zcX (n n2 : Int) (m : List (Int × Int)) (m2 : List ((Int × Int) × Int)) (r : List zaa) (r_ : Unit) (h : zef n n2 m m2 r = some r_) : Runs Tryz.prog 23 [(.one (.ref 0 0))] [[(.pv (.int .i64 n)), (.pv (.int .u64 n2)), (.own 0 0 ((List.map zaa.pv r)).length false), (.mp 1), (.mp 2)], [(.maph (.int .i64) false (List.map M_int_int.pv m) [])], [(.maph (.st [.i64, .u64]) false (List.map M_deed_Mark_int.pv m2) [])]] [(.recs 5 (List.map zaa.pv r))] (zih n n2 m m2 r r_) := by
 unfold zef at h
 have h := zaf h
 subst h
 have t_ := tF (rfl : false = false) <| tN
 exact zag (C := cfg) (sc := t_.ev) (.k0 t_.pf (by kernel_rfl))
def zik (n n2 : Int) (m : List (Int × Int)) (m2 : List ((Int × Int) × Int)) (r : List zaa) : Unit → Res
 | _ => ([(.one (.pv (.int .i64 n)))], [[(.pv (.int .i64 n)), (.pv (.int .u64 n2)), (.own 0 0 ((List.map zaa.pv r)).length false), (.mp 1), (.mp 2)], [(.maph (.int .i64) false (List.map M_int_int.pv m) [])], [(.maph (.st [.i64, .u64]) false (List.map M_deed_Mark_int.pv m2) [])]], [(.recs 5 (List.map zaa.pv r))])
noncomputable def zeg (n n2 : Int) (m : List (Int × Int)) (m2 : List ((Int × Int) × Int)) (r : List zaa) : Option (Unit) :=
 some ()
theorem zcY (n n2 : Int) (m : List (Int × Int)) (m2 : List ((Int × Int) × Int)) (r : List zaa) (r_ : Unit) (h : zeg n n2 m m2 r = some r_) : Runs Tryz.prog 22 [(.one (.ref 0 0))] [[(.pv (.int .i64 n)), (.pv (.int .u64 n2)), (.own 0 0 ((List.map zaa.pv r)).length false), (.mp 1), (.mp 2)], [(.maph (.int .i64) false (List.map M_int_int.pv m) [])], [(.maph (.st [.i64, .u64]) false (List.map M_deed_Mark_int.pv m2) [])]] [(.recs 5 (List.map zaa.pv r))] (zik n n2 m m2 r r_) := by
 unfold zeg at h
 have h := zaf h
 subst h
 have t_ := tF (rfl : false = false) <| tN
 exact zag (C := cfg) (sc := t_.ev) (.k0 t_.pf (by kernel_rfl))
def zjB (to n n2 : Int) (m : List (Int × Int)) (m2 : List ((Int × Int) × Int)) (r : List zaa) : Int × Int × Int × Bool × zad × Bool × List zaa → Res
 | (r1, r2, r3, r4, r5, r6, r7) => ([(.agg [(.pv (.int .u64 r1)), (.pv (.int .i64 r2)), (.pv (.int .i64 r3)), (.pv (.bool r4)), (.pv (zad.pv r5))]), (.one (.pv (.bool r6)))], [[(.pv (.int .i64 n)), (.pv (.int .u64 n2)), (.pv (.recs 5 (List.map zaa.pv r7) false)), (.mp 1), (.mp 2)], [(.maph (.int .i64) false (List.map M_int_int.pv m) [])], [(.maph (.st [.i64, .u64]) false (List.map M_deed_Mark_int.pv m2) [])]], [])
noncomputable def zeQ (to n n2 : Int) (m : List (Int × Int)) (m2 : List ((Int × Int) × Int)) (r : List zaa) : Option (Int × Int × Int × Bool × zad × Bool × List zaa) :=
 (zbS n n2 m m2 r).bind fun (r2, r3) =>
 (runL (zbk to (((List.map zaa.pv r3)).length : Int) n n2 r2 m m2 r3) 0).bind fun z_ => match z_ with
 | .inl (n3, n4, n5, b, t) =>
  some (n3, n4, n5, b, t, true, r2)
 | .inr _ =>
  some (0, 0, 0, false, zad.nil, false, r2)
theorem zi8 (to n n2 : Int) (m : List (Int × Int)) (m2 : List ((Int × Int) × Int)) (r : List zaa) (r_ : Int × Int × Int × Bool × zad × Bool × List zaa) (h : zeQ to n n2 m m2 r = some r_) : Runs Tryz.prog 17 [(.one (.ref 0 0)), (.one (.pv (.int .i64 to)))] [[(.pv (.int .i64 n)), (.pv (.int .u64 n2)), (.own 0 0 ((List.map zaa.pv r)).length false), (.mp 1), (.mp 2)], [(.maph (.int .i64) false (List.map M_int_int.pv m) [])], [(.maph (.st [.i64, .u64]) false (List.map M_deed_Mark_int.pv m2) [])]] [(.recs 5 (List.map zaa.pv r))] (zjB to n n2 m m2 r r_) := by
 unfold zeQ at h
 obtain ⟨⟨r2, r3⟩, h1, h⟩ := zae h
 obtain ⟨z_, h2, h⟩ := zae h
 rcases z_ with ⟨n3, n4, n5, b, t⟩ | _
 ·have h := zaf h
  subst h
  have t_ := tR (zbW n n2 m m2 r _ h1) <| tL (zbK.coe (s0 := ⟨[(1, (.av (.one (.pv (.int .i64 to))))), (4, (.av (.one (.ref 3 0)))), (9, (.av (.one (.own 0 0 ((List.map zaa.pv r3)).length false)))), (10, (.av (.one (.pv (.int .i64 (((List.map zaa.pv r3)).length : Int)))))), (11, (.av (.one (.pv (.int .i64 0)))))], [(0, [(.pv (.int .i64 n)), (.pv (.int .u64 n2)), (.pv (.recs 5 (List.map zaa.pv r2) false)), (.mp 1), (.mp 2)]), (1, [(.maph (.int .i64) false (List.map M_int_int.pv m) [])]), (2, [(.maph (.st [.i64, .u64]) false (List.map M_deed_Mark_int.pv m2) [])]), (3, [(.pv (.int .u64 0)), (.pv (.int .i64 0)), (.pv (.int .i64 0)), (.pv (.bool false)), (.pv .nilp)])], [(0, (.live (.recs 5 (List.map zaa.pv r3))))]⟩) (zcM to (((List.map zaa.pv r3)).length : Int) n n2 r2 m m2 r3 _ _ h2) ⟨⟨⟨_, rfl, .eq rfl⟩, ⟨_, rfl, .eq rfl⟩, ⟨_, rfl, .eq rfl⟩, ⟨_, rfl, .eq rfl⟩, ⟨_, rfl, .eq rfl⟩, trivial⟩, ⟨⟨rfl, ⟨.eq rfl, .eq rfl, .eq rfl, .eq rfl, .eq rfl, trivial⟩⟩, ⟨rfl, ⟨.eq rfl, trivial⟩⟩, ⟨rfl, ⟨.eq rfl, trivial⟩⟩, ⟨rfl, ⟨.eq rfl, .eq rfl, .eq rfl, .eq rfl, .eq rfl, trivial⟩⟩, trivial⟩, ⟨⟨rfl, .eq rfl⟩, trivial⟩⟩) <| tN
  exact zag (C := cfg) (sc := t_.ev) (.k0 t_.pf (by kernel_rfl))
 ·have h := zaf h
  subst h
  have t_ := tR (zbW n n2 m m2 r _ h1) <| tL (zbK.coe (s0 := ⟨[(1, (.av (.one (.pv (.int .i64 to))))), (4, (.av (.one (.ref 3 0)))), (9, (.av (.one (.own 0 0 ((List.map zaa.pv r3)).length false)))), (10, (.av (.one (.pv (.int .i64 (((List.map zaa.pv r3)).length : Int)))))), (11, (.av (.one (.pv (.int .i64 0)))))], [(0, [(.pv (.int .i64 n)), (.pv (.int .u64 n2)), (.pv (.recs 5 (List.map zaa.pv r2) false)), (.mp 1), (.mp 2)]), (1, [(.maph (.int .i64) false (List.map M_int_int.pv m) [])]), (2, [(.maph (.st [.i64, .u64]) false (List.map M_deed_Mark_int.pv m2) [])]), (3, [(.pv (.int .u64 0)), (.pv (.int .i64 0)), (.pv (.int .i64 0)), (.pv (.bool false)), (.pv .nilp)])], [(0, (.live (.recs 5 (List.map zaa.pv r3))))]⟩) (zcM to (((List.map zaa.pv r3)).length : Int) n n2 r2 m m2 r3 _ _ h2) ⟨⟨⟨_, rfl, .eq rfl⟩, ⟨_, rfl, .eq rfl⟩, ⟨_, rfl, .eq rfl⟩, ⟨_, rfl, .eq rfl⟩, ⟨_, rfl, .eq rfl⟩, trivial⟩, ⟨⟨rfl, ⟨.eq rfl, .eq rfl, .eq rfl, .eq rfl, .eq rfl, trivial⟩⟩, ⟨rfl, ⟨.eq rfl, trivial⟩⟩, ⟨rfl, ⟨.eq rfl, trivial⟩⟩, ⟨rfl, ⟨.eq rfl, .eq rfl, .eq rfl, .eq rfl, .eq rfl, trivial⟩⟩, trivial⟩, ⟨⟨rfl, .eq rfl⟩, trivial⟩⟩) <| tN
  exact Runs.out (zag (C := cfg) (res := ([(.agg [(.pv (.int .u64 0)), (.pv (.int .i64 0)), (.pv (.int .i64 0)), (.pv (.bool false)), (.pv .nilp)]), (.one (.pv (.bool false)))], [[(.pv (.int .i64 n)), (.pv (.int .u64 n2)), (.pv (.recs 5 (List.map zaa.pv r2) false)), (.mp 1), (.mp 2)], [(.maph (.int .i64) false (List.map M_int_int.pv m) [])], [(.maph (.st [.i64, .u64]) false (List.map M_deed_Mark_int.pv m2) [])]], [])) (sc := t_.ev) (.k0 t_.pf (by kernel_rfl))) ⟨⟨.eq rfl, .eq rfl, .eq rfl, .eq rfl, .eq rfl, trivial⟩, .eq rfl, trivial⟩ ⟨⟨.eq rfl, .eq rfl, .eq rfl, .eq rfl, .eq rfl, trivial⟩, ⟨.eq rfl, trivial⟩, ⟨.eq rfl, trivial⟩, trivial⟩ trivial rfl
noncomputable def zds (to : Int) (share : Bool) (share2 : zad) (n n2 : Int) (m : List (Int × Int)) (m2 : List ((Int × Int) × Int)) (r : List zaa) : Option (Int × Int × Int × Bool × zad × Int × Int × List zaa × List (Int × Int)) :=
 (zef n n2 m m2 r).bind fun _ =>
 (zeg n n2 m m2 r).bind fun _ =>
 (zeQ to n n2 m m2 r).bind fun (n3, n4, n5, b, t, b2, r2) =>
 (zbC (iadd .u64 n2 1) n to share share2).bind fun b3 =>
 bif b3 then
  bif b2 then
   some (0, 0, 0, false, zad.nil, 14, n2, r2, m)
  else
   (za4 n (iadd .u64 n2 1) r2 m m2).bind fun _ =>
   bif fits (((List.map zaa.pv r2) ++ ([[(.int .u64 (iadd .u64 n2 1)), (.int .i64 n), (.int .i64 to), (.bool share), (zad.pv share2)]] : List (List PV)))).length then
   match (mget to m) with
   | .some n6 =>
    some ((iadd .u64 n2 1), n, to, share, share2, 0, (iadd .u64 n2 1), (List.take (((List.map zaa.pv r2) ++ ([[(.int .u64 (iadd .u64 n2 1)), (.int .i64 n), (.int .i64 to), (.bool share), (zad.pv share2)]] : List (List PV)))).length (r2 ++ [(zaa.mk (iadd .u64 n2 1) n to share share2)])), (mset to (iadd .i64 n6 1) m))
   | .none =>
    some ((iadd .u64 n2 1), n, to, share, share2, 0, (iadd .u64 n2 1), (List.take (((List.map zaa.pv r2) ++ ([[(.int .u64 (iadd .u64 n2 1)), (.int .i64 n), (.int .i64 to), (.bool share), (zad.pv share2)]] : List (List PV)))).length (r2 ++ [(zaa.mk (iadd .u64 n2 1) n to share share2)])), (mset to 1 m))
   else none
 else
  some (0, 0, 0, false, zad.nil, 1, n2, r2, m)
theorem zhY (to : Int) (share : Bool) (share2 : zad) (n n2 : Int) (m : List (Int × Int)) (m2 : List ((Int × Int) × Int)) (r : List zaa) (r_ : Int × Int × Int × Bool × zad × Int × Int × List zaa × List (Int × Int)) (h : zds to share share2 n n2 m m2 r = some r_) : Runs Tryz.prog 14 [(.one (.ref 0 0)), (.one (.pv (.int .i64 to))), (.agg [(.pv (.bool share)), (.pv (zad.pv share2))])] [[(.pv (.int .i64 n)), (.pv (.int .u64 n2)), (.own 0 0 ((List.map zaa.pv r)).length false), (.mp 1), (.mp 2)], [(.maph (.int .i64) false (List.map M_int_int.pv m) [])], [(.maph (.st [.i64, .u64]) false (List.map M_deed_Mark_int.pv m2) [])]] [(.recs 5 (List.map zaa.pv r))] (zie to share share2 n n2 m m2 r r_) := by
 unfold zds at h
 obtain ⟨_, h1, h⟩ := zae h
 obtain ⟨_, h2, h⟩ := zae h
 obtain ⟨⟨n3, n4, n5, b, t, b2, r2⟩, h3, h⟩ := zae h
 obtain ⟨b3, h4, h⟩ := zae h
 have q_4 := (zaW (iadd .u64 n2 1) n to share share2 _ h4)
 have p4_ := fun {sc_ : List Ev} {Q_ : Prop} (t_ : Tell sc_ Q_) => tR (zcX n n2 m m2 r _ h1) <| tR (zcX n n2 m m2 r _ h1) <| tR (zcX n n2 m m2 r _ h1) <| tR (zcY n n2 m m2 r _ h2) <| tR (zcX n n2 m m2 r _ h1) <| tR (zcY n n2 m m2 r _ h2) <| tR (zcY n n2 m m2 r _ h2) <| tR (zcY n n2 m m2 r _ h2) <| tR (zi8 to n n2 m m2 r _ h3) <| tF (rfl : false = false) <| tR q_4 <| t_
 rcases zaj h with ⟨h5, h⟩ | ⟨h5, h⟩
 ·rcases zaj h with ⟨h6, h⟩ | ⟨h6, h⟩
  ·have h := zaf h
   subst h
   have t_ := p4_ <| tF (zaz h5) <| tT h6 <| tN
   exact Runs.out (zag (C := cfg) (res := ([(.agg [(.pv (.int .u64 0)), (.pv (.int .i64 0)), (.pv (.int .i64 0)), (.pv (.bool false)), (.pv .nilp)]), (.one (.pv (.int .i64 14)))], [[(.pv (.int .i64 n)), (.pv (.int .u64 n2)), (.pv (.recs 5 (List.map zaa.pv r2) false)), (.mp 1), (.mp 2)], [(.maph (.int .i64) false (List.map M_int_int.pv m) [])], [(.maph (.st [.i64, .u64]) false (List.map M_deed_Mark_int.pv m2) [])]], [])) (sc := t_.ev) (.k1 t_.pf (by kernel_rfl) (by kernel_rfl))) ⟨⟨.eq rfl, .eq rfl, .eq rfl, .eq rfl, .eq rfl, trivial⟩, .eq rfl, trivial⟩ ⟨⟨.eq rfl, .eq rfl, .eq rfl, .eq rfl, .eq rfl, trivial⟩, ⟨.eq rfl, trivial⟩, ⟨.eq rfl, trivial⟩, trivial⟩ trivial rfl
  ·obtain ⟨_, h7, h⟩ := zae h
   have q_7 := (zam n (iadd .u64 n2 1) r2 m m2 _ h7)
   obtain ⟨h8, h⟩ := zar h
   cases h9 : (mget to m) with
   | some n6 =>
    simp only [h9] at h
    have h := zaf h
    subst h
    have t_ := p4_ <| tF (zaz h5) <| tF h6 <| tR q_7 <| tR q_7 <| tR q_7 <| tO (show (Nat.beq ((List.map zaa.pv r2)).length ((List.map zaa.pv r2)).length) = true from Nat.beq_refl _) <| tO h8 <| tT (show kget [(.int .i64 to)] (List.map M_int_int.pv m) = some [(.int .i64 n6)] from by first | (simp only [M_deed_Mark_int.set, M_int_int.set, M_deed_Mark_int.get, M_int_int.get, h9, Option.map_some, Option.map_none]; done) | (simp only [M_deed_Mark_int.set, M_int_int.set, M_deed_Mark_int.get, M_int_int.get, h9, Option.map_some, Option.map_none]; rfl) | (rw [← List.map_nil]; simp only [M_deed_Mark_int.set, M_int_int.set, M_deed_Mark_int.get, M_int_int.get, h9, Option.map_some, Option.map_none]; rfl)) <| tE (.el [(.int .i64 n6)]) <| tN
    exact Runs.out (Runs.shut (zag (C := cfg) (res := ([(.agg [(.pv (.int .u64 (iadd .u64 n2 1))), (.pv (.int .i64 n)), (.pv (.int .i64 to)), (.pv (.bool share)), (.pv (zad.pv share2))]), (.one (.pv (.int .i64 0)))], [[(.pv (.int .i64 n)), (.pv (.int .u64 (iadd .u64 n2 1))), (.own 0 0 (((List.map zaa.pv r2) ++ ([[(.int .u64 (iadd .u64 n2 1)), (.int .i64 n), (.int .i64 to), (.bool share), (zad.pv share2)]] : List (List PV)))).length false), (.mp 1), (.mp 2)], [(.maph (.int .i64) false (kset [(.int .i64 to)] [(.int .i64 (iadd .i64 n6 1))] (List.map M_int_int.pv m)) [])], [(.maph (.st [.i64, .u64]) false (List.map M_deed_Mark_int.pv m2) [])]], [(.recs 5 ((List.map zaa.pv r2) ++ ([[(.int .u64 (iadd .u64 n2 1)), (.int .i64 n), (.int .i64 to), (.bool share), (zad.pv share2)]] : List (List PV))))])) (sc := t_.ev) (.k1 t_.pf (by kernel_rfl) (by kernel_rfl))) (res' := ([(.agg [(.pv (.int .u64 (iadd .u64 n2 1))), (.pv (.int .i64 n)), (.pv (.int .i64 to)), (.pv (.bool share)), (.pv (zad.pv share2))]), (.one (.pv (.int .i64 0)))], [[(.pv (.int .i64 n)), (.pv (.int .u64 (iadd .u64 n2 1))), (.pv (.recs 5 (List.take (((List.map zaa.pv r2) ++ ([[(.int .u64 (iadd .u64 n2 1)), (.int .i64 n), (.int .i64 to), (.bool share), (zad.pv share2)]] : List (List PV)))).length ((List.map zaa.pv r2) ++ ([[(.int .u64 (iadd .u64 n2 1)), (.int .i64 n), (.int .i64 to), (.bool share), (zad.pv share2)]] : List (List PV)))) false)), (.mp 1), (.mp 2)], [(.maph (.int .i64) false (kset [(.int .i64 to)] [(.int .i64 (iadd .i64 n6 1))] (List.map M_int_int.pv m)) [])], [(.maph (.st [.i64, .u64]) false (List.map M_deed_Mark_int.pv m2) [])]], [])) [0] (by kernel_rfl)) ⟨⟨.eq rfl, .eq rfl, .eq rfl, .eq rfl, .eq rfl, trivial⟩, .eq rfl, trivial⟩ ⟨⟨.eq rfl, .eq rfl, .pv (.recsT (.takeN (by first | rfl | (simp only [List.take_length]; done) | (simp; done)) (.app (.eq rfl) (.cons (.cons (.eq rfl) (.cons (.eq rfl) (.cons (.eq rfl) (.cons (.eq rfl) (.cons (.eq rfl) (.nil)))))) (.nil))))), .eq rfl, .eq rfl, trivial⟩, ⟨.maph (WkEs.to (WkEs.set (.cons (.eq rfl) (.nil)) (WkEs.refl _)) (by first | rfl | (simp only [M_deed_Mark_int.set, M_int_int.set]; done) | (simp only [M_deed_Mark_int.set, M_int_int.set, kset, kdel]; rfl))), trivial⟩, ⟨.eq rfl, trivial⟩, trivial⟩ trivial rfl
   | none =>
    simp only [h9] at h
    have h := zaf h
    subst h
    have t_ := p4_ <| tF (zaz h5) <| tF h6 <| tR q_7 <| tR q_7 <| tR q_7 <| tO (show (Nat.beq ((List.map zaa.pv r2)).length ((List.map zaa.pv r2)).length) = true from Nat.beq_refl _) <| tO h8 <| tF (show kget [(.int .i64 to)] (List.map M_int_int.pv m) = none from by first | (simp only [M_deed_Mark_int.set, M_int_int.set, M_deed_Mark_int.get, M_int_int.get, h9, Option.map_some, Option.map_none]; done) | (simp only [M_deed_Mark_int.set, M_int_int.set, M_deed_Mark_int.get, M_int_int.get, h9, Option.map_some, Option.map_none]; rfl) | (rw [← List.map_nil]; simp only [M_deed_Mark_int.set, M_int_int.set, M_deed_Mark_int.get, M_int_int.get, h9, Option.map_some, Option.map_none]; rfl)) <| tN
    exact Runs.out (Runs.shut (zag (C := cfg) (res := ([(.agg [(.pv (.int .u64 (iadd .u64 n2 1))), (.pv (.int .i64 n)), (.pv (.int .i64 to)), (.pv (.bool share)), (.pv (zad.pv share2))]), (.one (.pv (.int .i64 0)))], [[(.pv (.int .i64 n)), (.pv (.int .u64 (iadd .u64 n2 1))), (.own 0 0 (((List.map zaa.pv r2) ++ ([[(.int .u64 (iadd .u64 n2 1)), (.int .i64 n), (.int .i64 to), (.bool share), (zad.pv share2)]] : List (List PV)))).length false), (.mp 1), (.mp 2)], [(.maph (.int .i64) false (kset [(.int .i64 to)] [(.int .i64 1)] (List.map M_int_int.pv m)) [])], [(.maph (.st [.i64, .u64]) false (List.map M_deed_Mark_int.pv m2) [])]], [(.recs 5 ((List.map zaa.pv r2) ++ ([[(.int .u64 (iadd .u64 n2 1)), (.int .i64 n), (.int .i64 to), (.bool share), (zad.pv share2)]] : List (List PV))))])) (sc := t_.ev) (.k1 t_.pf (by kernel_rfl) (by kernel_rfl))) (res' := ([(.agg [(.pv (.int .u64 (iadd .u64 n2 1))), (.pv (.int .i64 n)), (.pv (.int .i64 to)), (.pv (.bool share)), (.pv (zad.pv share2))]), (.one (.pv (.int .i64 0)))], [[(.pv (.int .i64 n)), (.pv (.int .u64 (iadd .u64 n2 1))), (.pv (.recs 5 (List.take (((List.map zaa.pv r2) ++ ([[(.int .u64 (iadd .u64 n2 1)), (.int .i64 n), (.int .i64 to), (.bool share), (zad.pv share2)]] : List (List PV)))).length ((List.map zaa.pv r2) ++ ([[(.int .u64 (iadd .u64 n2 1)), (.int .i64 n), (.int .i64 to), (.bool share), (zad.pv share2)]] : List (List PV)))) false)), (.mp 1), (.mp 2)], [(.maph (.int .i64) false (kset [(.int .i64 to)] [(.int .i64 1)] (List.map M_int_int.pv m)) [])], [(.maph (.st [.i64, .u64]) false (List.map M_deed_Mark_int.pv m2) [])]], [])) [0] (by kernel_rfl)) ⟨⟨.eq rfl, .eq rfl, .eq rfl, .eq rfl, .eq rfl, trivial⟩, .eq rfl, trivial⟩ ⟨⟨.eq rfl, .eq rfl, .pv (.recsT (.takeN (by first | rfl | (simp only [List.take_length]; done) | (simp; done)) (.app (.eq rfl) (.cons (.cons (.eq rfl) (.cons (.eq rfl) (.cons (.eq rfl) (.cons (.eq rfl) (.cons (.eq rfl) (.nil)))))) (.nil))))), .eq rfl, .eq rfl, trivial⟩, ⟨.maph (WkEs.to (WkEs.set (.cons (.eq rfl) (.nil)) (WkEs.refl _)) (by first | rfl | (simp only [M_deed_Mark_int.set, M_int_int.set]; done) | (simp only [M_deed_Mark_int.set, M_int_int.set, kset, kdel]; rfl))), trivial⟩, ⟨.eq rfl, trivial⟩, trivial⟩ trivial rfl
 ·have h := zaf h
  subst h
  have t_ := p4_ <| tT (zbc h5) <| tN
  exact Runs.out (zag (C := cfg) (res := ([(.agg [(.pv (.int .u64 0)), (.pv (.int .i64 0)), (.pv (.int .i64 0)), (.pv (.bool false)), (.pv .nilp)]), (.one (.pv (.int .i64 1)))], [[(.pv (.int .i64 n)), (.pv (.int .u64 n2)), (.pv (.recs 5 (List.map zaa.pv r2) false)), (.mp 1), (.mp 2)], [(.maph (.int .i64) false (List.map M_int_int.pv m) [])], [(.maph (.st [.i64, .u64]) false (List.map M_deed_Mark_int.pv m2) [])]], [])) (sc := t_.ev) (.k1 t_.pf (by kernel_rfl) (by kernel_rfl))) ⟨⟨.eq rfl, .eq rfl, .eq rfl, .eq rfl, .eq rfl, trivial⟩, .eq rfl, trivial⟩ ⟨⟨.eq rfl, .eq rfl, .eq rfl, .eq rfl, .eq rfl, trivial⟩, ⟨.eq rfl, trivial⟩, ⟨.eq rfl, trivial⟩, trivial⟩ trivial rfl
noncomputable def ziA (N : Nat) (a a2 a3 a4 : Int) (a5 : List Int) (n n2 : Int) (m : List (Int × Int)) (m2 : List ((Int × Int) × Int)) (n3 n4 : Int) (r : List zab) (l : List Int) (r2 : List zac) (r3 : List zaa) : Option (Bool × Int × List zaa × List (Int × Int) × List ((Int × Int) × Int) × Int × List zab × List Int × List zac) :=
 (zfx N a5).bind fun (b, t, t2) =>
 bif (decide (((irem .u8 a 5) : Int) = 2)) then
  (zdr a4 n n2 m m2 r3).bind fun (n5, r4) =>
  (zeG a4 n3 n4 r l r2).bind fun (n6, r5) =>
  some ((decide ((n5 : Int) = n6)), n2, r4, m, m2, n4, r5, l, r2)
 else
  bif (decide (((irem .u8 a 5) : Int) = 3)) then
   (zdv a4 a3 a2 b t n n2 m m2 r3).bind fun (n5, m_) =>
   (zcD a4 a3 a2 t2 n3 n4 r l r2).bind fun (n6, r4) =>
   some ((decide ((n5 : Int) = n6)), n2, (List.take ((List.map zaa.pv r3)).length r3), m, m_, n4, r, l, r4)
  else
   bif (decide (((irem .u8 a 5) : Int) = 4)) then
    (zdv a4 a3 a2 b t n n2 m m2 r3).bind fun (n5, m_) =>
    (zcD a4 a3 a2 t2 n3 n4 r l r2).bind fun (n6, r4) =>
    some ((decide ((n5 : Int) = n6)), n2, (List.take ((List.map zaa.pv r3)).length r3), m, m_, n4, r, l, r4)
   else
    (zds a2 b t n n2 m m2 r3).bind fun (n5, n6, n7, b2, t3, n8, n9, r4, m_) =>
    (zdF a2 t2 n3 n4 r l r2).bind fun (n10, n11, n12, t4, n13, n14, r5, l_) =>
    bif (decide ((n8 : Int) = n13)) then
     (zfy N n5 n6 n7 b2 t3 n10 n11 n12 t4).bind fun b3 =>
     some (b3, n9, r4, m_, m2, n14, r5, l_, r2)
    else
     some (false, n9, r4, m_, m2, n14, r5, l_, r2)
theorem zni (N : Nat) (a a2 a3 a4 : Int) (a5 : List Int) (n n2 : Int) (m : List (Int × Int)) (m2 : List ((Int × Int) × Int)) (n3 n4 : Int) (r : List zab) (l : List Int) (r2 : List zac) (r3 : List zaa) (r_ : Bool × Int × List zaa × List (Int × Int) × List ((Int × Int) × Int) × Int × List zab × List Int × List zac) (h : ziA N a a2 a3 a4 a5 n n2 m m2 n3 n4 r l r2 r3 = some r_) : Runs Tryz.prog 9 [(.one (.ref 0 0)), (.one (.ref 3 0)), (.agg [(.pv (.int .u8 a)), (.pv (.int .i64 a2)), (.pv (.int .i64 a3)), (.pv (.int .u64 a4)), (.pv (.ints .u8 a5 false))])] [[(.pv (.int .i64 n)), (.pv (.int .u64 n2)), (.own 0 0 ((List.map zaa.pv r3)).length false), (.mp 1), (.mp 2)], [(.maph (.int .i64) false (List.map M_int_int.pv m) [])], [(.maph (.st [.i64, .u64]) false (List.map M_deed_Mark_int.pv m2) [])], [(.pv (.int .i64 n3)), (.pv (.int .u64 n4)), (.pv (.recs 4 (List.map zab.pv r) false)), (.pv (.ints .i64 l false)), (.pv (.recs 2 (List.map zac.pv r2) false))]] [(.recs 5 (List.map zaa.pv r3))] (zol a a2 a3 a4 a5 n n2 m m2 n3 n4 r l r2 r3 r_) := by
 unfold ziA at h
 obtain ⟨⟨b, t, t2⟩, h1, h⟩ := zae h
 rcases zaj h with ⟨h2, h⟩ | ⟨h2, h⟩
 ·obtain ⟨⟨n5, r4⟩, h3, h⟩ := zae h
  obtain ⟨⟨n6, r5⟩, h4, h⟩ := zae h
  have h := zaf h
  subst h
  have t_ := tR (zbM N a5 _ h1) <| tO (rfl : true = true) <| tT h2 <| tR (ze4 a4 n n2 m m2 r3 _ h3) <| tR (ze4 a4 n n2 m m2 r3 _ h3) <| tR (zhI a4 n3 n4 r l r2 _ h4) <| tN
  exact zag (C := cfg) (sc := t_.ev) (.k1 t_.pf (by kernel_rfl) (by kernel_rfl))
 ·rcases zaj h with ⟨h3, h⟩ | ⟨h3, h⟩
  ·obtain ⟨⟨n5, m_⟩, h4, h⟩ := zae h
   obtain ⟨⟨n6, r4⟩, h5, h⟩ := zae h
   have h := zaf h
   subst h
   have t_ := tR (zbM N a5 _ h1) <| tO (rfl : true = true) <| tF h2 <| tT h3 <| tT (rfl : true = true) <| tR (zay a4 a3 a2 b t n n2 m m2 r3 _ h4) <| tR (zay a4 a3 a2 b t n n2 m m2 r3 _ h4) <| tR (zay a4 a3 a2 b t n n2 m m2 r3 _ h4) <| tR (zay a4 a3 a2 b t n n2 m m2 r3 _ h4) <| tR (zay a4 a3 a2 b t n n2 m m2 r3 _ h4) <| tR (zay a4 a3 a2 b t n n2 m m2 r3 _ h4) <| tR (zay a4 a3 a2 b t n n2 m m2 r3 _ h4) <| tR (zay a4 a3 a2 b t n n2 m m2 r3 _ h4) <| tR (zeC a4 a3 a2 t2 n3 n4 r l r2 _ h5) <| tN
   exact Runs.out (Runs.shut (zag (C := cfg) (res := ([(.one (.pv (.bool (decide ((n5 : Int) = n6)))))], [[(.pv (.int .i64 n)), (.pv (.int .u64 n2)), (.own 0 0 ((List.map zaa.pv r3)).length false), (.mp 1), (.mp 2)], [(.maph (.int .i64) false (List.map M_int_int.pv m) [])], [(.maph (.st [.i64, .u64]) false (List.map M_deed_Mark_int.pv m_) [])], [(.pv (.int .i64 n3)), (.pv (.int .u64 n4)), (.pv (.recs 4 (List.map zab.pv r) false)), (.pv (.ints .i64 l false)), (.pv (.recs 2 (List.map zac.pv r4) false))]], [(.recs 5 (List.map zaa.pv r3))])) (sc := t_.ev) (.k1 t_.pf (by kernel_rfl) (by kernel_rfl))) (res' := ([(.one (.pv (.bool (decide ((n5 : Int) = n6)))))], [[(.pv (.int .i64 n)), (.pv (.int .u64 n2)), (.pv (.recs 5 (List.take ((List.map zaa.pv r3)).length (List.map zaa.pv r3)) false)), (.mp 1), (.mp 2)], [(.maph (.int .i64) false (List.map M_int_int.pv m) [])], [(.maph (.st [.i64, .u64]) false (List.map M_deed_Mark_int.pv m_) [])], [(.pv (.int .i64 n3)), (.pv (.int .u64 n4)), (.pv (.recs 4 (List.map zab.pv r) false)), (.pv (.ints .i64 l false)), (.pv (.recs 2 (List.map zac.pv r4) false))]], [])) [0] (by kernel_rfl)) ⟨.eq rfl, trivial⟩ ⟨⟨.eq rfl, .eq rfl, .pv (.recsT (.eq (by first | rfl | (simp only [List.take_length]; done) | (simp; done) | (simp only [List.map_take, List.map_drop, List.map_append, List.take_length, List.nil_append]; done) | (simp only [List.length_map, List.take_length, List.length_append, List.drop_zero, List.map_append, List.map_take, List.map_drop, List.map_replicate, List.map_cons, List.map_nil, List.append_nil, List.nil_append]; done)))), .eq rfl, .eq rfl, trivial⟩, ⟨.eq rfl, trivial⟩, ⟨.eq rfl, trivial⟩, ⟨.eq rfl, .eq rfl, .eq rfl, .eq rfl, .eq rfl, trivial⟩, trivial⟩ trivial rfl
  ·rcases zaj h with ⟨h4, h⟩ | ⟨h4, h⟩
   ·obtain ⟨⟨n5, m_⟩, h5, h⟩ := zae h
    obtain ⟨⟨n6, r4⟩, h6, h⟩ := zae h
    have h := zaf h
    subst h
    have t_ := tR (zbM N a5 _ h1) <| tO (rfl : true = true) <| tF h2 <| tF h3 <| tT h4 <| tR (zay a4 a3 a2 b t n n2 m m2 r3 _ h5) <| tR (zay a4 a3 a2 b t n n2 m m2 r3 _ h5) <| tR (zay a4 a3 a2 b t n n2 m m2 r3 _ h5) <| tR (zay a4 a3 a2 b t n n2 m m2 r3 _ h5) <| tR (zay a4 a3 a2 b t n n2 m m2 r3 _ h5) <| tR (zay a4 a3 a2 b t n n2 m m2 r3 _ h5) <| tR (zay a4 a3 a2 b t n n2 m m2 r3 _ h5) <| tR (zay a4 a3 a2 b t n n2 m m2 r3 _ h5) <| tR (zeC a4 a3 a2 t2 n3 n4 r l r2 _ h6) <| tN
    exact Runs.out (Runs.shut (zag (C := cfg) (res := ([(.one (.pv (.bool (decide ((n5 : Int) = n6)))))], [[(.pv (.int .i64 n)), (.pv (.int .u64 n2)), (.own 0 0 ((List.map zaa.pv r3)).length false), (.mp 1), (.mp 2)], [(.maph (.int .i64) false (List.map M_int_int.pv m) [])], [(.maph (.st [.i64, .u64]) false (List.map M_deed_Mark_int.pv m_) [])], [(.pv (.int .i64 n3)), (.pv (.int .u64 n4)), (.pv (.recs 4 (List.map zab.pv r) false)), (.pv (.ints .i64 l false)), (.pv (.recs 2 (List.map zac.pv r4) false))]], [(.recs 5 (List.map zaa.pv r3))])) (sc := t_.ev) (.k1 t_.pf (by kernel_rfl) (by kernel_rfl))) (res' := ([(.one (.pv (.bool (decide ((n5 : Int) = n6)))))], [[(.pv (.int .i64 n)), (.pv (.int .u64 n2)), (.pv (.recs 5 (List.take ((List.map zaa.pv r3)).length (List.map zaa.pv r3)) false)), (.mp 1), (.mp 2)], [(.maph (.int .i64) false (List.map M_int_int.pv m) [])], [(.maph (.st [.i64, .u64]) false (List.map M_deed_Mark_int.pv m_) [])], [(.pv (.int .i64 n3)), (.pv (.int .u64 n4)), (.pv (.recs 4 (List.map zab.pv r) false)), (.pv (.ints .i64 l false)), (.pv (.recs 2 (List.map zac.pv r4) false))]], [])) [0] (by kernel_rfl)) ⟨.eq rfl, trivial⟩ ⟨⟨.eq rfl, .eq rfl, .pv (.recsT (.eq (by first | rfl | (simp only [List.take_length]; done) | (simp; done) | (simp only [List.map_take, List.map_drop, List.map_append, List.take_length, List.nil_append]; done) | (simp only [List.length_map, List.take_length, List.length_append, List.drop_zero, List.map_append, List.map_take, List.map_drop, List.map_replicate, List.map_cons, List.map_nil, List.append_nil, List.nil_append]; done)))), .eq rfl, .eq rfl, trivial⟩, ⟨.eq rfl, trivial⟩, ⟨.eq rfl, trivial⟩, ⟨.eq rfl, .eq rfl, .eq rfl, .eq rfl, .eq rfl, trivial⟩, trivial⟩ trivial rfl
   ·obtain ⟨⟨n5, n6, n7, b2, t3, n8, n9, r4, m_⟩, h5, h⟩ := zae h
    have q_5 := (zhY a2 b t n n2 m m2 r3 _ h5)
    obtain ⟨⟨n10, n11, n12, t4, n13, n14, r5, l_⟩, h6, h⟩ := zae h
    have q_6 := (zhJ a2 t2 n3 n4 r l r2 _ h6)
    rcases zaj h with ⟨h7, h⟩ | ⟨h7, h⟩
    ·obtain ⟨b3, h8, h⟩ := zae h
     have h := zaf h
     subst h
     have t_ := tR (zbM N a5 _ h1) <| tO (rfl : true = true) <| tF h2 <| tF h3 <| tF h4 <| tR q_5 <| tR q_6 <| tT h7 <| tR (zfp N n5 n6 n7 b2 t3 n10 n11 n12 t4 _ h8) <| tN
     exact zag (C := cfg) (sc := t_.ev) (.k0 t_.pf (by kernel_rfl))
    ·have h := zaf h
     subst h
     have t_ := tR (zbM N a5 _ h1) <| tO (rfl : true = true) <| tF h2 <| tF h3 <| tF h4 <| tR q_5 <| tR q_6 <| tF h7 <| tN
     exact zag (C := cfg) (sc := t_.ev) (.k0 t_.pf (by kernel_rfl))
end Go.Proofs.YtjjcmgdgifcmgaaGreat
