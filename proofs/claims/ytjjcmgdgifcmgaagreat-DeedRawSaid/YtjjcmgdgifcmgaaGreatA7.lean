/- What functions compute, and that they do. -/
import Derived.Test.YtjjcmgdgifcmgaaGreatA6
set_option linter.unusedVariables false
set_option linter.unusedSimpArgs false
set_option maxRecDepth 100000
namespace Go.Proofs.YtjjcmgdgifcmgaaGreat
open Go.Ev
noncomputable def zdl (N : Nat) (n n2 : Int) (r : List zaa) (m : List (Int × Int)) (m2 : List ((Int × Int) × Int)) : Option (List Int) :=
 (zdH [] (IntKind.u64.wrap n)).bind fun l_ =>
 (zdH l_ n2).bind fun l_2 =>
 (zdH l_2 (IntKind.u64.wrap (((List.map zaa.pv r)).length : Int))).bind fun l_3 =>
 (runL (zaW N r (((List.map zaa.pv r)).length : Int) n n2 r m m2) (0, l_3)).bind fun l_4 =>
 (zdH l_4 (IntKind.u64.wrap ((List.map M_int_int.pv m).length : Int))).bind fun l_5 =>
 (zgS m).bind fun _ =>
 (zdA m).bind fun l_6 =>
 (runL (zaX ((l_6).length : Int) n n2 r m m2 l_6) (0, l_5)).bind fun l_7 =>
 (zdH l_7 (IntKind.u64.wrap ((List.map M_deed_Mark_int.pv m2).length : Int))).bind fun l_8 =>
 (ze4 n n2 r m m2).bind fun r2 =>
 (runL (zaY (((List.map zac.pv r2)).length : Int) n n2 r m m2 r2) (0, l_8)).bind fun l_9 =>
 some l_9
theorem zjt (N : Nat) (n n2 : Int) (r : List zaa) (m : List (Int × Int)) (m2 : List ((Int × Int) × Int)) (r_ : List Int) (h : zdl N n n2 r m m2 = some r_) : Runs Tryz.prog 24 [(.one (.ref 0 0))] [[(.pv (.int .i64 n)), (.pv (.int .u64 n2)), (.pv (.recs 5 (List.map zaa.pv r) false)), (.mp 1), (.mp 2)], [(.maph (.int .i64) false (List.map M_int_int.pv m) [])], [(.maph (.st [.i64, .u64]) false (List.map M_deed_Mark_int.pv m2) [])]] [] (zke n n2 r m m2 r_) := by
 unfold zdl at h
 obtain ⟨l_, h1, h⟩ := zaf h
 obtain ⟨l_2, h2, h⟩ := zaf h
 obtain ⟨l_3, h3, h⟩ := zaf h
 obtain ⟨l_4, h4, h⟩ := zaf h
 obtain ⟨l_5, h5, h⟩ := zaf h
 obtain ⟨_, h6, h⟩ := zaf h
 obtain ⟨l_6, h7, h⟩ := zaf h
 obtain ⟨l_7, h8, h⟩ := zaf h
 obtain ⟨l_8, h9, h⟩ := zaf h
 obtain ⟨r2, h10, h⟩ := zaf h
 obtain ⟨l_9, h11, h⟩ := zaf h
 have h := zad h
 subst h
 have t_ := tF (rfl : false = false) <| tR (Runs.coe (as' := [(.one (.pv .nils)), (.one (.pv (.int .u64 (IntKind.u64.wrap n))))]) (objs' := []) (rows' := []) (zaM [] (IntKind.u64.wrap n) _ h1) ⟨.pv (.nilsI), .eq rfl, trivial⟩ trivial trivial) <| tR (Runs.coe (as' := [(.one (.pv .nils)), (.one (.pv (.int .u64 (IntKind.u64.wrap n))))]) (objs' := []) (rows' := []) (zaM [] (IntKind.u64.wrap n) _ h1) ⟨.pv (.nilsI), .eq rfl, trivial⟩ trivial trivial) <| tR (Runs.coe (as' := [(.one (.pv (.ints .u8 (List.take (l_).length l_) false))), (.one (.pv (.int .u64 n2)))]) (objs' := []) (rows' := []) (zaM l_ n2 _ h2) ⟨.pv (.ints (by first | rfl | (simp only [List.take_length]; done) | (simp; done) | (simp only [List.map_take, List.map_drop, List.map_append, List.take_length, List.nil_append]; done) | (simp only [List.length_map, List.take_length, List.length_append, List.drop_zero, List.map_append, List.map_take, List.map_drop, List.map_replicate, List.map_cons, List.map_nil, List.append_nil, List.nil_append]; done))), .eq rfl, trivial⟩ trivial trivial) <| tR (Runs.coe (as' := [(.one (.pv .nils)), (.one (.pv (.int .u64 (IntKind.u64.wrap n))))]) (objs' := []) (rows' := []) (zaM [] (IntKind.u64.wrap n) _ h1) ⟨.pv (.nilsI), .eq rfl, trivial⟩ trivial trivial) <| tR (Runs.coe (as' := [(.one (.pv .nils)), (.one (.pv (.int .u64 (IntKind.u64.wrap n))))]) (objs' := []) (rows' := []) (zaM [] (IntKind.u64.wrap n) _ h1) ⟨.pv (.nilsI), .eq rfl, trivial⟩ trivial trivial) <| tR (Runs.coe (as' := [(.one (.pv (.ints .u8 (List.take (l_).length l_) false))), (.one (.pv (.int .u64 n2)))]) (objs' := []) (rows' := []) (zaM l_ n2 _ h2) ⟨.pv (.ints (by first | rfl | (simp only [List.take_length]; done) | (simp; done) | (simp only [List.map_take, List.map_drop, List.map_append, List.take_length, List.nil_append]; done) | (simp only [List.length_map, List.take_length, List.length_append, List.drop_zero, List.map_append, List.map_take, List.map_drop, List.map_replicate, List.map_cons, List.map_nil, List.append_nil, List.nil_append]; done))), .eq rfl, trivial⟩ trivial trivial) <| tR (Runs.coe (as' := [(.one (.pv (.ints .u8 (List.take (l_2).length l_2) false))), (.one (.pv (.int .u64 (IntKind.u64.wrap (((List.map zaa.pv r)).length : Int)))))]) (objs' := []) (rows' := []) (zaM l_2 (IntKind.u64.wrap (((List.map zaa.pv r)).length : Int)) _ h3) ⟨.pv (.ints (by first | rfl | (simp only [List.take_length]; done) | (simp; done) | (simp only [List.map_take, List.map_drop, List.map_append, List.take_length, List.nil_append]; done) | (simp only [List.length_map, List.take_length, List.length_append, List.drop_zero, List.map_append, List.map_take, List.map_drop, List.map_replicate, List.map_cons, List.map_nil, List.append_nil, List.nil_append]; done))), .eq rfl, trivial⟩ trivial trivial) <| tL (zhT N r (((List.map zaa.pv r)).length : Int) n n2 r m m2 _ _ h4) <| tR (Runs.coe (as' := [(.one (.pv (.ints .u8 (List.take (l_4).length l_4) false))), (.one (.pv (.int .u64 (IntKind.u64.wrap ((List.map M_int_int.pv m).length : Int)))))]) (objs' := []) (rows' := []) (zaM l_4 (IntKind.u64.wrap ((List.map M_int_int.pv m).length : Int)) _ h5) ⟨.pv (.ints (by first | rfl | (simp only [List.take_length]; done) | (simp; done) | (simp only [List.map_take, List.map_drop, List.map_append, List.take_length, List.nil_append]; done) | (simp only [List.length_map, List.take_length, List.length_append, List.drop_zero, List.map_append, List.map_take, List.map_drop, List.map_replicate, List.map_cons, List.map_nil, List.append_nil, List.nil_append]; done))), .eq rfl, trivial⟩ trivial trivial) <| tR (zlw m _ h6) <| tR (ziW m _ h7) <| tL (zhU ((l_6).length : Int) n n2 r m m2 l_6 _ _ h8) <| tR (Runs.coe (as' := [(.one (.pv (.ints .u8 (List.take (l_7).length l_7) false))), (.one (.pv (.int .u64 (IntKind.u64.wrap ((List.map M_deed_Mark_int.pv m2).length : Int)))))]) (objs' := []) (rows' := []) (zaM l_7 (IntKind.u64.wrap ((List.map M_deed_Mark_int.pv m2).length : Int)) _ h9) ⟨.pv (.ints (by first | rfl | (simp only [List.take_length]; done) | (simp; done) | (simp only [List.map_take, List.map_drop, List.map_append, List.take_length, List.nil_append]; done) | (simp only [List.length_map, List.take_length, List.length_append, List.drop_zero, List.map_append, List.map_take, List.map_drop, List.map_replicate, List.map_cons, List.map_nil, List.append_nil, List.nil_append]; done))), .eq rfl, trivial⟩ trivial trivial) <| tR (zjv n n2 r m m2 _ h10) <| tL (zhV (((List.map zac.pv r2)).length : Int) n n2 r m m2 r2 _ _ h11) <| tN
 exact zah (C := cfg) (sc := t_.ev) (.k1 t_.pf (by kernel_rfl) (by kernel_rfl))
def zqb (a b : List Int) : Bool → Res
 | r1 => ([(.one (.pv (.bool r1)))], [], [])
def zhb (a b : List Int) (n : Int) : Int → St
 | n2 => ⟨[(0, (.av (.one (.pv (.ints .u8 a false))))), (1, (.av (.one (.pv (.ints .u8 b false))))), (12, (.av (.one (.pv (.int .i64 n))))), (13, (.av (.one (.pv (.int .i64 n2)))))], [], []⟩
def zeD (a b : List Int) (n : Int) : (Unit) ⊕ (Unit) → Ex × St
 | .inl _ => (.ret, ⟨[(4, (.av (.one (.pv (.bool false)))))], [], []⟩)
 | .inr _ => ((.exit 0), ⟨[], [], []⟩)
noncomputable def zcq (a b : List Int) (n : Int) : Int → Option ((Int) ⊕ ((Unit) ⊕ (Unit)))
 | n2 =>
 bif (decide ((n2 : Int) < n)) then
  bif decide ((0 : Int) ≤ n2) && decide ((n2 : Int) < ((a).length : Int)) then
  bif decide ((0 : Int) ≤ n2) && decide ((n2 : Int) < ((b).length : Int)) then
  bif (decide (((a.getD (n2).toNat 0) : Int) = (b.getD (n2).toNat 0))) then
   some (.inl (iadd .i64 n2 1))
  else
   some (.inr (.inl ()))
  else none
  else none
 else
  some (.inr (.inr ()))
theorem znW (a b : List Int) (n n2 : Int) (z_ : (Int) ⊕ ((Unit) ⊕ (Unit))) (h : zcq a b n n2 = some z_) : zaP Tryz.prog cfg 30 0 (zax Tryz.prog 30 0) (zhb a b n) (zeD a b n) n2 z_ := by
 rcases zaj h with ⟨h1, h⟩ | ⟨h1, h⟩
 ·obtain ⟨h2, h⟩ := zaq h
  obtain ⟨h3, h⟩ := zaq h
  rcases zaj h with ⟨h4, h⟩ | ⟨h4, h⟩
  ·have h := zad h
   subst h
   have t_ := tT h1 <| tO h2 <| tO h3 <| tF (zan h4) <| tN
   exact ⟨t_.ev, zhb a b n (iadd .i64 n2 1), .k0 t_.pf (by kernel_rfl), .same (by kernel_rfl)⟩
  ·have h := zad h
   subst h
   have t_ := tT h1 <| tO h2 <| tO h3 <| tT (za7 h4) <| tN
   exact ⟨t_.ev, (zeD a b n (.inl ())).2, .k0 t_.pf (by kernel_rfl), .same (by kernel_rfl)⟩
 ·have h := zad h
  subst h
  have t_ := tF h1 <| tN
  exact ⟨t_.ev, ⟨[(14, (.av (.one (.pv (.bool false))))), (0, (.av (.one (.pv (.ints .u8 a false))))), (1, (.av (.one (.pv (.ints .u8 b false))))), (12, (.av (.one (.pv (.int .i64 n))))), (13, (.av (.one (.pv (.int .i64 n2))))), (14, (.av (.one (.pv (.bool (decide ((n2 : Int) < n)))))))], [], []⟩, .k0 t_.pf (by kernel_rfl), ⟨trivial, trivial, trivial⟩⟩
theorem zid (a b : List Int) (n s_ : Int) (r_ : (Unit) ⊕ (Unit)) (h : runL (zcq a b n) s_ = some r_) : zaT Tryz.prog (lEnv Tryz.prog cfg 30 0).nt 0 (.loop (zax Tryz.prog 30 0)) (zhb a b n s_) (zeD a b n r_).1 (zeD a b n r_).2 :=
 zaJ h (znW a b n) (by intro r_; rcases r_ with _ | _ <;> simp [zeD])
noncomputable def zjE (a b : List Int) : Option (Bool) :=
 bif (decide ((((a).length : Int) : Int) = ((b).length : Int))) then
  (runL (zcq a b ((a).length : Int)) 0).bind fun z_ => match z_ with
  | .inl _ =>
   some false
  | .inr _ =>
   some true
 else
  some false
theorem zo6 (a b : List Int) (r_ : Bool) (h : zjE a b = some r_) : Runs Tryz.prog 30 [(.one (.pv (.ints .u8 a false))), (.one (.pv (.ints .u8 b false)))] [] [] (zqb a b r_) := by
 unfold zjE at h
 rcases zaj h with ⟨h1, h⟩ | ⟨h1, h⟩
 ·obtain ⟨z_, h2, h⟩ := zaf h
  rcases z_ with _ | _
  ·have h := zad h
   subst h
   have t_ := tF (zan h1) <| tL (zid a b ((a).length : Int) _ _ h2) <| tN
   exact zah (C := cfg) (sc := t_.ev) (.k0 t_.pf (by kernel_rfl))
  ·have h := zad h
   subst h
   have t_ := tF (zan h1) <| tL (zid a b ((a).length : Int) _ _ h2) <| tN
   exact zah (C := cfg) (sc := t_.ev) (.k0 t_.pf (by kernel_rfl))
 ·have h := zad h
  subst h
  have t_ := tT (za7 h1) <| tN
  exact zah (C := cfg) (sc := t_.ev) (.k0 t_.pf (by kernel_rfl))
noncomputable def zgz (N : Nat) (p : List Int) : Option (Bool) :=
 (zib).bind fun b =>
 bif b then
  bif decide ((0 : Int) ≤ 0) && decide ((0 : Int) ≤ (if (100 : Int) < ((p).length : Int) then 100 else ((p).length : Int))) && decide (((if (100 : Int) < ((p).length : Int) then 100 else ((p).length : Int)) : Int) ≤ ((p).length : Int)) && decide (((if (100 : Int) < ((p).length : Int) then 100 else ((p).length : Int)) : Int) = (if (100 : Int) < ((p).length : Int) then 100 else ((p).length : Int))) then
  (zdS (List.take ((if (100 : Int) < ((p).length : Int) then 100 else ((p).length : Int)) - 0).toNat p)).bind fun _ =>
  (zg2 N (List.take ((if (100 : Int) < ((p).length : Int) then 100 else ((p).length : Int)) - 0).toNat p)).bind fun z_ => match z_ with
  | .inl (n, n2, r, m_, m_2) =>
   (zgD N (List.take ((if (100 : Int) < ((p).length : Int) then 100 else ((p).length : Int)) - 0).toNat p)).bind fun z_ => match z_ with
   | .inl (n3, n4, r2, l_, r3) =>
    (zdl N n n2 r m_ m_2).bind fun l_2 =>
    (zjE l_2 (List.take ((if (100 : Int) < ((p).length : Int) then 100 else ((p).length : Int)) - 0).toNat p)).bind fun b2 =>
    some b2
   | .inr n3 =>
    bif (decide ((0 : Int) = n3)) then
     none
    else
     none
  | .inr n =>
   (zgD N (List.take ((if (100 : Int) < ((p).length : Int) then 100 else ((p).length : Int)) - 0).toNat p)).bind fun z_ => match z_ with
   | .inl (n2, n3, r, l_, r2) =>
    bif (decide ((n : Int) = 0)) then
     none
    else
     none
   | .inr n2 =>
    bif (decide ((n : Int) = n2)) then
     some true
    else
     none
  else none
 else
  none
theorem zl6 (N : Nat) (p : List Int) (r_ : Bool) (h : zgz N p = some r_) : Runs Tryz.prog 5 [(.one (.pv (.ints .u8 p false)))] [] [] (zmU p r_) := by
 unfold zgz at h
 obtain ⟨b, h1, h⟩ := zaf h
 rcases zaj h with ⟨h2, h⟩ | ⟨h2, h⟩
 ·obtain ⟨h3, h⟩ := zaq h
  obtain ⟨_, h4, h⟩ := zaf h
  have q_4 := (zji (List.take ((if (100 : Int) < ((p).length : Int) then 100 else ((p).length : Int)) - 0).toNat p) _ h4)
  obtain ⟨z_, h5, h⟩ := zaf h
  rcases z_ with ⟨n, n2, r, m_, m_2⟩ | n
  ·have q_5 := (Runs.coe (as' := [(.one (.pv (.ints .u8 (List.take ((List.take ((if (100 : Int) < ((p).length : Int) then 100 else ((p).length : Int)) - 0).toNat p)).length (List.take ((if (100 : Int) < ((p).length : Int) then 100 else ((p).length : Int)) - 0).toNat p)) false)))]) (objs' := []) (rows' := []) (zkq N (List.take ((if (100 : Int) < ((p).length : Int) then 100 else ((p).length : Int)) - 0).toNat p) _ h5) ⟨.pv (.ints (by first | rfl | (simp only [List.take_length]; done) | (simp; done) | (simp only [List.map_take, List.map_drop, List.map_append, List.take_length, List.nil_append]; done) | (simp only [List.length_map, List.take_length, List.length_append, List.drop_zero, List.map_append, List.map_take, List.map_drop, List.map_replicate, List.map_cons, List.map_nil, List.append_nil, List.nil_append]; done))), trivial⟩ trivial trivial)
   obtain ⟨z_, h6, h⟩ := zaf h
   rcases z_ with ⟨n3, n4, r2, l_, r3⟩ | n3
   ·obtain ⟨l_2, h7, h⟩ := zaf h
    obtain ⟨b2, h8, h⟩ := zaf h
    have h := zad h
    subst h
    have t_ := tR (zjC _ h1) <| tF (zan h2) <| tO h3 <| tR q_4 <| tR q_5 <| tR (Runs.coe (as' := [(.one (.pv (.ints .u8 (List.take ((List.take ((if (100 : Int) < ((p).length : Int) then 100 else ((p).length : Int)) - 0).toNat p)).length (List.take ((if (100 : Int) < ((p).length : Int) then 100 else ((p).length : Int)) - 0).toNat p)) false)))]) (objs' := []) (rows' := []) (zgn N (List.take ((if (100 : Int) < ((p).length : Int) then 100 else ((p).length : Int)) - 0).toNat p) _ h6) ⟨.pv (.ints (by first | rfl | (simp only [List.take_length]; done) | (simp; done) | (simp only [List.map_take, List.map_drop, List.map_append, List.take_length, List.nil_append]; done) | (simp only [List.length_map, List.take_length, List.length_append, List.drop_zero, List.map_append, List.map_take, List.map_drop, List.map_replicate, List.map_cons, List.map_nil, List.append_nil, List.nil_append]; done))), trivial⟩ trivial trivial) <| tT (rfl : true = true) <| tT (rfl : true = true) <| tF (rfl : false = false) <| tR (zjt N n n2 r m_ m_2 _ h7) <| tR (Runs.coe (as' := [(.one (.pv (.ints .u8 (List.take (l_2).length l_2) false))), (.one (.pv (.ints .u8 (List.take ((List.take ((if (100 : Int) < ((p).length : Int) then 100 else ((p).length : Int)) - 0).toNat p)).length (List.take ((if (100 : Int) < ((p).length : Int) then 100 else ((p).length : Int)) - 0).toNat p)) false)))]) (objs' := []) (rows' := []) (zo6 l_2 (List.take ((if (100 : Int) < ((p).length : Int) then 100 else ((p).length : Int)) - 0).toNat p) _ h8) ⟨.pv (.ints (by first | rfl | (simp only [List.take_length]; done) | (simp; done) | (simp only [List.map_take, List.map_drop, List.map_append, List.take_length, List.nil_append]; done) | (simp only [List.length_map, List.take_length, List.length_append, List.drop_zero, List.map_append, List.map_take, List.map_drop, List.map_replicate, List.map_cons, List.map_nil, List.append_nil, List.nil_append]; done))), .pv (.ints (by first | rfl | (simp only [List.take_length]; done) | (simp; done) | (simp only [List.map_take, List.map_drop, List.map_append, List.take_length, List.nil_append]; done) | (simp only [List.length_map, List.take_length, List.length_append, List.drop_zero, List.map_append, List.map_take, List.map_drop, List.map_replicate, List.map_cons, List.map_nil, List.append_nil, List.nil_append]; done))), trivial⟩ trivial trivial) <| tN
    exact zah (C := cfg) (sc := t_.ev) (.k0 t_.pf (by kernel_rfl))
   ·have q_6 := (Runs.coe (as' := [(.one (.pv (.ints .u8 (List.take ((List.take ((if (100 : Int) < ((p).length : Int) then 100 else ((p).length : Int)) - 0).toNat p)).length (List.take ((if (100 : Int) < ((p).length : Int) then 100 else ((p).length : Int)) - 0).toNat p)) false)))]) (objs' := []) (rows' := []) (zgn N (List.take ((if (100 : Int) < ((p).length : Int) then 100 else ((p).length : Int)) - 0).toNat p) _ h6) ⟨.pv (.ints (by first | rfl | (simp only [List.take_length]; done) | (simp; done) | (simp only [List.map_take, List.map_drop, List.map_append, List.take_length, List.nil_append]; done) | (simp only [List.length_map, List.take_length, List.length_append, List.drop_zero, List.map_append, List.map_take, List.map_drop, List.map_replicate, List.map_cons, List.map_nil, List.append_nil, List.nil_append]; done))), trivial⟩ trivial trivial)
    rcases zaj h with ⟨h7, h⟩ | ⟨h7, h⟩
    ·cases h
    ·cases h
  ·have q_5 := (Runs.coe (as' := [(.one (.pv (.ints .u8 (List.take ((List.take ((if (100 : Int) < ((p).length : Int) then 100 else ((p).length : Int)) - 0).toNat p)).length (List.take ((if (100 : Int) < ((p).length : Int) then 100 else ((p).length : Int)) - 0).toNat p)) false)))]) (objs' := []) (rows' := []) (zkq N (List.take ((if (100 : Int) < ((p).length : Int) then 100 else ((p).length : Int)) - 0).toNat p) _ h5) ⟨.pv (.ints (by first | rfl | (simp only [List.take_length]; done) | (simp; done) | (simp only [List.map_take, List.map_drop, List.map_append, List.take_length, List.nil_append]; done) | (simp only [List.length_map, List.take_length, List.length_append, List.drop_zero, List.map_append, List.map_take, List.map_drop, List.map_replicate, List.map_cons, List.map_nil, List.append_nil, List.nil_append]; done))), trivial⟩ trivial trivial)
   obtain ⟨z_, h6, h⟩ := zaf h
   rcases z_ with ⟨n2, n3, r, l_, r2⟩ | n2
   ·have q_6 := (Runs.coe (as' := [(.one (.pv (.ints .u8 (List.take ((List.take ((if (100 : Int) < ((p).length : Int) then 100 else ((p).length : Int)) - 0).toNat p)).length (List.take ((if (100 : Int) < ((p).length : Int) then 100 else ((p).length : Int)) - 0).toNat p)) false)))]) (objs' := []) (rows' := []) (zgn N (List.take ((if (100 : Int) < ((p).length : Int) then 100 else ((p).length : Int)) - 0).toNat p) _ h6) ⟨.pv (.ints (by first | rfl | (simp only [List.take_length]; done) | (simp; done) | (simp only [List.map_take, List.map_drop, List.map_append, List.take_length, List.nil_append]; done) | (simp only [List.length_map, List.take_length, List.length_append, List.drop_zero, List.map_append, List.map_take, List.map_drop, List.map_replicate, List.map_cons, List.map_nil, List.append_nil, List.nil_append]; done))), trivial⟩ trivial trivial)
    rcases zaj h with ⟨h7, h⟩ | ⟨h7, h⟩
    ·cases h
    ·cases h
   ·have q_6 := (Runs.coe (as' := [(.one (.pv (.ints .u8 (List.take ((List.take ((if (100 : Int) < ((p).length : Int) then 100 else ((p).length : Int)) - 0).toNat p)).length (List.take ((if (100 : Int) < ((p).length : Int) then 100 else ((p).length : Int)) - 0).toNat p)) false)))]) (objs' := []) (rows' := []) (zgn N (List.take ((if (100 : Int) < ((p).length : Int) then 100 else ((p).length : Int)) - 0).toNat p) _ h6) ⟨.pv (.ints (by first | rfl | (simp only [List.take_length]; done) | (simp; done) | (simp only [List.map_take, List.map_drop, List.map_append, List.take_length, List.nil_append]; done) | (simp only [List.length_map, List.take_length, List.length_append, List.drop_zero, List.map_append, List.map_take, List.map_drop, List.map_replicate, List.map_cons, List.map_nil, List.append_nil, List.nil_append]; done))), trivial⟩ trivial trivial)
    rcases zaj h with ⟨h7, h⟩ | ⟨h7, h⟩
    ·have h := zad h
     subst h
     have t_ := tR (zjC _ h1) <| tF (zan h2) <| tO h3 <| tR q_4 <| tR q_5 <| tR q_6 <| tT h7 <| tT (rfl : true = true) <| tT (rfl : true = true) <| tN
     exact zah (C := cfg) (sc := t_.ev) (.k0 t_.pf (by kernel_rfl))
    ·cases h
 ·cases h
end Go.Proofs.YtjjcmgdgifcmgaaGreat
