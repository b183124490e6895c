/- What functions compute, and that they do. -/
import Derived.Test.YtgimaogkhblaiaaA3
set_option linter.unusedVariables false
set_option linter.unusedSimpArgs false
set_option maxRecDepth 100000
namespace Go.Proofs.Ytgimaogkhblaiaa
open Go.Ev

/-! ### kinfolklaw11_DiskTorn -/
noncomputable def kinfolklaw11_DiskTorn (l : List E_L_uint8) (k : Int) (torn : Int) : Option (Bool) :=
  (kinfolklaw11_awake).bind fun b =>
  bif b then
    bif decide ((0 : Int) ≤ 0) && decide ((0 : Int) ≤ (if (20 : Int) < (((List.map E_L_uint8.pv l)).length : Int) then 20 else (((List.map E_L_uint8.pv l)).length : Int))) && decide (((if (20 : Int) < (((List.map E_L_uint8.pv l)).length : Int) then 20 else (((List.map E_L_uint8.pv l)).length : Int)) : Int) ≤ (((List.map E_L_uint8.pv l)).length : Int)) && decide (((if (20 : Int) < (((List.map E_L_uint8.pv l)).length : Int) then 20 else (((List.map E_L_uint8.pv l)).length : Int)) : Int) = (if (20 : Int) < (((List.map E_L_uint8.pv l)).length : Int) then 20 else (((List.map E_L_uint8.pv l)).length : Int))) then
    (disk_New 5000).bind fun n =>
    (disk_Disk_Arm (iadd .i64 1 (IntKind.i64.wrap (irem .u8 k 20))) torn n false false 0 0 []).bind fun n2 =>
    (runL (kinfolklaw11_DiskTorn_L0_2_step (List.take ((if (20 : Int) < (((List.map E_L_uint8.pv l)).length : Int) then 20 else (((List.map E_L_uint8.pv l)).length : Int)) - 0).toNat l) torn (iadd .i64 1 (IntKind.i64.wrap (irem .u8 k 20))) (List.take ((if (20 : Int) < (((List.map E_L_uint8.pv l)).length : Int) then 20 else (((List.map E_L_uint8.pv l)).length : Int)) - 0).toNat l) (((List.take ((if (20 : Int) < (((List.map E_L_uint8.pv l)).length : Int) then 20 else (((List.map E_L_uint8.pv l)).length : Int)) - 0).toNat (List.map E_L_uint8.pv l))).length : Int) n torn) (0, false, n2, [], [])).bind fun z_ => match z_ with
    | .inl _ =>
      some false
    | .inr (b2, n3, m_, l_) =>
      (disk_Disk_Read 7 n false b2 n3 torn m_).bind fun (l_2, b3) =>
      (bytes_Equal l_2 l_).bind fun b4 =>
      bif b4 then
        (disk_Disk_Up n false b2 n3 torn m_).bind fun b5 =>
        bif (b5 == (decide (((((List.map E_L_uint8.pv (List.take ((if (20 : Int) < (((List.map E_L_uint8.pv l)).length : Int) then 20 else (((List.map E_L_uint8.pv l)).length : Int)) - 0).toNat l))).length : Int) : Int) < (iadd .i64 1 (IntKind.i64.wrap (irem .u8 k 20)))))) then
          (disk_Disk_On_2 n false b2 n3 torn m_).bind fun _ =>
          (disk_Disk_Append 7 [1] n false false 0 torn m_).bind fun (n4, b6, n5, m_2) =>
          bif (decide ((n4 : Int) = 0)) then
            (disk_Disk_Armed_2 n false b6 n5 torn m_2).bind fun _ =>
            bif (decide ((n5 : Int) = 0)) then
              (disk_Disk_Used n false b6 n5 torn m_2).bind fun n6 =>
              some (decide ((n6 : Int) = (iadd .i64 (((List.take (l_).length l_)).length : Int) 1)))
            else
              some false
          else
            some false
        else
          some false
      else
        some false
    else none
  else
    some false
theorem kinfolklaw11_DiskTorn_runs (l : List E_L_uint8) (k : Int) (torn : Int) (r_ : Bool) (h : kinfolklaw11_DiskTorn l k torn = some r_) : Runs Try.prog 3 [(.one (.pv (.recs 1 (List.map E_L_uint8.pv l) false))), (.one (.pv (.int .u8 k))), (.one (.pv (.int .i64 torn)))] [] [] (kinfolklaw11_DiskTorn_out l k torn r_) := by
  unfold kinfolklaw11_DiskTorn at h
  obtain ⟨b, h1, h⟩ := bind_of h
  rcases cond_of h with ⟨h2, h⟩ | ⟨h2, h⟩
  · obtain ⟨h3, h⟩ := need_of h
    obtain ⟨n, h4, h⟩ := bind_of h
    obtain ⟨n2, h5, h⟩ := bind_of h
    have q_5 := (disk_Disk_Arm_runs (iadd .i64 1 (IntKind.i64.wrap (irem .u8 k 20))) torn n false false 0 0 [] _ h5)
    obtain ⟨z_, h6, h⟩ := bind_of h
    rcases z_ with _ | ⟨b2, n3, m_, l_⟩
    · have h := some_of h
      subst h
      have t_ := tR (kinfolklaw11_awake_runs _ h1) <| tF (not_of2 h2) <| tO h3 <| tR (disk_New_runs 5000 _ h4) <| tO (rfl : true = true) <| tR q_5 <| tL (LRuns.coe (s0 := ⟨[(0, (.av (.one (.pv (.recs 1 (List.take ((if (20 : Int) < (((List.map E_L_uint8.pv l)).length : Int) then 20 else (((List.map E_L_uint8.pv l)).length : Int)) - 0).toNat (List.map E_L_uint8.pv l)) false))))), (2, (.av (.one (.pv (.int .i64 torn))))), (7, (.av (.one (.ref 0 0)))), (8, (.av (.one (.pv (.int .i64 (iadd .i64 1 (IntKind.i64.wrap (irem .u8 k 20)))))))), (9, (.av (.one (.own 0 0 0 false)))), (31, (.av (.one (.pv (.recs 1 (List.take ((if (20 : Int) < (((List.map E_L_uint8.pv l)).length : Int) then 20 else (((List.map E_L_uint8.pv l)).length : Int)) - 0).toNat (List.map E_L_uint8.pv l)) false))))), (32, (.av (.one (.pv (.int .i64 (((List.take ((if (20 : Int) < (((List.map E_L_uint8.pv l)).length : Int) then 20 else (((List.map E_L_uint8.pv l)).length : Int)) - 0).toNat (List.map E_L_uint8.pv l))).length : Int)))))), (33, (.av (.one (.pv (.int .i64 0)))))], [(0, [(.mp 1), (.pv (.int .i64 n)), (.pv (.bool false)), (.pv (.bool false)), (.pv (.int .i64 n2)), (.pv (.int .i64 torn))]), (1, [(.maph (.int .u64) false (List.map M_uint64_uint8.pv []) [])])], [(0, (.live (.ints .u8 [])))]⟩) (kinfolklaw11_DiskTorn_L0_2_runs (List.take ((if (20 : Int) < (((List.map E_L_uint8.pv l)).length : Int) then 20 else (((List.map E_L_uint8.pv l)).length : Int)) - 0).toNat l) torn (iadd .i64 1 (IntKind.i64.wrap (irem .u8 k 20))) (List.take ((if (20 : Int) < (((List.map E_L_uint8.pv l)).length : Int) then 20 else (((List.map E_L_uint8.pv l)).length : Int)) - 0).toNat l) (((List.take ((if (20 : Int) < (((List.map E_L_uint8.pv l)).length : Int) then 20 else (((List.map E_L_uint8.pv l)).length : Int)) - 0).toNat (List.map E_L_uint8.pv l))).length : Int) n torn _ _ h6) ⟨⟨⟨_, rfl, .pv (.recsT (.eq (by first | rfl | (simp only [List.take_length]; done) | (simp only [List.take_length, List.length_map, List.length_append, List.drop_zero, List.map_append, List.map_take, List.map_drop, List.map_replicate, List.map_cons, List.map_nil, List.append_nil, List.nil_append, E_L_uint8.pv, E_L_uint8.upd]; done) | (simp; done))))⟩, ⟨_, rfl, .eq rfl⟩, ⟨_, rfl, .eq rfl⟩, ⟨_, rfl, .eq rfl⟩, ⟨_, rfl, .own (by first | rfl | (simp only [List.take_length]; done) | (simp only [List.take_length, List.length_map, List.length_append, List.drop_zero, List.map_append, List.map_take, List.map_drop, List.map_replicate, List.map_cons, List.map_nil, List.append_nil, List.nil_append, E_L_uint8.pv, E_L_uint8.upd]; done) | (simp; done))⟩, ⟨_, rfl, .pv (.recsT (.eq (by first | rfl | (simp only [List.take_length]; done) | (simp only [List.take_length, List.length_map, List.length_append, List.drop_zero, List.map_append, List.map_take, List.map_drop, List.map_replicate, List.map_cons, List.map_nil, List.append_nil, List.nil_append, E_L_uint8.pv, E_L_uint8.upd]; done) | (simp; done))))⟩, ⟨_, rfl, .eq rfl⟩, ⟨_, rfl, .eq rfl⟩, trivial⟩, ⟨⟨rfl, ⟨.eq rfl, .eq rfl, .eq rfl, .eq rfl, .eq rfl, .eq rfl, trivial⟩⟩, ⟨rfl, ⟨.eq rfl, trivial⟩⟩, trivial⟩, ⟨⟨rfl, .eq rfl⟩, trivial⟩⟩) <| tN
      exact runs_of (C := cfg) (objs := []) (sc := t_.ev) (.k0 t_.pf (by kernel_rfl))
    · have q_6 := (LRuns.coe (s0 := ⟨[(0, (.av (.one (.pv (.recs 1 (List.take ((if (20 : Int) < (((List.map E_L_uint8.pv l)).length : Int) then 20 else (((List.map E_L_uint8.pv l)).length : Int)) - 0).toNat (List.map E_L_uint8.pv l)) false))))), (2, (.av (.one (.pv (.int .i64 torn))))), (7, (.av (.one (.ref 0 0)))), (8, (.av (.one (.pv (.int .i64 (iadd .i64 1 (IntKind.i64.wrap (irem .u8 k 20)))))))), (9, (.av (.one (.own 0 0 0 false)))), (31, (.av (.one (.pv (.recs 1 (List.take ((if (20 : Int) < (((List.map E_L_uint8.pv l)).length : Int) then 20 else (((List.map E_L_uint8.pv l)).length : Int)) - 0).toNat (List.map E_L_uint8.pv l)) false))))), (32, (.av (.one (.pv (.int .i64 (((List.take ((if (20 : Int) < (((List.map E_L_uint8.pv l)).length : Int) then 20 else (((List.map E_L_uint8.pv l)).length : Int)) - 0).toNat (List.map E_L_uint8.pv l))).length : Int)))))), (33, (.av (.one (.pv (.int .i64 0)))))], [(0, [(.mp 1), (.pv (.int .i64 n)), (.pv (.bool false)), (.pv (.bool false)), (.pv (.int .i64 n2)), (.pv (.int .i64 torn))]), (1, [(.maph (.int .u64) false (List.map M_uint64_uint8.pv []) [])])], [(0, (.live (.ints .u8 [])))]⟩) (kinfolklaw11_DiskTorn_L0_2_runs (List.take ((if (20 : Int) < (((List.map E_L_uint8.pv l)).length : Int) then 20 else (((List.map E_L_uint8.pv l)).length : Int)) - 0).toNat l) torn (iadd .i64 1 (IntKind.i64.wrap (irem .u8 k 20))) (List.take ((if (20 : Int) < (((List.map E_L_uint8.pv l)).length : Int) then 20 else (((List.map E_L_uint8.pv l)).length : Int)) - 0).toNat l) (((List.take ((if (20 : Int) < (((List.map E_L_uint8.pv l)).length : Int) then 20 else (((List.map E_L_uint8.pv l)).length : Int)) - 0).toNat (List.map E_L_uint8.pv l))).length : Int) n torn _ _ h6) ⟨⟨⟨_, rfl, .pv (.recsT (.eq (by first | rfl | (simp only [List.take_length]; done) | (simp only [List.take_length, List.length_map, List.length_append, List.drop_zero, List.map_append, List.map_take, List.map_drop, List.map_replicate, List.map_cons, List.map_nil, List.append_nil, List.nil_append, E_L_uint8.pv, E_L_uint8.upd]; done) | (simp; done))))⟩, ⟨_, rfl, .eq rfl⟩, ⟨_, rfl, .eq rfl⟩, ⟨_, rfl, .eq rfl⟩, ⟨_, rfl, .own (by first | rfl | (simp only [List.take_length]; done) | (simp only [List.take_length, List.length_map, List.length_append, List.drop_zero, List.map_append, List.map_take, List.map_drop, List.map_replicate, List.map_cons, List.map_nil, List.append_nil, List.nil_append, E_L_uint8.pv, E_L_uint8.upd]; done) | (simp; done))⟩, ⟨_, rfl, .pv (.recsT (.eq (by first | rfl | (simp only [List.take_length]; done) | (simp only [List.take_length, List.length_map, List.length_append, List.drop_zero, List.map_append, List.map_take, List.map_drop, List.map_replicate, List.map_cons, List.map_nil, List.append_nil, List.nil_append, E_L_uint8.pv, E_L_uint8.upd]; done) | (simp; done))))⟩, ⟨_, rfl, .eq rfl⟩, ⟨_, rfl, .eq rfl⟩, trivial⟩, ⟨⟨rfl, ⟨.eq rfl, .eq rfl, .eq rfl, .eq rfl, .eq rfl, .eq rfl, trivial⟩⟩, ⟨rfl, ⟨.eq rfl, trivial⟩⟩, trivial⟩, ⟨⟨rfl, .eq rfl⟩, trivial⟩⟩)
      obtain ⟨⟨l_2, b3⟩, h7, h⟩ := bind_of h
      have q_7 := (disk_Disk_Read_runs 7 n false b2 n3 torn m_ _ h7)
      obtain ⟨b4, h8, h⟩ := bind_of h
      have q_8 := (Runs.coe (as' := [(.one (.pv (.ints .u8 l_2 false))), (.one (.pv (.ints .u8 (List.take (l_).length l_) false)))]) (objs' := []) (rows' := []) (bytes_Equal_runs l_2 l_ _ h8) ⟨.eq rfl, .pv (.ints (by first | rfl | (simp only [List.take_length]; done) | (simp only [List.take_length, List.length_map, List.length_append, List.drop_zero, List.map_append, List.map_take, List.map_drop, List.map_replicate, List.map_cons, List.map_nil, List.append_nil, List.nil_append, E_L_uint8.pv, E_L_uint8.upd]; done) | (simp; done))), trivial⟩ trivial trivial)
      rcases cond_of h with ⟨h9, h⟩ | ⟨h9, h⟩
      · obtain ⟨b5, h10, h⟩ := bind_of h
        rcases cond_of h with ⟨h11, h⟩ | ⟨h11, h⟩
        · obtain ⟨_, h12, h⟩ := bind_of h
          have q_12 := (disk_Disk_On_2_runs n false b2 n3 torn m_ _ h12)
          obtain ⟨⟨n4, b6, n5, m_2⟩, h13, h⟩ := bind_of h
          have q_13 := (Runs.coe (as' := [(.one (.ref 0 0)), (.one (.pv (.int .u64 7))), (.one (.pv (.ints .u8 [1] true)))]) (objs' := [[(.mp 1), (.pv (.int .i64 n)), (.pv (.bool false)), (.pv (.bool false)), (.pv (.int .i64 0)), (.pv (.int .i64 torn))], [(.maph (.int .u64) false (List.map M_uint64_uint8.pv m_) [])]]) (rows' := []) (disk_Disk_Append_runs 7 [1] n false false 0 torn m_ _ h13) ⟨.eq rfl, .eq rfl, .pv (.ints rfl), trivial⟩ ⟨⟨.eq rfl, .eq rfl, .eq rfl, .eq rfl, .eq rfl, .eq rfl, trivial⟩, ⟨.eq rfl, trivial⟩, trivial⟩ trivial)
          rcases cond_of h with ⟨h14, h⟩ | ⟨h14, h⟩
          · obtain ⟨_, h15, h⟩ := bind_of h
            have q_15 := (disk_Disk_Armed_2_runs n false b6 n5 torn m_2 _ h15)
            rcases cond_of h with ⟨h16, h⟩ | ⟨h16, h⟩
            · obtain ⟨n6, h17, h⟩ := bind_of h
              have h := some_of h
              subst h
              have t_ := tR (kinfolklaw11_awake_runs _ h1) <| tF (not_of2 h2) <| tO h3 <| tR (disk_New_runs 5000 _ h4) <| tO (rfl : true = true) <| tR q_5 <| tL q_6 <| tR q_7 <| tR q_8 <| tF (not_of2 h9) <| tR (disk_Disk_Up_runs n false b2 n3 torn m_ _ h10) <| tF (not_of2 h11) <| tR q_12 <| tR q_13 <| tT h14 <| tR q_15 <| tT h16 <| tR (disk_Disk_Used_runs n false b6 n5 torn m_2 _ h17) <| tN
              exact runs_of (C := cfg) (objs := []) (sc := t_.ev) (.k0 t_.pf (by kernel_rfl))
            · have h := some_of h
              subst h
              have t_ := tR (kinfolklaw11_awake_runs _ h1) <| tF (not_of2 h2) <| tO h3 <| tR (disk_New_runs 5000 _ h4) <| tO (rfl : true = true) <| tR q_5 <| tL q_6 <| tR q_7 <| tR q_8 <| tF (not_of2 h9) <| tR (disk_Disk_Up_runs n false b2 n3 torn m_ _ h10) <| tF (not_of2 h11) <| tR q_12 <| tR q_13 <| tT h14 <| tR q_15 <| tF h16 <| tN
              exact runs_of (C := cfg) (objs := []) (sc := t_.ev) (.k0 t_.pf (by kernel_rfl))
          · have h := some_of h
            subst h
            have t_ := tR (kinfolklaw11_awake_runs _ h1) <| tF (not_of2 h2) <| tO h3 <| tR (disk_New_runs 5000 _ h4) <| tO (rfl : true = true) <| tR q_5 <| tL q_6 <| tR q_7 <| tR q_8 <| tF (not_of2 h9) <| tR (disk_Disk_Up_runs n false b2 n3 torn m_ _ h10) <| tF (not_of2 h11) <| tR q_12 <| tR q_13 <| tF h14 <| tF (rfl : false = false) <| tN
            exact runs_of (C := cfg) (objs := []) (sc := t_.ev) (.k0 t_.pf (by kernel_rfl))
        · have h := some_of h
          subst h
          have t_ := tR (kinfolklaw11_awake_runs _ h1) <| tF (not_of2 h2) <| tO h3 <| tR (disk_New_runs 5000 _ h4) <| tO (rfl : true = true) <| tR q_5 <| tL q_6 <| tR q_7 <| tR q_8 <| tF (not_of2 h9) <| tR (disk_Disk_Up_runs n false b2 n3 torn m_ _ h10) <| tT (not_of h11) <| tN
          exact runs_of (C := cfg) (objs := []) (sc := t_.ev) (.k0 t_.pf (by kernel_rfl))
      · have h := some_of h
        subst h
        have t_ := tR (kinfolklaw11_awake_runs _ h1) <| tF (not_of2 h2) <| tO h3 <| tR (disk_New_runs 5000 _ h4) <| tO (rfl : true = true) <| tR q_5 <| tL q_6 <| tR q_7 <| tR q_8 <| tT (not_of h9) <| tT (rfl : true = true) <| tN
        exact runs_of (C := cfg) (objs := []) (sc := t_.ev) (.k0 t_.pf (by kernel_rfl))
  · have h := some_of h
    subst h
    have t_ := tR (kinfolklaw11_awake_runs _ h1) <| tT (not_of h2) <| tN
    exact runs_of (C := cfg) (objs := []) (sc := t_.ev) (.k0 t_.pf (by kernel_rfl))
/-! ### kinfolklaw11_DiskRoom_out -/
def kinfolklaw11_DiskRoom_out (room : Int) (acts : List E_kinfolklaw11_Act) : Bool → Res
  | r1 => ([(.one (.pv (.bool r1)))], [], [])
/-! ### disk_Disk_Drop_2_out -/
def disk_Disk_Drop_2_out (seg : Int) (n : Int) (b : Bool) (b2 : Bool) (n2 : Int) (n3 : Int) (m : List (Int × (List Int))) : Int × Bool × Int × List (Int × (List Int)) → Res
  | (r1, r2, r3, r4) => ([(.one (.pv (.int .i64 r1)))], [[(.mp 1), (.pv (.int .i64 n)), (.pv (.bool b)), (.pv (.bool r2)), (.pv (.int .i64 r3)), (.pv (.int .i64 n3))], [(.maph (.int .u64) false (List.map M_uint64_uint8.pv r4) [])]], [])
/-! ### disk_Disk_Drop_2 -/
noncomputable def disk_Disk_Drop_2 (seg : Int) (n : Int) (b : Bool) (b2 : Bool) (n2 : Int) (n3 : Int) (m : List (Int × (List Int))) : Option (Int × Bool × Int × List (Int × (List Int))) :=
  bif b2 then
    some (10, b2, n2, m)
  else
    match (mget seg m) with
    | .some l_ =>
      (disk_Disk_goes n b b2 n2 n3 m).bind fun (b3, b4, n4) =>
      bif b3 then
        bif (decide ((0 : Int) < n3)) then
          some (10, b4, n4, (mdel seg m))
        else
          some (10, b4, n4, m)
      else
        some (0, b4, n4, (mdel seg m))
    | .none =>
      some (2, b2, n2, m)
theorem disk_Disk_Drop_2_runs (seg : Int) (n : Int) (b : Bool) (b2 : Bool) (n2 : Int) (n3 : Int) (m : List (Int × (List Int))) (r_ : Int × Bool × Int × List (Int × (List Int))) (h : disk_Disk_Drop_2 seg n b b2 n2 n3 m = some r_) : Runs Try.prog 24 [(.one (.ref 0 0)), (.one (.pv (.int .u64 seg)))] [[(.mp 1), (.pv (.int .i64 n)), (.pv (.bool b)), (.pv (.bool b2)), (.pv (.int .i64 n2)), (.pv (.int .i64 n3))], [(.maph (.int .u64) false (List.map M_uint64_uint8.pv m) [])]] [] (disk_Disk_Drop_2_out seg n b b2 n2 n3 m r_) := by
  unfold disk_Disk_Drop_2 at h
  rcases cond_of h with ⟨h1, h⟩ | ⟨h1, h⟩
  · have h := some_of h
    subst h
    have t_ := tF (rfl : false = false) <| tT h1 <| tN
    exact runs_of (C := cfg) (objs := [[(.mp 1), (.pv (.int .i64 n)), (.pv (.bool b)), (.pv (.bool b2)), (.pv (.int .i64 n2)), (.pv (.int .i64 n3))], [(.maph (.int .u64) false (List.map M_uint64_uint8.pv m) [])]]) (sc := t_.ev) (.k0 t_.pf (by kernel_rfl))
  · cases h2 : (mget seg m) with
    | some l_ =>
      simp only [h2] at h
      obtain ⟨⟨b3, b4, n4⟩, h3, h⟩ := bind_of h
      rcases cond_of h with ⟨h4, h⟩ | ⟨h4, h⟩
      · rcases cond_of h with ⟨h5, h⟩ | ⟨h5, h⟩
        · have h := some_of h
          subst h
          have t_ := tF (rfl : false = false) <| tF h1 <| tT (show kget [(.int .u64 seg)] (List.map M_uint64_uint8.pv m) = some [(.ints .u8 l_ false)] from by first | (simp only [M_uint64_uint8.set, M_uint64_uint8.del, M_uint64_uint8.get, h2, Option.map_some, Option.map_none]; done) | (simp only [M_uint64_uint8.set, M_uint64_uint8.del, M_uint64_uint8.get, h2, Option.map_some, Option.map_none]; rfl) | (rw [← List.map_nil]; simp only [M_uint64_uint8.set, M_uint64_uint8.del, M_uint64_uint8.get, h2, Option.map_some, Option.map_none]; rfl)) <| tE (.el [(.ints .u8 l_ false)]) <| tF (rfl : false = false) <| tR (disk_Disk_goes_runs n b b2 n2 n3 m _ h3) <| tT h4 <| tT h5 <| tN
          have e_ : Runs Try.prog 24 [(.one (.ref 0 0)), (.one (.pv (.int .u64 seg)))] [[(.mp 1), (.pv (.int .i64 n)), (.pv (.bool b)), (.pv (.bool b2)), (.pv (.int .i64 n2)), (.pv (.int .i64 n3))], [(.maph (.int .u64) false (List.map M_uint64_uint8.pv m) [])]] [] ([(.one (.pv (.int .i64 10)))], [[(.mp 1), (.pv (.int .i64 n)), (.pv (.bool b)), (.pv (.bool b4)), (.pv (.int .i64 n4)), (.pv (.int .i64 n3))], [(.maph (.int .u64) false (kdel [(.int .u64 seg)] (List.map M_uint64_uint8.pv m)) [])]], []) := runs_of (C := cfg) (objs := [[(.mp 1), (.pv (.int .i64 n)), (.pv (.bool b)), (.pv (.bool b2)), (.pv (.int .i64 n2)), (.pv (.int .i64 n3))], [(.maph (.int .u64) false (List.map M_uint64_uint8.pv m) [])]]) (sc := t_.ev) (.k0 t_.pf (by kernel_rfl))
          exact e_.out ⟨.eq rfl, trivial⟩ ⟨⟨.eq rfl, .eq rfl, .eq rfl, .eq rfl, .eq rfl, .eq rfl, trivial⟩, ⟨.maph (WkEs.to (WkEs.del (WkEs.refl _)) (by first | rfl | (simp only [M_uint64_uint8.set, M_uint64_uint8.del]; done) | (simp only [M_uint64_uint8.set, M_uint64_uint8.del, kset, kdel]; rfl) | rfl | (simp only [M_uint64_uint8.set, M_uint64_uint8.del, List.take_length]; done))), trivial⟩, trivial⟩ trivial rfl
        · have h := some_of h
          subst h
          have t_ := tF (rfl : false = false) <| tF h1 <| tT (show kget [(.int .u64 seg)] (List.map M_uint64_uint8.pv m) = some [(.ints .u8 l_ false)] from by first | (simp only [M_uint64_uint8.set, M_uint64_uint8.del, M_uint64_uint8.get, h2, Option.map_some, Option.map_none]; done) | (simp only [M_uint64_uint8.set, M_uint64_uint8.del, M_uint64_uint8.get, h2, Option.map_some, Option.map_none]; rfl) | (rw [← List.map_nil]; simp only [M_uint64_uint8.set, M_uint64_uint8.del, M_uint64_uint8.get, h2, Option.map_some, Option.map_none]; rfl)) <| tE (.el [(.ints .u8 l_ false)]) <| tF (rfl : false = false) <| tR (disk_Disk_goes_runs n b b2 n2 n3 m _ h3) <| tT h4 <| tF h5 <| tN
          exact runs_of (C := cfg) (objs := [[(.mp 1), (.pv (.int .i64 n)), (.pv (.bool b)), (.pv (.bool b2)), (.pv (.int .i64 n2)), (.pv (.int .i64 n3))], [(.maph (.int .u64) false (List.map M_uint64_uint8.pv m) [])]]) (sc := t_.ev) (.k0 t_.pf (by kernel_rfl))
      · have h := some_of h
        subst h
        have t_ := tF (rfl : false = false) <| tF h1 <| tT (show kget [(.int .u64 seg)] (List.map M_uint64_uint8.pv m) = some [(.ints .u8 l_ false)] from by first | (simp only [M_uint64_uint8.set, M_uint64_uint8.del, M_uint64_uint8.get, h2, Option.map_some, Option.map_none]; done) | (simp only [M_uint64_uint8.set, M_uint64_uint8.del, M_uint64_uint8.get, h2, Option.map_some, Option.map_none]; rfl) | (rw [← List.map_nil]; simp only [M_uint64_uint8.set, M_uint64_uint8.del, M_uint64_uint8.get, h2, Option.map_some, Option.map_none]; rfl)) <| tE (.el [(.ints .u8 l_ false)]) <| tF (rfl : false = false) <| tR (disk_Disk_goes_runs n b b2 n2 n3 m _ h3) <| tF h4 <| tN
        have e_ : Runs Try.prog 24 [(.one (.ref 0 0)), (.one (.pv (.int .u64 seg)))] [[(.mp 1), (.pv (.int .i64 n)), (.pv (.bool b)), (.pv (.bool b2)), (.pv (.int .i64 n2)), (.pv (.int .i64 n3))], [(.maph (.int .u64) false (List.map M_uint64_uint8.pv m) [])]] [] ([(.one (.pv (.int .i64 0)))], [[(.mp 1), (.pv (.int .i64 n)), (.pv (.bool b)), (.pv (.bool b4)), (.pv (.int .i64 n4)), (.pv (.int .i64 n3))], [(.maph (.int .u64) false (kdel [(.int .u64 seg)] (List.map M_uint64_uint8.pv m)) [])]], []) := runs_of (C := cfg) (objs := [[(.mp 1), (.pv (.int .i64 n)), (.pv (.bool b)), (.pv (.bool b2)), (.pv (.int .i64 n2)), (.pv (.int .i64 n3))], [(.maph (.int .u64) false (List.map M_uint64_uint8.pv m) [])]]) (sc := t_.ev) (.k0 t_.pf (by kernel_rfl))
        exact e_.out ⟨.eq rfl, trivial⟩ ⟨⟨.eq rfl, .eq rfl, .eq rfl, .eq rfl, .eq rfl, .eq rfl, trivial⟩, ⟨.maph (WkEs.to (WkEs.del (WkEs.refl _)) (by first | rfl | (simp only [M_uint64_uint8.set, M_uint64_uint8.del]; done) | (simp only [M_uint64_uint8.set, M_uint64_uint8.del, kset, kdel]; rfl) | rfl | (simp only [M_uint64_uint8.set, M_uint64_uint8.del, List.take_length]; done))), trivial⟩, trivial⟩ trivial rfl
    | none =>
      simp only [h2] at h
      have h := some_of h
      subst h
      have t_ := tF (rfl : false = false) <| tF h1 <| tF (show kget [(.int .u64 seg)] (List.map M_uint64_uint8.pv m) = none from by first | (simp only [M_uint64_uint8.set, M_uint64_uint8.del, M_uint64_uint8.get, h2, Option.map_some, Option.map_none]; done) | (simp only [M_uint64_uint8.set, M_uint64_uint8.del, M_uint64_uint8.get, h2, Option.map_some, Option.map_none]; rfl) | (rw [← List.map_nil]; simp only [M_uint64_uint8.set, M_uint64_uint8.del, M_uint64_uint8.get, h2, Option.map_some, Option.map_none]; rfl)) <| tT (rfl : true = true) <| tN
      exact runs_of (C := cfg) (objs := [[(.mp 1), (.pv (.int .i64 n)), (.pv (.bool b)), (.pv (.bool b2)), (.pv (.int .i64 n2)), (.pv (.int .i64 n3))], [(.maph (.int .u64) false (List.map M_uint64_uint8.pv m) [])]]) (sc := t_.ev) (.k0 t_.pf (by kernel_rfl))
/-! ### kinfolklaw11_when_out -/
def kinfolklaw11_when_out (is_ : Bool) : Int → Res
  | r1 => ([(.one (.pv (.int .i64 r1)))], [], [])
/-! ### kinfolklaw11_when -/
noncomputable def kinfolklaw11_when (is_ : Bool) : Option (Int) :=
  bif is_ then
    some 1
  else
    some 0
theorem kinfolklaw11_when_runs (is_ : Bool) (r_ : Int) (h : kinfolklaw11_when is_ = some r_) : Runs Try.prog 25 [(.one (.pv (.bool is_)))] [] [] (kinfolklaw11_when_out is_ r_) := by
  unfold kinfolklaw11_when at h
  rcases cond_of h with ⟨h1, h⟩ | ⟨h1, h⟩
  · have h := some_of h
    subst h
    have t_ := tT h1 <| tN
    exact runs_of (C := cfg) (objs := []) (sc := t_.ev) (.k0 t_.pf (by kernel_rfl))
  · have h := some_of h
    subst h
    have t_ := tF h1 <| tN
    exact runs_of (C := cfg) (objs := []) (sc := t_.ev) (.k0 t_.pf (by kernel_rfl))
/-! ### kinfolklaw11_DiskRoom_L0 -/
def kinfolklaw11_DiskRoom_L0_st (n : Int) (r : List E_kinfolklaw11_Act) (n2 : Int) (n3 : Int) : Int × Bool × Int × List (Int × (List Int)) → St
  | (n4, b, n5, m) => ⟨[(5, (.av (.one (.pv (.int .i64 n))))), (6, (.av (.one (.ref 0 0)))), (21, (.av (.one (.pv (.recs 6 (List.map E_kinfolklaw11_Act.pv r) false))))), (22, (.av (.one (.pv (.int .i64 n2))))), (23, (.av (.one (.pv (.int .i64 n4)))))], [(0, [(.mp 1), (.pv (.int .i64 n3)), (.pv (.bool false)), (.pv (.bool b)), (.pv (.int .i64 n5)), (.pv (.int .i64 0))]), (1, [(.maph (.int .u64) false (List.map M_uint64_uint8.pv m) [])])], []⟩
def kinfolklaw11_DiskRoom_L0_ex (n : Int) (r : List E_kinfolklaw11_Act) (n2 : Int) (n3 : Int) : (Bool × Int × List (Int × (List Int)) × Int × Int × List Int × Int × Int × Bool) ⊕ ((Unit) ⊕ (Bool × Int × List (Int × (List Int)))) → Ex × St
  | .inl (r1, r2, r3, r4, r5, r6, r7, r8, r9) => ((.exit 0), ⟨[], [(0, [(.mp 1), (.pv (.int .i64 n3)), (.pv (.bool false)), (.pv (.bool r1)), (.pv (.int .i64 r2)), (.pv (.int .i64 0))]), (1, [(.maph (.int .u64) false (List.map M_uint64_uint8.pv r3) [])]), (2, [(.pv (.int .u8 r4)), (.pv (.int .u64 r5)), (.pv (.ints .u8 r6 false)), (.pv (.int .i64 r7)), (.pv (.int .i64 r8)), (.pv (.bool r9))])], []⟩)
  | .inr (.inl _) => (.ret, ⟨[(4, (.av (.one (.pv (.bool false)))))], [], []⟩)
  | .inr (.inr (r1, r2, r3)) => ((.exit 0), ⟨[], [(0, [(.mp 1), (.pv (.int .i64 n3)), (.pv (.bool false)), (.pv (.bool r1)), (.pv (.int .i64 r2)), (.pv (.int .i64 0))]), (1, [(.maph (.int .u64) false (List.map M_uint64_uint8.pv r3) [])])], []⟩)
noncomputable def kinfolklaw11_DiskRoom_L0_step (n : Int) (r : List E_kinfolklaw11_Act) (n2 : Int) (n3 : Int) : Int × Bool × Int × List (Int × (List Int)) → Option ((Int × Bool × Int × List (Int × (List Int))) ⊕ ((Bool × Int × List (Int × (List Int)) × Int × Int × List Int × Int × Int × Bool) ⊕ ((Unit) ⊕ (Bool × Int × List (Int × (List Int))))))
  | (n4, b, n5, m) =>
  bif (decide ((n4 : Int) < n2)) then
    bif decide ((0 : Int) ≤ n4) && decide ((n4 : Int) < (((List.map E_kinfolklaw11_Act.pv r)).length : Int)) then
    (r[(n4).toNat]?).bind fun e_ => match e_ with
    | .mk n6 n7 l_ n8 n9 b2 =>
    bif (decide ((40 : Int) ≤ n4)) then
      some (.inr (.inl (b, n5, m, n6, n7, l_, n8, n9, b2)))
    else
      (disk_Disk_Used n3 false b n5 0 m).bind fun n10 =>
      (kinfolklaw11_cut l_).bind fun l_2 =>
      (disk_Disk_Append (irem .u64 n7 4) l_2 n3 false b n5 0 m).bind fun (n11, b3, n12, m_) =>
      bif ((decide ((n11 : Int) = 0)) == (decide (((iadd .i64 n10 ((l_2).length : Int)) : Int) ≤ n))) then
        bif (decide ((n11 : Int) = 0)) then
          (disk_Disk_Used n3 false b3 n12 0 m_).bind fun n13 =>
          bif (decide ((n13 : Int) = (iadd .i64 n10 ((l_2).length : Int)))) then
            bif (decide ((n : Int) < n13)) then
              some (.inr (.inr (.inl ())))
            else
              bif b2 then
                (disk_Disk_Read (irem .u64 n7 4) n3 false b3 n12 0 m_).bind fun (l_3, b4) =>
                (disk_Disk_Drop_2 (irem .u64 n7 4) n3 false b3 n12 0 m_).bind fun (n14, b5, n15, m_2) =>
                bif ((decide ((n14 : Int) = 0)) == b4) then
                  (disk_Disk_Used n3 false b5 n15 0 m_2).bind fun n16 =>
                  (kinfolklaw11_when (decide ((n11 : Int) = 0))).bind fun n17 =>
                  bif (decide ((n16 : Int) = (isub .i64 (iadd .i64 n10 (imul .i64 ((l_2).length : Int) n17)) ((l_3).length : Int)))) then
                    some (.inl ((iadd .i64 n4 1), b5, n15, m_2))
                  else
                    some (.inr (.inr (.inl ())))
                else
                  some (.inr (.inr (.inl ())))
              else
                some (.inl ((iadd .i64 n4 1), b3, n12, m_))
          else
            some (.inr (.inr (.inl ())))
        else
          bif (decide ((n11 : Int) = 8)) then
            (disk_Disk_Used n3 false b3 n12 0 m_).bind fun n13 =>
            bif (decide ((n13 : Int) = n10)) then
              bif (decide ((n : Int) < n13)) then
                some (.inr (.inr (.inl ())))
              else
                bif b2 then
                  (disk_Disk_Read (irem .u64 n7 4) n3 false b3 n12 0 m_).bind fun (l_3, b4) =>
                  (disk_Disk_Drop_2 (irem .u64 n7 4) n3 false b3 n12 0 m_).bind fun (n14, b5, n15, m_2) =>
                  bif ((decide ((n14 : Int) = 0)) == b4) then
                    (disk_Disk_Used n3 false b5 n15 0 m_2).bind fun n16 =>
                    (kinfolklaw11_when (decide ((n11 : Int) = 0))).bind fun n17 =>
                    bif (decide ((n16 : Int) = (isub .i64 (iadd .i64 n10 (imul .i64 ((l_2).length : Int) n17)) ((l_3).length : Int)))) then
                      some (.inl ((iadd .i64 n4 1), b5, n15, m_2))
                    else
                      some (.inr (.inr (.inl ())))
                  else
                    some (.inr (.inr (.inl ())))
                else
                  some (.inl ((iadd .i64 n4 1), b3, n12, m_))
            else
              some (.inr (.inr (.inl ())))
          else
            some (.inr (.inr (.inl ())))
      else
        some (.inr (.inr (.inl ())))
    else none
  else
    some (.inr (.inr (.inr (b, n5, m))))
theorem kinfolklaw11_DiskRoom_L0_ok (n : Int) (r : List E_kinfolklaw11_Act) (n2 : Int) (n3 : Int) (s_ : Int × Bool × Int × List (Int × (List Int))) (z_ : (Int × Bool × Int × List (Int × (List Int))) ⊕ ((Bool × Int × List (Int × (List Int)) × Int × Int × List Int × Int × Int × Bool) ⊕ ((Unit) ⊕ (Bool × Int × List (Int × (List Int)))))) (h : kinfolklaw11_DiskRoom_L0_step n r n2 n3 s_ = some z_) : RoundOk Try.prog cfg 4 0 (loopAt Try.prog 4 0) (kinfolklaw11_DiskRoom_L0_st n r n2 n3) (kinfolklaw11_DiskRoom_L0_ex n r n2 n3) s_ z_ := by
  rcases s_ with ⟨n4, b, n5, m⟩
  rcases cond_of h with ⟨h1, h⟩ | ⟨h1, h⟩
  · obtain ⟨h2, h⟩ := need_of h
    obtain ⟨⟨n6, n7, l_, n8, n9, b2⟩, h3, h⟩ := bind_of h
    rcases cond_of h with ⟨h4, h⟩ | ⟨h4, h⟩
    · have h := some_of h
      subst h
      have t_ := tT h1 <| tO h2 <| tE (.el [(.int .u8 n6), (.int .u64 n7), (.ints .u8 l_ false), (.int .i64 n8), (.int .i64 n9), (.bool b2)]) <| tO (el_of (f := E_kinfolklaw11_Act.pv) h3) <| tT h4 <| tN
      exact ⟨t_.ev, ⟨[(29, (.av (.one (.pv (.bool true))))), (5, (.av (.one (.pv (.int .i64 n))))), (6, (.av (.one (.ref 0 0)))), (8, (.av (.one (.ref 2 0)))), (21, (.av (.one (.pv (.recs 6 (List.map E_kinfolklaw11_Act.pv r) false))))), (22, (.av (.one (.pv (.int .i64 n2))))), (23, (.av (.one (.pv (.int .i64 n4))))), (29, (.av (.one (.pv (.bool (decide ((40 : Int) ≤ n4)))))))], [(0, [(.mp 1), (.pv (.int .i64 n3)), (.pv (.bool false)), (.pv (.bool b)), (.pv (.int .i64 n5)), (.pv (.int .i64 0))]), (1, [(.maph (.int .u64) false (List.map M_uint64_uint8.pv m) [])]), (2, [(.pv (.int .u8 n6)), (.pv (.int .u64 n7)), (.pv (.ints .u8 l_ false)), (.pv (.int .i64 n8)), (.pv (.int .i64 n9)), (.pv (.bool b2))])], []⟩, .k0 t_.pf (by kernel_rfl), ⟨trivial, ⟨⟨rfl, ⟨.eq rfl, .eq rfl, .eq rfl, .eq rfl, .eq rfl, .eq rfl, trivial⟩⟩, ⟨rfl, ⟨.eq rfl, trivial⟩⟩, ⟨rfl, ⟨.eq rfl, .eq rfl, .eq rfl, .eq rfl, .eq rfl, .eq rfl, trivial⟩⟩, trivial⟩, trivial⟩⟩
    · obtain ⟨n10, h5, h⟩ := bind_of h
      obtain ⟨l_2, h6, h⟩ := bind_of h
      obtain ⟨⟨n11, b3, n12, m_⟩, h7, h⟩ := bind_of h
      have q_7 := (disk_Disk_Append_runs (irem .u64 n7 4) l_2 n3 false b n5 0 m _ h7)
      have p7_ := fun {sc_ : List Ev} {Q_ : Prop} (t_ : Tell sc_ Q_) => tT h1 <| tO h2 <| tE (.el [(.int .u8 n6), (.int .u64 n7), (.ints .u8 l_ false), (.int .i64 n8), (.int .i64 n9), (.bool b2)]) <| tO (el_of (f := E_kinfolklaw11_Act.pv) h3) <| tF h4 <| tR (disk_Disk_Used_runs n3 false b n5 0 m _ h5) <| tR (kinfolklaw11_cut_runs l_ _ h6) <| tO (rfl : true = true) <| tR q_7 <| t_
      rcases cond_of h with ⟨h8, h⟩ | ⟨h8, h⟩
      · rcases cond_of h with ⟨h9, h⟩ | ⟨h9, h⟩
        · obtain ⟨n13, h10, h⟩ := bind_of h
          have q_10 := (disk_Disk_Used_runs n3 false b3 n12 0 m_ _ h10)
          rcases cond_of h with ⟨h11, h⟩ | ⟨h11, h⟩
          · rcases cond_of h with ⟨h12, h⟩ | ⟨h12, h⟩
            · have h := some_of h
              subst h
              have t_ := p7_ <| tF (not_of2 h8) <| tF (not_of2 h9) <| tF (rfl : false = false) <| tT h9 <| tR q_10 <| tF (not_of2 h11) <| tR q_10 <| tT h12 <| tN
              exact ⟨t_.ev, (kinfolklaw11_DiskRoom_L0_ex n r n2 n3 (.inr (.inl ()))).2, .k0 t_.pf (by kernel_rfl), .same (by kernel_rfl)⟩
            · rcases cond_of h with ⟨h13, h⟩ | ⟨h13, h⟩
              · obtain ⟨⟨l_3, b4⟩, h14, h⟩ := bind_of h
                have q_14 := (disk_Disk_Read_runs (irem .u64 n7 4) n3 false b3 n12 0 m_ _ h14)
                obtain ⟨⟨n14, b5, n15, m_2⟩, h15, h⟩ := bind_of h
                have q_15 := (disk_Disk_Drop_2_runs (irem .u64 n7 4) n3 false b3 n12 0 m_ _ h15)
                rcases cond_of h with ⟨h16, h⟩ | ⟨h16, h⟩
                · obtain ⟨n16, h17, h⟩ := bind_of h
                  have q_17 := (disk_Disk_Used_runs n3 false b5 n15 0 m_2 _ h17)
                  obtain ⟨n17, h18, h⟩ := bind_of h
                  have q_18 := (kinfolklaw11_when_runs (decide ((n11 : Int) = 0)) _ h18)
                  rcases cond_of h with ⟨h19, h⟩ | ⟨h19, h⟩
                  · have h := some_of h
                    subst h
                    have t_ := p7_ <| tF (not_of2 h8) <| tF (not_of2 h9) <| tF (rfl : false = false) <| tT h9 <| tR q_10 <| tF (not_of2 h11) <| tR q_10 <| tF h12 <| tT h13 <| tO (rfl : true = true) <| tR q_14 <| tO (rfl : true = true) <| tR q_15 <| tF (not_of2 h16) <| tR q_17 <| tR q_18 <| tF (not_of2 h19) <| tN
                    exact ⟨t_.ev, kinfolklaw11_DiskRoom_L0_st n r n2 n3 ((iadd .i64 n4 1), b5, n15, m_2), .k0 t_.pf (by kernel_rfl), .same (by kernel_rfl)⟩
                  · have h := some_of h
                    subst h
                    have t_ := p7_ <| tF (not_of2 h8) <| tF (not_of2 h9) <| tF (rfl : false = false) <| tT h9 <| tR q_10 <| tF (not_of2 h11) <| tR q_10 <| tF h12 <| tT h13 <| tO (rfl : true = true) <| tR q_14 <| tO (rfl : true = true) <| tR q_15 <| tF (not_of2 h16) <| tR q_17 <| tR q_18 <| tT (not_of h19) <| tN
                    exact ⟨t_.ev, (kinfolklaw11_DiskRoom_L0_ex n r n2 n3 (.inr (.inl ()))).2, .k0 t_.pf (by kernel_rfl), .same (by kernel_rfl)⟩
                · have h := some_of h
                  subst h
                  have t_ := p7_ <| tF (not_of2 h8) <| tF (not_of2 h9) <| tF (rfl : false = false) <| tT h9 <| tR q_10 <| tF (not_of2 h11) <| tR q_10 <| tF h12 <| tT h13 <| tO (rfl : true = true) <| tR q_14 <| tO (rfl : true = true) <| tR q_15 <| tT (not_of h16) <| tT (rfl : true = true) <| tN
                  exact ⟨t_.ev, (kinfolklaw11_DiskRoom_L0_ex n r n2 n3 (.inr (.inl ()))).2, .k0 t_.pf (by kernel_rfl), .same (by kernel_rfl)⟩
              · have h := some_of h
                subst h
                have t_ := p7_ <| tF (not_of2 h8) <| tF (not_of2 h9) <| tF (rfl : false = false) <| tT h9 <| tR q_10 <| tF (not_of2 h11) <| tR q_10 <| tF h12 <| tF h13 <| tN
                exact ⟨t_.ev, kinfolklaw11_DiskRoom_L0_st n r n2 n3 ((iadd .i64 n4 1), b3, n12, m_), .k0 t_.pf (by kernel_rfl), .same (by kernel_rfl)⟩
          · have h := some_of h
            subst h
            have t_ := p7_ <| tF (not_of2 h8) <| tF (not_of2 h9) <| tF (rfl : false = false) <| tT h9 <| tR q_10 <| tT (not_of h11) <| tT (rfl : true = true) <| tN
            exact ⟨t_.ev, (kinfolklaw11_DiskRoom_L0_ex n r n2 n3 (.inr (.inl ()))).2, .k0 t_.pf (by kernel_rfl), .same (by kernel_rfl)⟩
        · rcases cond_of h with ⟨h10, h⟩ | ⟨h10, h⟩
          · obtain ⟨n13, h11, h⟩ := bind_of h
            have q_11 := (disk_Disk_Used_runs n3 false b3 n12 0 m_ _ h11)
            rcases cond_of h with ⟨h12, h⟩ | ⟨h12, h⟩
            · rcases cond_of h with ⟨h13, h⟩ | ⟨h13, h⟩
              · have h := some_of h
                subst h
                have t_ := p7_ <| tF (not_of2 h8) <| tT (not_of h9) <| tF (not_of2 h10) <| tR q_11 <| tF (not_of2 h12) <| tF h9 <| tF (rfl : false = false) <| tR q_11 <| tT h13 <| tN
                exact ⟨t_.ev, (kinfolklaw11_DiskRoom_L0_ex n r n2 n3 (.inr (.inl ()))).2, .k0 t_.pf (by kernel_rfl), .same (by kernel_rfl)⟩
              · rcases cond_of h with ⟨h14, h⟩ | ⟨h14, h⟩
                · obtain ⟨⟨l_3, b4⟩, h15, h⟩ := bind_of h
                  have q_15 := (disk_Disk_Read_runs (irem .u64 n7 4) n3 false b3 n12 0 m_ _ h15)
                  obtain ⟨⟨n14, b5, n15, m_2⟩, h16, h⟩ := bind_of h
                  have q_16 := (disk_Disk_Drop_2_runs (irem .u64 n7 4) n3 false b3 n12 0 m_ _ h16)
                  rcases cond_of h with ⟨h17, h⟩ | ⟨h17, h⟩
                  · obtain ⟨n16, h18, h⟩ := bind_of h
                    have q_18 := (disk_Disk_Used_runs n3 false b5 n15 0 m_2 _ h18)
                    obtain ⟨n17, h19, h⟩ := bind_of h
                    have q_19 := (kinfolklaw11_when_runs (decide ((n11 : Int) = 0)) _ h19)
                    rcases cond_of h with ⟨h20, h⟩ | ⟨h20, h⟩
                    · have h := some_of h
                      subst h
                      have t_ := p7_ <| tF (not_of2 h8) <| tT (not_of h9) <| tF (not_of2 h10) <| tR q_11 <| tF (not_of2 h12) <| tF h9 <| tF (rfl : false = false) <| tR q_11 <| tF h13 <| tT h14 <| tO (rfl : true = true) <| tR q_15 <| tO (rfl : true = true) <| tR q_16 <| tF (not_of2 h17) <| tR q_18 <| tR q_19 <| tF (not_of2 h20) <| tN
                      exact ⟨t_.ev, kinfolklaw11_DiskRoom_L0_st n r n2 n3 ((iadd .i64 n4 1), b5, n15, m_2), .k0 t_.pf (by kernel_rfl), .same (by kernel_rfl)⟩
                    · have h := some_of h
                      subst h
                      have t_ := p7_ <| tF (not_of2 h8) <| tT (not_of h9) <| tF (not_of2 h10) <| tR q_11 <| tF (not_of2 h12) <| tF h9 <| tF (rfl : false = false) <| tR q_11 <| tF h13 <| tT h14 <| tO (rfl : true = true) <| tR q_15 <| tO (rfl : true = true) <| tR q_16 <| tF (not_of2 h17) <| tR q_18 <| tR q_19 <| tT (not_of h20) <| tN
                      exact ⟨t_.ev, (kinfolklaw11_DiskRoom_L0_ex n r n2 n3 (.inr (.inl ()))).2, .k0 t_.pf (by kernel_rfl), .same (by kernel_rfl)⟩
                  · have h := some_of h
                    subst h
                    have t_ := p7_ <| tF (not_of2 h8) <| tT (not_of h9) <| tF (not_of2 h10) <| tR q_11 <| tF (not_of2 h12) <| tF h9 <| tF (rfl : false = false) <| tR q_11 <| tF h13 <| tT h14 <| tO (rfl : true = true) <| tR q_15 <| tO (rfl : true = true) <| tR q_16 <| tT (not_of h17) <| tT (rfl : true = true) <| tN
                    exact ⟨t_.ev, (kinfolklaw11_DiskRoom_L0_ex n r n2 n3 (.inr (.inl ()))).2, .k0 t_.pf (by kernel_rfl), .same (by kernel_rfl)⟩
                · have h := some_of h
                  subst h
                  have t_ := p7_ <| tF (not_of2 h8) <| tT (not_of h9) <| tF (not_of2 h10) <| tR q_11 <| tF (not_of2 h12) <| tF h9 <| tF (rfl : false = false) <| tR q_11 <| tF h13 <| tF h14 <| tN
                  exact ⟨t_.ev, kinfolklaw11_DiskRoom_L0_st n r n2 n3 ((iadd .i64 n4 1), b3, n12, m_), .k0 t_.pf (by kernel_rfl), .same (by kernel_rfl)⟩
            · have h := some_of h
              subst h
              have t_ := p7_ <| tF (not_of2 h8) <| tT (not_of h9) <| tF (not_of2 h10) <| tR q_11 <| tT (not_of h12) <| tT (rfl : true = true) <| tT (rfl : true = true) <| tN
              exact ⟨t_.ev, (kinfolklaw11_DiskRoom_L0_ex n r n2 n3 (.inr (.inl ()))).2, .k0 t_.pf (by kernel_rfl), .same (by kernel_rfl)⟩
          · have h := some_of h
            subst h
            have t_ := p7_ <| tF (not_of2 h8) <| tT (not_of h9) <| tT (not_of h10) <| tT (rfl : true = true) <| tT (rfl : true = true) <| tT (rfl : true = true) <| tN
            exact ⟨t_.ev, (kinfolklaw11_DiskRoom_L0_ex n r n2 n3 (.inr (.inl ()))).2, .k0 t_.pf (by kernel_rfl), .same (by kernel_rfl)⟩
      · have h := some_of h
        subst h
        have t_ := p7_ <| tT (not_of h8) <| tT (rfl : true = true) <| tT (rfl : true = true) <| tT (rfl : true = true) <| tN
        exact ⟨t_.ev, (kinfolklaw11_DiskRoom_L0_ex n r n2 n3 (.inr (.inl ()))).2, .k0 t_.pf (by kernel_rfl), .same (by kernel_rfl)⟩
  · have h := some_of h
    subst h
    have t_ := tF h1 <| tN
    exact ⟨t_.ev, ⟨[(24, (.av (.one (.pv (.bool false))))), (5, (.av (.one (.pv (.int .i64 n))))), (6, (.av (.one (.ref 0 0)))), (21, (.av (.one (.pv (.recs 6 (List.map E_kinfolklaw11_Act.pv r) false))))), (22, (.av (.one (.pv (.int .i64 n2))))), (23, (.av (.one (.pv (.int .i64 n4))))), (24, (.av (.one (.pv (.bool (decide ((n4 : Int) < n2)))))))], [(0, [(.mp 1), (.pv (.int .i64 n3)), (.pv (.bool false)), (.pv (.bool b)), (.pv (.int .i64 n5)), (.pv (.int .i64 0))]), (1, [(.maph (.int .u64) false (List.map M_uint64_uint8.pv m) [])])], []⟩, .k0 t_.pf (by kernel_rfl), ⟨trivial, ⟨⟨rfl, ⟨.eq rfl, .eq rfl, .eq rfl, .eq rfl, .eq rfl, .eq rfl, trivial⟩⟩, ⟨rfl, ⟨.eq rfl, trivial⟩⟩, trivial⟩, trivial⟩⟩
theorem kinfolklaw11_DiskRoom_L0_runs (n : Int) (r : List E_kinfolklaw11_Act) (n2 : Int) (n3 : Int) (s_ : Int × Bool × Int × List (Int × (List Int))) (r_ : (Bool × Int × List (Int × (List Int)) × Int × Int × List Int × Int × Int × Bool) ⊕ ((Unit) ⊕ (Bool × Int × List (Int × (List Int))))) (h : runL (kinfolklaw11_DiskRoom_L0_step n r n2 n3) s_ = some r_) : LRuns Try.prog (lEnv Try.prog cfg 4 0).nt 0 (.loop (loopAt Try.prog 4 0)) (kinfolklaw11_DiskRoom_L0_st n r n2 n3 s_) (kinfolklaw11_DiskRoom_L0_ex n r n2 n3 r_).1 (kinfolklaw11_DiskRoom_L0_ex n r n2 n3 r_).2 :=
  loop_run h (kinfolklaw11_DiskRoom_L0_ok n r n2 n3) (by intro r_; rcases r_ with ⟨r1, r2, r3, r4, r5, r6, r7, r8, r9⟩ | (_ | ⟨r1, r2, r3⟩) <;> simp [kinfolklaw11_DiskRoom_L0_ex])
/-! ### kinfolklaw11_DiskRoom -/
noncomputable def kinfolklaw11_DiskRoom (room : Int) (acts : List E_kinfolklaw11_Act) : Option (Bool) :=
  (kinfolklaw11_awake).bind fun b =>
  bif b then
    (disk_New (IntKind.i64.wrap (irem .u16 room 200))).bind fun n =>
    (runL (kinfolklaw11_DiskRoom_L0_step (IntKind.i64.wrap (irem .u16 room 200)) acts (((List.map E_kinfolklaw11_Act.pv acts)).length : Int) n) (0, false, 0, [])).bind fun z_ => match z_ with
    | .inl (b2, n2, m_, n3, n4, l_, n5, n6, b3) =>
      some true
    | .inr (.inl _) =>
      some false
    | .inr (.inr (b2, n2, m_)) =>
      some true
  else
    some false
theorem kinfolklaw11_DiskRoom_runs (room : Int) (acts : List E_kinfolklaw11_Act) (r_ : Bool) (h : kinfolklaw11_DiskRoom room acts = some r_) : Runs Try.prog 4 [(.one (.pv (.int .u16 room))), (.one (.pv (.recs 6 (List.map E_kinfolklaw11_Act.pv acts) false)))] [] [] (kinfolklaw11_DiskRoom_out room acts r_) := by
  unfold kinfolklaw11_DiskRoom at h
  obtain ⟨b, h1, h⟩ := bind_of h
  rcases cond_of h with ⟨h2, h⟩ | ⟨h2, h⟩
  · obtain ⟨n, h3, h⟩ := bind_of h
    have q_3 := (disk_New_runs (IntKind.i64.wrap (irem .u16 room 200)) _ h3)
    obtain ⟨z_, h4, h⟩ := bind_of h
    rcases z_ with ⟨b2, n2, m_, n3, n4, l_, n5, n6, b3⟩ | (_ | ⟨b2, n2, m_⟩)
    · have h := some_of h
      subst h
      have t_ := tR (kinfolklaw11_awake_runs _ h1) <| tF (not_of2 h2) <| tO (rfl : true = true) <| tR q_3 <| tL (kinfolklaw11_DiskRoom_L0_runs (IntKind.i64.wrap (irem .u16 room 200)) acts (((List.map E_kinfolklaw11_Act.pv acts)).length : Int) n _ _ h4) <| tN
      exact runs_of (C := cfg) (objs := []) (sc := t_.ev) (.k0 t_.pf (by kernel_rfl))
    · have h := some_of h
      subst h
      have t_ := tR (kinfolklaw11_awake_runs _ h1) <| tF (not_of2 h2) <| tO (rfl : true = true) <| tR q_3 <| tL (kinfolklaw11_DiskRoom_L0_runs (IntKind.i64.wrap (irem .u16 room 200)) acts (((List.map E_kinfolklaw11_Act.pv acts)).length : Int) n _ _ h4) <| tN
      exact runs_of (C := cfg) (objs := []) (sc := t_.ev) (.k0 t_.pf (by kernel_rfl))
    · have h := some_of h
      subst h
      have t_ := tR (kinfolklaw11_awake_runs _ h1) <| tF (not_of2 h2) <| tO (rfl : true = true) <| tR q_3 <| tL (kinfolklaw11_DiskRoom_L0_runs (IntKind.i64.wrap (irem .u16 room 200)) acts (((List.map E_kinfolklaw11_Act.pv acts)).length : Int) n _ _ h4) <| tN
      exact runs_of (C := cfg) (objs := []) (sc := t_.ev) (.k0 t_.pf (by kernel_rfl))
  · have h := some_of h
    subst h
    have t_ := tR (kinfolklaw11_awake_runs _ h1) <| tT (not_of h2) <| tN
    exact runs_of (C := cfg) (objs := []) (sc := t_.ev) (.k0 t_.pf (by kernel_rfl))
/-! ### kinfolklaw11_DiskPlays_out -/
def kinfolklaw11_DiskPlays_out (room : Int) (acts : List E_kinfolklaw11_Act) : Bool → Res
  | r1 => ([(.one (.pv (.bool r1)))], [], [])
/-! ### kinfolkref11_New_out -/
def kinfolkref11_New_out (room : Int) : Int → Res
  | r1 => ([(.one (.ref 0 0))], [[(.pv .nils), (.pv (.int .i64 r1)), (.pv (.bool false)), (.pv (.bool false)), (.pv (.int .i64 0)), (.pv (.int .i64 0))]], [])
/-! ### kinfolkref11_New -/
noncomputable def kinfolkref11_New (room : Int) : Option (Int) :=
  bif (decide ((room : Int) < 0)) then
    some 0
  else
    some room
theorem kinfolkref11_New_runs (room : Int) (r_ : Int) (h : kinfolkref11_New room = some r_) : Runs Try.prog 26 [(.one (.pv (.int .i64 room)))] [] [] (kinfolkref11_New_out room r_) := by
  unfold kinfolkref11_New at h
  rcases cond_of h with ⟨h1, h⟩ | ⟨h1, h⟩
  · have h := some_of h
    subst h
    have t_ := tT h1 <| tN
    exact runs_of (C := cfg) (objs := []) (sc := t_.ev) (.k0 t_.pf (by kernel_rfl))
  · have h := some_of h
    subst h
    have t_ := tF h1 <| tN
    exact runs_of (C := cfg) (objs := []) (sc := t_.ev) (.k0 t_.pf (by kernel_rfl))
/-! ### disk_Disk_Off_2_out -/
def disk_Disk_Off_2_out (n : Int) (b : Bool) (b2 : Bool) (n2 : Int) (n3 : Int) (m : List (Int × (List Int))) : Unit → Res
  | _ => ([], [[(.mp 1), (.pv (.int .i64 n)), (.pv (.bool b)), (.pv (.bool true)), (.pv (.int .i64 n2)), (.pv (.int .i64 n3))], [(.maph (.int .u64) false (List.map M_uint64_uint8.pv m) [])]], [])
/-! ### disk_Disk_Off_2 -/
noncomputable def disk_Disk_Off_2 (n : Int) (b : Bool) (b2 : Bool) (n2 : Int) (n3 : Int) (m : List (Int × (List Int))) : Option (Unit) :=
  some ()
theorem disk_Disk_Off_2_runs (n : Int) (b : Bool) (b2 : Bool) (n2 : Int) (n3 : Int) (m : List (Int × (List Int))) (r_ : Unit) (h : disk_Disk_Off_2 n b b2 n2 n3 m = some r_) : Runs Try.prog 36 [(.one (.ref 0 0))] [[(.mp 1), (.pv (.int .i64 n)), (.pv (.bool b)), (.pv (.bool b2)), (.pv (.int .i64 n2)), (.pv (.int .i64 n3))], [(.maph (.int .u64) false (List.map M_uint64_uint8.pv m) [])]] [] (disk_Disk_Off_2_out n b b2 n2 n3 m r_) := by
  unfold disk_Disk_Off_2 at h
  have h := some_of h
  subst h
  have t_ := tT (rfl : true = true) <| tN
  exact runs_of (C := cfg) (objs := [[(.mp 1), (.pv (.int .i64 n)), (.pv (.bool b)), (.pv (.bool b2)), (.pv (.int .i64 n2)), (.pv (.int .i64 n3))], [(.maph (.int .u64) false (List.map M_uint64_uint8.pv m) [])]]) (sc := t_.ev) (.k0 t_.pf (by kernel_rfl))
/-! ### disk_Disk_Full_2_out -/
def disk_Disk_Full_2_out (on_ : Bool) (n : Int) (b : Bool) (b2 : Bool) (n2 : Int) (n3 : Int) (m : List (Int × (List Int))) : Unit → Res
  | _ => ([], [[(.mp 1), (.pv (.int .i64 n)), (.pv (.bool on_)), (.pv (.bool b2)), (.pv (.int .i64 n2)), (.pv (.int .i64 n3))], [(.maph (.int .u64) false (List.map M_uint64_uint8.pv m) [])]], [])
/-! ### disk_Disk_Full_2 -/
noncomputable def disk_Disk_Full_2 (on_ : Bool) (n : Int) (b : Bool) (b2 : Bool) (n2 : Int) (n3 : Int) (m : List (Int × (List Int))) : Option (Unit) :=
  some ()
theorem disk_Disk_Full_2_runs (on_ : Bool) (n : Int) (b : Bool) (b2 : Bool) (n2 : Int) (n3 : Int) (m : List (Int × (List Int))) (r_ : Unit) (h : disk_Disk_Full_2 on_ n b b2 n2 n3 m = some r_) : Runs Try.prog 35 [(.one (.ref 0 0)), (.one (.pv (.bool on_)))] [[(.mp 1), (.pv (.int .i64 n)), (.pv (.bool b)), (.pv (.bool b2)), (.pv (.int .i64 n2)), (.pv (.int .i64 n3))], [(.maph (.int .u64) false (List.map M_uint64_uint8.pv m) [])]] [] (disk_Disk_Full_2_out on_ n b b2 n2 n3 m r_) := by
  unfold disk_Disk_Full_2 at h
  have h := some_of h
  subst h
  have t_ := tT (rfl : true = true) <| tN
  exact runs_of (C := cfg) (objs := [[(.mp 1), (.pv (.int .i64 n)), (.pv (.bool b)), (.pv (.bool b2)), (.pv (.int .i64 n2)), (.pv (.int .i64 n3))], [(.maph (.int .u64) false (List.map M_uint64_uint8.pv m) [])]]) (sc := t_.ev) (.k0 t_.pf (by kernel_rfl))
/-! ### kinfolklaw11_like_2_out -/
def kinfolklaw11_like_2_out (n : Int) (b : Bool) (b2 : Bool) (n2 : Int) (n3 : Int) (m : List (Int × (List Int))) (n4 : Int) (b3 : Bool) (b4 : Bool) (n5 : Int) (n6 : Int) (r : List E_kinfolkref11_Seg) : Bool → Res
  | r1 => ([(.one (.pv (.bool r1)))], [[(.mp 1), (.pv (.int .i64 n)), (.pv (.bool b)), (.pv (.bool b2)), (.pv (.int .i64 n2)), (.pv (.int .i64 n3))], [(.maph (.int .u64) false (List.map M_uint64_uint8.pv m) [])], [(.own 0 0 ((List.map E_kinfolkref11_Seg.pv r)).length false), (.pv (.int .i64 n4)), (.pv (.bool b3)), (.pv (.bool b4)), (.pv (.int .i64 n5)), (.pv (.int .i64 n6))]], [(.recs 2 (List.map E_kinfolkref11_Seg.pv r))])
/-! ### kinfolkref11_Used_2_out -/
def kinfolkref11_Used_2_out (n : Int) (b : Bool) (b2 : Bool) (n2 : Int) (n3 : Int) (r : List E_kinfolkref11_Seg) : Int → Res
  | r1 => ([(.one (.pv (.int .i64 r1)))], [[(.own 0 0 ((List.map E_kinfolkref11_Seg.pv r)).length false), (.pv (.int .i64 n)), (.pv (.bool b)), (.pv (.bool b2)), (.pv (.int .i64 n2)), (.pv (.int .i64 n3))]], [(.recs 2 (List.map E_kinfolkref11_Seg.pv r))])
/-! ### kinfolkref11_Used_L0_2 -/
def kinfolkref11_Used_L0_2_st (n : Int) (n2 : Int) (b : Bool) (b2 : Bool) (n3 : Int) (n4 : Int) (r : List E_kinfolkref11_Seg) : Int × Int → St
  | (n5, n6) => ⟨[(3, (.av (.one (.pv (.int .i64 n5))))), (9, (.av (.one (.own 0 0 ((List.map E_kinfolkref11_Seg.pv r)).length false)))), (10, (.av (.one (.pv (.int .i64 n))))), (11, (.av (.one (.pv (.int .i64 n6)))))], [(0, [(.own 0 0 ((List.map E_kinfolkref11_Seg.pv r)).length false), (.pv (.int .i64 n2)), (.pv (.bool b)), (.pv (.bool b2)), (.pv (.int .i64 n3)), (.pv (.int .i64 n4))])], [(0, (.live (.recs 2 (List.map E_kinfolkref11_Seg.pv r))))]⟩
def kinfolkref11_Used_L0_2_ex (n : Int) (n2 : Int) (b : Bool) (b2 : Bool) (n3 : Int) (n4 : Int) (r : List E_kinfolkref11_Seg) : Int → Ex × St
  | r1 => ((.exit 0), ⟨[(3, (.av (.one (.pv (.int .i64 r1)))))], [(0, [(.own 0 0 ((List.map E_kinfolkref11_Seg.pv r)).length false), (.pv (.int .i64 n2)), (.pv (.bool b)), (.pv (.bool b2)), (.pv (.int .i64 n3)), (.pv (.int .i64 n4))])], [(0, (.live (.recs 2 (List.map E_kinfolkref11_Seg.pv r))))]⟩)
noncomputable def kinfolkref11_Used_L0_2_step (n : Int) (n2 : Int) (b : Bool) (b2 : Bool) (n3 : Int) (n4 : Int) (r : List E_kinfolkref11_Seg) : Int × Int → Option ((Int × Int) ⊕ (Int))
  | (n5, n6) =>
  bif (decide ((n6 : Int) < n)) then
    bif decide ((0 : Int) ≤ n6) && decide ((n6 : Int) < (((List.map E_kinfolkref11_Seg.pv r)).length : Int)) then
    (r[(0 + (n6).toNat)]?).bind fun e_ => match e_ with
    | .mk n7 l_ =>
    some (.inl ((iadd .i64 n5 ((l_).length : Int)), (iadd .i64 n6 1)))
    else none
  else
    some (.inr n5)
theorem kinfolkref11_Used_L0_2_ok (n : Int) (n2 : Int) (b : Bool) (b2 : Bool) (n3 : Int) (n4 : Int) (r : List E_kinfolkref11_Seg) (s_ : Int × Int) (z_ : (Int × Int) ⊕ (Int)) (h : kinfolkref11_Used_L0_2_step n n2 b b2 n3 n4 r s_ = some z_) : RoundOk Try.prog cfg 34 1 (loopAt Try.prog 34 0) (kinfolkref11_Used_L0_2_st n n2 b b2 n3 n4 r) (kinfolkref11_Used_L0_2_ex n n2 b b2 n3 n4 r) s_ z_ := by
  rcases s_ with ⟨n5, n6⟩
  rcases cond_of h with ⟨h1, h⟩ | ⟨h1, h⟩
  · obtain ⟨h2, h⟩ := need_of h
    obtain ⟨⟨n7, l_⟩, h3, h⟩ := bind_of h
    have h := some_of h
    subst h
    have t_ := tT h1 <| tO h2 <| tE (.el [(.int .u64 n7), (.ints .u8 l_ false)]) <| tO (el_of (f := E_kinfolkref11_Seg.pv) h3) <| tN
    exact ⟨t_.ev, kinfolkref11_Used_L0_2_st n n2 b b2 n3 n4 r ((iadd .i64 n5 ((l_).length : Int)), (iadd .i64 n6 1)), .k0 t_.pf (by kernel_rfl), .same (by kernel_rfl)⟩
  · have h := some_of h
    subst h
    have t_ := tF h1 <| tN
    exact ⟨t_.ev, ⟨[(12, (.av (.one (.pv (.bool false))))), (3, (.av (.one (.pv (.int .i64 n5))))), (9, (.av (.one (.own 0 0 ((List.map E_kinfolkref11_Seg.pv r)).length false)))), (10, (.av (.one (.pv (.int .i64 n))))), (11, (.av (.one (.pv (.int .i64 n6))))), (12, (.av (.one (.pv (.bool (decide ((n6 : Int) < n)))))))], [(0, [(.own 0 0 ((List.map E_kinfolkref11_Seg.pv r)).length false), (.pv (.int .i64 n2)), (.pv (.bool b)), (.pv (.bool b2)), (.pv (.int .i64 n3)), (.pv (.int .i64 n4))])], [(0, (.live (.recs 2 (List.map E_kinfolkref11_Seg.pv r))))]⟩, .k0 t_.pf (by kernel_rfl), ⟨⟨⟨_, rfl, .eq rfl⟩, trivial⟩, ⟨⟨rfl, ⟨.eq rfl, .eq rfl, .eq rfl, .eq rfl, .eq rfl, .eq rfl, trivial⟩⟩, trivial⟩, ⟨⟨rfl, .eq rfl⟩, trivial⟩⟩⟩
theorem kinfolkref11_Used_L0_2_runs (n : Int) (n2 : Int) (b : Bool) (b2 : Bool) (n3 : Int) (n4 : Int) (r : List E_kinfolkref11_Seg) (s_ : Int × Int) (r_ : Int) (h : runL (kinfolkref11_Used_L0_2_step n n2 b b2 n3 n4 r) s_ = some r_) : LRuns Try.prog (lEnv Try.prog cfg 34 1).nt 1 (.loop (loopAt Try.prog 34 0)) (kinfolkref11_Used_L0_2_st n n2 b b2 n3 n4 r s_) (kinfolkref11_Used_L0_2_ex n n2 b b2 n3 n4 r r_).1 (kinfolkref11_Used_L0_2_ex n n2 b b2 n3 n4 r r_).2 :=
  loop_run h (kinfolkref11_Used_L0_2_ok n n2 b b2 n3 n4 r) (by intro r_; rcases r_ with r1 <;> simp [kinfolkref11_Used_L0_2_ex])
/-! ### kinfolkref11_Used_2 -/
noncomputable def kinfolkref11_Used_2 (n : Int) (b : Bool) (b2 : Bool) (n2 : Int) (n3 : Int) (r : List E_kinfolkref11_Seg) : Option (Int) :=
  (runL (kinfolkref11_Used_L0_2_step (((List.map E_kinfolkref11_Seg.pv r)).length : Int) n b b2 n2 n3 r) (0, 0)).bind fun n4 =>
  some n4
theorem kinfolkref11_Used_2_runs (n : Int) (b : Bool) (b2 : Bool) (n2 : Int) (n3 : Int) (r : List E_kinfolkref11_Seg) (r_ : Int) (h : kinfolkref11_Used_2 n b b2 n2 n3 r = some r_) : Runs Try.prog 34 [(.one (.ref 0 0))] [[(.own 0 0 ((List.map E_kinfolkref11_Seg.pv r)).length false), (.pv (.int .i64 n)), (.pv (.bool b)), (.pv (.bool b2)), (.pv (.int .i64 n2)), (.pv (.int .i64 n3))]] [(.recs 2 (List.map E_kinfolkref11_Seg.pv r))] (kinfolkref11_Used_2_out n b b2 n2 n3 r r_) := by
  unfold kinfolkref11_Used_2 at h
  obtain ⟨n4, h1, h⟩ := bind_of h
  have h := some_of h
  subst h
  have t_ := tL (kinfolkref11_Used_L0_2_runs (((List.map E_kinfolkref11_Seg.pv r)).length : Int) n b b2 n2 n3 r _ _ h1) <| tN
  exact runs_of (C := cfg) (objs := [[(.own 0 0 ((List.map E_kinfolkref11_Seg.pv r)).length false), (.pv (.int .i64 n)), (.pv (.bool b)), (.pv (.bool b2)), (.pv (.int .i64 n2)), (.pv (.int .i64 n3))]]) (sc := t_.ev) (.k0 t_.pf (by kernel_rfl))
/-! ### kinfolklaw11_like_L0_2 -/
def kinfolklaw11_like_L0_2_st (n : Int) (n2 : Int) (b : Bool) (b2 : Bool) (n3 : Int) (n4 : Int) (m : List (Int × (List Int))) (n5 : Int) (b3 : Bool) (b4 : Bool) (n6 : Int) (n7 : Int) (r : List E_kinfolkref11_Seg) (l : List Int) : Int → St
  | n8 => ⟨[(0, (.av (.one (.ref 0 0)))), (1, (.av (.one (.ref 2 0)))), (54, (.av (.one (.own 1 0 (l).length false)))), (55, (.av (.one (.pv (.int .i64 n))))), (56, (.av (.one (.pv (.int .i64 n8)))))], [(0, [(.mp 1), (.pv (.int .i64 n2)), (.pv (.bool b)), (.pv (.bool b2)), (.pv (.int .i64 n3)), (.pv (.int .i64 n4))]), (1, [(.maph (.int .u64) false (List.map M_uint64_uint8.pv m) [])]), (2, [(.own 0 0 ((List.map E_kinfolkref11_Seg.pv r)).length false), (.pv (.int .i64 n5)), (.pv (.bool b3)), (.pv (.bool b4)), (.pv (.int .i64 n6)), (.pv (.int .i64 n7))])], [(0, (.live (.recs 2 (List.map E_kinfolkref11_Seg.pv r)))), (1, (.live (.ints .u64 l)))]⟩
def kinfolklaw11_like_L0_2_ex (n : Int) (n2 : Int) (b : Bool) (b2 : Bool) (n3 : Int) (n4 : Int) (m : List (Int × (List Int))) (n5 : Int) (b3 : Bool) (b4 : Bool) (n6 : Int) (n7 : Int) (r : List E_kinfolkref11_Seg) (l : List Int) : (Unit) ⊕ (Unit) → Ex × St
  | .inl _ => (.ret, ⟨[(4, (.av (.one (.pv (.bool false)))))], [(0, [(.mp 1), (.pv (.int .i64 n2)), (.pv (.bool b)), (.pv (.bool b2)), (.pv (.int .i64 n3)), (.pv (.int .i64 n4))]), (1, [(.maph (.int .u64) false (List.map M_uint64_uint8.pv m) [])]), (2, [(.own 0 0 ((List.map E_kinfolkref11_Seg.pv r)).length false), (.pv (.int .i64 n5)), (.pv (.bool b3)), (.pv (.bool b4)), (.pv (.int .i64 n6)), (.pv (.int .i64 n7))])], [(0, (.live (.recs 2 (List.map E_kinfolkref11_Seg.pv r))))]⟩)
  | .inr _ => ((.exit 0), ⟨[], [(0, [(.mp 1), (.pv (.int .i64 n2)), (.pv (.bool b)), (.pv (.bool b2)), (.pv (.int .i64 n3)), (.pv (.int .i64 n4))]), (1, [(.maph (.int .u64) false (List.map M_uint64_uint8.pv m) [])]), (2, [(.own 0 0 ((List.map E_kinfolkref11_Seg.pv r)).length false), (.pv (.int .i64 n5)), (.pv (.bool b3)), (.pv (.bool b4)), (.pv (.int .i64 n6)), (.pv (.int .i64 n7))])], [(0, (.live (.recs 2 (List.map E_kinfolkref11_Seg.pv r)))), (1, (.live (.ints .u64 l)))]⟩)
noncomputable def kinfolklaw11_like_L0_2_step (n : Int) (n2 : Int) (b : Bool) (b2 : Bool) (n3 : Int) (n4 : Int) (m : List (Int × (List Int))) (n5 : Int) (b3 : Bool) (b4 : Bool) (n6 : Int) (n7 : Int) (r : List E_kinfolkref11_Seg) (l : List Int) : Int → Option ((Int) ⊕ ((Unit) ⊕ (Unit)))
  | n8 =>
  bif (decide ((n8 : Int) < n)) then
    bif decide ((0 : Int) ≤ n8) && decide ((n8 : Int) < ((l).length : Int)) then
    (disk_Disk_Read (l.getD (0 + (n8).toNat) 0) n2 b b2 n3 n4 m).bind fun (l_, b5) =>
    bif decide ((0 : Int) ≤ n8) && decide ((n8 : Int) < (((List.map E_kinfolkref11_Seg.pv r)).length : Int)) then
    (r[(0 + (n8).toNat)]?).bind fun e_ => match e_ with
    | .mk n9 l_2 =>
    bif (decide (((l.getD (0 + (n8).toNat) 0) : Int) = n9)) then
      bif b5 then
        (bytes_Equal l_ l_2).bind fun b6 =>
        bif b6 then
          some (.inl (iadd .i64 n8 1))
        else
          some (.inr (.inl ()))
      else
        some (.inr (.inl ()))
    else
      some (.inr (.inl ()))
    else none
    else none
  else
    some (.inr (.inr ()))
theorem kinfolklaw11_like_L0_2_ok (n : Int) (n2 : Int) (b : Bool) (b2 : Bool) (n3 : Int) (n4 : Int) (m : List (Int × (List Int))) (n5 : Int) (b3 : Bool) (b4 : Bool) (n6 : Int) (n7 : Int) (r : List E_kinfolkref11_Seg) (l : List Int) (n8 : Int) (z_ : (Int) ⊕ ((Unit) ⊕ (Unit))) (h : kinfolklaw11_like_L0_2_step n n2 b b2 n3 n4 m n5 b3 b4 n6 n7 r l n8 = some z_) : RoundOk Try.prog cfg 28 3 (loopAt Try.prog 28 0) (kinfolklaw11_like_L0_2_st n n2 b b2 n3 n4 m n5 b3 b4 n6 n7 r l) (kinfolklaw11_like_L0_2_ex n n2 b b2 n3 n4 m n5 b3 b4 n6 n7 r l) n8 z_ := by
  rcases cond_of h with ⟨h1, h⟩ | ⟨h1, h⟩
  · obtain ⟨h2, h⟩ := need_of h
    obtain ⟨⟨l_, b5⟩, h3, h⟩ := bind_of h
    have q_3 := (disk_Disk_Read_runs (l.getD (0 + (n8).toNat) 0) n2 b b2 n3 n4 m _ h3)
    obtain ⟨h4, h⟩ := need_of h
    obtain ⟨⟨n9, l_2⟩, h5, h⟩ := bind_of h
    rcases cond_of h with ⟨h6, h⟩ | ⟨h6, h⟩
    · rcases cond_of h with ⟨h7, h⟩ | ⟨h7, h⟩
      · obtain ⟨b6, h8, h⟩ := bind_of h
        have p8_ := fun {sc_ : List Ev} {Q_ : Prop} (t_ : Tell sc_ Q_) => tT h1 <| tO h2 <| tR q_3 <| tO h4 <| tE (.el [(.int .u64 n9), (.ints .u8 l_2 false)]) <| tO (el_of (f := E_kinfolkref11_Seg.pv) h5) <| tF (not_of2 h6) <| tF (not_of2 h7) <| tO h4 <| tE (.el [(.int .u64 n9), (.ints .u8 l_2 false)]) <| tO (el_of (f := E_kinfolkref11_Seg.pv) h5) <| tR (bytes_Equal_runs l_ l_2 _ h8) <| t_
        rcases cond_of h with ⟨h9, h⟩ | ⟨h9, h⟩
        · have h := some_of h
          subst h
          have t_ := p8_ <| tF (not_of2 h9) <| tN
          exact ⟨t_.ev, kinfolklaw11_like_L0_2_st n n2 b b2 n3 n4 m n5 b3 b4 n6 n7 r l (iadd .i64 n8 1), .k0 t_.pf (by kernel_rfl), .same (by kernel_rfl)⟩
        · have h := some_of h
          subst h
          have t_ := p8_ <| tT (not_of h9) <| tN
          exact ⟨t_.ev, (kinfolklaw11_like_L0_2_ex n n2 b b2 n3 n4 m n5 b3 b4 n6 n7 r l (.inl ())).2, .k0 t_.pf (by kernel_rfl), .same (by kernel_rfl)⟩
      · have h := some_of h
        subst h
        have t_ := tT h1 <| tO h2 <| tR q_3 <| tO h4 <| tE (.el [(.int .u64 n9), (.ints .u8 l_2 false)]) <| tO (el_of (f := E_kinfolkref11_Seg.pv) h5) <| tF (not_of2 h6) <| tT (not_of h7) <| tT (rfl : true = true) <| tN
        exact ⟨t_.ev, (kinfolklaw11_like_L0_2_ex n n2 b b2 n3 n4 m n5 b3 b4 n6 n7 r l (.inl ())).2, .k0 t_.pf (by kernel_rfl), .same (by kernel_rfl)⟩
    · have h := some_of h
      subst h
      have t_ := tT h1 <| tO h2 <| tR q_3 <| tO h4 <| tE (.el [(.int .u64 n9), (.ints .u8 l_2 false)]) <| tO (el_of (f := E_kinfolkref11_Seg.pv) h5) <| tT (not_of h6) <| tT (rfl : true = true) <| tT (rfl : true = true) <| tN
      exact ⟨t_.ev, (kinfolklaw11_like_L0_2_ex n n2 b b2 n3 n4 m n5 b3 b4 n6 n7 r l (.inl ())).2, .k0 t_.pf (by kernel_rfl), .same (by kernel_rfl)⟩
  · have h := some_of h
    subst h
    have t_ := tF h1 <| tN
    exact ⟨t_.ev, ⟨[(57, (.av (.one (.pv (.bool false))))), (0, (.av (.one (.ref 0 0)))), (1, (.av (.one (.ref 2 0)))), (54, (.av (.one (.own 1 0 (l).length false)))), (55, (.av (.one (.pv (.int .i64 n))))), (56, (.av (.one (.pv (.int .i64 n8))))), (57, (.av (.one (.pv (.bool (decide ((n8 : Int) < n)))))))], [(0, [(.mp 1), (.pv (.int .i64 n2)), (.pv (.bool b)), (.pv (.bool b2)), (.pv (.int .i64 n3)), (.pv (.int .i64 n4))]), (1, [(.maph (.int .u64) false (List.map M_uint64_uint8.pv m) [])]), (2, [(.own 0 0 ((List.map E_kinfolkref11_Seg.pv r)).length false), (.pv (.int .i64 n5)), (.pv (.bool b3)), (.pv (.bool b4)), (.pv (.int .i64 n6)), (.pv (.int .i64 n7))])], [(0, (.live (.recs 2 (List.map E_kinfolkref11_Seg.pv r)))), (1, (.live (.ints .u64 l)))]⟩, .k0 t_.pf (by kernel_rfl), ⟨trivial, ⟨⟨rfl, ⟨.eq rfl, .eq rfl, .eq rfl, .eq rfl, .eq rfl, .eq rfl, trivial⟩⟩, ⟨rfl, ⟨.eq rfl, trivial⟩⟩, ⟨rfl, ⟨.eq rfl, .eq rfl, .eq rfl, .eq rfl, .eq rfl, .eq rfl, trivial⟩⟩, trivial⟩, ⟨⟨rfl, .eq rfl⟩, ⟨rfl, .eq rfl⟩, trivial⟩⟩⟩
theorem kinfolklaw11_like_L0_2_runs (n : Int) (n2 : Int) (b : Bool) (b2 : Bool) (n3 : Int) (n4 : Int) (m : List (Int × (List Int))) (n5 : Int) (b3 : Bool) (b4 : Bool) (n6 : Int) (n7 : Int) (r : List E_kinfolkref11_Seg) (l : List Int) (s_ : Int) (r_ : (Unit) ⊕ (Unit)) (h : runL (kinfolklaw11_like_L0_2_step n n2 b b2 n3 n4 m n5 b3 b4 n6 n7 r l) s_ = some r_) : LRuns Try.prog (lEnv Try.prog cfg 28 3).nt 3 (.loop (loopAt Try.prog 28 0)) (kinfolklaw11_like_L0_2_st n n2 b b2 n3 n4 m n5 b3 b4 n6 n7 r l s_) (kinfolklaw11_like_L0_2_ex n n2 b b2 n3 n4 m n5 b3 b4 n6 n7 r l r_).1 (kinfolklaw11_like_L0_2_ex n n2 b b2 n3 n4 m n5 b3 b4 n6 n7 r l r_).2 :=
  loop_run h (kinfolklaw11_like_L0_2_ok n n2 b b2 n3 n4 m n5 b3 b4 n6 n7 r l) (by intro r_; rcases r_ with _ | _ <;> simp [kinfolklaw11_like_L0_2_ex])
/-! ### kinfolklaw11_like_2 -/
noncomputable def kinfolklaw11_like_2 (n : Int) (b : Bool) (b2 : Bool) (n2 : Int) (n3 : Int) (m : List (Int × (List Int))) (n4 : Int) (b3 : Bool) (b4 : Bool) (n5 : Int) (n6 : Int) (r : List E_kinfolkref11_Seg) : Option (Bool) :=
  (disk_Disk_Segs n b b2 n2 n3 m).bind fun l_ =>
  bif (decide ((((l_).length : Int) : Int) = (((List.map E_kinfolkref11_Seg.pv r)).length : Int))) then
    (disk_Disk_Used n b b2 n2 n3 m).bind fun n7 =>
    (kinfolkref11_Used_2 n4 b3 b4 n5 n6 r).bind fun n8 =>
    bif (decide ((n7 : Int) = n8)) then
      (disk_Disk_Room_2 n b b2 n2 n3 m).bind fun _ =>
      bif (decide ((n : Int) = n4)) then
        (disk_Disk_Up n b b2 n2 n3 m).bind fun b5 =>
        bif (b5 == b4) then
          some false
        else
          (disk_Disk_Armed_2 n b b2 n2 n3 m).bind fun _ =>
          bif (decide ((n2 : Int) = n5)) then
            (runL (kinfolklaw11_like_L0_2_step ((l_).length : Int) n b b2 n2 n3 m n4 b3 b4 n5 n6 r l_) 0).bind fun z_ => match z_ with
            | .inl _ =>
              some false
            | .inr _ =>
              some true
          else
            some false
      else
        some false
    else
      some false
  else
    some false
theorem kinfolklaw11_like_2_runs (n : Int) (b : Bool) (b2 : Bool) (n2 : Int) (n3 : Int) (m : List (Int × (List Int))) (n4 : Int) (b3 : Bool) (b4 : Bool) (n5 : Int) (n6 : Int) (r : List E_kinfolkref11_Seg) (r_ : Bool) (h : kinfolklaw11_like_2 n b b2 n2 n3 m n4 b3 b4 n5 n6 r = some r_) : Runs Try.prog 28 [(.one (.ref 0 0)), (.one (.ref 2 0))] [[(.mp 1), (.pv (.int .i64 n)), (.pv (.bool b)), (.pv (.bool b2)), (.pv (.int .i64 n2)), (.pv (.int .i64 n3))], [(.maph (.int .u64) false (List.map M_uint64_uint8.pv m) [])], [(.own 0 0 ((List.map E_kinfolkref11_Seg.pv r)).length false), (.pv (.int .i64 n4)), (.pv (.bool b3)), (.pv (.bool b4)), (.pv (.int .i64 n5)), (.pv (.int .i64 n6))]] [(.recs 2 (List.map E_kinfolkref11_Seg.pv r))] (kinfolklaw11_like_2_out n b b2 n2 n3 m n4 b3 b4 n5 n6 r r_) := by
  unfold kinfolklaw11_like_2 at h
  obtain ⟨l_, h1, h⟩ := bind_of h
  rcases cond_of h with ⟨h2, h⟩ | ⟨h2, h⟩
  · obtain ⟨n7, h3, h⟩ := bind_of h
    obtain ⟨n8, h4, h⟩ := bind_of h
    have q_4 := (kinfolkref11_Used_2_runs n4 b3 b4 n5 n6 r _ h4)
    rcases cond_of h with ⟨h5, h⟩ | ⟨h5, h⟩
    · obtain ⟨_, h6, h⟩ := bind_of h
      rcases cond_of h with ⟨h7, h⟩ | ⟨h7, h⟩
      · obtain ⟨b5, h8, h⟩ := bind_of h
        have p8_ := fun {sc_ : List Ev} {Q_ : Prop} (t_ : Tell sc_ Q_) => tR (disk_Disk_Segs_runs n b b2 n2 n3 m _ h1) <| tF (not_of2 h2) <| tR (disk_Disk_Used_runs n b b2 n2 n3 m _ h3) <| tR q_4 <| tF (not_of2 h5) <| tR (disk_Disk_Room_2_runs n b b2 n2 n3 m _ h6) <| tR (disk_Disk_Room_2_runs n b b2 n2 n3 m _ h6) <| tF (not_of2 h7) <| tR (disk_Disk_Up_runs n b b2 n2 n3 m _ h8) <| tR (disk_Disk_Up_runs n b b2 n2 n3 m _ h8) <| t_
        rcases cond_of h with ⟨h9, h⟩ | ⟨h9, h⟩
        · have h := some_of h
          subst h
          have t_ := p8_ <| tT h9 <| tT (rfl : true = true) <| tN
          exact runs_of (C := cfg) (objs := [[(.mp 1), (.pv (.int .i64 n)), (.pv (.bool b)), (.pv (.bool b2)), (.pv (.int .i64 n2)), (.pv (.int .i64 n3))], [(.maph (.int .u64) false (List.map M_uint64_uint8.pv m) [])], [(.own 0 0 ((List.map E_kinfolkref11_Seg.pv r)).length false), (.pv (.int .i64 n4)), (.pv (.bool b3)), (.pv (.bool b4)), (.pv (.int .i64 n5)), (.pv (.int .i64 n6))]]) (sc := t_.ev) (.k1 t_.pf (by kernel_rfl) (by kernel_rfl))
        · obtain ⟨_, h10, h⟩ := bind_of h
          rcases cond_of h with ⟨h11, h⟩ | ⟨h11, h⟩
          · obtain ⟨z_, h12, h⟩ := bind_of h
            rcases z_ with _ | _
            · have h := some_of h
              subst h
              have t_ := p8_ <| tF h9 <| tR (disk_Disk_Armed_2_runs n b b2 n2 n3 m _ h10) <| tR (disk_Disk_Armed_2_runs n b b2 n2 n3 m _ h10) <| tF (not_of2 h11) <| tL (kinfolklaw11_like_L0_2_runs ((l_).length : Int) n b b2 n2 n3 m n4 b3 b4 n5 n6 r l_ _ _ h12) <| tN
              exact runs_of (C := cfg) (objs := [[(.mp 1), (.pv (.int .i64 n)), (.pv (.bool b)), (.pv (.bool b2)), (.pv (.int .i64 n2)), (.pv (.int .i64 n3))], [(.maph (.int .u64) false (List.map M_uint64_uint8.pv m) [])], [(.own 0 0 ((List.map E_kinfolkref11_Seg.pv r)).length false), (.pv (.int .i64 n4)), (.pv (.bool b3)), (.pv (.bool b4)), (.pv (.int .i64 n5)), (.pv (.int .i64 n6))]]) (sc := t_.ev) (.k1 t_.pf (by kernel_rfl) (by kernel_rfl))
            · have h := some_of h
              subst h
              have t_ := p8_ <| tF h9 <| tR (disk_Disk_Armed_2_runs n b b2 n2 n3 m _ h10) <| tR (disk_Disk_Armed_2_runs n b b2 n2 n3 m _ h10) <| tF (not_of2 h11) <| tL (kinfolklaw11_like_L0_2_runs ((l_).length : Int) n b b2 n2 n3 m n4 b3 b4 n5 n6 r l_ _ _ h12) <| tN
              exact runs_of (C := cfg) (objs := [[(.mp 1), (.pv (.int .i64 n)), (.pv (.bool b)), (.pv (.bool b2)), (.pv (.int .i64 n2)), (.pv (.int .i64 n3))], [(.maph (.int .u64) false (List.map M_uint64_uint8.pv m) [])], [(.own 0 0 ((List.map E_kinfolkref11_Seg.pv r)).length false), (.pv (.int .i64 n4)), (.pv (.bool b3)), (.pv (.bool b4)), (.pv (.int .i64 n5)), (.pv (.int .i64 n6))]]) (sc := t_.ev) (.k1 t_.pf (by kernel_rfl) (by kernel_rfl))
          · have h := some_of h
            subst h
            have t_ := p8_ <| tF h9 <| tR (disk_Disk_Armed_2_runs n b b2 n2 n3 m _ h10) <| tR (disk_Disk_Armed_2_runs n b b2 n2 n3 m _ h10) <| tT (not_of h11) <| tN
            exact runs_of (C := cfg) (objs := [[(.mp 1), (.pv (.int .i64 n)), (.pv (.bool b)), (.pv (.bool b2)), (.pv (.int .i64 n2)), (.pv (.int .i64 n3))], [(.maph (.int .u64) false (List.map M_uint64_uint8.pv m) [])], [(.own 0 0 ((List.map E_kinfolkref11_Seg.pv r)).length false), (.pv (.int .i64 n4)), (.pv (.bool b3)), (.pv (.bool b4)), (.pv (.int .i64 n5)), (.pv (.int .i64 n6))]]) (sc := t_.ev) (.k1 t_.pf (by kernel_rfl) (by kernel_rfl))
      · have h := some_of h
        subst h
        have t_ := tR (disk_Disk_Segs_runs n b b2 n2 n3 m _ h1) <| tF (not_of2 h2) <| tR (disk_Disk_Used_runs n b b2 n2 n3 m _ h3) <| tR q_4 <| tF (not_of2 h5) <| tR (disk_Disk_Room_2_runs n b b2 n2 n3 m _ h6) <| tR (disk_Disk_Room_2_runs n b b2 n2 n3 m _ h6) <| tT (not_of h7) <| tT (rfl : true = true) <| tT (rfl : true = true) <| tN
        exact runs_of (C := cfg) (objs := [[(.mp 1), (.pv (.int .i64 n)), (.pv (.bool b)), (.pv (.bool b2)), (.pv (.int .i64 n2)), (.pv (.int .i64 n3))], [(.maph (.int .u64) false (List.map M_uint64_uint8.pv m) [])], [(.own 0 0 ((List.map E_kinfolkref11_Seg.pv r)).length false), (.pv (.int .i64 n4)), (.pv (.bool b3)), (.pv (.bool b4)), (.pv (.int .i64 n5)), (.pv (.int .i64 n6))]]) (sc := t_.ev) (.k1 t_.pf (by kernel_rfl) (by kernel_rfl))
    · have h := some_of h
      subst h
      have t_ := tR (disk_Disk_Segs_runs n b b2 n2 n3 m _ h1) <| tF (not_of2 h2) <| tR (disk_Disk_Used_runs n b b2 n2 n3 m _ h3) <| tR q_4 <| tT (not_of h5) <| tT (rfl : true = true) <| tT (rfl : true = true) <| tT (rfl : true = true) <| tN
      exact runs_of (C := cfg) (objs := [[(.mp 1), (.pv (.int .i64 n)), (.pv (.bool b)), (.pv (.bool b2)), (.pv (.int .i64 n2)), (.pv (.int .i64 n3))], [(.maph (.int .u64) false (List.map M_uint64_uint8.pv m) [])], [(.own 0 0 ((List.map E_kinfolkref11_Seg.pv r)).length false), (.pv (.int .i64 n4)), (.pv (.bool b3)), (.pv (.bool b4)), (.pv (.int .i64 n5)), (.pv (.int .i64 n6))]]) (sc := t_.ev) (.k1 t_.pf (by kernel_rfl) (by kernel_rfl))
  · have h := some_of h
    subst h
    have t_ := tR (disk_Disk_Segs_runs n b b2 n2 n3 m _ h1) <| tT (not_of h2) <| tT (rfl : true = true) <| tT (rfl : true = true) <| tT (rfl : true = true) <| tT (rfl : true = true) <| tN
    exact runs_of (C := cfg) (objs := [[(.mp 1), (.pv (.int .i64 n)), (.pv (.bool b)), (.pv (.bool b2)), (.pv (.int .i64 n2)), (.pv (.int .i64 n3))], [(.maph (.int .u64) false (List.map M_uint64_uint8.pv m) [])], [(.own 0 0 ((List.map E_kinfolkref11_Seg.pv r)).length false), (.pv (.int .i64 n4)), (.pv (.bool b3)), (.pv (.bool b4)), (.pv (.int .i64 n5)), (.pv (.int .i64 n6))]]) (sc := t_.ev) (.k1 t_.pf (by kernel_rfl) (by kernel_rfl))
/-! ### kinfolklaw11_do_2_out -/
def kinfolklaw11_do_2_out (a : Int) (a2 : Int) (a3 : List Int) (a4 : Int) (a5 : Int) (a6 : Bool) (n : Int) (b : Bool) (b2 : Bool) (n2 : Int) (n3 : Int) (m : List (Int × (List Int))) (n4 : Int) (b3 : Bool) (b4 : Bool) (n5 : Int) (n6 : Int) (r : List E_kinfolkref11_Seg) : Bool × Bool × Bool × Int × Int × List (Int × (List Int)) × Bool × Bool × Int × Int × List E_kinfolkref11_Seg → Res
  | (r1, r2, r3, r4, r5, r6, r7, r8, r9, r10, r11) => ([(.one (.pv (.bool r1)))], [[(.mp 1), (.pv (.int .i64 n)), (.pv (.bool r2)), (.pv (.bool r3)), (.pv (.int .i64 r4)), (.pv (.int .i64 r5))], [(.maph (.int .u64) false (List.map M_uint64_uint8.pv r6) [])], [(.own 0 0 ((List.map E_kinfolkref11_Seg.pv r11)).length false), (.pv (.int .i64 n4)), (.pv (.bool r7)), (.pv (.bool r8)), (.pv (.int .i64 r9)), (.pv (.int .i64 r10))]], [(.recs 2 (List.map E_kinfolkref11_Seg.pv r11))])
/-! ### kinfolkref11_Drop_2_out -/
def kinfolkref11_Drop_2_out (n : Int) (n2 : Int) (b : Bool) (b2 : Bool) (n3 : Int) (n4 : Int) (r : List E_kinfolkref11_Seg) : Int × Bool × Int × List E_kinfolkref11_Seg → Res
  | (r1, r2, r3, r4) => ([(.one (.pv (.int .i64 r1)))], [[(.own 0 0 ((List.map E_kinfolkref11_Seg.pv r4)).length false), (.pv (.int .i64 n2)), (.pv (.bool b)), (.pv (.bool r2)), (.pv (.int .i64 r3)), (.pv (.int .i64 n4))]], [(.recs 2 (List.map E_kinfolkref11_Seg.pv r4))])
/-! ### kinfolkref11_Find_2_out -/
def kinfolkref11_Find_2_out (n : Int) (n2 : Int) (b : Bool) (b2 : Bool) (n3 : Int) (n4 : Int) (r : List E_kinfolkref11_Seg) : Int → Res
  | r1 => ([(.one (.pv (.int .i64 r1)))], [[(.own 0 0 ((List.map E_kinfolkref11_Seg.pv r)).length false), (.pv (.int .i64 n2)), (.pv (.bool b)), (.pv (.bool b2)), (.pv (.int .i64 n3)), (.pv (.int .i64 n4))]], [(.recs 2 (List.map E_kinfolkref11_Seg.pv r))])
/-! ### kinfolkref11_Find_L0_2 -/
def kinfolkref11_Find_L0_2_st (n : Int) (n2 : Int) (n3 : Int) (b : Bool) (b2 : Bool) (n4 : Int) (n5 : Int) (r : List E_kinfolkref11_Seg) : Int → St
  | n6 => ⟨[(1, (.av (.one (.pv (.int .u64 n))))), (10, (.av (.one (.own 0 0 ((List.map E_kinfolkref11_Seg.pv r)).length false)))), (11, (.av (.one (.pv (.int .i64 n2))))), (12, (.av (.one (.pv (.int .i64 n6)))))], [(0, [(.own 0 0 ((List.map E_kinfolkref11_Seg.pv r)).length false), (.pv (.int .i64 n3)), (.pv (.bool b)), (.pv (.bool b2)), (.pv (.int .i64 n4)), (.pv (.int .i64 n5))])], [(0, (.live (.recs 2 (List.map E_kinfolkref11_Seg.pv r))))]⟩
def kinfolkref11_Find_L0_2_ex (n : Int) (n2 : Int) (n3 : Int) (b : Bool) (b2 : Bool) (n4 : Int) (n5 : Int) (r : List E_kinfolkref11_Seg) : (Int) ⊕ (Unit) → Ex × St
  | .inl r1 => (.ret, ⟨[(4, (.av (.one (.pv (.int .i64 r1)))))], [(0, [(.own 0 0 ((List.map E_kinfolkref11_Seg.pv r)).length false), (.pv (.int .i64 n3)), (.pv (.bool b)), (.pv (.bool b2)), (.pv (.int .i64 n4)), (.pv (.int .i64 n5))])], [(0, (.live (.recs 2 (List.map E_kinfolkref11_Seg.pv r))))]⟩)
  | .inr _ => ((.exit 0), ⟨[], [(0, [(.own 0 0 ((List.map E_kinfolkref11_Seg.pv r)).length false), (.pv (.int .i64 n3)), (.pv (.bool b)), (.pv (.bool b2)), (.pv (.int .i64 n4)), (.pv (.int .i64 n5))])], [(0, (.live (.recs 2 (List.map E_kinfolkref11_Seg.pv r))))]⟩)
noncomputable def kinfolkref11_Find_L0_2_step (n : Int) (n2 : Int) (n3 : Int) (b : Bool) (b2 : Bool) (n4 : Int) (n5 : Int) (r : List E_kinfolkref11_Seg) : Int → Option ((Int) ⊕ ((Int) ⊕ (Unit)))
  | n6 =>
  bif (decide ((n6 : Int) < n2)) then
    bif decide ((0 : Int) ≤ n6) && decide ((n6 : Int) < (((List.map E_kinfolkref11_Seg.pv r)).length : Int)) then
    (r[(0 + (n6).toNat)]?).bind fun e_ => match e_ with
    | .mk n7 l_ =>
    bif (decide ((n7 : Int) = n)) then
      some (.inr (.inl n6))
    else
      some (.inl (iadd .i64 n6 1))
    else none
  else
    some (.inr (.inr ()))
theorem kinfolkref11_Find_L0_2_ok (n : Int) (n2 : Int) (n3 : Int) (b : Bool) (b2 : Bool) (n4 : Int) (n5 : Int) (r : List E_kinfolkref11_Seg) (n6 : Int) (z_ : (Int) ⊕ ((Int) ⊕ (Unit))) (h : kinfolkref11_Find_L0_2_step n n2 n3 b b2 n4 n5 r n6 = some z_) : RoundOk Try.prog cfg 29 1 (loopAt Try.prog 29 0) (kinfolkref11_Find_L0_2_st n n2 n3 b b2 n4 n5 r) (kinfolkref11_Find_L0_2_ex n n2 n3 b b2 n4 n5 r) n6 z_ := by
  rcases cond_of h with ⟨h1, h⟩ | ⟨h1, h⟩
  · obtain ⟨h2, h⟩ := need_of h
    obtain ⟨⟨n7, l_⟩, h3, h⟩ := bind_of h
    rcases cond_of h with ⟨h4, h⟩ | ⟨h4, h⟩
    · have h := some_of h
      subst h
      have t_ := tT h1 <| tO h2 <| tE (.el [(.int .u64 n7), (.ints .u8 l_ false)]) <| tO (el_of (f := E_kinfolkref11_Seg.pv) h3) <| tT h4 <| tN
      exact ⟨t_.ev, (kinfolkref11_Find_L0_2_ex n n2 n3 b b2 n4 n5 r (.inl n6)).2, .k0 t_.pf (by kernel_rfl), .same (by kernel_rfl)⟩
    · have h := some_of h
      subst h
      have t_ := tT h1 <| tO h2 <| tE (.el [(.int .u64 n7), (.ints .u8 l_ false)]) <| tO (el_of (f := E_kinfolkref11_Seg.pv) h3) <| tF h4 <| tN
      exact ⟨t_.ev, kinfolkref11_Find_L0_2_st n n2 n3 b b2 n4 n5 r (iadd .i64 n6 1), .k0 t_.pf (by kernel_rfl), .same (by kernel_rfl)⟩
  · have h := some_of h
    subst h
    have t_ := tF h1 <| tN
    exact ⟨t_.ev, ⟨[(13, (.av (.one (.pv (.bool false))))), (1, (.av (.one (.pv (.int .u64 n))))), (10, (.av (.one (.own 0 0 ((List.map E_kinfolkref11_Seg.pv r)).length false)))), (11, (.av (.one (.pv (.int .i64 n2))))), (12, (.av (.one (.pv (.int .i64 n6))))), (13, (.av (.one (.pv (.bool (decide ((n6 : Int) < n2)))))))], [(0, [(.own 0 0 ((List.map E_kinfolkref11_Seg.pv r)).length false), (.pv (.int .i64 n3)), (.pv (.bool b)), (.pv (.bool b2)), (.pv (.int .i64 n4)), (.pv (.int .i64 n5))])], [(0, (.live (.recs 2 (List.map E_kinfolkref11_Seg.pv r))))]⟩, .k0 t_.pf (by kernel_rfl), ⟨trivial, ⟨⟨rfl, ⟨.eq rfl, .eq rfl, .eq rfl, .eq rfl, .eq rfl, .eq rfl, trivial⟩⟩, trivial⟩, ⟨⟨rfl, .eq rfl⟩, trivial⟩⟩⟩
theorem kinfolkref11_Find_L0_2_runs (n : Int) (n2 : Int) (n3 : Int) (b : Bool) (b2 : Bool) (n4 : Int) (n5 : Int) (r : List E_kinfolkref11_Seg) (s_ : Int) (r_ : (Int) ⊕ (Unit)) (h : runL (kinfolkref11_Find_L0_2_step n n2 n3 b b2 n4 n5 r) s_ = some r_) : LRuns Try.prog (lEnv Try.prog cfg 29 1).nt 1 (.loop (loopAt Try.prog 29 0)) (kinfolkref11_Find_L0_2_st n n2 n3 b b2 n4 n5 r s_) (kinfolkref11_Find_L0_2_ex n n2 n3 b b2 n4 n5 r r_).1 (kinfolkref11_Find_L0_2_ex n n2 n3 b b2 n4 n5 r r_).2 :=
  loop_run h (kinfolkref11_Find_L0_2_ok n n2 n3 b b2 n4 n5 r) (by intro r_; rcases r_ with r1 | _ <;> simp [kinfolkref11_Find_L0_2_ex])
/-! ### kinfolkref11_Find_2 -/
noncomputable def kinfolkref11_Find_2 (n : Int) (n2 : Int) (b : Bool) (b2 : Bool) (n3 : Int) (n4 : Int) (r : List E_kinfolkref11_Seg) : Option (Int) :=
  (runL (kinfolkref11_Find_L0_2_step n (((List.map E_kinfolkref11_Seg.pv r)).length : Int) n2 b b2 n3 n4 r) 0).bind fun z_ => match z_ with
  | .inl n5 =>
    some n5
  | .inr _ =>
    some (-1)
theorem kinfolkref11_Find_2_runs (n : Int) (n2 : Int) (b : Bool) (b2 : Bool) (n3 : Int) (n4 : Int) (r : List E_kinfolkref11_Seg) (r_ : Int) (h : kinfolkref11_Find_2 n n2 b b2 n3 n4 r = some r_) : Runs Try.prog 29 [(.one (.ref 0 0)), (.one (.pv (.int .u64 n)))] [[(.own 0 0 ((List.map E_kinfolkref11_Seg.pv r)).length false), (.pv (.int .i64 n2)), (.pv (.bool b)), (.pv (.bool b2)), (.pv (.int .i64 n3)), (.pv (.int .i64 n4))]] [(.recs 2 (List.map E_kinfolkref11_Seg.pv r))] (kinfolkref11_Find_2_out n n2 b b2 n3 n4 r r_) := by
  unfold kinfolkref11_Find_2 at h
  obtain ⟨z_, h1, h⟩ := bind_of h
  rcases z_ with n5 | _
  · have h := some_of h
    subst h
    have t_ := tL (kinfolkref11_Find_L0_2_runs n (((List.map E_kinfolkref11_Seg.pv r)).length : Int) n2 b b2 n3 n4 r _ _ h1) <| tN
    exact runs_of (C := cfg) (objs := [[(.own 0 0 ((List.map E_kinfolkref11_Seg.pv r)).length false), (.pv (.int .i64 n2)), (.pv (.bool b)), (.pv (.bool b2)), (.pv (.int .i64 n3)), (.pv (.int .i64 n4))]]) (sc := t_.ev) (.k0 t_.pf (by kernel_rfl))
  · have h := some_of h
    subst h
    have t_ := tL (kinfolkref11_Find_L0_2_runs n (((List.map E_kinfolkref11_Seg.pv r)).length : Int) n2 b b2 n3 n4 r _ _ h1) <| tN
    exact runs_of (C := cfg) (objs := [[(.own 0 0 ((List.map E_kinfolkref11_Seg.pv r)).length false), (.pv (.int .i64 n2)), (.pv (.bool b)), (.pv (.bool b2)), (.pv (.int .i64 n3)), (.pv (.int .i64 n4))]]) (sc := t_.ev) (.k0 t_.pf (by kernel_rfl))
/-! ### kinfolkref11_goes_2_out -/
def kinfolkref11_goes_2_out (n : Int) (b : Bool) (b2 : Bool) (n2 : Int) (n3 : Int) (r : List E_kinfolkref11_Seg) : Bool × Bool × Int → Res
  | (r1, r2, r3) => ([(.one (.pv (.bool r1)))], [[(.own 0 0 ((List.map E_kinfolkref11_Seg.pv r)).length false), (.pv (.int .i64 n)), (.pv (.bool b)), (.pv (.bool r2)), (.pv (.int .i64 r3)), (.pv (.int .i64 n3))]], [(.recs 2 (List.map E_kinfolkref11_Seg.pv r))])
/-! ### kinfolkref11_goes_2 -/
noncomputable def kinfolkref11_goes_2 (n : Int) (b : Bool) (b2 : Bool) (n2 : Int) (n3 : Int) (r : List E_kinfolkref11_Seg) : Option (Bool × Bool × Int) :=
  bif (decide ((0 : Int) < n2)) then
    some ((decide (((isub .i64 n2 1) : Int) = 0)), (decide (((isub .i64 n2 1) : Int) = 0)), (isub .i64 n2 1))
  else
    some (false, b2, n2)
theorem kinfolkref11_goes_2_runs (n : Int) (b : Bool) (b2 : Bool) (n2 : Int) (n3 : Int) (r : List E_kinfolkref11_Seg) (r_ : Bool × Bool × Int) (h : kinfolkref11_goes_2 n b b2 n2 n3 r = some r_) : Runs Try.prog 69 [(.one (.ref 0 0))] [[(.own 0 0 ((List.map E_kinfolkref11_Seg.pv r)).length false), (.pv (.int .i64 n)), (.pv (.bool b)), (.pv (.bool b2)), (.pv (.int .i64 n2)), (.pv (.int .i64 n3))]] [(.recs 2 (List.map E_kinfolkref11_Seg.pv r))] (kinfolkref11_goes_2_out n b b2 n2 n3 r r_) := by
  unfold kinfolkref11_goes_2 at h
  rcases cond_of h with ⟨h1, h⟩ | ⟨h1, h⟩
  · have h := some_of h
    subst h
    have t_ := tT h1 <| tN
    exact runs_of (C := cfg) (objs := [[(.own 0 0 ((List.map E_kinfolkref11_Seg.pv r)).length false), (.pv (.int .i64 n)), (.pv (.bool b)), (.pv (.bool b2)), (.pv (.int .i64 n2)), (.pv (.int .i64 n3))]]) (sc := t_.ev) (.k0 t_.pf (by kernel_rfl))
  · have h := some_of h
    subst h
    have t_ := tF h1 <| tN
    exact runs_of (C := cfg) (objs := [[(.own 0 0 ((List.map E_kinfolkref11_Seg.pv r)).length false), (.pv (.int .i64 n)), (.pv (.bool b)), (.pv (.bool b2)), (.pv (.int .i64 n2)), (.pv (.int .i64 n3))]]) (sc := t_.ev) (.k0 t_.pf (by kernel_rfl))
/-! ### kinfolkref11_Drop_2 -/
noncomputable def kinfolkref11_Drop_2 (n : Int) (n2 : Int) (b : Bool) (b2 : Bool) (n3 : Int) (n4 : Int) (r : List E_kinfolkref11_Seg) : Option (Int × Bool × Int × List E_kinfolkref11_Seg) :=
  bif b2 then
    some (10, b2, n3, r)
  else
    (kinfolkref11_Find_2 n n2 b b2 n3 n4 r).bind fun n5 =>
    bif (decide ((n5 : Int) < 0)) then
      some (2, b2, n3, r)
    else
      (kinfolkref11_goes_2 n2 b b2 n3 n4 r).bind fun (b3, b4, n6) =>
      bif b3 then
        bif (decide ((0 : Int) < n4)) then
          bif decide ((0 : Int) ≤ (iadd .i64 n5 1)) && decide (((iadd .i64 n5 1) : Int) ≤ (((List.map E_kinfolkref11_Seg.pv r)).length : Int)) && decide (((((List.map E_kinfolkref11_Seg.pv r)).length : Int) : Int) ≤ (((List.map E_kinfolkref11_Seg.pv r)).length : Int)) && decide (((((List.map E_kinfolkref11_Seg.pv r)).length : Int) : Int) = (((List.map E_kinfolkref11_Seg.pv r)).length : Int)) then
          bif decide ((0 : Int) ≤ 0) && decide ((0 : Int) ≤ n5) && decide ((n5 : Int) ≤ (((List.map E_kinfolkref11_Seg.pv r)).length : Int)) && decide ((n5 : Int) = n5) then
          bif Nat.beq ((List.take (n5 - 0).toNat (List.map E_kinfolkref11_Seg.pv r))).length 0 then
            bif fits ((([] : List (List PV)) ++ (List.take ((((List.map E_kinfolkref11_Seg.pv r)).length : Int) - (iadd .i64 n5 1)).toNat (List.drop (0 + ((iadd .i64 n5 1)).toNat) (List.map E_kinfolkref11_Seg.pv r))))).length then
            some (10, b4, n6, ([] ++ (List.take ((((List.map E_kinfolkref11_Seg.pv r)).length : Int) - (iadd .i64 n5 1)).toNat (List.drop (0 + ((iadd .i64 n5 1)).toNat) r))))
            else none
          else
            bif fits ((([] : List (List PV)) ++ (List.take (n5 - 0).toNat (List.map E_kinfolkref11_Seg.pv r)))).length then
            bif fits (((([] : List (List PV)) ++ (List.take (n5 - 0).toNat (List.map E_kinfolkref11_Seg.pv r))) ++ (List.take ((((List.map E_kinfolkref11_Seg.pv r)).length : Int) - (iadd .i64 n5 1)).toNat (List.drop (0 + ((iadd .i64 n5 1)).toNat) (List.map E_kinfolkref11_Seg.pv r))))).length then
            some (10, b4, n6, (([] ++ (List.take (n5 - 0).toNat r)) ++ (List.take ((((List.map E_kinfolkref11_Seg.pv r)).length : Int) - (iadd .i64 n5 1)).toNat (List.drop (0 + ((iadd .i64 n5 1)).toNat) r))))
            else none
            else none
          else none
          else none
        else
          some (10, b4, n6, r)
      else
        bif decide ((0 : Int) ≤ (iadd .i64 n5 1)) && decide (((iadd .i64 n5 1) : Int) ≤ (((List.map E_kinfolkref11_Seg.pv r)).length : Int)) && decide (((((List.map E_kinfolkref11_Seg.pv r)).length : Int) : Int) ≤ (((List.map E_kinfolkref11_Seg.pv r)).length : Int)) && decide (((((List.map E_kinfolkref11_Seg.pv r)).length : Int) : Int) = (((List.map E_kinfolkref11_Seg.pv r)).length : Int)) then
        bif decide ((0 : Int) ≤ 0) && decide ((0 : Int) ≤ n5) && decide ((n5 : Int) ≤ (((List.map E_kinfolkref11_Seg.pv r)).length : Int)) && decide ((n5 : Int) = n5) then
        bif Nat.beq ((List.take (n5 - 0).toNat (List.map E_kinfolkref11_Seg.pv r))).length 0 then
          bif fits ((([] : List (List PV)) ++ (List.take ((((List.map E_kinfolkref11_Seg.pv r)).length : Int) - (iadd .i64 n5 1)).toNat (List.drop (0 + ((iadd .i64 n5 1)).toNat) (List.map E_kinfolkref11_Seg.pv r))))).length then
          some (0, b4, n6, ([] ++ (List.take ((((List.map E_kinfolkref11_Seg.pv r)).length : Int) - (iadd .i64 n5 1)).toNat (List.drop (0 + ((iadd .i64 n5 1)).toNat) r))))
          else none
        else
          bif fits ((([] : List (List PV)) ++ (List.take (n5 - 0).toNat (List.map E_kinfolkref11_Seg.pv r)))).length then
          bif fits (((([] : List (List PV)) ++ (List.take (n5 - 0).toNat (List.map E_kinfolkref11_Seg.pv r))) ++ (List.take ((((List.map E_kinfolkref11_Seg.pv r)).length : Int) - (iadd .i64 n5 1)).toNat (List.drop (0 + ((iadd .i64 n5 1)).toNat) (List.map E_kinfolkref11_Seg.pv r))))).length then
          some (0, b4, n6, (([] ++ (List.take (n5 - 0).toNat r)) ++ (List.take ((((List.map E_kinfolkref11_Seg.pv r)).length : Int) - (iadd .i64 n5 1)).toNat (List.drop (0 + ((iadd .i64 n5 1)).toNat) r))))
          else none
          else none
        else none
        else none
theorem kinfolkref11_Drop_2_runs (n : Int) (n2 : Int) (b : Bool) (b2 : Bool) (n3 : Int) (n4 : Int) (r : List E_kinfolkref11_Seg) (r_ : Int × Bool × Int × List E_kinfolkref11_Seg) (h : kinfolkref11_Drop_2 n n2 b b2 n3 n4 r = some r_) : Runs Try.prog 66 [(.one (.ref 0 0)), (.one (.pv (.int .u64 n)))] [[(.own 0 0 ((List.map E_kinfolkref11_Seg.pv r)).length false), (.pv (.int .i64 n2)), (.pv (.bool b)), (.pv (.bool b2)), (.pv (.int .i64 n3)), (.pv (.int .i64 n4))]] [(.recs 2 (List.map E_kinfolkref11_Seg.pv r))] (kinfolkref11_Drop_2_out n n2 b b2 n3 n4 r r_) := by
  unfold kinfolkref11_Drop_2 at h
  rcases cond_of h with ⟨h1, h⟩ | ⟨h1, h⟩
  · have h := some_of h
    subst h
    have t_ := tT h1 <| tN
    exact runs_of (C := cfg) (objs := [[(.own 0 0 ((List.map E_kinfolkref11_Seg.pv r)).length false), (.pv (.int .i64 n2)), (.pv (.bool b)), (.pv (.bool b2)), (.pv (.int .i64 n3)), (.pv (.int .i64 n4))]]) (sc := t_.ev) (.k0 t_.pf (by kernel_rfl))
  · obtain ⟨n5, h2, h⟩ := bind_of h
    have q_2 := (kinfolkref11_Find_2_runs n n2 b b2 n3 n4 r _ h2)
    rcases cond_of h with ⟨h3, h⟩ | ⟨h3, h⟩
    · have h := some_of h
      subst h
      have t_ := tF h1 <| tR q_2 <| tT h3 <| tN
      exact runs_of (C := cfg) (objs := [[(.own 0 0 ((List.map E_kinfolkref11_Seg.pv r)).length false), (.pv (.int .i64 n2)), (.pv (.bool b)), (.pv (.bool b2)), (.pv (.int .i64 n3)), (.pv (.int .i64 n4))]]) (sc := t_.ev) (.k0 t_.pf (by kernel_rfl))
    · obtain ⟨⟨b3, b4, n6⟩, h4, h⟩ := bind_of h
      rcases cond_of h with ⟨h5, h⟩ | ⟨h5, h⟩
      · rcases cond_of h with ⟨h6, h⟩ | ⟨h6, h⟩
        · obtain ⟨h7, h⟩ := need_of h
          obtain ⟨h8, h⟩ := need_of h
          rcases cond_of h with ⟨h9, h⟩ | ⟨h9, h⟩
          · obtain ⟨h10, h⟩ := need_of h
            have h := some_of h
            subst h
            have t_ := tF h1 <| tR q_2 <| tF h3 <| tR (kinfolkref11_goes_2_runs n2 b b2 n3 n4 r _ h4) <| tF (not_of2 h5) <| tT h6 <| tO h7 <| tO h8 <| tO h7 <| tO h8 <| tO h8 <| tO h7 <| tT h9 <| tO h8 <| tO h7 <| tO h7 <| tT h9 <| tO (rfl : true = true) <| tO h10 <| tT h5 <| tN
            have e_ : Runs Try.prog 66 [(.one (.ref 0 0)), (.one (.pv (.int .u64 n)))] [[(.own 0 0 ((List.map E_kinfolkref11_Seg.pv r)).length false), (.pv (.int .i64 n2)), (.pv (.bool b)), (.pv (.bool b2)), (.pv (.int .i64 n3)), (.pv (.int .i64 n4))]] [(.recs 2 (List.map E_kinfolkref11_Seg.pv r))] ([(.one (.pv (.int .i64 10)))], [[(.own 0 0 ((([] : List (List PV)) ++ (List.take ((((List.map E_kinfolkref11_Seg.pv r)).length : Int) - (iadd .i64 n5 1)).toNat (List.drop (0 + ((iadd .i64 n5 1)).toNat) (List.map E_kinfolkref11_Seg.pv r))))).length false), (.pv (.int .i64 n2)), (.pv (.bool b)), (.pv (.bool b4)), (.pv (.int .i64 n6)), (.pv (.int .i64 n4))]], [(.recs 2 (([] : List (List PV)) ++ (List.take ((((List.map E_kinfolkref11_Seg.pv r)).length : Int) - (iadd .i64 n5 1)).toNat (List.drop (0 + ((iadd .i64 n5 1)).toNat) (List.map E_kinfolkref11_Seg.pv r)))))]) := runs_of (C := cfg) (objs := [[(.own 0 0 ((List.map E_kinfolkref11_Seg.pv r)).length false), (.pv (.int .i64 n2)), (.pv (.bool b)), (.pv (.bool b2)), (.pv (.int .i64 n3)), (.pv (.int .i64 n4))]]) (sc := t_.ev) (.k1 t_.pf (by kernel_rfl) (by kernel_rfl))
            exact e_.out ⟨.eq rfl, trivial⟩ ⟨⟨.own (by first | rfl | (simp only [List.take_length]; done) | (simp only [List.take_length, List.length_map, List.length_append, List.drop_zero, List.map_append, List.map_take, List.map_drop, List.map_replicate, List.map_cons, List.map_nil, List.append_nil, List.nil_append, E_L_uint8.pv, E_kinfolklaw11_Act.pv, E_kinfolkref11_Seg.pv, E_L_uint8.upd, E_kinfolklaw11_Act.upd, E_kinfolkref11_Seg.upd]; done) | (simp; done)), .eq rfl, .eq rfl, .eq rfl, .eq rfl, .eq rfl, trivial⟩, trivial⟩ ⟨.recs (.app (.nil) (.eq (by first | rfl | (simp only [List.take_length]; done) | (simp only [List.take_length, List.length_map, List.length_append, List.drop_zero, List.map_append, List.map_take, List.map_drop, List.map_replicate, List.map_cons, List.map_nil, List.append_nil, List.nil_append, E_L_uint8.pv, E_kinfolklaw11_Act.pv, E_kinfolkref11_Seg.pv, E_L_uint8.upd, E_kinfolklaw11_Act.upd, E_kinfolkref11_Seg.upd]; done) | (simp; done)))), trivial⟩ rfl
          · obtain ⟨h10, h⟩ := need_of h
            obtain ⟨h11, h⟩ := need_of h
            have h := some_of h
            subst h
            have t_ := tF h1 <| tR q_2 <| tF h3 <| tR (kinfolkref11_goes_2_runs n2 b b2 n3 n4 r _ h4) <| tF (not_of2 h5) <| tT h6 <| tO h7 <| tO h8 <| tO h7 <| tO h8 <| tO h8 <| tO h7 <| tF (not_of h9) <| tO h10 <| tO h8 <| tO h7 <| tO h7 <| tF (not_of h9) <| tO h10 <| tO (show (Nat.beq ((([] : List (List PV)) ++ (List.take (n5 - 0).toNat (List.map E_kinfolkref11_Seg.pv r)))).length ((([] : List (List PV)) ++ (List.take (n5 - 0).toNat (List.map E_kinfolkref11_Seg.pv r)))).length) = true from Nat.beq_refl _) <| tO h11 <| tT h5 <| tN
            have e_ : Runs Try.prog 66 [(.one (.ref 0 0)), (.one (.pv (.int .u64 n)))] [[(.own 0 0 ((List.map E_kinfolkref11_Seg.pv r)).length false), (.pv (.int .i64 n2)), (.pv (.bool b)), (.pv (.bool b2)), (.pv (.int .i64 n3)), (.pv (.int .i64 n4))]] [(.recs 2 (List.map E_kinfolkref11_Seg.pv r))] ([(.one (.pv (.int .i64 10)))], [[(.own 0 0 (((([] : List (List PV)) ++ (List.take (n5 - 0).toNat (List.map E_kinfolkref11_Seg.pv r))) ++ (List.take ((((List.map E_kinfolkref11_Seg.pv r)).length : Int) - (iadd .i64 n5 1)).toNat (List.drop (0 + ((iadd .i64 n5 1)).toNat) (List.map E_kinfolkref11_Seg.pv r))))).length false), (.pv (.int .i64 n2)), (.pv (.bool b)), (.pv (.bool b4)), (.pv (.int .i64 n6)), (.pv (.int .i64 n4))]], [(.recs 2 ((([] : List (List PV)) ++ (List.take (n5 - 0).toNat (List.map E_kinfolkref11_Seg.pv r))) ++ (List.take ((((List.map E_kinfolkref11_Seg.pv r)).length : Int) - (iadd .i64 n5 1)).toNat (List.drop (0 + ((iadd .i64 n5 1)).toNat) (List.map E_kinfolkref11_Seg.pv r)))))]) := runs_of (C := cfg) (objs := [[(.own 0 0 ((List.map E_kinfolkref11_Seg.pv r)).length false), (.pv (.int .i64 n2)), (.pv (.bool b)), (.pv (.bool b2)), (.pv (.int .i64 n3)), (.pv (.int .i64 n4))]]) (sc := t_.ev) (.k1 t_.pf (by kernel_rfl) (by kernel_rfl))
            exact e_.out ⟨.eq rfl, trivial⟩ ⟨⟨.own (by first | rfl | (simp only [List.take_length]; done) | (simp only [List.take_length, List.length_map, List.length_append, List.drop_zero, List.map_append, List.map_take, List.map_drop, List.map_replicate, List.map_cons, List.map_nil, List.append_nil, List.nil_append, E_L_uint8.pv, E_kinfolklaw11_Act.pv, E_kinfolkref11_Seg.pv, E_L_uint8.upd, E_kinfolklaw11_Act.upd, E_kinfolkref11_Seg.upd]; done) | (simp; done)), .eq rfl, .eq rfl, .eq rfl, .eq rfl, .eq rfl, trivial⟩, trivial⟩ ⟨.recs (.app (.app (.nil) (.eq (by first | rfl | (simp only [List.take_length]; done) | (simp only [List.take_length, List.length_map, List.length_append, List.drop_zero, List.map_append, List.map_take, List.map_drop, List.map_replicate, List.map_cons, List.map_nil, List.append_nil, List.nil_append, E_L_uint8.pv, E_kinfolklaw11_Act.pv, E_kinfolkref11_Seg.pv, E_L_uint8.upd, E_kinfolklaw11_Act.upd, E_kinfolkref11_Seg.upd]; done) | (simp; done)))) (.eq (by first | rfl | (simp only [List.take_length]; done) | (simp only [List.take_length, List.length_map, List.length_append, List.drop_zero, List.map_append, List.map_take, List.map_drop, List.map_replicate, List.map_cons, List.map_nil, List.append_nil, List.nil_append, E_L_uint8.pv, E_kinfolklaw11_Act.pv, E_kinfolkref11_Seg.pv, E_L_uint8.upd, E_kinfolklaw11_Act.upd, E_kinfolkref11_Seg.upd]; done) | (simp; done)))), trivial⟩ rfl
        · have h := some_of h
          subst h
          have t_ := tF h1 <| tR q_2 <| tF h3 <| tR (kinfolkref11_goes_2_runs n2 b b2 n3 n4 r _ h4) <| tF (not_of2 h5) <| tF h6 <| tT h5 <| tN
          exact runs_of (C := cfg) (objs := [[(.own 0 0 ((List.map E_kinfolkref11_Seg.pv r)).length false), (.pv (.int .i64 n2)), (.pv (.bool b)), (.pv (.bool b2)), (.pv (.int .i64 n3)), (.pv (.int .i64 n4))]]) (sc := t_.ev) (.k0 t_.pf (by kernel_rfl))
      · obtain ⟨h6, h⟩ := need_of h
        obtain ⟨h7, h⟩ := need_of h
        rcases cond_of h with ⟨h8, h⟩ | ⟨h8, h⟩
        · obtain ⟨h9, h⟩ := need_of h
          have h := some_of h
          subst h
          have t_ := tF h1 <| tR q_2 <| tF h3 <| tR (kinfolkref11_goes_2_runs n2 b b2 n3 n4 r _ h4) <| tT (not_of h5) <| tT (rfl : true = true) <| tO h6 <| tO h7 <| tO h6 <| tO h7 <| tO h7 <| tO h6 <| tT h8 <| tO h7 <| tO h6 <| tO h6 <| tT h8 <| tO (rfl : true = true) <| tO h9 <| tF h5 <| tN
          have e_ : Runs Try.prog 66 [(.one (.ref 0 0)), (.one (.pv (.int .u64 n)))] [[(.own 0 0 ((List.map E_kinfolkref11_Seg.pv r)).length false), (.pv (.int .i64 n2)), (.pv (.bool b)), (.pv (.bool b2)), (.pv (.int .i64 n3)), (.pv (.int .i64 n4))]] [(.recs 2 (List.map E_kinfolkref11_Seg.pv r))] ([(.one (.pv (.int .i64 0)))], [[(.own 0 0 ((([] : List (List PV)) ++ (List.take ((((List.map E_kinfolkref11_Seg.pv r)).length : Int) - (iadd .i64 n5 1)).toNat (List.drop (0 + ((iadd .i64 n5 1)).toNat) (List.map E_kinfolkref11_Seg.pv r))))).length false), (.pv (.int .i64 n2)), (.pv (.bool b)), (.pv (.bool b4)), (.pv (.int .i64 n6)), (.pv (.int .i64 n4))]], [(.recs 2 (([] : List (List PV)) ++ (List.take ((((List.map E_kinfolkref11_Seg.pv r)).length : Int) - (iadd .i64 n5 1)).toNat (List.drop (0 + ((iadd .i64 n5 1)).toNat) (List.map E_kinfolkref11_Seg.pv r)))))]) := runs_of (C := cfg) (objs := [[(.own 0 0 ((List.map E_kinfolkref11_Seg.pv r)).length false), (.pv (.int .i64 n2)), (.pv (.bool b)), (.pv (.bool b2)), (.pv (.int .i64 n3)), (.pv (.int .i64 n4))]]) (sc := t_.ev) (.k1 t_.pf (by kernel_rfl) (by kernel_rfl))
          exact e_.out ⟨.eq rfl, trivial⟩ ⟨⟨.own (by first | rfl | (simp only [List.take_length]; done) | (simp only [List.take_length, List.length_map, List.length_append, List.drop_zero, List.map_append, List.map_take, List.map_drop, List.map_replicate, List.map_cons, List.map_nil, List.append_nil, List.nil_append, E_L_uint8.pv, E_kinfolklaw11_Act.pv, E_kinfolkref11_Seg.pv, E_L_uint8.upd, E_kinfolklaw11_Act.upd, E_kinfolkref11_Seg.upd]; done) | (simp; done)), .eq rfl, .eq rfl, .eq rfl, .eq rfl, .eq rfl, trivial⟩, trivial⟩ ⟨.recs (.app (.nil) (.eq (by first | rfl | (simp only [List.take_length]; done) | (simp only [List.take_length, List.length_map, List.length_append, List.drop_zero, List.map_append, List.map_take, List.map_drop, List.map_replicate, List.map_cons, List.map_nil, List.append_nil, List.nil_append, E_L_uint8.pv, E_kinfolklaw11_Act.pv, E_kinfolkref11_Seg.pv, E_L_uint8.upd, E_kinfolklaw11_Act.upd, E_kinfolkref11_Seg.upd]; done) | (simp; done)))), trivial⟩ rfl
        · obtain ⟨h9, h⟩ := need_of h
          obtain ⟨h10, h⟩ := need_of h
          have h := some_of h
          subst h
          have t_ := tF h1 <| tR q_2 <| tF h3 <| tR (kinfolkref11_goes_2_runs n2 b b2 n3 n4 r _ h4) <| tT (not_of h5) <| tT (rfl : true = true) <| tO h6 <| tO h7 <| tO h6 <| tO h7 <| tO h7 <| tO h6 <| tF (not_of h8) <| tO h9 <| tO h7 <| tO h6 <| tO h6 <| tF (not_of h8) <| tO h9 <| tO (show (Nat.beq ((([] : List (List PV)) ++ (List.take (n5 - 0).toNat (List.map E_kinfolkref11_Seg.pv r)))).length ((([] : List (List PV)) ++ (List.take (n5 - 0).toNat (List.map E_kinfolkref11_Seg.pv r)))).length) = true from Nat.beq_refl _) <| tO h10 <| tF h5 <| tN
          have e_ : Runs Try.prog 66 [(.one (.ref 0 0)), (.one (.pv (.int .u64 n)))] [[(.own 0 0 ((List.map E_kinfolkref11_Seg.pv r)).length false), (.pv (.int .i64 n2)), (.pv (.bool b)), (.pv (.bool b2)), (.pv (.int .i64 n3)), (.pv (.int .i64 n4))]] [(.recs 2 (List.map E_kinfolkref11_Seg.pv r))] ([(.one (.pv (.int .i64 0)))], [[(.own 0 0 (((([] : List (List PV)) ++ (List.take (n5 - 0).toNat (List.map E_kinfolkref11_Seg.pv r))) ++ (List.take ((((List.map E_kinfolkref11_Seg.pv r)).length : Int) - (iadd .i64 n5 1)).toNat (List.drop (0 + ((iadd .i64 n5 1)).toNat) (List.map E_kinfolkref11_Seg.pv r))))).length false), (.pv (.int .i64 n2)), (.pv (.bool b)), (.pv (.bool b4)), (.pv (.int .i64 n6)), (.pv (.int .i64 n4))]], [(.recs 2 ((([] : List (List PV)) ++ (List.take (n5 - 0).toNat (List.map E_kinfolkref11_Seg.pv r))) ++ (List.take ((((List.map E_kinfolkref11_Seg.pv r)).length : Int) - (iadd .i64 n5 1)).toNat (List.drop (0 + ((iadd .i64 n5 1)).toNat) (List.map E_kinfolkref11_Seg.pv r)))))]) := runs_of (C := cfg) (objs := [[(.own 0 0 ((List.map E_kinfolkref11_Seg.pv r)).length false), (.pv (.int .i64 n2)), (.pv (.bool b)), (.pv (.bool b2)), (.pv (.int .i64 n3)), (.pv (.int .i64 n4))]]) (sc := t_.ev) (.k1 t_.pf (by kernel_rfl) (by kernel_rfl))
          exact e_.out ⟨.eq rfl, trivial⟩ ⟨⟨.own (by first | rfl | (simp only [List.take_length]; done) | (simp only [List.take_length, List.length_map, List.length_append, List.drop_zero, List.map_append, List.map_take, List.map_drop, List.map_replicate, List.map_cons, List.map_nil, List.append_nil, List.nil_append, E_L_uint8.pv, E_kinfolklaw11_Act.pv, E_kinfolkref11_Seg.pv, E_L_uint8.upd, E_kinfolklaw11_Act.upd, E_kinfolkref11_Seg.upd]; done) | (simp; done)), .eq rfl, .eq rfl, .eq rfl, .eq rfl, .eq rfl, trivial⟩, trivial⟩ ⟨.recs (.app (.app (.nil) (.eq (by first | rfl | (simp only [List.take_length]; done) | (simp only [List.take_length, List.length_map, List.length_append, List.drop_zero, List.map_append, List.map_take, List.map_drop, List.map_replicate, List.map_cons, List.map_nil, List.append_nil, List.nil_append, E_L_uint8.pv, E_kinfolklaw11_Act.pv, E_kinfolkref11_Seg.pv, E_L_uint8.upd, E_kinfolklaw11_Act.upd, E_kinfolkref11_Seg.upd]; done) | (simp; done)))) (.eq (by first | rfl | (simp only [List.take_length]; done) | (simp only [List.take_length, List.length_map, List.length_append, List.drop_zero, List.map_append, List.map_take, List.map_drop, List.map_replicate, List.map_cons, List.map_nil, List.append_nil, List.nil_append, E_L_uint8.pv, E_kinfolklaw11_Act.pv, E_kinfolkref11_Seg.pv, E_L_uint8.upd, E_kinfolklaw11_Act.upd, E_kinfolkref11_Seg.upd]; done) | (simp; done)))), trivial⟩ rfl
/-! ### kinfolkref11_On_2_out -/
def kinfolkref11_On_2_out (n : Int) (b : Bool) (b2 : Bool) (n2 : Int) (n3 : Int) (r : List E_kinfolkref11_Seg) : Unit → Res
  | _ => ([], [[(.own 0 0 ((List.map E_kinfolkref11_Seg.pv r)).length false), (.pv (.int .i64 n)), (.pv (.bool b)), (.pv (.bool false)), (.pv (.int .i64 0)), (.pv (.int .i64 n3))]], [(.recs 2 (List.map E_kinfolkref11_Seg.pv r))])
/-! ### kinfolkref11_On_2 -/
noncomputable def kinfolkref11_On_2 (n : Int) (b : Bool) (b2 : Bool) (n2 : Int) (n3 : Int) (r : List E_kinfolkref11_Seg) : Option (Unit) :=
  some ()
theorem kinfolkref11_On_2_runs (n : Int) (b : Bool) (b2 : Bool) (n2 : Int) (n3 : Int) (r : List E_kinfolkref11_Seg) (r_ : Unit) (h : kinfolkref11_On_2 n b b2 n2 n3 r = some r_) : Runs Try.prog 67 [(.one (.ref 0 0))] [[(.own 0 0 ((List.map E_kinfolkref11_Seg.pv r)).length false), (.pv (.int .i64 n)), (.pv (.bool b)), (.pv (.bool b2)), (.pv (.int .i64 n2)), (.pv (.int .i64 n3))]] [(.recs 2 (List.map E_kinfolkref11_Seg.pv r))] (kinfolkref11_On_2_out n b b2 n2 n3 r r_) := by
  unfold kinfolkref11_On_2 at h
  have h := some_of h
  subst h
  have t_ := tN
  exact runs_of (C := cfg) (objs := [[(.own 0 0 ((List.map E_kinfolkref11_Seg.pv r)).length false), (.pv (.int .i64 n)), (.pv (.bool b)), (.pv (.bool b2)), (.pv (.int .i64 n2)), (.pv (.int .i64 n3))]]) (sc := t_.ev) (.k0 t_.pf (by kernel_rfl))
/-! ### kinfolkref11_Append_3_out -/
def kinfolkref11_Append_3_out (n : Int) (p : List Int) (n2 : Int) (b : Bool) (b2 : Bool) (n3 : Int) (n4 : Int) (r : List E_kinfolkref11_Seg) : Int × Bool × Int × List E_kinfolkref11_Seg → Res
  | (r1, r2, r3, r4) => ([(.one (.pv (.int .i64 r1)))], [[(.own 0 0 ((List.map E_kinfolkref11_Seg.pv r4)).length false), (.pv (.int .i64 n2)), (.pv (.bool b)), (.pv (.bool r2)), (.pv (.int .i64 r3)), (.pv (.int .i64 n4))]], [(.recs 2 (List.map E_kinfolkref11_Seg.pv r4))])
/-! ### kinfolkref11_Append_C38 -/
def kinfolkref11_Append_C38_ex (n : Int) (p : List Int) (k : Int) (b : Bool) (n2 : Int) (b2 : Bool) (b3 : Bool) (n3 : Int) (n4 : Int) (r : List E_kinfolkref11_Seg) : Int → Ex × St
  | r1 => (.normal, ⟨[(0, (.av (.one (.ref 0 0)))), (1, (.av (.one (.pv (.int .u64 n))))), (2, (.av (.one (.pv (.ints .u8 p false))))), (7, (.av (.one (.pv (.int .i64 10))))), (8, (.av (.one (.pv (.int .i64 r1)))))], [(0, [(.own 0 0 ((List.map E_kinfolkref11_Seg.pv r)).length false), (.pv (.int .i64 n2)), (.pv (.bool b2)), (.pv (.bool b3)), (.pv (.int .i64 n3)), (.pv (.int .i64 n4))])], [(0, (.live (.recs 2 (List.map E_kinfolkref11_Seg.pv r))))]⟩)
noncomputable def kinfolkref11_Append_C38 (n : Int) (p : List Int) (k : Int) (b : Bool) (n2 : Int) (b2 : Bool) (b3 : Bool) (n3 : Int) (n4 : Int) (r : List E_kinfolkref11_Seg) : Option (Int) :=
  bif b then
    some 0
  else
    some k
theorem kinfolkref11_Append_C38_runs (n : Int) (p : List Int) (k : Int) (b : Bool) (n2 : Int) (b2 : Bool) (b3 : Bool) (n3 : Int) (n4 : Int) (r : List E_kinfolkref11_Seg) (r_ : Int) (h : kinfolkref11_Append_C38 n p k b n2 b2 b3 n3 n4 r = some r_) : LRuns Try.prog (lEnv Try.prog cfg 33 1).nt 1 (.cond (.tmp 38) (condAt Try.prog 33 38).1 (condAt Try.prog 33 38).2) ⟨[(0, (.av (.one (.ref 0 0)))), (1, (.av (.one (.pv (.int .u64 n))))), (2, (.av (.one (.pv (.ints .u8 p false))))), (7, (.av (.one (.pv (.int .i64 10))))), (8, (.av (.one (.pv (.int .i64 k))))), (38, (.av (.one (.pv (.bool b)))))], [(0, [(.own 0 0 ((List.map E_kinfolkref11_Seg.pv r)).length false), (.pv (.int .i64 n2)), (.pv (.bool b2)), (.pv (.bool b3)), (.pv (.int .i64 n3)), (.pv (.int .i64 n4))])], [(0, (.live (.recs 2 (List.map E_kinfolkref11_Seg.pv r))))]⟩ (kinfolkref11_Append_C38_ex n p k b n2 b2 b3 n3 n4 r r_).1 (kinfolkref11_Append_C38_ex n p k b n2 b2 b3 n3 n4 r r_).2 := by
  unfold kinfolkref11_Append_C38 at h
  rcases cond_of h with ⟨h1, h⟩ | ⟨h1, h⟩
  · have h := some_of h
    subst h
    have t_ := tT h1 <| tN
    exact piece_ok (C := cfg) (sc := t_.ev) (.k0 t_.pf (by kernel_rfl))
  · have h := some_of h
    subst h
    have t_ := tF h1 <| tN
    exact piece_ok (C := cfg) (sc := t_.ev) (.k0 t_.pf (by kernel_rfl))
/-! ### kinfolkref11_Append_C42 -/
def kinfolkref11_Append_C42_ex (n : Int) (p : List Int) (k : Int) (b : Bool) (n2 : Int) (b2 : Bool) (b3 : Bool) (n3 : Int) (n4 : Int) (r : List E_kinfolkref11_Seg) : Int → Ex × St
  | r1 => (.normal, ⟨[(0, (.av (.one (.ref 0 0)))), (1, (.av (.one (.pv (.int .u64 n))))), (2, (.av (.one (.pv (.ints .u8 p false))))), (7, (.av (.one (.pv (.int .i64 10))))), (8, (.av (.one (.pv (.int .i64 r1)))))], [(0, [(.own 0 0 ((List.map E_kinfolkref11_Seg.pv r)).length false), (.pv (.int .i64 n2)), (.pv (.bool b2)), (.pv (.bool b3)), (.pv (.int .i64 n3)), (.pv (.int .i64 n4))])], [(0, (.live (.recs 2 (List.map E_kinfolkref11_Seg.pv r))))]⟩)
noncomputable def kinfolkref11_Append_C42 (n : Int) (p : List Int) (k : Int) (b : Bool) (n2 : Int) (b2 : Bool) (b3 : Bool) (n3 : Int) (n4 : Int) (r : List E_kinfolkref11_Seg) : Option (Int) :=
  bif b then
    some ((p).length : Int)
  else
    some k
theorem kinfolkref11_Append_C42_runs (n : Int) (p : List Int) (k : Int) (b : Bool) (n2 : Int) (b2 : Bool) (b3 : Bool) (n3 : Int) (n4 : Int) (r : List E_kinfolkref11_Seg) (r_ : Int) (h : kinfolkref11_Append_C42 n p k b n2 b2 b3 n3 n4 r = some r_) : LRuns Try.prog (lEnv Try.prog cfg 33 1).nt 1 (.cond (.tmp 42) (condAt Try.prog 33 42).1 (condAt Try.prog 33 42).2) ⟨[(0, (.av (.one (.ref 0 0)))), (1, (.av (.one (.pv (.int .u64 n))))), (2, (.av (.one (.pv (.ints .u8 p false))))), (7, (.av (.one (.pv (.int .i64 10))))), (8, (.av (.one (.pv (.int .i64 k))))), (42, (.av (.one (.pv (.bool b)))))], [(0, [(.own 0 0 ((List.map E_kinfolkref11_Seg.pv r)).length false), (.pv (.int .i64 n2)), (.pv (.bool b2)), (.pv (.bool b3)), (.pv (.int .i64 n3)), (.pv (.int .i64 n4))])], [(0, (.live (.recs 2 (List.map E_kinfolkref11_Seg.pv r))))]⟩ (kinfolkref11_Append_C42_ex n p k b n2 b2 b3 n3 n4 r r_).1 (kinfolkref11_Append_C42_ex n p k b n2 b2 b3 n3 n4 r r_).2 := by
  unfold kinfolkref11_Append_C42 at h
  rcases cond_of h with ⟨h1, h⟩ | ⟨h1, h⟩
  · have h := some_of h
    subst h
    have t_ := tT h1 <| tN
    exact piece_ok (C := cfg) (sc := t_.ev) (.k0 t_.pf (by kernel_rfl))
  · have h := some_of h
    subst h
    have t_ := tF h1 <| tN
    exact piece_ok (C := cfg) (sc := t_.ev) (.k0 t_.pf (by kernel_rfl))
/-! ### kinfolkref11_Append_C32 -/
def kinfolkref11_Append_C32_ex (n : Int) (p : List Int) (b : Bool) (n2 : Int) (b2 : Bool) (b3 : Bool) (n3 : Int) (n4 : Int) (r : List E_kinfolkref11_Seg) : List Int × Int → Ex × St
  | (r1, r2) => (.normal, ⟨[(0, (.av (.one (.ref 0 0)))), (1, (.av (.one (.pv (.int .u64 n))))), (2, (.av (.one (.pv (.ints .u8 r1 false))))), (7, (.av (.one (.pv (.int .i64 r2)))))], [(0, [(.own 0 0 ((List.map E_kinfolkref11_Seg.pv r)).length false), (.pv (.int .i64 n2)), (.pv (.bool b2)), (.pv (.bool b3)), (.pv (.int .i64 n3)), (.pv (.int .i64 n4))])], [(0, (.live (.recs 2 (List.map E_kinfolkref11_Seg.pv r))))]⟩)
noncomputable def kinfolkref11_Append_C32 (n : Int) (p : List Int) (b : Bool) (n2 : Int) (b2 : Bool) (b3 : Bool) (n3 : Int) (n4 : Int) (r : List E_kinfolkref11_Seg) : Option (List Int × Int) :=
  bif b then
    (kinfolkref11_Append_C38 n p n4 (decide ((n4 : Int) < 0)) n2 b2 b3 n3 n4 r).bind fun n5 =>
    (kinfolkref11_Append_C42 n p n5 (decide ((((p).length : Int) : Int) < n5)) n2 b2 b3 n3 n4 r).bind fun n6 =>
    bif decide ((0 : Int) ≤ 0) && decide ((0 : Int) ≤ n6) && decide ((n6 : Int) ≤ ((p).length : Int)) && decide ((n6 : Int) = n6) then
    some ((List.take (n6 - 0).toNat p), 10)
    else none
  else
    some (p, 0)
theorem kinfolkref11_Append_C32_runs (n : Int) (p : List Int) (b : Bool) (n2 : Int) (b2 : Bool) (b3 : Bool) (n3 : Int) (n4 : Int) (r : List E_kinfolkref11_Seg) (r_ : List Int × Int) (h : kinfolkref11_Append_C32 n p b n2 b2 b3 n3 n4 r = some r_) : LRuns Try.prog (lEnv Try.prog cfg 33 1).nt 1 (.cond (.tmp 32) (condAt Try.prog 33 32).1 (condAt Try.prog 33 32).2) ⟨[(0, (.av (.one (.ref 0 0)))), (1, (.av (.one (.pv (.int .u64 n))))), (2, (.av (.one (.pv (.ints .u8 p false))))), (7, (.av (.one (.pv (.int .i64 0))))), (32, (.av (.one (.pv (.bool b)))))], [(0, [(.own 0 0 ((List.map E_kinfolkref11_Seg.pv r)).length false), (.pv (.int .i64 n2)), (.pv (.bool b2)), (.pv (.bool b3)), (.pv (.int .i64 n3)), (.pv (.int .i64 n4))])], [(0, (.live (.recs 2 (List.map E_kinfolkref11_Seg.pv r))))]⟩ (kinfolkref11_Append_C32_ex n p b n2 b2 b3 n3 n4 r r_).1 (kinfolkref11_Append_C32_ex n p b n2 b2 b3 n3 n4 r r_).2 := by
  unfold kinfolkref11_Append_C32 at h
  rcases cond_of h with ⟨h1, h⟩ | ⟨h1, h⟩
  · obtain ⟨n5, h2, h⟩ := bind_of h
    obtain ⟨n6, h3, h⟩ := bind_of h
    obtain ⟨h4, h⟩ := need_of h
    have h := some_of h
    subst h
    have t_ := tT h1 <| tL (kinfolkref11_Append_C38_runs n p n4 (decide ((n4 : Int) < 0)) n2 b2 b3 n3 n4 r _ h2) <| tL (kinfolkref11_Append_C42_runs n p n5 (decide ((((p).length : Int) : Int) < n5)) n2 b2 b3 n3 n4 r _ h3) <| tO h4 <| tN
    exact piece_ok (C := cfg) (sc := t_.ev) (.k0 t_.pf (by kernel_rfl))
  · have h := some_of h
    subst h
    have t_ := tF h1 <| tN
    exact piece_ok (C := cfg) (sc := t_.ev) (.k0 t_.pf (by kernel_rfl))
/-! ### kinfolkref11_Append_L0_3 -/
def kinfolkref11_Append_L0_3_st (n : Int) (p : List Int) (e : Int) (n2 : Int) (b : Bool) (b2 : Bool) (n3 : Int) (n4 : Int) (r : List E_kinfolkref11_Seg) : Int → St
  | i => ⟨[(0, (.av (.one (.ref 0 0)))), (1, (.av (.one (.pv (.int .u64 n))))), (2, (.av (.one (.pv (.ints .u8 p false))))), (7, (.av (.one (.pv (.int .i64 e))))), (9, (.av (.one (.pv (.int .i64 i)))))], [(0, [(.own 0 0 ((List.map E_kinfolkref11_Seg.pv r)).length false), (.pv (.int .i64 n2)), (.pv (.bool b)), (.pv (.bool b2)), (.pv (.int .i64 n3)), (.pv (.int .i64 n4))])], [(0, (.live (.recs 2 (List.map E_kinfolkref11_Seg.pv r))))]⟩
def kinfolkref11_Append_L0_3_ex (n : Int) (p : List Int) (e : Int) (n2 : Int) (b : Bool) (b2 : Bool) (n3 : Int) (n4 : Int) (r : List E_kinfolkref11_Seg) : Int → Ex × St
  | r1 => ((.exit 0), ⟨[(0, (.av (.one (.ref 0 0)))), (1, (.av (.one (.pv (.int .u64 n))))), (2, (.av (.one (.pv (.ints .u8 p false))))), (7, (.av (.one (.pv (.int .i64 e))))), (9, (.av (.one (.pv (.int .i64 r1)))))], [(0, [(.own 0 0 ((List.map E_kinfolkref11_Seg.pv r)).length false), (.pv (.int .i64 n2)), (.pv (.bool b)), (.pv (.bool b2)), (.pv (.int .i64 n3)), (.pv (.int .i64 n4))])], [(0, (.live (.recs 2 (List.map E_kinfolkref11_Seg.pv r))))]⟩)
noncomputable def kinfolkref11_Append_L0_3_step (n : Int) (p : List Int) (e : Int) (n2 : Int) (b : Bool) (b2 : Bool) (n3 : Int) (n4 : Int) (r : List E_kinfolkref11_Seg) : Int → Option ((Int) ⊕ (Int))
  | i =>
  bif (decide ((i : Int) < (((List.map E_kinfolkref11_Seg.pv r)).length : Int))) then
    bif decide ((0 : Int) ≤ i) && decide ((i : Int) < (((List.map E_kinfolkref11_Seg.pv r)).length : Int)) then
    (r[(0 + (i).toNat)]?).bind fun e_ => match e_ with
    | .mk n5 l_ =>
    bif (decide ((n5 : Int) < n)) then
      some (.inl (iadd .i64 i 1))
    else
      some (.inr i)
    else none
  else
    some (.inr i)
theorem kinfolkref11_Append_L0_3_ok (n : Int) (p : List Int) (e : Int) (n2 : Int) (b : Bool) (b2 : Bool) (n3 : Int) (n4 : Int) (r : List E_kinfolkref11_Seg) (i : Int) (z_ : (Int) ⊕ (Int)) (h : kinfolkref11_Append_L0_3_step n p e n2 b b2 n3 n4 r i = some z_) : RoundOk Try.prog cfg 33 1 (loopAt Try.prog 33 0) (kinfolkref11_Append_L0_3_st n p e n2 b b2 n3 n4 r) (kinfolkref11_Append_L0_3_ex n p e n2 b b2 n3 n4 r) i z_ := by
  rcases cond_of h with ⟨h1, h⟩ | ⟨h1, h⟩
  · obtain ⟨h2, h⟩ := need_of h
    obtain ⟨⟨n5, l_⟩, h3, h⟩ := bind_of h
    rcases cond_of h with ⟨h4, h⟩ | ⟨h4, h⟩
    · have h := some_of h
      subst h
      have t_ := tT h1 <| tO h2 <| tE (.el [(.int .u64 n5), (.ints .u8 l_ false)]) <| tO (el_of (f := E_kinfolkref11_Seg.pv) h3) <| tT h4 <| tN
      exact ⟨t_.ev, kinfolkref11_Append_L0_3_st n p e n2 b b2 n3 n4 r (iadd .i64 i 1), .k0 t_.pf (by kernel_rfl), .same (by kernel_rfl)⟩
    · have h := some_of h
      subst h
      have t_ := tT h1 <| tO h2 <| tE (.el [(.int .u64 n5), (.ints .u8 l_ false)]) <| tO (el_of (f := E_kinfolkref11_Seg.pv) h3) <| tF h4 <| tN
      exact ⟨t_.ev, ⟨[(71, (.av (.one (.pv (.bool false))))), (0, (.av (.one (.ref 0 0)))), (1, (.av (.one (.pv (.int .u64 n))))), (2, (.av (.one (.pv (.ints .u8 p false))))), (7, (.av (.one (.pv (.int .i64 e))))), (9, (.av (.one (.pv (.int .i64 i))))), (71, (.av (.one (.pv (.bool (decide ((n5 : Int) < n)))))))], [(0, [(.own 0 0 ((List.map E_kinfolkref11_Seg.pv r)).length false), (.pv (.int .i64 n2)), (.pv (.bool b)), (.pv (.bool b2)), (.pv (.int .i64 n3)), (.pv (.int .i64 n4))])], [(0, (.live (.recs 2 (List.map E_kinfolkref11_Seg.pv r))))]⟩, .k0 t_.pf (by kernel_rfl), ⟨⟨⟨_, rfl, .eq rfl⟩, ⟨_, rfl, .eq rfl⟩, ⟨_, rfl, .eq rfl⟩, ⟨_, rfl, .eq rfl⟩, ⟨_, rfl, .eq rfl⟩, trivial⟩, ⟨⟨rfl, ⟨.eq rfl, .eq rfl, .eq rfl, .eq rfl, .eq rfl, .eq rfl, trivial⟩⟩, trivial⟩, ⟨⟨rfl, .eq rfl⟩, trivial⟩⟩⟩
  · have h := some_of h
    subst h
    have t_ := tF h1 <| tF (rfl : false = false) <| tN
    exact ⟨t_.ev, ⟨[(71, (.av (.one (.pv (.bool false))))), (0, (.av (.one (.ref 0 0)))), (1, (.av (.one (.pv (.int .u64 n))))), (2, (.av (.one (.pv (.ints .u8 p false))))), (7, (.av (.one (.pv (.int .i64 e))))), (9, (.av (.one (.pv (.int .i64 i))))), (71, (.av (.one (.pv (.bool false)))))], [(0, [(.own 0 0 ((List.map E_kinfolkref11_Seg.pv r)).length false), (.pv (.int .i64 n2)), (.pv (.bool b)), (.pv (.bool b2)), (.pv (.int .i64 n3)), (.pv (.int .i64 n4))])], [(0, (.live (.recs 2 (List.map E_kinfolkref11_Seg.pv r))))]⟩, .k0 t_.pf (by kernel_rfl), ⟨⟨⟨_, rfl, .eq rfl⟩, ⟨_, rfl, .eq rfl⟩, ⟨_, rfl, .eq rfl⟩, ⟨_, rfl, .eq rfl⟩, ⟨_, rfl, .eq rfl⟩, trivial⟩, ⟨⟨rfl, ⟨.eq rfl, .eq rfl, .eq rfl, .eq rfl, .eq rfl, .eq rfl, trivial⟩⟩, trivial⟩, ⟨⟨rfl, .eq rfl⟩, trivial⟩⟩⟩
theorem kinfolkref11_Append_L0_3_runs (n : Int) (p : List Int) (e : Int) (n2 : Int) (b : Bool) (b2 : Bool) (n3 : Int) (n4 : Int) (r : List E_kinfolkref11_Seg) (s_ : Int) (r_ : Int) (h : runL (kinfolkref11_Append_L0_3_step n p e n2 b b2 n3 n4 r) s_ = some r_) : LRuns Try.prog (lEnv Try.prog cfg 33 1).nt 1 (.loop (loopAt Try.prog 33 0)) (kinfolkref11_Append_L0_3_st n p e n2 b b2 n3 n4 r s_) (kinfolkref11_Append_L0_3_ex n p e n2 b b2 n3 n4 r r_).1 (kinfolkref11_Append_L0_3_ex n p e n2 b b2 n3 n4 r r_).2 :=
  loop_run h (kinfolkref11_Append_L0_3_ok n p e n2 b b2 n3 n4 r) (by intro r_; rcases r_ with r1 <;> simp [kinfolkref11_Append_L0_3_ex])

end Go.Proofs.Ytgimaogkhblaiaa
