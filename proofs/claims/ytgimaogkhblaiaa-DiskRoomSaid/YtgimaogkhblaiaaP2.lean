/- Three laws of the disk, plain: no disk, a torn append, a disk's room. -/
import Derived.Test.YtgimaogkhblaiaaA4
import Derived.Test.YtgimaogkhblaiaaP1
set_option linter.unusedVariables false
set_option linter.unusedSimpArgs false
namespace Go.Proofs.Ytgimaogkhblaiaa
open Go.Ev

theorem diskNil_true (n : Int) (p : List Int) (k : Int) (on_ : Bool) : kinfolklaw11_DiskNil n p k on_ = some true := by
  have eq0 : slices_Equal_uint64 [] [] = some true := by
    unfold slices_Equal_uint64
    rw [show (([] : List Int).length : Int) = 0 from rfl, dt rfl, cond_true, runL_done (r := .inr ()) (by rfl)]
    rfl
  have same1 : disk_Same = some true := by
    unfold disk_Same disk_Disk_Segs_2
    simp only [Option.bind_some, eq0, cond_true]
    rw [runL_done (r := ()) (by rfl)]
    rfl
  have same2 : ∀ n, disk_Same_2 n false false 0 0 [] = some true := by
    intro n
    unfold disk_Same_2 disk_Disk_Segs_2
    rw [segs_eq Ok.nil]
    simp only [Option.bind_some, ks, List.map_nil, sortI, List.mergeSort_nil, eq0, cond_true]
    rw [runL_done (r := ()) (by rfl)]
    rfl
  unfold kinfolklaw11_DiskNil
  rw [awake_eq, cut_eq]
  have u2 : disk_Disk_Used_2 = some () := by
    unfold disk_Disk_Used_2 disk_Disk_Segs_2
    rw [Option.bind_some, runL_done (r := ()) (by rfl)]
    rfl
  simp only [Option.bind_some, cond_true, disk_Disk_Full, disk_Disk_Arm_2, disk_Disk_Off, disk_Disk_On, disk_Disk_Read_2, disk_Disk_Append_2, disk_Disk_Drop, disk_Disk_Segs_2, u2, disk_Disk_Room, disk_Disk_Armed, disk_Disk_Up_2, disk_Disk_Copy, same1, disk_New, same2, disk_Disk_Room_2, decide_true]

/-! ### A torn append -/
theorem map_pv_take {l : List E_L_uint8} {q : Nat} : (List.map E_L_uint8.pv (l.take q)).length = min q l.length := by simp
def torn7 (i : Nat) (w : List Int) : Segm := if i = 0 then [] else [(7, w)]
theorem torn7_ok {i : Nat} {w : List Int} (h : w.length ≤ 1000) : Ok (torn7 i w) := by
  unfold torn7
  split
  · exact Ok.nil
  · exact ⟨by simp [ks], fun x hx => by simp [ks] at hx; omega, by simp [tot]; omega⟩
theorem torn7_old {i : Nat} {w : List Int} (h : i = 0 → w = []) : old 7 (torn7 i w) = w := by
  unfold torn7
  split
  · rename_i hi; rw [h hi]; rfl
  · simp [old, mget]
theorem torn7_set {i : Nat} {w v : List Int} : mset 7 v (torn7 i w) = torn7 (i + 1) v := by
  unfold torn7
  split
  · simp [mset]
  · simp [mset]
theorem torn7_tot {i : Nat} {w : List Int} (h : i = 0 → w = []) : tot (torn7 i w) = w.length := by
  unfold torn7
  split
  · rename_i hi; rw [h hi]; rfl
  · simp [tot]
theorem torn_loop {l r : List E_L_uint8} {torn : Int} {N : Nat} (hN : 0 < N ∧ N ≤ 100) (hr : r.length ≤ 20) : ∀ {q : List E_L_uint8} {i : Nat} {w : List Int}, r.drop i = q → i ≤ r.length → w.length ≤ 40 * i → (i = 0 → w = []) →
    ∃ w' : List Int, ∃ i' : Nat, w'.length ≤ 800 ∧ (i' = 0 ↔ r.length = 0) ∧ (i' = 0 → w' = []) ∧ runL (kinfolklaw11_DiskTorn_L0_2_step l torn (N : Int) r (r.length : Int) 5000 torn) ((i : Int), decide (N ≤ i), ((N - i : Nat) : Int), torn7 i w, w) = some (.inr (decide (N ≤ r.length), ((N - r.length : Nat) : Int), torn7 i' w', w'))
  | [], i, w, hd, hi, hw, h0 => by
    have : r.length ≤ i := List.drop_eq_nil_iff.1 hd
    have hi : i = r.length := by omega
    subst hi
    refine ⟨w, r.length, by omega, Iff.rfl, h0, runL_done ?_⟩
    rw [kinfolklaw11_DiskTorn_L0_2_step, df (by omega)]
    rfl
  | ⟨c⟩ :: q, i, w, hd, hi, hw, h0 => by
    have hlt : i < r.length := by
      rcases Nat.lt_or_ge i r.length with h | h
      · exact h
      · rw [List.drop_eq_nil_of_le h] at hd; cases hd
    have hd2 : r.drop (i + 1) = q := by
      rw [← List.drop_drop, hd]; rfl
    have hk : r[i]? = some (E_L_uint8.mk c) := by
      have : (r.drop i)[0]? = some (E_L_uint8.mk c) := by rw [hd]; rfl
      rw [List.getElem?_drop] at this
      simpa using this
    have e1 : iadd .i64 (i : Int) 1 = ((i + 1 : Nat) : Int) := by rw [iadd64 (by omega) (by omega)]; omega
    have hc : (c.take 40).length ≤ 40 := by rw [List.length_take]; omega
    have ok := torn7_ok (i := i) (w := w) (by omega)
    have ht := torn7_tot (i := i) (w := w) h0
    have hfull : ¬ (5000 : Int) - tot (torn7 i w) < (c.take 40).length := by rw [ht]; omega
    have head : ∀ z, (disk_Disk_Append 7 (c.take 40) 5000 false (decide (N ≤ i)) ((N - i : Nat) : Int) torn (torn7 i w)).bind (fun (n7, b2, n8, m_) =>
        bif (decide ((((i + 1 : Nat) : Int)) < (N : Int))) then
          bif fits ((w ++ (c.take 40))).length then
          bif ((decide ((n7 : Int) = 0)) == (decide ((((i + 1 : Nat) : Int)) < (N : Int)))) then
            bif (decide ((n7 : Int) = 0)) then
              some (.inl ((((i + 1 : Nat) : Int)), b2, n8, m_, (w ++ (c.take 40))))
            else
              bif (decide ((n7 : Int) = 10)) then
                some (.inl ((((i + 1 : Nat) : Int)), b2, n8, m_, (w ++ (c.take 40))))
              else
                some (.inr (.inl ()))
          else
            some (.inr (.inl ()))
          else none
        else
          bif (decide ((((i + 1 : Nat) : Int)) = (N : Int))) then
            bif fits ((w ++ tear torn (c.take 40))).length then
            bif ((decide ((n7 : Int) = 0)) == (decide ((((i + 1 : Nat) : Int)) < (N : Int)))) then
              bif (decide ((n7 : Int) = 0)) then
                some (.inl ((((i + 1 : Nat) : Int)), b2, n8, m_, (w ++ tear torn (c.take 40))))
              else
                bif (decide ((n7 : Int) = 10)) then
                  some (.inl ((((i + 1 : Nat) : Int)), b2, n8, m_, (w ++ tear torn (c.take 40))))
                else
                  some (.inr (.inl ()))
            else
              some (.inr (.inl ()))
            else none
          else
            bif ((decide ((n7 : Int) = 0)) == (decide ((((i + 1 : Nat) : Int)) < (N : Int)))) then
              bif (decide ((n7 : Int) = 0)) then
                some (.inl ((((i + 1 : Nat) : Int)), b2, n8, m_, w))
              else
                bif (decide ((n7 : Int) = 10)) then
                  some (.inl ((((i + 1 : Nat) : Int)), b2, n8, m_, w))
                else
                  some (.inr (.inl ()))
            else
              some (.inr (.inl ()))) = some z → kinfolklaw11_DiskTorn_L0_2_step l torn (N : Int) r (r.length : Int) 5000 torn ((i : Int), decide (N ≤ i), ((N - i : Nat) : Int), torn7 i w, w) = some z := by
      intro z hz
      rw [kinfolklaw11_DiskTorn_L0_2_step]
      generalize hT : c.take 40 = T at hz
      have hq0 : 0 ≤ (if (T.length : Int) < (if torn < 0 then 0 else torn) then (T.length : Int) else (if torn < 0 then 0 else torn)) ∧ (if (T.length : Int) < (if torn < 0 then 0 else torn) then (T.length : Int) else (if torn < 0 then 0 else torn)) ≤ T.length := by split <;> split <;> omega
      simp only [tear] at hz
      simp only [e1, List.length_map, dt (show (i : Int) < (r.length : Int) by omega), dt (show (0 : Int) ≤ (i : Int) by omega), cond_true, Bool.and_self, Int.toNat_natCast, hk, Option.bind_some, cut_eq, hT, dt hq0.1, dt hq0.2, Int.sub_zero, decide_true, Int.le_refl]
      exact hz
    rcases Nat.lt_or_ge i N with hiN | hiN
    · rcases Nat.lt_or_ge (i + 1) N with hiN2 | hiN2
      · have h1 := append_armed (seg := 7) (n := 5000) (n3 := torn) (a := N - i - 2) (p := c.take 40) ok (by omega) hfull (by omega)
        have h2 := head (.inl (((i + 1 : Nat) : Int), decide (N ≤ i + 1), ((N - (i + 1) : Nat) : Int), torn7 (i + 1) (w ++ c.take 40), w ++ c.take 40)) (by
          rw [show N - i = N - i - 2 + 2 by omega, df (show ¬ N ≤ i by omega), h1, Option.bind_some, torn7_old h0, torn7_set]
          have : fits (w ++ c.take 40).length = true := by simp only [fits]; exact dt (by rw [List.length_append]; omega)
          simp only [dt (show (((i + 1 : Nat) : Int)) < (N : Int) by omega), this, cond_true, decide_true, BEq.rfl, df (show ¬ N ≤ i + 1 by omega)]
          rw [show N - i - 2 + 1 = N - (i + 1) by omega])
        rw [runL_next h2]
        exact torn_loop hN hr hd2 (by omega) (by rw [List.length_append]; omega) (by omega)
      · have hN1 : N = i + 1 := by omega
        have h1 := append_torn (seg := 7) (n := 5000) (n3 := torn) (p := c.take 40) ok (by omega) hfull
        have htl := tear_len (n3 := torn) (p := c.take 40)
        have h2 := head (.inl (((i + 1 : Nat) : Int), decide (N ≤ i + 1), ((N - (i + 1) : Nat) : Int), torn7 (i + 1) (w ++ tear torn (c.take 40)), w ++ tear torn (c.take 40))) (by
          rw [show N - i = 1 by omega, df (show ¬ N ≤ i by omega), show ((1 : Nat) : Int) = 1 from rfl, h1, Option.bind_some, torn7_old h0, torn7_set]
          have : fits (w ++ tear torn (c.take 40)).length = true := by simp only [fits]; exact dt (by rw [List.length_append]; omega)
          simp only [df (show ¬ (((i + 1 : Nat) : Int)) < (N : Int) by omega), dt (show (((i + 1 : Nat) : Int)) = (N : Int) by omega), this, cond_true, cond_false, decide_true, dt (show N ≤ i + 1 by omega)]
          rw [show N - (i + 1) = 0 by omega]
          rfl)
        rw [runL_next h2]
        exact torn_loop hN hr hd2 (by omega) (by rw [List.length_append]; omega) (by omega)
    · have h2 := head (.inl (((i + 1 : Nat) : Int), decide (N ≤ i + 1), ((N - (i + 1) : Nat) : Int), torn7 (i + 1) w, w)) (by
          rw [dt hiN, append_off, Option.bind_some]
          simp only [df (show ¬ (((i + 1 : Nat) : Int)) < (N : Int) by omega), df (show ¬ (((i + 1 : Nat) : Int)) = (N : Int) by omega), cond_false, dt (show N ≤ i + 1 by omega)]
          rw [show N - (i + 1) = N - i by omega]
          have : torn7 i w = torn7 (i + 1) w := by
            unfold torn7; rw [if_neg (by omega), if_neg (by omega)]
          rw [this]
          rfl)
      rw [runL_next h2]
      exact torn_loop hN hr hd2 (by omega) (by omega) (by omega)
theorem diskTorn_true (l : List E_L_uint8) (k : Int) (torn : Int) (hk : 0 ≤ k ∧ k ≤ 255) : kinfolklaw11_DiskTorn l k torn = some true := by
  unfold kinfolklaw11_DiskTorn
  have hq0 : 0 ≤ (if (20 : Int) < (l.length : Int) then 20 else (l.length : Int)) ∧ (if (20 : Int) < (l.length : Int) then 20 else (l.length : Int)) ≤ l.length := by split <;> omega
  have ht : ∀ {α : Type} (x : List α), x.length = l.length → x.take ((if (20 : Int) < (l.length : Int) then 20 else (l.length : Int))).toNat = x.take 20 := by
    intro α x hx
    split
    · rfl
    · rename_i h
      rw [List.take_of_length_le (by omega), List.take_of_length_le (by omega)]
  have hn : iadd .i64 1 (IntKind.i64.wrap (irem .u8 k 20)) = ((1 + k.toNat % 20 : Nat) : Int) := by
    have : irem .u8 k 20 = ((k.toNat % 20 : Nat) : Int) := by
      rw [show k = ((k.toNat : Nat) : Int) by omega]
      rw [Int.toNat_natCast]
      have hk2 : k.toNat < 256 := by omega
      revert hk2
      generalize k.toNat = j
      intro hj
      have key : ∀ j : Fin 256, irem .u8 ((j.val : Nat) : Int) 20 = ((j.val % 20 : Nat) : Int) := by decide +kernel
      exact key ⟨j, hj⟩
    rw [this, i64_in (by omega) (by omega), iadd64 (by omega) (by omega)]
    omega
  simp only [List.length_map, Int.sub_zero, dt hq0.1, dt hq0.2, Bool.and_self, decide_true, Int.le_refl, cond_true, awake_eq, Option.bind_some, ht l rfl, ht (l.map E_L_uint8.pv) (List.length_map ..), hn]
  have hlen : (List.take 20 (List.map E_L_uint8.pv l)).length = (l.take 20).length := by simp
  have a1 : disk_New 5000 = some 5000 := by unfold disk_New; rfl
  have a2 : ∀ a : Nat, disk_Disk_Arm ((a : Nat) : Int) torn 5000 false false 0 0 [] = some ((a : Nat) : Int) := by
    intro a
    unfold disk_Disk_Arm
    rw [if_neg (by omega)]
  rw [a1, Option.bind_some, a2, Option.bind_some, hlen]
  generalize hr : l.take 20 = r
  have hr20 : r.length ≤ 20 := by rw [← hr, List.length_take]; omega
  obtain ⟨w, i', hw, hi, h0, h⟩ := torn_loop (l := r) (r := r) (torn := torn) (N := 1 + k.toNat % 20) (by omega) hr20 (i := 0) (w := []) rfl (Nat.zero_le _) (Nat.zero_le _) (fun _ => rfl)
  simp only [Nat.sub_zero, Int.natCast_zero] at h
  rw [df (by omega), show torn7 0 [] = [] from rfl] at h
  rw [h, Option.bind_some]
  have ok := torn7_ok (i := i') (w := w) (by omega)
  have htt := torn7_tot (i := i') (w := w) h0
  have hold := torn7_old (i := i') (w := w) h0
  have hap := append_fits (seg := 7) (n := 5000) (n3 := torn) (p := [1]) ok (by omega) (by rw [htt]; simp; omega)
  have ok2 : Ok (mset 7 (old 7 (torn7 i' w) ++ [1]) (torn7 i' w)) := ok.app (by omega) (by rw [htt]; simp; omega)
  have hu := used_eq (n := 5000) (n2 := 0) (n3 := torn) (b := false) (b2 := false) ok2
  simp only [read_eq ok, hold, Option.bind_some, bytes_Equal, decide_true, cond_true, disk_Disk_Up, List.take_length]
  have hup : ((!decide (1 + k.toNat % 20 ≤ r.length)) == decide ((r.length : Int) < ((1 + k.toNat % 20 : Nat) : Int))) = true := by
    by_cases h : 1 + k.toNat % 20 ≤ r.length
    · rw [dt h, df (by omega)]; rfl
    · rw [df h, dt (by omega)]; rfl
  rw [hup, cond_true]
  simp only [disk_Disk_On_2, Option.bind_some, hap, decide_true, cond_true, disk_Disk_Armed_2]
  rw [hu, Option.bind_some, tot_app, htt, iadd64 (by omega) (by omega), dt (by simp)]

/-! ### A disk's room -/
theorem rem4 {n : Int} (h : 0 ≤ n ∧ n ≤ 18446744073709551615) : 0 ≤ irem .u64 n 4 ∧ irem .u64 n 4 ≤ 7 := by
  have : irem .u64 n 4 = n.tmod 4 := by
    have h1 := Int.tmod_nonneg 4 h.1
    have h2 := Int.tmod_lt_of_pos n (show (0 : Int) < 4 by omega)
    rfl
  rw [this]
  exact ⟨Int.tmod_nonneg _ h.1, by have := Int.tmod_lt_of_pos n (show (0 : Int) < 4 by omega); omega⟩
def segOk (a : E_kinfolklaw11_Act) : Prop := match a with | .mk _ n7 _ _ _ _ => 0 ≤ n7 ∧ n7 ≤ 18446744073709551615
theorem drop_eq {seg n : Int} {m : Segm} : disk_Disk_Drop_2 seg n false false 0 0 m = some (if (mget seg m).isSome then 0 else 2, false, 0, mdel seg m) := by
  unfold disk_Disk_Drop_2
  have hg : disk_Disk_goes n false false 0 0 m = some (false, false, 0) := by unfold disk_Disk_goes; rfl
  rw [hg]
  cases hm : mget seg m with
  | some v => rfl
  | none =>
    have : ∀ {m : Segm}, mget seg m = none → mdel seg m = m := by
      intro m
      induction m with
      | nil => intro _; rfl
      | cons e m ih =>
        intro h
        by_cases hk : seg = e.1
        · simp [mget, hk] at h
        · simp only [mget, hk, decide_false, cond_false] at h
          simp only [mdel, hk, decide_false, cond_false, ih h]
    rw [this hm]
    rfl
theorem Ok.del {m : Segm} (h : Ok m) {k : Int} : Ok (mdel k m) where
  nd := nodup_mdel h.nd
  rg x hx := h.rg x (ks_mdel hx)
  sz := by have := tot_mdel (k := k) (m := m); have := h.sz; omega
set_option maxHeartbeats 1000000 in
theorem room_loop {r : List E_kinfolklaw11_Act} (hs : ∀ a ∈ r, segOk a) {R : Nat} (hR : R ≤ 200) : ∀ {q : List E_kinfolklaw11_Act} {i : Nat} {m : Segm}, r.drop i = q → i ≤ r.length → i ≤ 40 → Ok m → tot m ≤ R →
    ∃ z, runL (kinfolklaw11_DiskRoom_L0_step (R : Int) r (r.length : Int) (R : Int)) ((i : Int), false, 0, m) = some z ∧ ∀ u, z ≠ .inr (.inl u)
  | [], i, m, hd, hi, h40, ok, ht => by
    have : r.length ≤ i := List.drop_eq_nil_iff.1 hd
    refine ⟨.inr (.inr (false, 0, m)), runL_done ?_, fun u h => by cases h⟩
    rw [kinfolklaw11_DiskRoom_L0_step, df (by omega)]
    rfl
  | ⟨n6, n7, c, n8, n9, b2⟩ :: q, i, m, hd, hi, h40, ok, ht => by
    have hlt : i < r.length := by
      rcases Nat.lt_or_ge i r.length with h | h
      · exact h
      · rw [List.drop_eq_nil_of_le h] at hd; cases hd
    have hd2 : r.drop (i + 1) = q := by
      rw [← List.drop_drop, hd]; rfl
    have hk : r[i]? = some (E_kinfolklaw11_Act.mk n6 n7 c n8 n9 b2) := by
      have : (r.drop i)[0]? = some (E_kinfolklaw11_Act.mk n6 n7 c n8 n9 b2) := by rw [hd]; rfl
      rw [List.getElem?_drop] at this
      simpa using this
    have e1 : iadd .i64 (i : Int) 1 = ((i + 1 : Nat) : Int) := by rw [iadd64 (by omega) (by omega)]; omega
    have hseg : segOk (E_kinfolklaw11_Act.mk n6 n7 c n8 n9 b2) := hs _ (List.mem_of_getElem? hk)
    simp only [segOk] at hseg
    have h7 := rem4 hseg
    by_cases h4 : i = 40
    · refine ⟨.inl (false, 0, m, n6, n7, c, n8, n9, b2), runL_done ?_, fun u h => by cases h⟩
      rw [kinfolklaw11_DiskRoom_L0_step]
      simp only [List.length_map, dt (show (i : Int) < (r.length : Int) by omega), dt (show (0 : Int) ≤ (i : Int) by omega), cond_true, Bool.and_self, Int.toNat_natCast, hk, Option.bind_some, dt (show (40 : Int) ≤ (i : Int) by omega)]
    have hT : (c.take 40).length ≤ 40 := by rw [List.length_take]; omega
    have fin : ∀ m2 : Segm, Ok m2 → tot m2 ≤ R → kinfolklaw11_DiskRoom_L0_step (R : Int) r (r.length : Int) (R : Int) ((i : Int), false, 0, m) = some (.inl (((i + 1 : Nat) : Int), false, 0, m2)) →
        ∃ z, runL (kinfolklaw11_DiskRoom_L0_step (R : Int) r (r.length : Int) (R : Int)) ((i : Int), false, 0, m) = some z ∧ ∀ u, z ≠ .inr (.inl u) := by
      intro m2 ok2 ht2 h
      rw [runL_next h]
      exact room_loop hs hR hd2 (by omega) (by omega) ok2 ht2
    have step : ∀ z, ((disk_Disk_Append (irem .u64 n7 4) (c.take 40) (R : Int) false false 0 0 m).bind fun (n11, b3, n12, m_) =>
      bif ((decide ((n11 : Int) = 0)) == (decide (((((tot m + (c.take 40).length : Nat) : Int))) ≤ (R : Int)))) then
        bif (decide ((n11 : Int) = 0)) then
          (disk_Disk_Used (R : Int) false b3 n12 0 m_).bind fun n13 =>
          bif (decide ((n13 : Int) = ((tot m + (c.take 40).length : Nat) : Int))) then
            bif (decide ((R : Int) < n13)) then
              some (.inr (.inr (.inl ())))
            else
              bif b2 then
                (disk_Disk_Read (irem .u64 n7 4) (R : Int) false b3 n12 0 m_).bind fun (l_3, b4) =>
                (disk_Disk_Drop_2 (irem .u64 n7 4) (R : Int) false b3 n12 0 m_).bind fun (n14, b5, n15, m_2) =>
                bif ((decide ((n14 : Int) = 0)) == b4) then
                  (disk_Disk_Used (R : Int) false b5 n15 0 m_2).bind fun n16 =>
                  (kinfolklaw11_when (decide ((n11 : Int) = 0))).bind fun n17 =>
                  bif (decide ((n16 : Int) = (isub .i64 (iadd .i64 (tot m : Int) (imul .i64 (((c.take 40)).length : Int) n17)) ((l_3).length : Int)))) then
                    some (.inl (((i + 1 : Nat) : Int), b5, n15, m_2))
                  else
                    some (.inr (.inr (.inl ())))
                else
                  some (.inr (.inr (.inl ())))
              else
                some (.inl (((i + 1 : Nat) : Int), b3, n12, m_))
          else
            some (.inr (.inr (.inl ())))
        else
          bif (decide ((n11 : Int) = 8)) then
            (disk_Disk_Used (R : Int) false b3 n12 0 m_).bind fun n13 =>
            bif (decide ((n13 : Int) = (tot m : Int))) then
              bif (decide ((R : Int) < n13)) then
                some (.inr (.inr (.inl ())))
              else
                bif b2 then
                  (disk_Disk_Read (irem .u64 n7 4) (R : Int) false b3 n12 0 m_).bind fun (l_3, b4) =>
                  (disk_Disk_Drop_2 (irem .u64 n7 4) (R : Int) false b3 n12 0 m_).bind fun (n14, b5, n15, m_2) =>
                  bif ((decide ((n14 : Int) = 0)) == b4) then
                    (disk_Disk_Used (R : Int) false b5 n15 0 m_2).bind fun n16 =>
                    (kinfolklaw11_when (decide ((n11 : Int) = 0))).bind fun n17 =>
                    bif (decide ((n16 : Int) = (isub .i64 (iadd .i64 (tot m : Int) (imul .i64 (((c.take 40)).length : Int) n17)) ((l_3).length : Int)))) then
                      some (.inl (((i + 1 : Nat) : Int), b5, n15, m_2))
                    else
                      some (.inr (.inr (.inl ())))
                  else
                    some (.inr (.inr (.inl ())))
                else
                  some (.inl (((i + 1 : Nat) : Int), b3, n12, m_))
            else
              some (.inr (.inr (.inl ())))
          else
            some (.inr (.inr (.inl ())))
      else
        some (.inr (.inr (.inl ())))) = some z → kinfolklaw11_DiskRoom_L0_step (R : Int) r (r.length : Int) (R : Int) ((i : Int), false, 0, m) = some z := by
      intro z hz
      rw [kinfolklaw11_DiskRoom_L0_step]
      generalize hT2 : c.take 40 = T at hz hT
      have := ok.sz
      have e2 : iadd .i64 (tot m : Int) (T.length : Int) = ((tot m + T.length : Nat) : Int) := by rw [iadd64 (by omega) (by omega)]; omega
      simp only [e1, List.length_map, dt (show (i : Int) < (r.length : Int) by omega), dt (show (0 : Int) ≤ (i : Int) by omega), cond_true, Bool.and_self, Int.toNat_natCast, hk, Option.bind_some, df (show ¬ (40 : Int) ≤ (i : Int) by omega), cond_false, used_eq ok, cut_eq, hT2, e2]
      exact hz
    generalize c.take 40 = T at hT step
    have hR0 : (0 : Int) ≤ (R : Int) ∧ (R : Int) ≤ 100000 := by omega
    -- what a drop leaves, of segments m2 that count n11 says were written
    have dropped : ∀ (m2 : Segm) (w : Nat) (n17 : Int), Ok m2 → tot m2 ≤ R → tot m2 = tot m + w → imul .i64 (T.length : Int) n17 = (w : Int) → w ≤ 40 →
        ∀ (is_ : Bool), kinfolklaw11_when is_ = some n17 →
        ((disk_Disk_Read (irem .u64 n7 4) (R : Int) false false 0 0 m2).bind fun (l_3, b4) =>
          (disk_Disk_Drop_2 (irem .u64 n7 4) (R : Int) false false 0 0 m2).bind fun (n14, b5, n15, m_2) =>
          bif ((decide ((n14 : Int) = 0)) == b4) then
            (disk_Disk_Used (R : Int) false b5 n15 0 m_2).bind fun n16 =>
            (kinfolklaw11_when is_).bind fun n17 =>
            bif (decide ((n16 : Int) = (isub .i64 (iadd .i64 (tot m : Int) (imul .i64 (T.length : Int) n17)) ((l_3).length : Int)))) then
              some (.inl (((i + 1 : Nat) : Int), b5, n15, m_2))
            else
              some (.inr (.inr (.inl ())))
          else
            some (.inr (.inr (.inl ())))) = (some (.inl (((i + 1 : Nat) : Int), false, 0, mdel (irem .u64 n7 4) m2)) : Option ((Int × Bool × Int × List (Int × (List Int))) ⊕ ((Bool × Int × List (Int × (List Int)) × Int × Int × List Int × Int × Int × Bool) ⊕ ((Unit) ⊕ (Bool × Int × List (Int × (List Int))))))) := by
      intro m2 w n17 ok2 ht2 hw him hw4 is_ his
      have hd3 := tot_mdel (k := irem .u64 n7 4) (m := m2)
      rw [read_eq ok2, Option.bind_some]
      simp only
      rw [drop_eq, Option.bind_some]
      simp only
      have c1 : (decide ((if (mget (irem .u64 n7 4) m2).isSome = true then (0 : Int) else 2) = 0) == (mget (irem .u64 n7 4) m2).isSome) = true := by
        cases (mget (irem .u64 n7 4) m2).isSome <;> rfl
      rw [c1, cond_true, used_eq ok2.del, Option.bind_some, his, Option.bind_some, him, iadd64 (by omega) (by omega), isub64 (by omega) (by omega), dt (by omega), cond_true]
    by_cases hf : (R : Int) - tot m < T.length
    · have h1 := append_full (seg := irem .u64 n7 4) (n2 := 0) (n3 := 0) (p := T) ok hR0 hf
      have hw : kinfolklaw11_when false = some 0 := rfl
      cases b2 with
      | false =>
        refine fin m ok ht (step _ ?_)
        rw [h1, Option.bind_some]
        simp only
        rw [df (show ¬ (((tot m + T.length : Nat) : Int)) ≤ (R : Int) by omega), used_eq ok, Option.bind_some, df (show ¬ (R : Int) < (tot m : Int) by omega)]
        simp only [show decide ((8 : Int) = 0) = false from rfl, show decide ((8 : Int) = 8) = true from rfl, decide_true, BEq.rfl, cond_true, cond_false, Option.bind_some, df (show ¬ (R : Int) < (tot m : Int) by omega)]
      | true =>
        refine fin (mdel (irem .u64 n7 4) m) ok.del (by have := tot_mdel (k := irem .u64 n7 4) (m := m); omega) (step _ ?_)
        rw [h1, Option.bind_some]
        simp only
        rw [df (show ¬ (((tot m + T.length : Nat) : Int)) ≤ (R : Int) by omega), used_eq ok, Option.bind_some, df (show ¬ (R : Int) < (tot m : Int) by omega)]
        simp only [show decide ((8 : Int) = 0) = false from rfl, show decide ((8 : Int) = 8) = true from rfl, decide_true, BEq.rfl, cond_true, cond_false, Option.bind_some, df (show ¬ (R : Int) < (tot m : Int) by omega)]
        have h2 := dropped m 0 0 ok ht rfl (by rw [imul64 (by omega) (by omega)]; omega) (by omega) false hw
        exact h2
    · have h1 := append_fits (seg := irem .u64 n7 4) (n3 := 0) (p := T) ok hR0 hf
      have htt := tot_app (k := irem .u64 n7 4) (p := T) (m := m)
      have ok2 : Ok (mset (irem .u64 n7 4) (old (irem .u64 n7 4) m ++ T) m) := ok.app h7 (by omega)
      generalize mset (irem .u64 n7 4) (old (irem .u64 n7 4) m ++ T) m = m2 at h1 htt ok2
      have hw : kinfolklaw11_when true = some 1 := rfl
      cases b2 with
      | false =>
        refine fin m2 ok2 (by omega) (step _ ?_)
        rw [h1, Option.bind_some]
        simp only
        rw [dt (show (((tot m + T.length : Nat) : Int)) ≤ (R : Int) by omega), used_eq ok2, Option.bind_some, htt, df (show ¬ (R : Int) < ((tot m + T.length : Nat) : Int) by omega)]
        simp
      | true =>
        refine fin (mdel (irem .u64 n7 4) m2) ok2.del (by have := tot_mdel (k := irem .u64 n7 4) (m := m2); omega) (step _ ?_)
        rw [h1, Option.bind_some]
        simp only
        rw [dt (show (((tot m + T.length : Nat) : Int)) ≤ (R : Int) by omega), used_eq ok2, Option.bind_some, htt, df (show ¬ (R : Int) < ((tot m + T.length : Nat) : Int) by omega)]
        have h2 := dropped m2 T.length 1 ok2 (by omega) htt (by rw [imul64 (by omega) (by omega)]; omega) hT true hw
        simp only [decide_true, cond_true, cond_false, BEq.rfl]
        exact h2
theorem diskRoom_true (room : Int) (acts : List E_kinfolklaw11_Act) (hr : 0 ≤ room ∧ room ≤ 65535) (hs : ∀ a ∈ acts, segOk a) : kinfolklaw11_DiskRoom room acts = some true := by
  have hn : IntKind.i64.wrap (irem .u16 room 200) = ((room.toNat % 200 : Nat) : Int) := by
    have : irem .u16 room 200 = ((room.toNat % 200 : Nat) : Int) := by
      rw [show room = ((room.toNat : Nat) : Int) by omega, Int.toNat_natCast]
      have hk2 : room.toNat < 65536 := by omega
      revert hk2
      generalize room.toNat = j
      intro hj
      rfl
    rw [this, i64_in (by omega) (by omega)]
  have a1 : disk_New ((room.toNat % 200 : Nat) : Int) = some ((room.toNat % 200 : Nat) : Int) := by unfold disk_New; rw [if_neg (by omega)]
  unfold kinfolklaw11_DiskRoom
  rw [awake_eq, Option.bind_some, cond_true, hn, a1, Option.bind_some, List.length_map]
  obtain ⟨z, hz, hne⟩ := room_loop (r := acts) hs (R := room.toNat % 200) (by omega) (i := 0) (m := []) rfl (Nat.zero_le _) (by omega) Ok.nil (by simp [tot])
  simp only [Int.natCast_zero] at hz
  rw [hz, Option.bind_some]
  match z, hne with
  | .inl _, _ => rfl
  | .inr (.inl u), h => exact absurd rfl (h u)
  | .inr (.inr _), _ => rfl
end Go.Proofs.Ytgimaogkhblaiaa
