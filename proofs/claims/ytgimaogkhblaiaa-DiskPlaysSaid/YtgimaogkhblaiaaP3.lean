/- A disk plays as its reference: the segments by number, and the rising list. Plain. -/
import Derived.Test.YtgimaogkhblaiaaA5
import Derived.Test.YtgimaogkhblaiaaP1
set_option linter.unusedVariables false
set_option linter.unusedSimpArgs false
namespace Go.Proofs.Ytgimaogkhblaiaa
open Go.Ev

theorem isubB {a b : Int} (h : -9223372036854775808 ≤ a - b) (h' : a - b ≤ 9223372036854775807) : isub .i64 a b = a - b := IntWalk.i64_in _ ⟨by omega, by omega⟩
/-- A disk's segments that the library sorts. -/
structure Fit (m : Segm) : Prop where
  nd : (ks m).Nodup
  rg : ∀ x ∈ ks m, 0 ≤ x ∧ x ≤ 18446744073709551615
  ln : m.length ≤ 100
  sz : tot m ≤ 10000
theorem Fit.keys {m : Segm} (h : Fit m) : keysOk (m.map (·.1)) = true := by
  have h1 := h.nd
  have h2 := h.ln
  have h3 := h.rg
  simp only [ks] at h1 h3
  simp only [keysOk, Bool.and_eq_true, decide_eq_true_eq, List.all_eq_true, List.length_map]
  exact ⟨⟨h1, fun x hx => h3 x hx⟩, by omega⟩
theorem segsF {n n2 n3 : Int} {b b2 : Bool} {m : Segm} (h : Fit m) : disk_Disk_Segs n b b2 n2 n3 m = some (sortI (ks m)) := by
  unfold disk_Disk_Segs slices_Sorted_keys maps_Keys_byte
  rw [if_pos h.keys]
  rfl
theorem usedF {n n2 n3 : Int} {b b2 : Bool} {m : Segm} (h : Fit m) : disk_Disk_Used n b b2 n2 n3 m = some (tot m : Int) := by
  have hs : ((sortI (ks m)).map (lenAt m)).sum = tot m := by
    rw [← sum_keys h.nd]
    exact ((List.mergeSort_perm _ _).map _).sum_nat
  have hl : (sortI (ks m)).length ≤ 1000000 := by
    have := h.ln
    rw [sortI_len]; simp [ks]; omega
  have h1 := used_loop (n := n) (n3 := n2) (n4 := n3) (b := b) (b2 := b2) (m := m) hl (i := 0) (acc := 0) rfl (Nat.zero_le _) (by rw [List.drop_zero, hs]; have := h.sz; omega)
  rw [List.drop_zero, hs] at h1
  unfold disk_Disk_Used
  rw [segsF h, Option.bind_some]
  simp only [Int.natCast_zero, Nat.zero_add] at h1
  rw [h1]
  rfl
theorem readF {seg n n2 n3 : Int} {b b2 : Bool} {m : Segm} (h : Fit m) : disk_Disk_Read seg n b b2 n2 n3 m = some (old seg m, (mget seg m).isSome) := by
  unfold disk_Disk_Read
  have h1 := old_le (k := seg) (m := m)
  have h2 := h.sz
  simp only [old] at h1 ⊢
  cases hm : mget seg m with
  | none => rfl
  | some v =>
    rw [hm] at h1
    simp only [Option.getD_some] at h1
    have : fits v.length = true := by simp only [fits]; exact dt (by omega)
    simp only [this, cond_true, Option.getD_some, Option.isSome_some]
/-- Does the power go at this write? (is it gone, what is armed then) -/
def goN (n2 : Int) : Bool × Int := if n2 = 0 then (false, 0) else (decide (n2 - 1 = 0), n2 - 1)
theorem goesD {n n2 n3 : Int} {b : Bool} {m : Segm} (h0 : 0 ≤ n2 ∧ n2 ≤ 9223372036854775807) : disk_Disk_goes n b false n2 n3 m = some ((goN n2).1, (goN n2).1, (goN n2).2) := by
  unfold disk_Disk_goes goN
  by_cases h : n2 = 0
  · rw [dt h, if_pos h]; subst h; rfl
  · rw [df h, if_neg h, isubB (by omega) (by omega)]; rfl
theorem goesR {n n2 n3 : Int} {b : Bool} {r : List E_kinfolkref11_Seg} (h0 : 0 ≤ n2 ∧ n2 ≤ 9223372036854775807) : kinfolkref11_goes_2 n b false n2 n3 r = some ((goN n2).1, (goN n2).1, (goN n2).2) := by
  unfold kinfolkref11_goes_2 goN
  by_cases h : n2 = 0
  · rw [df (by omega), if_pos h]; subst h; rfl
  · rw [dt (by omega), if_neg h, isubB (by omega) (by omega)]; rfl
theorem goN_ok {n2 : Int} (h0 : 0 ≤ n2 ∧ n2 ≤ 9223372036854775807) : 0 ≤ (goN n2).2 ∧ (goN n2).2 ≤ 9223372036854775807 := by
  unfold goN
  split
  · simp
  · simp only []; omega
/-- What an append writes: a row behind what lies there. -/
def wr (g : Bool) (n3 : Int) (p : List Int) : List Int := if g then tear n3 p else p
theorem wr_len {g : Bool} {n3 : Int} {p : List Int} : (wr g n3 p).length ≤ p.length := by
  unfold wr
  split
  · exact tear_len
  · exact Nat.le_refl _
def ec (g : Bool) : Int := if g then 10 else 0
theorem appendD {seg n n2 n3 : Int} {p : List Int} {m : Segm} (h : Fit m) (hn : 0 ≤ n ∧ n ≤ 9223372036854775807) (h0 : 0 ≤ n2 ∧ n2 ≤ 9223372036854775807) (hp : p.length ≤ 40) :
    disk_Disk_Append seg p n false false n2 n3 m = some (if n - tot m < p.length then (8, false, n2, m) else (ec (goN n2).1, (goN n2).1, (goN n2).2, mset seg (old seg m ++ wr (goN n2).1 n3 p) m)) := by
  unfold disk_Disk_Append
  have hsz := h.sz
  have := old_le (k := seg) (m := m)
  rw [usedF h, cond_false, cond_false, Option.bind_some, isubB (by omega) (by omega)]
  by_cases hf : n - tot m < p.length
  · rw [dt hf, if_pos hf]; rfl
  · rw [df hf, if_neg hf, cond_false, goesD h0, Option.bind_some]
    simp only []
    generalize goN n2 = g
    obtain ⟨g1, g2⟩ := g
    simp only []
    have htl := tear_len (n3 := n3) (p := p)
    cases g1
    · have hc := concat2 (a := old seg m) (b := p) (by omega)
      simp only [old, wr, ec] at hc ⊢
      cases hm : mget seg m with
      | none => rw [hm] at hc; simp only [Option.getD_none] at hc; simp only [cond_false, hc, Option.bind_some, Option.getD_none]; rfl
      | some v => rw [hm] at hc; simp only [Option.getD_some] at hc; simp only [cond_false, hc, Option.bind_some, Option.getD_some]; rfl
    · have hc := concat2 (a := old seg m) (b := tear n3 p) (by omega)
      simp only [tear] at hc
      simp only [wr, ec, if_true, tear]
      generalize hq : (if (p.length : Int) < (if n3 < 0 then 0 else n3) then (p.length : Int) else (if n3 < 0 then 0 else n3)) = q at hc
      have hq0 : 0 ≤ q ∧ q ≤ p.length := by subst hq; split <;> split <;> omega
      have c1 : (decide ((0 : Int) ≤ 0) && decide ((0 : Int) ≤ q) && decide (q ≤ (p.length : Int)) && decide True) = true := by
        simp only [dt hq0.1, dt hq0.2, decide_true, Bool.and_self, dt (Int.le_refl 0)]
      simp only [old, hq, c1, cond_true, Int.sub_zero] at hc ⊢
      cases hm : mget seg m with
      | none => rw [hm] at hc; simp only [Option.getD_none] at hc; simp only [hc, c1, cond_true, Option.bind_some, Option.getD_none]
      | some v => rw [hm] at hc; simp only [Option.getD_some] at hc; simp only [hc, c1, cond_true, Option.bind_some, Option.getD_some]
theorem dropD {seg n n2 n3 : Int} {b : Bool} {m : Segm} (h0 : 0 ≤ n2 ∧ n2 ≤ 9223372036854775807) : disk_Disk_Drop_2 seg n b false n2 n3 m =
    some (if (mget seg m).isSome = true then (ec (goN n2).1, (goN n2).1, (goN n2).2, if (goN n2).1 = true ∧ ¬ 0 < n3 then m else mdel seg m) else (2, false, n2, m)) := by
  unfold disk_Disk_Drop_2
  rw [goesD h0]
  cases hm : mget seg m with
  | none => rfl
  | some v =>
    simp only [cond_false, Option.bind_some, Option.isSome_some, if_true]
    generalize goN n2 = g
    obtain ⟨g1, g2⟩ := g
    cases g1
    · rfl
    · by_cases hq : 0 < n3
      · simp [dt hq, ec, hq]
      · simp [df hq, ec, hq]

/-! ### The reference's list -/
def sg (e : Int × List Int) : E_kinfolkref11_Seg := .mk e.1 e.2
theorem sg_get {L : Segm} {i : Nat} : (L.map sg)[i]? = (L[i]?).map sg := by simp
theorem refUsed_loop {n2 n3 n4 : Int} {b b2 : Bool} {L : Segm} (hl : L.length ≤ 1000000) : ∀ {q : Segm} {i acc : Nat}, L.drop i = q → i ≤ L.length → acc + tot q ≤ 1000000000 →
    runL (kinfolkref11_Used_L0_2_step (L.length : Int) n2 b b2 n3 n4 (L.map sg)) ((acc : Int), (i : Int)) = some ((acc + tot q : Nat) : Int)
  | [], i, acc, hd, hi, hb => by
    have : L.length ≤ i := List.drop_eq_nil_iff.1 hd
    refine runL_done ?_
    rw [kinfolkref11_Used_L0_2_step, df (by omega)]
    simp [tot]
  | e :: q, i, acc, hd, hi, hb => by
    have hlt : i < L.length := by
      rcases Nat.lt_or_ge i L.length with h | h
      · exact h
      · rw [List.drop_eq_nil_of_le h] at hd; cases hd
    have hd2 : L.drop (i + 1) = q := by
      rw [← List.drop_drop, hd]; rfl
    have hk : L[i]? = some e := by
      have : (L.drop i)[0]? = some e := by rw [hd]; rfl
      rw [List.getElem?_drop] at this
      simpa using this
    have ht : tot (e :: q) = e.2.length + tot q := by simp [tot]
    rw [ht] at hb ⊢
    have e1 : iadd .i64 (acc : Int) ((e.2.length : Nat) : Int) = ((acc + e.2.length : Nat) : Int) := by rw [iadd64 (by omega) (by omega)]; omega
    have e2 : iadd .i64 (i : Int) 1 = ((i + 1 : Nat) : Int) := by rw [iadd64 (by omega) (by omega)]; omega
    rw [runL_next (s' := (((acc + e.2.length : Nat) : Int), ((i + 1 : Nat) : Int)))]
    · rw [refUsed_loop hl (q := q) hd2 (by omega) (by omega), Nat.add_assoc]
    · rw [kinfolkref11_Used_L0_2_step]
      simp only [List.length_map, dt (show (i : Int) < (L.length : Int) by omega), dt (show (0 : Int) ≤ (i : Int) by omega), cond_true, Bool.and_self, Int.toNat_natCast, Nat.zero_add, sg_get, hk, Option.map_some, Option.bind_some, sg, e1, e2]
theorem refUsed {n n2 n3 : Int} {b b2 : Bool} {L : Segm} (hl : L.length ≤ 1000000) (ht : tot L ≤ 1000000) : kinfolkref11_Used_2 n b b2 n2 n3 (L.map sg) = some (tot L : Int) := by
  unfold kinfolkref11_Used_2
  have := refUsed_loop (n2 := n) (n3 := n2) (n4 := n3) (b := b) (b2 := b2) (L := L) hl (i := 0) (acc := 0) rfl (Nat.zero_le _) (by rw [List.drop_zero]; omega)
  rw [List.drop_zero] at this
  simp only [Int.natCast_zero, Nat.zero_add] at this
  simp only [List.length_map, this, Option.bind_some]
theorem mget_app {k : Int} : ∀ {L1 L2 : Segm}, mget k (L1 ++ L2) = if k ∈ ks L1 then mget k L1 else mget k L2
  | [], L2 => by simp [ks]
  | e :: L1, L2 => by
    have ih := mget_app (k := k) (L1 := L1) (L2 := L2)
    by_cases h : k = e.1
    · simp [mget, ks, h]
    · simp only [List.cons_append, mget, h, decide_false, cond_false, ih, ks, List.map_cons, List.mem_cons, false_or]
      rfl
theorem find_loop {n n3 n4 n5 : Int} {b b2 : Bool} {L : Segm} (hl : L.length ≤ 1000000) : ∀ {q : Segm} {i : Nat}, L.drop i = q → i ≤ L.length →
    runL (kinfolkref11_Find_L0_2_step n (L.length : Int) n3 b b2 n4 n5 (L.map sg)) (i : Int) = some (if n ∈ ks q then .inl ((i + (ks q).idxOf n : Nat) : Int) else .inr ())
  | [], i, hd, hi => by
    have : L.length ≤ i := List.drop_eq_nil_iff.1 hd
    refine runL_done ?_
    rw [kinfolkref11_Find_L0_2_step, df (by omega)]
    simp [ks]
  | e :: q, i, hd, hi => by
    have hlt : i < L.length := by
      rcases Nat.lt_or_ge i L.length with h | h
      · exact h
      · rw [List.drop_eq_nil_of_le h] at hd; cases hd
    have hd2 : L.drop (i + 1) = q := by
      rw [← List.drop_drop, hd]; rfl
    have hk : L[i]? = some e := by
      have : (L.drop i)[0]? = some e := by rw [hd]; rfl
      rw [List.getElem?_drop] at this
      simpa using this
    have e2 : iadd .i64 (i : Int) 1 = ((i + 1 : Nat) : Int) := by rw [iadd64 (by omega) (by omega)]; omega
    by_cases h : e.1 = n
    · have hm : n ∈ ks (e :: q) := by simp [ks, h]
      have hx : (ks (e :: q)).idxOf n = 0 := by simp [ks, h]
      rw [if_pos hm, hx, Nat.add_zero]
      refine runL_done ?_
      rw [kinfolkref11_Find_L0_2_step]
      simp only [List.length_map, dt (show (i : Int) < (L.length : Int) by omega), dt (show (0 : Int) ≤ (i : Int) by omega), cond_true, Bool.and_self, Int.toNat_natCast, Nat.zero_add, sg_get, hk, Option.map_some, Option.bind_some, sg, dt h]
    · have hm : (n ∈ ks (e :: q)) ↔ n ∈ ks q := by
        simp only [ks, List.map_cons, List.mem_cons]
        exact ⟨fun hh => hh.elim (fun g => absurd g.symm h) id, .inr⟩
      have hx : (ks (e :: q)).idxOf n = (ks q).idxOf n + 1 := by
        simp only [ks, List.map_cons, List.idxOf_cons]
        rw [show (e.1 == n) = false by simpa using h]
        rfl
      rw [runL_next (s' := ((i + 1 : Nat) : Int))]
      · rw [find_loop hl (q := q) hd2 (by omega)]
        by_cases hq : n ∈ ks q
        · rw [if_pos hq, if_pos (hm.2 hq), hx]
          congr 3
          omega
        · rw [if_neg hq, if_neg (fun hh => hq (hm.1 hh))]
      · rw [kinfolkref11_Find_L0_2_step]
        simp only [List.length_map, dt (show (i : Int) < (L.length : Int) by omega), dt (show (0 : Int) ≤ (i : Int) by omega), cond_true, Bool.and_self, Int.toNat_natCast, Nat.zero_add, sg_get, hk, Option.map_some, Option.bind_some, sg, df h, cond_false, e2]
theorem find_eq {n n2 n3 n4 : Int} {b b2 : Bool} {L : Segm} (hl : L.length ≤ 1000000) : kinfolkref11_Find_2 n n2 b b2 n3 n4 (L.map sg) = some (if n ∈ ks L then (((ks L).idxOf n : Nat) : Int) else -1) := by
  unfold kinfolkref11_Find_2
  have := find_loop (n := n) (n3 := n2) (n4 := n3) (n5 := n4) (b := b) (b2 := b2) (L := L) hl (i := 0) rfl (Nat.zero_le _)
  rw [List.drop_zero] at this
  simp only [Int.natCast_zero, Nat.zero_add] at this
  simp only [List.length_map, this, Option.bind_some]
  by_cases h : n ∈ ks L
  · simp only [if_pos h]
  · simp only [if_neg h]
/-- The list cut where a number stands. -/
theorem split_at {k : Int} : ∀ {L : Segm}, k ∈ ks L → ∃ L1 v L2, L = L1 ++ (k, v) :: L2 ∧ k ∉ ks L1 ∧ (ks L).idxOf k = L1.length
  | [], h => by simp [ks] at h
  | e :: L, h => by
    by_cases he : e.1 = k
    · refine ⟨[], e.2, L, by rw [← he]; rfl, by simp [ks], by simp [ks, he]⟩
    · have hm : k ∈ ks L := by
        simp only [ks, List.map_cons, List.mem_cons] at h
        exact h.elim (fun g => absurd g.symm he) id
      obtain ⟨L1, v, L2, h1, h2, h3⟩ := split_at hm
      refine ⟨e :: L1, v, L2, by rw [h1]; rfl, ?_, ?_⟩
      · simp only [ks, List.map_cons, List.mem_cons, not_or]
        exact ⟨fun g => he g.symm, h2⟩
      · simp only [ks, List.map_cons, List.idxOf_cons, List.length_cons]
        rw [show (e.1 == k) = false by simpa using he]
        simp only [ks] at h3
        rw [h3]
        rfl
/-! ### An append to the list -/
theorem pv_len (L : Segm) : (List.map E_kinfolkref11_Seg.pv (L.map sg)).length = L.length := by simp
theorem place_loop {n : Int} {p : List Int} {e n2 n3 n4 : Int} {b b2 : Bool} {L : Segm} (hl : L.length ≤ 1000000) : ∀ {q : Segm} {i : Nat}, L.drop i = q → i ≤ L.length →
    ∃ q1 q2 : Segm, q = q1 ++ q2 ∧ (∀ x ∈ ks q1, x < n) ∧ (∀ x, (ks q2).head? = some x → ¬ x < n) ∧ runL (kinfolkref11_Append_L0_3_step n p e n2 b b2 n3 n4 (L.map sg)) (i : Int) = some ((i + q1.length : Nat) : Int)
  | [], i, hd, hi => by
    have : L.length ≤ i := List.drop_eq_nil_iff.1 hd
    refine ⟨[], [], rfl, by simp [ks], by simp [ks], runL_done ?_⟩
    rw [kinfolkref11_Append_L0_3_step, pv_len, df (by omega)]
    rfl
  | e :: q, i, hd, hi => by
    have hlt : i < L.length := by
      rcases Nat.lt_or_ge i L.length with h | h
      · exact h
      · rw [List.drop_eq_nil_of_le h] at hd; cases hd
    have hd2 : L.drop (i + 1) = q := by
      rw [← List.drop_drop, hd]; rfl
    have hk : L[i]? = some e := by
      have : (L.drop i)[0]? = some e := by rw [hd]; rfl
      rw [List.getElem?_drop] at this
      simpa using this
    have e2 : iadd .i64 (i : Int) 1 = ((i + 1 : Nat) : Int) := by rw [iadd64 (by omega) (by omega)]; omega
    by_cases h : e.1 < n
    · obtain ⟨q1, q2, h1, h2, h3, h4⟩ := place_loop hl (q := q) hd2 (by omega)
      refine ⟨e :: q1, q2, by rw [h1]; rfl, ?_, h3, ?_⟩
      · intro x hx
        simp only [ks, List.map_cons, List.mem_cons] at hx
        rcases hx with rfl | hx
        · exact h
        · exact h2 x hx
      · rw [runL_next (s' := ((i + 1 : Nat) : Int)), h4]
        · simp only [List.length_cons]
          congr 2
          omega
        · rw [kinfolkref11_Append_L0_3_step]
          simp only [pv_len, dt (show (i : Int) < (L.length : Int) by omega), dt (show (0 : Int) ≤ (i : Int) by omega), cond_true, Bool.and_self, Int.toNat_natCast, Nat.zero_add, sg_get, hk, Option.map_some, Option.bind_some, sg, dt h, e2]
    · refine ⟨[], e :: q, rfl, by simp [ks], ?_, ?_⟩
      · intro x hx
        simp [ks] at hx
        rw [← hx]
        exact h
      · refine runL_done ?_
        rw [kinfolkref11_Append_L0_3_step]
        simp only [pv_len, dt (show (i : Int) < (L.length : Int) by omega), dt (show (0 : Int) ≤ (i : Int) by omega), cond_true, Bool.and_self, Int.toNat_natCast, Nat.zero_add, sg_get, hk, Option.map_some, Option.bind_some, sg, df h, cond_false]
        rfl
theorem new_eq {n : Int} {p : List Int} {e i n2 n3 n4 : Int} {b2 b3 : Bool} {L : Segm} (hl : L.length ≤ 1000) : ∃ L1 L2 : Segm, L = L1 ++ L2 ∧ (∀ x ∈ ks L1, x < n) ∧ (∀ x, (ks L2).head? = some x → ¬ x < n) ∧
    kinfolkref11_Append_C52 n p e i true n2 b2 b3 n3 n4 (L.map sg) = some ((L1.length : Int), (L1 ++ (n, []) :: L2).map sg) := by
  obtain ⟨L1, L2, h1, h2, h3, h4⟩ := place_loop (n := n) (p := p) (e := e) (n2 := n2) (n3 := n3) (n4 := n4) (b := b2) (b2 := b3) (L := L) (by omega) (i := 0) rfl (Nat.zero_le _)
  rw [List.drop_zero] at h1
  refine ⟨L1, L2, h1, h2, h3, ?_⟩
  have fi : ∀ k : Nat, k ≤ 100000 → fits k = true := fun k hk => by simp only [fits]; exact dt (by omega)
  simp only [Int.natCast_zero, Nat.zero_add] at h4
  have hlen : L.length = L1.length + L2.length := by rw [h1, List.length_append]
  unfold kinfolkref11_Append_C52
  rw [cond_true, h4, Option.bind_some]
  have t1 : ∀ {α : Type} (f : Int × List Int → α), List.take ((L.length : Int) - (L1.length : Int)).toNat (List.drop (0 + ((L1.length : Int)).toNat) (L.map f)) = L2.map f := by
    intro α f
    rw [h1, List.map_append, Nat.zero_add, Int.toNat_natCast, List.drop_left' (by simp), List.take_of_length_le]
    simp only [List.length_map, List.length_append]
    omega
  have t2 : ∀ {α : Type} (f : Int × List Int → α), List.take ((L1.length : Int) - 0).toNat (L.map f) = L1.map f := by
    intro α f
    rw [Int.sub_zero, Int.toNat_natCast, h1, List.map_append, List.take_left' (by simp)]
  simp only [List.map_map, List.length_map, t1, t2, dt (show (0 : Int) ≤ (L1.length : Int) by omega), dt (show (L1.length : Int) ≤ (L.length : Int) by omega), dt (Int.le_refl (L.length : Int)), dt (Int.le_refl 0), decide_true, Bool.and_self, cond_true]
  cases hz2 : L2 with
  | nil =>
    cases hz1 : L1 with
    | nil => simp [sg]
    | cons e1 q1 =>
      rw [hz1, hz2] at hlen
      simp only [List.length_cons, List.length_nil] at hlen
      simp [sg, Nat.beq, fits]
      simp only [dt (show q1.length ≤ 536870911 by omega), dt (show q1.length ≤ 536870910 by omega), cond_true]
  | cons e2 q2 =>
    rw [hz2] at hlen
    simp only [List.length_cons] at hlen
    cases hz1 : L1 with
    | nil =>
      rw [hz1] at hlen
      simp only [List.length_nil] at hlen
      simp [sg, Nat.beq, fits]
      simp only [dt (show q2.length ≤ 536870910 by omega), cond_true]
      rw [List.take_of_length_le (by simp)]
    | cons e1 q1 =>
      rw [hz1] at hlen
      simp only [List.length_cons] at hlen
      simp [sg, Nat.beq, fits]
      simp only [dt (show q2.length ≤ 536870910 by omega), dt (show q1.length ≤ 536870911 by omega), dt (show q1.length + (q2.length + 1 + 1) ≤ 536870911 by omega), cond_true]
      rw [List.take_of_length_le (by simp)]
end Go.Proofs.Ytgimaogkhblaiaa
