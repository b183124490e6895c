/- Segments as a list of keys and rows: what a disk holds, its sum, its keys. Plain. -/
import Derived.Test.YtgimaogkhblaiaaA3
set_option linter.unusedVariables false
set_option linter.unusedSimpArgs false
namespace Go.Proofs.Ytgimaogkhblaiaa
open Go.Ev

abbrev Segm := List (Int × List Int)
def ks (m : Segm) : List Int := m.map (·.1)
def tot (m : Segm) : Nat := (m.map (·.2.length)).sum
def old (k : Int) (m : Segm) : List Int := (mget k m).getD []
theorem nodup_le : ∀ {l l' : List Int}, l.Nodup → (∀ x ∈ l, x ∈ l') → l.length ≤ l'.length
  | [], l', _, _ => Nat.zero_le _
  | a :: l, l', hn, hs => by
    rw [List.nodup_cons] at hn
    have h := nodup_le (l := l) (l' := l'.erase a) hn.2 fun x hx => (List.mem_erase_of_ne (fun e => hn.1 (by rw [← e]; exact hx))).2 (hs x (by simp [hx]))
    have h1 : a ∈ l' := hs a (by simp)
    rw [List.length_erase_of_mem h1] at h
    have : 0 < l'.length := List.length_pos_of_mem h1
    simp only [List.length_cons]
    omega
theorem mget_none {k : Int} : ∀ {m : Segm}, mget k m = none ↔ k ∉ ks m
  | [] => by simp [mget, ks]
  | e :: m => by
    have := mget_none (k := k) (m := m)
    simp only [ks] at this
    by_cases h : k = e.1 <;> simp [mget, ks, h, this]
theorem ks_mset {k : Int} {v : List Int} : ∀ {m : Segm}, ks (mset k v m) = if k ∈ ks m then ks m else ks m ++ [k]
  | [] => by simp [mset, ks]
  | e :: m => by
    have h := ks_mset (k := k) (v := v) (m := m)
    by_cases hk : k = e.1
    · simp [mset, ks, hk]
    · by_cases h2 : k ∈ ks m
      · rw [if_pos h2] at h
        have h2' : k ∈ ks (e :: m) := by simp only [ks, List.map_cons]; exact List.mem_cons_of_mem _ h2
        rw [if_pos h2']
        simp only [ks] at h ⊢
        simp [mset, hk, h]
      · rw [if_neg h2] at h
        have h2' : k ∉ ks (e :: m) := by
          simp only [ks, List.map_cons, List.mem_cons, not_or]
          exact ⟨hk, h2⟩
        rw [if_neg h2']
        simp only [ks] at h ⊢
        simp [mset, hk, h]
theorem nodup_mset {k : Int} {v : List Int} {m : Segm} (h : (ks m).Nodup) : (ks (mset k v m)).Nodup := by
  rw [ks_mset]
  split
  · exact h
  · rename_i hk
    rw [List.nodup_append]
    refine ⟨h, by simp, fun a ha b hb => ?_⟩
    simp only [List.mem_singleton] at hb
    subst hb
    exact fun e => hk (e ▸ ha)
theorem mem_mset {k x : Int} {v : List Int} {m : Segm} (h : x ∈ ks (mset k v m)) : x = k ∨ x ∈ ks m := by
  rw [ks_mset] at h
  split at h
  · exact .inr h
  · rcases List.mem_append.1 h with h | h
    · exact .inr h
    · exact .inl (by simpa using h)
theorem mget_mset {k k' : Int} {v : List Int} : ∀ {m : Segm}, mget k' (mset k v m) = if k' = k then some v else mget k' m
  | [] => by by_cases h : k' = k <;> simp [mset, mget, h]
  | e :: m => by
    have ih := mget_mset (k := k) (k' := k') (v := v) (m := m)
    by_cases h : k = e.1
    · by_cases h2 : k' = k
      · simp [mset, mget, h, h2]
      · have : ¬ k' = e.1 := fun q => h2 (by rw [q, h])
        simp [mset, mget, h, h2, this]
    · by_cases h2 : k' = k
      · subst h2
        simp only [mset, h, decide_false, cond_false, mget, ih, if_true]
      · by_cases h3 : k' = e.1
        · rw [if_neg h2]; simp only [mset, h, decide_false, cond_false, mget, h3, decide_true, cond_true]
        · rw [if_neg h2] at ih ⊢; simp only [mset, h, decide_false, cond_false, mget, h3, ih]
theorem tot_mset {k : Int} {v : List Int} : ∀ {m : Segm}, tot (mset k v m) + (old k m).length = tot m + v.length
  | [] => by simp [mset, tot, old, mget]
  | e :: m => by
    have ih := tot_mset (k := k) (v := v) (m := m)
    simp only [tot, old] at ih ⊢
    by_cases h : k = e.1
    · simp [mset, mget, h]; omega
    · simp [mset, mget, h]; omega
theorem old_le {k : Int} : ∀ {m : Segm}, (old k m).length ≤ tot m
  | [] => by simp [old, mget, tot]
  | e :: m => by
    have ih := old_le (k := k) (m := m)
    simp only [tot, old] at ih ⊢
    by_cases h : k = e.1
    · simp [mget, h]
    · simp [mget, h]; omega
theorem ks_mdel {k x : Int} : ∀ {m : Segm}, x ∈ ks (mdel k m) → x ∈ ks m
  | [], h => h
  | e :: m, h => by
    by_cases hk : k = e.1
    · simp only [mdel, hk, decide_true, cond_true] at h
      simp only [ks, List.map_cons, List.mem_cons]; exact .inr h
    · simp only [mdel, hk, decide_false, cond_false, ks, List.map_cons, List.mem_cons] at h ⊢
      rcases h with h | h
      · exact .inl h
      · exact .inr (ks_mdel (m := m) h)
theorem nodup_mdel {k : Int} : ∀ {m : Segm}, (ks m).Nodup → (ks (mdel k m)).Nodup
  | [], h => h
  | e :: m, h => by
    simp only [ks, List.map_cons, List.nodup_cons] at h
    by_cases hk : k = e.1
    · simp only [mdel, hk, decide_true, cond_true]; exact h.2
    · simp only [mdel, hk, decide_false, cond_false, ks, List.map_cons, List.nodup_cons]
      exact ⟨fun hx => h.1 (ks_mdel (m := m) hx), nodup_mdel h.2⟩
theorem tot_mdel {k : Int} : ∀ {m : Segm}, tot (mdel k m) + (old k m).length = tot m
  | [] => by simp [mdel, tot, old, mget]
  | e :: m => by
    have ih := tot_mdel (k := k) (m := m)
    simp only [tot, old] at ih ⊢
    by_cases h : k = e.1
    · simp [mdel, mget, h]; omega
    · simp [mdel, mget, h]; omega
theorem mget_mdel {k k' : Int} (hk : k' ≠ k) : ∀ {m : Segm}, mget k' (mdel k m) = mget k' m
  | [] => rfl
  | e :: m => by
    have ih := mget_mdel hk (m := m)
    by_cases h : k = e.1
    · have : ¬ k' = e.1 := fun q => hk (by rw [q, h])
      simp only [mdel, h, decide_true, cond_true, mget, this, decide_false, cond_false]
    · by_cases h3 : k' = e.1
      · simp only [mdel, h, decide_false, cond_false, mget, h3, decide_true, cond_true]
      · simp only [mdel, h, decide_false, cond_false, mget, h3, ih]

/-! ### Two rows put together -/
theorem concat2 {a b : List Int} (h : a.length + b.length ≤ 100000) : slices_Concat_byte [.mk a, .mk b] = some (.inr (a ++ b)) := by
  have fi : ∀ n : Nat, n ≤ 100000 → fits n = true := fun n hn => by simp only [fits]; exact dt (by omega)
  have c0 : runL (slices_Concat_byte_L0_step [.mk a, .mk b] [.mk a, .mk b] 2) (0, 0) = some ((a.length + b.length : Nat) : Int) := by
    have e1 : iadd .i64 0 (a.length : Int) = (a.length : Int) := by rw [iadd64 (by omega) (by omega)]; omega
    have e2 : iadd .i64 (a.length : Int) (b.length : Int) = ((a.length + b.length : Nat) : Int) := by rw [iadd64 (by omega) (by omega)]; omega
    have h1 : slices_Concat_byte_L0_step [.mk a, .mk b] [.mk a, .mk b] 2 (0, 0) = some (.inl ((a.length : Int), 1)) := by
      simp only [slices_Concat_byte_L0_step, List.map_cons, List.map_nil, List.length_cons, List.length_nil]
      rw [show ((0 : Int).toNat) = 0 from rfl, show ([E_L_uint8.mk a, E_L_uint8.mk b][0]?) = some (E_L_uint8.mk a) from rfl]
      simp only [Option.bind_some, e1, df (show ¬ ((a.length : Nat) : Int) < 0 by omega)]
      rfl
    have h2 : slices_Concat_byte_L0_step [.mk a, .mk b] [.mk a, .mk b] 2 ((a.length : Int), 1) = some (.inl (((a.length + b.length : Nat) : Int), 2)) := by
      simp only [slices_Concat_byte_L0_step, List.map_cons, List.map_nil, List.length_cons, List.length_nil]
      rw [show ((1 : Int).toNat) = 1 from rfl, show ([E_L_uint8.mk a, E_L_uint8.mk b][1]?) = some (E_L_uint8.mk b) from rfl]
      simp only [Option.bind_some, e2, df (show ¬ ((a.length + b.length : Nat) : Int) < 0 by omega)]
      rfl
    rw [runL_next h1, runL_next h2]
    exact runL_done rfl
  unfold slices_Concat_byte
  simp only [List.map_cons, List.map_nil, List.length_cons, List.length_nil]
  rw [show (((0 + 1 + 1 : Nat)) : Int) = 2 from rfl, c0, Option.bind_some]
  have e0 : isub .i64 ((a.length + b.length : Nat) : Int) 0 = ((a.length + b.length : Nat) : Int) := by rw [isub64 (by omega) (by omega)]; omega
  by_cases hz : a.length + b.length = 0
  · have ha : a = [] := List.length_eq_zero_iff.1 (by omega)
    have hb : b = [] := List.length_eq_zero_iff.1 (by omega)
    subst ha hb
    have hg : slices_Grow_byte (((([] : List Int).length + ([] : List Int).length : Nat)) : Int) = some (.inr ()) := by
      unfold slices_Grow_byte
      rw [e0]
      rfl
    rw [hg]
    simp only [Option.bind_some]
    rw [runL_next (s' := (1, [])), runL_next (s' := (2, [])), runL_done (r := [])]
    · rfl
    · rfl
    · rfl
    · rfl
  · have hg : slices_Grow_byte ((a.length + b.length : Nat) : Int) = some (.inl (List.replicate (a.length + b.length) 0)) := by
      unfold slices_Grow_byte
      rw [e0, df (by omega), cond_false, dt (by omega), cond_true, Int.toNat_natCast, fi _ h, Bool.true_and, cond_true]
      simp
      rw [dt (by omega), cond_true]
    rw [hg]
    simp only [Option.bind_some]
    have h1 : slices_Concat_byte_L1_step [.mk a, .mk b] 2 (List.replicate (a.length + b.length) 0) (.inl ()) = some (.inl (.inr (1, a))) := by
      have : fits a.length = true := fi _ (by omega)
      simp only [slices_Concat_byte_L1_step, List.map_cons, List.map_nil, List.length_cons, List.length_nil, List.take_zero, List.nil_append]
      rw [show ([E_L_uint8.mk a, E_L_uint8.mk b][0]?) = some (E_L_uint8.mk a) from rfl]
      simp only [Option.bind_some, this]
      rfl
    have h2 : slices_Concat_byte_L1_step [.mk a, .mk b] 2 (List.replicate (a.length + b.length) 0) (.inr (1, a)) = some (.inl (.inr (2, a ++ b))) := by
      have : fits (a ++ b).length = true := fi _ (by simpa using h)
      simp only [slices_Concat_byte_L1_step, List.map_cons, List.map_nil, List.length_cons, List.length_nil]
      rw [show ((1 : Int).toNat) = 1 from rfl, show ([E_L_uint8.mk a, E_L_uint8.mk b][1]?) = some (E_L_uint8.mk b) from rfl]
      simp only [Option.bind_some, this]
      rfl
    rw [runL_next h1, runL_next h2, runL_done (r := .inr (a ++ b)) rfl]
    rfl

/-! ### The sum of a disk -/
def lenAt (m : Segm) (k : Int) : Nat := (old k m).length
theorem used_loop {n n3 n4 : Int} {b b2 : Bool} {m : Segm} {l : List Int} (hl : l.length ≤ 1000000) : ∀ {r : List Int} {i acc : Nat}, l.drop i = r → i ≤ l.length → acc + (r.map (lenAt m)).sum ≤ 1000000000 →
    runL (disk_Disk_Used_L0_step (l.length : Int) n b b2 n3 n4 m l) ((acc : Int), (i : Int)) = some ((acc + (r.map (lenAt m)).sum : Nat) : Int)
  | [], i, acc, hd, hi, hb => by
    have : l.length ≤ i := List.drop_eq_nil_iff.1 hd
    refine runL_done ?_
    rw [disk_Disk_Used_L0_step, df (by omega)]
    simp
  | k :: r, i, acc, hd, hi, hb => by
    have hlt : i < l.length := by
      rcases Nat.lt_or_ge i l.length with h | h
      · exact h
      · rw [List.drop_eq_nil_of_le h] at hd; cases hd
    have hd2 : l.drop (i + 1) = r := by
      rw [← List.drop_drop, hd]; rfl
    have hk : l.getD i 0 = k := by
      have : (l.drop i)[0]? = some k := by rw [hd]; rfl
      rw [List.getElem?_drop] at this
      simp only [Nat.add_zero] at this
      rw [List.getD_eq_getElem?_getD, this]; rfl
    simp only [List.map_cons, List.sum_cons] at hb
    have e1 : iadd .i64 (acc : Int) ((lenAt m k : Nat) : Int) = ((acc + lenAt m k : Nat) : Int) := by rw [iadd64 (by omega) (by omega)]; omega
    have e2 : iadd .i64 (i : Int) 1 = ((i + 1 : Nat) : Int) := by rw [iadd64 (by omega) (by omega)]; omega
    rw [runL_next (s' := (((acc + lenAt m k : Nat) : Int), ((i + 1 : Nat) : Int)))]
    · rw [used_loop hl (r := r) hd2 (by omega) (by omega)]
      simp only [List.map_cons, List.sum_cons, Nat.add_assoc]
    · rw [disk_Disk_Used_L0_step]
      simp only [dt (show (i : Int) < (l.length : Int) by omega), dt (show (0 : Int) ≤ (i : Int) by omega), cond_true, Bool.and_self, Int.toNat_natCast, Nat.zero_add, hk, e2]
      simp only [lenAt, old] at e1 ⊢
      cases hm : mget k m with
      | none =>
        rw [hm] at e1
        simp only [Option.getD_none, List.length_nil] at e1 ⊢
        simp [iadd64 (a := (acc : Int)) (b := 0) (by omega) (by omega)]
      | some v =>
        rw [hm] at e1
        simp only [Option.getD_some] at e1 ⊢
        rw [e1]
theorem sum_keys : ∀ {m : Segm}, (ks m).Nodup → ((ks m).map (lenAt m)).sum = tot m
  | [], _ => rfl
  | e :: m, h => by
    simp only [ks, List.map_cons, List.nodup_cons] at h
    have ih := sum_keys (m := m) h.2
    have h1 : lenAt (e :: m) e.1 = e.2.length := by simp [lenAt, old, mget]
    have h2 : (ks m).map (lenAt (e :: m)) = (ks m).map (lenAt m) := by
      refine List.map_congr_left fun x hx => ?_
      have : ¬ x = e.1 := fun q => h.1 (q ▸ hx)
      simp [lenAt, old, mget, this]
    simp only [tot] at ih
    simp only [ks, tot, List.map_cons, List.sum_cons] at h1 h2 ih ⊢
    rw [h1, h2, ih]
/-- A disk's segments that the library sorts as this text knows: few, each once, numbers. -/
structure Ok (m : Segm) : Prop where
  nd : (ks m).Nodup
  rg : ∀ x ∈ ks m, 0 ≤ x ∧ x ≤ 7
  sz : tot m ≤ 100000
theorem Ok.len {m : Segm} (h : Ok m) : m.length ≤ 8 := by
  have := nodup_le (l' := [0, 1, 2, 3, 4, 5, 6, 7]) h.nd fun x hx => by
    have := h.rg x hx
    simp only [List.mem_cons, List.not_mem_nil, or_false]
    omega
  simpa [ks] using this
theorem Ok.keys {m : Segm} (h : Ok m) : keysOk (m.map (·.1)) = true := by
  have h1 := h.nd
  have h2 := h.len
  have h3 := h.rg
  simp only [ks] at h1 h3
  simp only [keysOk, Bool.and_eq_true, decide_eq_true_eq, List.all_eq_true, List.length_map]
  exact ⟨⟨h1, fun x hx => ⟨(h3 x hx).1, by have := (h3 x hx).2; omega⟩⟩, by omega⟩
theorem segs_eq {n n2 n3 : Int} {b b2 : Bool} {m : Segm} (h : Ok m) : disk_Disk_Segs n b b2 n2 n3 m = some (sortI (ks m)) := by
  unfold disk_Disk_Segs slices_Sorted_keys maps_Keys_byte
  rw [if_pos h.keys]
  rfl
theorem used_eq {n n2 n3 : Int} {b b2 : Bool} {m : Segm} (h : Ok m) : disk_Disk_Used n b b2 n2 n3 m = some (tot m : Int) := by
  have hs : ((sortI (ks m)).map (lenAt m)).sum = tot m := by
    rw [← sum_keys h.nd]
    exact ((List.mergeSort_perm _ _).map _).sum_nat
  have hl : (sortI (ks m)).length ≤ 1000000 := by
    have := h.len
    rw [sortI_len]; simp [ks]; omega
  have h1 := used_loop (n := n) (n3 := n2) (n4 := n3) (b := b) (b2 := b2) (m := m) hl (i := 0) (acc := 0) rfl (Nat.zero_le _) (by rw [List.drop_zero, hs]; have := h.sz; omega)
  rw [List.drop_zero, hs] at h1
  unfold disk_Disk_Used
  rw [segs_eq h, Option.bind_some]
  simp only [Int.natCast_zero, Nat.zero_add] at h1
  rw [h1]
  rfl

/-! ### Appending -/
def tear (n3 : Int) (p : List Int) : List Int := p.take (if (p.length : Int) < (if n3 < 0 then 0 else n3) then (p.length : Int) else (if n3 < 0 then 0 else n3)).toNat
theorem tear_len {n3 : Int} {p : List Int} : (tear n3 p).length ≤ p.length := by
  rw [tear, List.length_take]; omega
theorem Ok.mset {m : Segm} (h : Ok m) {k : Int} {v : List Int} (hk : 0 ≤ k ∧ k ≤ 7) (hv : tot (Go.Ev.mset k v m) ≤ 100000) : Ok (Go.Ev.mset k v m) where
  nd := nodup_mset h.nd
  rg x hx := by
    rcases mem_mset hx with rfl | hx
    · exact hk
    · exact h.rg x hx
  sz := hv
theorem tot_app {k : Int} {p : List Int} {m : Segm} : tot (mset k (old k m ++ p) m) = tot m + p.length := by
  have := tot_mset (k := k) (v := old k m ++ p) (m := m)
  rw [List.length_append] at this
  omega
theorem Ok.app {m : Segm} (h : Ok m) {k : Int} {p : List Int} (hk : 0 ≤ k ∧ k ≤ 7) (hv : tot m + p.length ≤ 100000) : Ok (Go.Ev.mset k (old k m ++ p) m) := h.mset hk (by rw [tot_app]; exact hv)
theorem append_off {seg n n2 n3 : Int} {p : List Int} {b : Bool} {m : Segm} : disk_Disk_Append seg p n b true n2 n3 m = some (10, true, n2, m) := by
  unfold disk_Disk_Append; rfl
theorem append_full {seg n n2 n3 : Int} {p : List Int} {m : Segm} (h : Ok m) (hn : 0 ≤ n ∧ n ≤ 100000) (hf : n - tot m < p.length) : disk_Disk_Append seg p n false false n2 n3 m = some (8, false, n2, m) := by
  unfold disk_Disk_Append
  have := h.sz
  rw [used_eq h, cond_false, cond_false, Option.bind_some, isub64 (by omega) (by omega), dt hf, cond_true]
theorem append_fits {seg n n3 : Int} {p : List Int} {m : Segm} (h : Ok m) (hn : 0 ≤ n ∧ n ≤ 100000) (hf : ¬ n - tot m < p.length) : disk_Disk_Append seg p n false false 0 n3 m = some (0, false, 0, mset seg (old seg m ++ p) m) := by
  unfold disk_Disk_Append
  have := h.sz
  have := old_le (k := seg) (m := m)
  have hc := concat2 (a := old seg m) (b := p) (by omega)
  rw [used_eq h, cond_false, cond_false, Option.bind_some, isub64 (by omega) (by omega), df hf, cond_false]
  have hg : disk_Disk_goes n false false 0 n3 m = some (false, false, 0) := by unfold disk_Disk_goes; rfl
  rw [hg, Option.bind_some]
  simp only [old] at hc ⊢
  cases hm : mget seg m with
  | none => rw [hm] at hc; simp only [Option.getD_none] at hc; simp only [cond_false, hc, Option.bind_some, Option.getD_none]
  | some v => rw [hm] at hc; simp only [Option.getD_some] at hc; simp only [cond_false, hc, Option.bind_some, Option.getD_some]
theorem append_armed {seg n n3 : Int} {a : Nat} {p : List Int} {m : Segm} (h : Ok m) (hn : 0 ≤ n ∧ n ≤ 100000) (hf : ¬ n - tot m < p.length) (ha : a ≤ 1000) : disk_Disk_Append seg p n false false ((a + 2 : Nat) : Int) n3 m = some (0, false, ((a + 1 : Nat) : Int), mset seg (old seg m ++ p) m) := by
  unfold disk_Disk_Append
  have := h.sz
  have := old_le (k := seg) (m := m)
  have hc := concat2 (a := old seg m) (b := p) (by omega)
  rw [used_eq h, cond_false, cond_false, Option.bind_some, isub64 (by omega) (by omega), df hf, cond_false]
  have hg : disk_Disk_goes n false false ((a + 2 : Nat) : Int) n3 m = some (false, false, ((a + 1 : Nat) : Int)) := by
    unfold disk_Disk_goes
    have e : isub .i64 ((a + 2 : Nat) : Int) 1 = ((a + 1 : Nat) : Int) := by rw [isub64 (by omega) (by omega)]; omega
    rw [e, df (by omega), cond_false, df (by omega)]
  rw [hg, Option.bind_some]
  simp only [old] at hc ⊢
  cases hm : mget seg m with
  | none => rw [hm] at hc; simp only [Option.getD_none] at hc; simp only [cond_false, hc, Option.bind_some, Option.getD_none]
  | some v => rw [hm] at hc; simp only [Option.getD_some] at hc; simp only [cond_false, hc, Option.bind_some, Option.getD_some]
theorem append_torn {seg n n3 : Int} {p : List Int} {m : Segm} (h : Ok m) (hn : 0 ≤ n ∧ n ≤ 100000) (hf : ¬ n - tot m < p.length) : disk_Disk_Append seg p n false false 1 n3 m = some (10, true, 0, mset seg (old seg m ++ tear n3 p) m) := by
  unfold disk_Disk_Append
  have := h.sz
  have := old_le (k := seg) (m := m)
  have := tear_len (n3 := n3) (p := p)
  have hc := concat2 (a := old seg m) (b := tear n3 p) (by omega)
  rw [used_eq h, cond_false, cond_false, Option.bind_some, isub64 (by omega) (by omega), df hf, cond_false]
  have hg : disk_Disk_goes n false false 1 n3 m = some (true, true, 0) := by unfold disk_Disk_goes; rfl
  rw [hg, Option.bind_some]
  simp only [tear] at hc
  generalize hq : (if (p.length : Int) < (if n3 < 0 then 0 else n3) then (p.length : Int) else (if n3 < 0 then 0 else n3)) = q at hc
  have hq0 : 0 ≤ q ∧ q ≤ p.length := by subst hq; split <;> split <;> omega
  have c1 : (decide ((0 : Int) ≤ 0) && decide ((0 : Int) ≤ q) && decide (q ≤ (p.length : Int)) && decide True) = true := by
    simp only [dt hq0.1, dt hq0.2, decide_true, Bool.and_self, dt (Int.le_refl 0)]
  simp only [old, tear, hq, c1, cond_true, Int.sub_zero] at hc ⊢
  cases hm : mget seg m with
  | none => rw [hm] at hc; simp only [Option.getD_none] at hc; simp only [hc, c1, cond_true, Option.bind_some, Option.getD_none]
  | some v => rw [hm] at hc; simp only [Option.getD_some] at hc; simp only [hc, c1, cond_true, Option.bind_some, Option.getD_some]
theorem read_eq {seg n n2 n3 : Int} {b b2 : Bool} {m : Segm} (h : Ok m) : disk_Disk_Read seg n b b2 n2 n3 m = some (old seg m, (mget seg m).isSome) := by
  unfold disk_Disk_Read
  have h1 := old_le (k := seg) (m := m)
  have h2 := h.sz
  simp only [old] at h1 ⊢
  cases hm : mget seg m with
  | none => rfl
  | some v =>
    rw [hm] at h1
    simp only [Option.getD_some] at h1
    have : fits v.length = true := by simp only [fits]; exact dt (by omega)
    simp only [this, cond_true, Option.getD_some, Option.isSome_some]
theorem Ok.nil : Ok [] where
  nd := by simp [ks]
  rg x hx := by simp [ks] at hx
  sz := by simp [tot]
theorem awake_eq : kinfolklaw11_awake = some true := by
  unfold kinfolklaw11_awake
  have a1 : disk_New 9 = some 9 := by unfold disk_New; rfl
  have a2 : disk_Disk_Arm 2 1 9 false false 0 0 [] = some 2 := by unfold disk_Disk_Arm; rfl
  have a3 := append_armed (seg := 1) (n := 9) (n3 := 1) (a := 0) (p := [97]) Ok.nil (by omega) (by simp [tot]) (by omega)
  have ok2 : Ok (mset 1 (old 1 [] ++ [97]) []) := Ok.nil.app (by omega) (by simp [tot])
  have a4 := append_torn (seg := 1) (n := 9) (n3 := 1) (p := [98, 99]) ok2 (by omega) (by rw [tot_app]; simp [tot])
  have ok3 : Ok (mset 1 (old 1 (mset 1 (old 1 [] ++ [97]) []) ++ tear 1 [98, 99]) (mset 1 (old 1 [] ++ [97]) [])) := ok2.app (by omega) (by rw [tot_app]; have := tear_len (n3 := 1) (p := [98, 99]); simp [tot] at *; omega)
  have a5 := read_eq (seg := 1) (n := 9) (n2 := 0) (n3 := 1) (b := false) (b2 := true) ok3
  simp only [Nat.zero_add] at a3
  rw [a1, Option.bind_some, a2, Option.bind_some, show (2 : Int) = ((2 : Nat) : Int) from rfl, a3, Option.bind_some]
  simp only
  rw [show ((1 : Nat) : Int) = 1 from rfl, a4, Option.bind_some]
  simp only
  rw [a5]
  simp only [disk_Disk_Up]
  rfl
theorem cut_eq {p : List Int} : kinfolklaw11_cut p = some (p.take 40) := by
  unfold kinfolklaw11_cut
  have hq0 : 0 ≤ (if (40 : Int) < (p.length : Int) then 40 else (p.length : Int)) ∧ (if (40 : Int) < (p.length : Int) then 40 else (p.length : Int)) ≤ p.length := by split <;> omega
  have ht : p.take ((if (40 : Int) < (p.length : Int) then 40 else (p.length : Int)) - 0).toNat = p.take 40 := by
    split
    · rfl
    · rename_i h
      rw [List.take_of_length_le (by omega), List.take_of_length_le (by omega)]
  have : fits (p.take 40).length = true := by simp only [fits]; exact dt (by rw [List.length_take]; omega)
  rw [dt hq0.1, dt hq0.2, ht, this]
  simp
end Go.Proofs.Ytgimaogkhblaiaa
