/- A disk plays as its reference: the law. Plain. -/
import Derived.Test.YtgimaogkhblaiaaP4
set_option linter.unusedVariables false
set_option linter.unusedSimpArgs false
namespace Go.Proofs.Ytgimaogkhblaiaa
open Go.Ev

theorem asc_eq : ∀ {l l' : List Int}, l.Pairwise (· < ·) → l'.Pairwise (· < ·) → (∀ x, x ∈ l ↔ x ∈ l') → l = l'
  | [], [], _, _, _ => rfl
  | [], b :: l', _, _, h => absurd ((h b).2 (by simp)) (by simp)
  | a :: l, [], _, _, h => absurd ((h a).1 (by simp)) (by simp)
  | a :: l, b :: l', h1, h2, h => by
    rw [List.pairwise_cons] at h1 h2
    have hab : a = b := by
      have m1 := (h a).1 (by simp)
      have m2 := (h b).2 (by simp)
      rcases List.mem_cons.1 m1 with e | m1
      · exact e
      · rcases List.mem_cons.1 m2 with e | m2
        · exact e.symm
        · have := h2.1 a m1
          have := h1.1 b m2
          omega
    subst hab
    rw [asc_eq h1.2 h2.2 fun x => ?_]
    have := h x
    simp only [List.mem_cons] at this
    constructor
    · intro hx
      rcases this.1 (.inr hx) with e | e
      · exact absurd (h1.1 x hx) (by rw [e]; exact Int.lt_irrefl _)
      · exact e
    · intro hx
      rcases this.2 (.inr hx) with e | e
      · exact absurd (h2.1 x hx) (by rw [e]; exact Int.lt_irrefl _)
      · exact e
theorem asc_nodup {l : List Int} (h : l.Pairwise (· < ·)) : l.Nodup := h.imp fun hab e => absurd hab (by rw [e]; exact Int.lt_irrefl _)
theorem sortI_asc {l : List Int} (h : l.Nodup) : (sortI l).Pairwise (· < ·) := by
  have h1 : (sortI l).Pairwise (fun a b => decide (a ≤ b) = true) := List.pairwise_mergeSort (fun a b c h1 h2 => by simp at *; omega) (fun a b => by simp; omega) l
  have h2 : (sortI l).Nodup := (List.mergeSort_perm l _).nodup_iff.2 h
  exact (h1.and h2).imp fun ⟨p, q⟩ => by simp at p; omega
/-- The segments by number, and the reference's rising list, hold the same. -/
structure Rel (m L : Segm) : Prop where
  fit : Fit m
  asc : Asc L
  get : ∀ k, mget k m = mget k L
theorem Rel.mem {m L : Segm} (h : Rel m L) (k : Int) : k ∈ ks m ↔ k ∈ ks L := by
  have h1 := mget_none (k := k) (m := m)
  have h2 := mget_none (k := k) (m := L)
  rw [h.get k] at h1
  constructor
  · intro hk
    by_cases hh : k ∈ ks L
    · exact hh
    · exact absurd hk (h1.1 (h2.2 hh))
  · intro hk
    by_cases hh : k ∈ ks m
    · exact hh
    · exact absurd hk (h2.1 (h1.2 hh))
theorem Rel.sorted {m L : Segm} (h : Rel m L) : sortI (ks m) = ks L :=
  asc_eq (sortI_asc h.fit.nd) h.asc fun x => by
    rw [← h.mem x]
    exact (List.mergeSort_perm _ _).mem_iff
theorem Rel.len {m L : Segm} (h : Rel m L) : L.length = m.length := by
  have := congrArg List.length h.sorted
  rw [sortI_len] at this
  simpa [ks] using this.symm
theorem Rel.tots {m L : Segm} (h : Rel m L) : tot m = tot L := by
  have h1 : ((sortI (ks m)).map (lenAt m)).sum = tot m := by
    rw [← sum_keys h.fit.nd]
    exact ((List.mergeSort_perm _ _).map _).sum_nat
  rw [h.sorted] at h1
  rw [← h1, ← sum_keys (asc_nodup h.asc)]
  congr 1
  refine List.map_congr_left fun x _ => ?_
  simp only [lenAt, old, h.get x]
theorem Rel.nil : Rel [] [] where
  fit := ⟨by simp [ks], fun x hx => by simp [ks] at hx, by simp, by simp [tot]⟩
  asc := List.Pairwise.nil
  get k := rfl

/-! ### What is compared -/
theorem like_loop {n2 n3 n4 n5 n6 n7 : Int} {b b2 b3 b4 : Bool} {m L : Segm} (h : Rel m L) : ∀ {q : Segm} {i : Nat}, L.drop i = q → i ≤ L.length →
    runL (kinfolklaw11_like_L0_2_step (L.length : Int) n2 b b2 n3 n4 m n5 b3 b4 n6 n7 (L.map sg) (ks L)) (i : Int) = some (.inr ())
  | [], i, hd, hi => by
    have : L.length ≤ i := List.drop_eq_nil_iff.1 hd
    refine runL_done ?_
    rw [kinfolklaw11_like_L0_2_step, df (by omega)]
    rfl
  | e :: q, i, hd, hi => by
    have hlt : i < L.length := by
      rcases Nat.lt_or_ge i L.length with h | h
      · exact h
      · rw [List.drop_eq_nil_of_le h] at hd; cases hd
    have hd2 : L.drop (i + 1) = q := by
      rw [← List.drop_drop, hd]; rfl
    have hk : L[i]? = some e := by
      have : (L.drop i)[0]? = some e := by rw [hd]; rfl
      rw [List.getElem?_drop] at this
      simpa using this
    have hln := h.len
    have hl2 := h.fit.ln
    have e2 : iadd .i64 (i : Int) 1 = ((i + 1 : Nat) : Int) := by rw [iadd64 (by omega) (by omega)]; omega
    have hg : (ks L).getD i 0 = e.1 := by
      rw [List.getD_eq_getElem?_getD]
      simp [ks, hk]
    have hm : mget e.1 m = some e.2 := by
      rw [h.get e.1]
      have hs : L = L.take i ++ (e.1, e.2) :: L.drop (i + 1) := by
        have := List.take_append_drop i L
        rw [hd] at this
        rw [hd2]
        exact this.symm
      have ha := h.asc
      rw [hs] at ha ⊢
      unfold Asc at ha
      rw [ks_app, ks_cons, List.pairwise_append] at ha
      rw [mget_app, if_neg]
      · simp [mget]
      · intro hh
        exact absurd (ha.2.2 e.1 hh e.1 (by simp)) (Int.lt_irrefl _)
    have hlk : (ks L).length = L.length := by simp [ks]
    rw [runL_next (s' := ((i + 1 : Nat) : Int))]
    · exact like_loop h hd2 (by omega)
    · rw [kinfolklaw11_like_L0_2_step]
      simp only [hlk, pv_len, dt (show (i : Int) < (L.length : Int) by omega), dt (show (0 : Int) ≤ (i : Int) by omega), cond_true, Bool.and_self, Int.toNat_natCast, Nat.zero_add, hg, readF h.fit, old, hm, Option.getD_some, Option.isSome_some, sg_get, hk, Option.map_some, Option.bind_some, sg, decide_true, bytes_Equal, e2]
theorem like_true {n n2 n3 : Int} {b b2 : Bool} {m L : Segm} (h : Rel m L) : kinfolklaw11_like_2 n b b2 n2 n3 m n b b2 n2 n3 (L.map sg) = some true := by
  unfold kinfolklaw11_like_2
  have hln := h.len
  have hl2 := h.fit.ln
  have hsz := h.fit.sz
  have ht := h.tots
  have hlk : (ks L).length = L.length := by simp [ks]
  rw [segsF h.fit, h.sorted, usedF h.fit, refUsed (by omega) (by omega)]
  have hl := like_loop (n2 := n) (n3 := n2) (n4 := n3) (n5 := n) (n6 := n2) (n7 := n3) (b := b) (b2 := b2) (b3 := b) (b4 := b2) h (i := 0) rfl (Nat.zero_le _)
  simp only [Int.natCast_zero] at hl
  have hup : ((!b2) == b2) = false := by cases b2 <;> rfl
  simp only [Option.bind_some, hlk, pv_len, decide_true, cond_true, ht, disk_Disk_Room_2, disk_Disk_Up, disk_Disk_Armed_2, hup, cond_false, hl]

/-! ### An act on both -/
theorem mset_get {m L : Segm} {k : Int} {v : List Int} {L' : Segm} (hg : ∀ k, mget k m = mget k L) (h : ∀ k', mget k' L' = if k' = k then some v else mget k' L) (k' : Int) : mget k' (mset k v m) = mget k' L' := by
  rw [h k', mget_mset]
  split
  · rfl
  · exact hg k'
theorem mdel_get {m L : Segm} {k : Int} {L' : Segm} (hn : (ks m).Nodup) (hg : ∀ k, mget k m = mget k L) (h : ∀ k', mget k' L' = if k' = k then none else mget k' L) (k' : Int) : mget k' (mdel k m) = mget k' L' := by
  rw [h k']
  split
  · rename_i e
    subst e
    have : ∀ {m : Segm}, (ks m).Nodup → mget k' (mdel k' m) = none := by
      intro m
      induction m with
      | nil => intro _; rfl
      | cons e m ih =>
        intro hn
        simp only [ks, List.map_cons, List.nodup_cons] at hn
        by_cases hk : k' = e.1
        · simp only [mdel, dt hk, cond_true]
          exact mget_none.2 (by rw [hk]; exact hn.1)
        · simp only [mdel, df hk, cond_false, mget]
          exact ih hn.2
    exact this hn
  · rename_i hk
    rw [mget_mdel hk, hg k']
theorem mset_len {k : Int} {v : List Int} : ∀ {m : Segm}, (mset k v m).length ≤ m.length + 1
  | [] => by simp [mset]
  | e :: m => by
    have := mset_len (k := k) (v := v) (m := m)
    by_cases h : k = e.1
    · simp [mset, h]
    · simp [mset, h]; exact this
theorem mdel_len {k : Int} : ∀ {m : Segm}, (mdel k m).length ≤ m.length
  | [] => by simp [mdel]
  | e :: m => by
    have := mdel_len (k := k) (m := m)
    by_cases h : k = e.1
    · simp [mdel, h]
    · simp [mdel, h]; exact this
/-- A state that both are in. -/
structure Both (i : Nat) (n2 n3 : Int) (m L : Segm) : Prop where
  rel : Rel m L
  arm : 0 ≤ n2 ∧ n2 ≤ 9223372036854775807
  ln : m.length ≤ i
  sz : tot m ≤ 40 * i
theorem do_both {a a2 : Int} {a3 : List Int} {a4 a5 : Int} {a6 : Bool} {n n2 n3 : Int} {b b2 : Bool} {m L : Segm} {i : Nat} (hi : i < 50) (hn : 0 ≤ n ∧ n ≤ 9223372036854775807) (h2 : 0 ≤ a2 ∧ a2 ≤ 18446744073709551615) (h4 : -9223372036854775808 ≤ a4 ∧ a4 ≤ 9223372036854775807) (h : Both i n2 n3 m L) :
    ∃ b' b2' n2' n3' m' L', kinfolklaw11_do_2 a a2 a3 a4 a5 a6 n b b2 n2 n3 m n b b2 n2 n3 (L.map sg) = some (true, b', b2', n2', n3', m', b', b2', n2', n3', L'.map sg) ∧ Both (i + 1) n2' n3' m' L' := by
  have hr := h.rel
  have hfit := hr.fit
  have hln := hr.len
  have hup : Both (i + 1) n2 n3 m L := ⟨hr, h.arm, by have := h.ln; omega, by have := h.sz; omega⟩
  have htot := hr.tots
  have hsz := h.sz
  have hml := h.ln
  unfold kinfolklaw11_do_2
  by_cases c4 : irem .u8 a 9 = 4
  · rw [dt c4, cond_true]
    cases b2
    · rw [dropD h.arm]
      obtain ⟨L', e1, e2, e3⟩ := dropR (k := a2) (n := n) (n3 := n3) (b := b) (by omega : L.length ≤ 100) hr.asc h.arm
      rw [Option.bind_some, e1, hr.get a2]
      have hd : Rel (mdel a2 m) L' := ⟨⟨nodup_mdel hfit.nd, fun x hx => hfit.rg x (ks_mdel hx), by have := mdel_len (k := a2) (m := m); have := hfit.ln; omega, by have := tot_mdel (k := a2) (m := m); have := hfit.sz; omega⟩, e2, fun k' => mdel_get hfit.nd hr.get e3 k'⟩
      have hdB : ∀ n2', 0 ≤ n2' ∧ n2' ≤ 9223372036854775807 → Both (i + 1) n2' n3 (mdel a2 m) L' := fun n2' ha => ⟨hd, ha, by have := mdel_len (k := a2) (m := m); omega, by have := tot_mdel (k := a2) (m := m); omega⟩
      cases hq : (mget a2 L).isSome
      · refine ⟨b, false, n2, n3, m, L, ?_, hup⟩
        simp
      · have hgo := goN_ok h.arm
        simp only [if_true]
        by_cases hg : (goN n2).1 = true ∧ ¬ 0 < n3
        · refine ⟨b, (goN n2).1, (goN n2).2, n3, m, L, ?_, ⟨hr, hgo, by omega, by omega⟩⟩
          simp [hg]
        · refine ⟨b, (goN n2).1, (goN n2).2, n3, mdel a2 m, L', ?_, hdB _ hgo⟩
          simp only [if_neg hg, decide_true, Option.bind_some]
    · refine ⟨b, true, n2, n3, m, L, ?_, hup⟩
      unfold disk_Disk_Drop_2 kinfolkref11_Drop_2
      simp
  · rw [df c4, cond_false]
    by_cases c5 : irem .u8 a 9 = 5
    · rw [dt c5, cond_true]
      refine ⟨b, b2, if a4 < 0 then 0 else a4, a5, m, L, ?_, ⟨hr, by split <;> omega, by omega, by omega⟩⟩
      unfold disk_Disk_Arm
      rfl
    · rw [df c5, cond_false]
      by_cases c6 : irem .u8 a 9 = 6
      · rw [dt c6, cond_true]
        exact ⟨b, true, n2, n3, m, L, rfl, hup⟩
      · rw [df c6, cond_false]
        by_cases c7 : irem .u8 a 9 = 7
        · rw [dt c7, cond_true]
          exact ⟨b, false, 0, n3, m, L, rfl, ⟨hr, by omega, by omega, by omega⟩⟩
        · rw [df c7, cond_false]
          by_cases c8 : irem .u8 a 9 = 8
          · rw [dt c8, cond_true]
            exact ⟨a6, b2, n2, n3, m, L, rfl, hup⟩
          · rw [df c8, cond_false, cut_eq, Option.bind_some]
            have hp : (a3.take 40).length ≤ 40 := by rw [List.length_take]; omega
            generalize a3.take 40 = p at hp
            cases b2
            · cases b
              · rw [appendD hfit hn h.arm hp]
                obtain ⟨L', e1, e2, e3⟩ := appendR (k := a2) (n := n) (n3 := n3) (p := p) (by omega : L.length ≤ 100) hr.asc (by omega) h.arm hp
                rw [Option.bind_some, e1]
                have ho : old a2 L = old a2 m := by simp only [old, hr.get a2]
                rw [ho] at e3
                have hwl := wr_len (g := (goN n2).1) (n3 := n3) (p := p)
                have htm := tot_mset (k := a2) (v := old a2 m ++ wr (goN n2).1 n3 p) (m := m)
                rw [List.length_append] at htm
                have hms := mset_len (k := a2) (v := old a2 m ++ wr (goN n2).1 n3 p) (m := m)
                by_cases hf : n - tot m < p.length
                · rw [if_pos hf, if_pos (by omega)]
                  refine ⟨false, false, n2, n3, m, L, ?_, hup⟩
                  simp only [Option.bind_some, decide_true]
                · rw [if_neg hf, if_neg (by omega)]
                  refine ⟨false, (goN n2).1, (goN n2).2, n3, mset a2 (old a2 m ++ wr (goN n2).1 n3 p) m, L', ?_, ⟨⟨⟨nodup_mset hfit.nd, fun x hx => ?_, by omega, by omega⟩, e2, fun k' => mset_get hr.get e3 k'⟩, goN_ok h.arm, by omega, by omega⟩⟩
                  · simp only [Option.bind_some, decide_true]
                  · rcases mem_mset hx with rfl | hx
                    · exact h2
                    · exact hfit.rg x hx
              · refine ⟨true, false, n2, n3, m, L, ?_, hup⟩
                unfold disk_Disk_Append kinfolkref11_Append_3
                rfl
            · refine ⟨b, true, n2, n3, m, L, ?_, hup⟩
              unfold disk_Disk_Append kinfolkref11_Append_3
              rfl
def actB (z : E_kinfolklaw11_Act) : Prop := match z with | .mk _ a1 _ a3 _ _ => (0 ≤ a1 ∧ a1 ≤ 18446744073709551615) ∧ (-9223372036854775808 ≤ a3 ∧ a3 ≤ 9223372036854775807)
theorem end_eq {n n2 n3 : Int} {b b2 : Bool} {m L : Segm} (h : Rel m L) : ((disk_Disk_Read 9223372036854775808 n b b2 n2 n3 m).bind fun (l_2, b7) =>
      (kinfolkref11_Find_2 9223372036854775808 n b b2 n2 n3 (L.map sg)).bind fun n11 =>
      some (b7 == (decide ((0 : Int) ≤ n11)))) = some true := by
  have hln := h.len
  have hl2 := h.fit.ln
  rw [readF h.fit, Option.bind_some]
  simp only
  rw [find_eq (by omega), Option.bind_some]
  congr 1
  rw [h.get]
  by_cases hk : (9223372036854775808 : Int) ∈ ks L
  · rw [if_pos hk, dt (by omega)]
    obtain ⟨L1, v, L2, h1, h2, h3⟩ := split_at hk
    have : mget 9223372036854775808 L = some v := by
      rw [h1, mget_app, if_neg h2]; simp [mget]
    rw [this]; rfl
  · rw [if_neg hk, df (by omega), mget_none.2 hk]; rfl
theorem plays_loop {r : List E_kinfolklaw11_Act} (hs : ∀ z ∈ r, actB z) {n : Int} (hn : 0 ≤ n ∧ n ≤ 9223372036854775807) : ∀ {q : List E_kinfolklaw11_Act} {i : Nat} {b b2 : Bool} {n2 n3 : Int} {m L : Segm}, r.drop i = q → i ≤ r.length → i ≤ 50 → Both i n2 n3 m L →
    ∃ b' b2' n2' n3' m' L', Rel m' L' ∧ ((∃ x0 x1 x2 x3 x4 x5, runL (kinfolklaw11_DiskPlays_L0_2_step r (r.length : Int) n n) ((i : Int), b, b2, n2, n3, m, b, b2, n2, n3, L.map sg) = some (.inl (b', b2', n2', n3', m', b', b2', n2', n3', x0, x1, x2, x3, x4, x5, L'.map sg))) ∨
      runL (kinfolklaw11_DiskPlays_L0_2_step r (r.length : Int) n n) ((i : Int), b, b2, n2, n3, m, b, b2, n2, n3, L.map sg) = some (.inr (.inr (b', b2', n2', n3', m', b', b2', n2', n3', L'.map sg))))
  | [], i, b, b2, n2, n3, m, L, hd, hi, h50, h => by
    have : r.length ≤ i := List.drop_eq_nil_iff.1 hd
    refine ⟨b, b2, n2, n3, m, L, h.rel, .inr (runL_done ?_)⟩
    rw [kinfolklaw11_DiskPlays_L0_2_step, df (by omega)]
    rfl
  | ⟨z0, z1, z2, z3, z4, z5⟩ :: q, i, b, b2, n2, n3, m, L, hd, hi, h50, h => by
    have hlt : i < r.length := by
      rcases Nat.lt_or_ge i r.length with h | h
      · exact h
      · rw [List.drop_eq_nil_of_le h] at hd; cases hd
    have hd2 : r.drop (i + 1) = q := by
      rw [← List.drop_drop, hd]; rfl
    have hk : r[i]? = some (E_kinfolklaw11_Act.mk z0 z1 z2 z3 z4 z5) := by
      have : (r.drop i)[0]? = some (E_kinfolklaw11_Act.mk z0 z1 z2 z3 z4 z5) := by rw [hd]; rfl
      rw [List.getElem?_drop] at this
      simpa using this
    have hz : actB (E_kinfolklaw11_Act.mk z0 z1 z2 z3 z4 z5) := hs _ (List.mem_of_getElem? hk)
    simp only [actB] at hz
    by_cases h5 : i = 50
    · refine ⟨b, b2, n2, n3, m, L, h.rel, .inl ⟨z0, z1, z2, z3, z4, z5, runL_done ?_⟩⟩
      rw [kinfolklaw11_DiskPlays_L0_2_step]
      simp only [List.length_map, dt (show (i : Int) < (r.length : Int) by omega), dt (show (0 : Int) ≤ (i : Int) by omega), cond_true, Bool.and_self, Int.toNat_natCast, hk, Option.bind_some, dt (show (50 : Int) ≤ (i : Int) by omega)]
    · have e1 : iadd .i64 (i : Int) 1 = ((i + 1 : Nat) : Int) := by rw [iadd64 (by omega) (by omega)]; omega
      obtain ⟨b', b2', n2', n3', m', L', hdo, hB⟩ := do_both (a := z0) (a2 := z1) (a3 := z2) (a4 := z3) (a5 := z4) (a6 := z5) (n := n) (b := b) (b2 := b2) (show i < 50 by omega) hn hz.1 hz.2 h
      have hst : kinfolklaw11_DiskPlays_L0_2_step r (r.length : Int) n n ((i : Int), b, b2, n2, n3, m, b, b2, n2, n3, L.map sg) = some (.inl (((i + 1 : Nat) : Int), b', b2', n2', n3', m', b', b2', n2', n3', L'.map sg)) := by
        rw [kinfolklaw11_DiskPlays_L0_2_step]
        rw [dt (show (i : Int) < (r.length : Int) by omega), cond_true, List.length_map, dt (show (i : Int) < (r.length : Int) by omega), dt (show (0 : Int) ≤ (i : Int) by omega), Int.toNat_natCast, hk, Option.bind_some]
        simp only [Bool.and_self, cond_true, df (show ¬ (50 : Int) ≤ (i : Int) by omega), cond_false]
        rw [hdo, Option.bind_some]
        simp only [cond_true]
        rw [like_true hB.rel, Option.bind_some, cond_true, e1]
      rw [runL_next hst]
      exact plays_loop hs hn hd2 (by omega) (by omega) hB
theorem diskPlays_true (room : Int) (acts : List E_kinfolklaw11_Act) (hr : -9223372036854775808 ≤ room ∧ room ≤ 9223372036854775807) (hs : ∀ z ∈ acts, actB z) : kinfolklaw11_DiskPlays room acts = some true := by
  have a1 : disk_New room = some (if room < 0 then 0 else room) := by unfold disk_New; rfl
  have a2 : kinfolkref11_New room = some (if room < 0 then 0 else room) := by
    unfold kinfolkref11_New
    by_cases h : room < 0
    · rw [dt h, if_pos h]; rfl
    · rw [df h, if_neg h]; rfl
  unfold kinfolklaw11_DiskPlays
  rw [awake_eq, Option.bind_some, cond_true, a1, Option.bind_some, a2, Option.bind_some, List.length_map]
  obtain ⟨b', b2', n2', n3', m', L', hR, hrun⟩ := plays_loop (r := acts) hs (n := if room < 0 then 0 else room) (by split <;> omega) (i := 0) (b := false) (b2 := false) (n2 := 0) (n3 := 0) (m := []) (L := []) rfl (Nat.zero_le _) (by omega) ⟨Rel.nil, by omega, by simp, by simp [tot]⟩
  simp only [Int.natCast_zero, List.map_nil] at hrun
  rcases hrun with ⟨x0, x1, x2, x3, x4, x5, h⟩ | h
  · rw [h, Option.bind_some]
    exact end_eq hR
  · rw [h, Option.bind_some]
    exact end_eq hR
end Go.Proofs.Ytgimaogkhblaiaa
