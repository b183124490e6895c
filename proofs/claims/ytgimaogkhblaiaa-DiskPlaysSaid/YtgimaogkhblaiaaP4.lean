/- A disk plays as its reference: each act, and what is compared. Plain. -/
import Derived.Test.YtgimaogkhblaiaaP3
set_option linter.unusedVariables false
set_option linter.unusedSimpArgs false
namespace Go.Proofs.Ytgimaogkhblaiaa
open Go.Ev

def Asc (L : Segm) : Prop := (ks L).Pairwise (· < ·)
theorem ks_app {L1 L2 : Segm} : ks (L1 ++ L2) = ks L1 ++ ks L2 := by simp [ks]
theorem ks_cons {e : Int × List Int} {L : Segm} : ks (e :: L) = e.1 :: ks L := rfl
theorem set_mid {α : Type} (y : α) : ∀ (A : List α) (x : α) (B : List α), (A ++ x :: B).set A.length y = A ++ y :: B
  | [], x, B => rfl
  | a :: A, x, B => by simp only [List.cons_append, List.length_cons, List.set_cons_succ, set_mid y A x B]
theorem get_mid {α : Type} : ∀ (A : List α) (x : α) (B : List α), (A ++ x :: B)[A.length]? = some x
  | [], x, B => rfl
  | a :: A, x, B => by simp only [List.cons_append, List.length_cons, List.getElem?_cons_succ, get_mid A x B]
theorem fitsB {k : Nat} (h : k ≤ 100000) : fits k = true := by simp only [fits]; exact dt (by omega)
theorem c32_eq {n n2 n3 : Int} {p : List Int} {g b b2 : Bool} {x : Int} {r : List E_kinfolkref11_Seg} : kinfolkref11_Append_C32 n p g n2 b b2 x n3 r = some (wr g n3 p, ec g) := by
  unfold kinfolkref11_Append_C32
  cases g
  · rfl
  · have e1 : kinfolkref11_Append_C38 n p n3 (decide (n3 < 0)) n2 b b2 x n3 r = some (if n3 < 0 then 0 else n3) := by
      unfold kinfolkref11_Append_C38
      by_cases h : n3 < 0
      · rw [dt h, if_pos h]; rfl
      · rw [df h, if_neg h]; rfl
    have e2 : ∀ k : Int, kinfolkref11_Append_C42 n p k (decide ((p.length : Int) < k)) n2 b b2 x n3 r = some (if (p.length : Int) < k then (p.length : Int) else k) := by
      intro k
      unfold kinfolkref11_Append_C42
      by_cases h : (p.length : Int) < k
      · rw [dt h, if_pos h]; rfl
      · rw [df h, if_neg h]; rfl
    rw [cond_true, e1, Option.bind_some, e2, Option.bind_some]
    simp only [wr, ec, if_true, tear]
    generalize hq : (if (p.length : Int) < (if n3 < 0 then 0 else n3) then (p.length : Int) else (if n3 < 0 then 0 else n3)) = q
    have hq0 : 0 ≤ q ∧ q ≤ p.length := by subst hq; split <;> split <;> omega
    simp only [dt hq0.1, dt hq0.2, decide_true, Bool.and_self, dt (Int.le_refl 0), cond_true, Int.sub_zero]
theorem appendR {k n n2 n3 : Int} {p : List Int} {L : Segm} (hL : L.length ≤ 100) (ha : Asc L) (ht : tot L ≤ 10000) (h0 : 0 ≤ n2 ∧ n2 ≤ 9223372036854775807) (hp : p.length ≤ 40) :
    ∃ L' : Segm, kinfolkref11_Append_3 k p n false false n2 n3 (L.map sg) = some (if n < tot L + p.length then (8, false, n2, L.map sg) else (ec (goN n2).1, (goN n2).1, (goN n2).2, L'.map sg)) ∧
      Asc L' ∧ ∀ k', mget k' L' = if k' = k then some (old k L ++ wr (goN n2).1 n3 p) else mget k' L := by
  unfold kinfolkref11_Append_3
  rw [refUsed (by omega) (by omega), cond_false, cond_false, Option.bind_some, iadd64 (by omega) (by omega)]
  have hw := wr_len (g := (goN n2).1) (n3 := n3) (p := p)
  have hol : ∀ k, (old k L).length ≤ tot L := fun k => old_le
  rw [goesR h0, Option.bind_some]
  simp only []
  generalize goN n2 = g at hw
  obtain ⟨g1, g2⟩ := g
  simp only at hw ⊢
  rw [c32_eq, Option.bind_some]
  simp only []
  rw [find_eq (by omega), Option.bind_some]
  generalize wr g1 n3 p = w at hw
  by_cases hk : k ∈ ks L
  · obtain ⟨L1, v, L2, h1, h2, h3⟩ := split_at hk
    have hmL : mget k L = some v := by
      rw [h1, mget_app, if_neg h2]; simp [mget]
    have hv : v.length ≤ tot L := by
      have := hol k
      simp only [old, hmL, Option.getD_some] at this
      exact this
    refine ⟨L1 ++ (k, v ++ w) :: L2, ?_, ?_, ?_⟩
    · rw [if_pos hk, h3, df (show ¬ ((L1.length : Nat) : Int) < 0 by omega)]
      by_cases hf : n < tot L + p.length
      · rw [dt hf, if_pos hf]; rfl
      · rw [df hf, if_neg hf, cond_false]
        unfold kinfolkref11_Append_C52
        rw [cond_false, Option.bind_some]
        simp only []
        have hlen : L.length = L1.length + (L2.length + 1) := by rw [h1]; simp
        have hg : (L.map sg)[L1.length]? = some (E_kinfolkref11_Seg.mk k v) := by
          rw [h1, List.map_append, List.map_cons]
          have := get_mid (L1.map sg) (sg (k, v)) (L2.map sg)
          rw [List.length_map] at this
          exact this
        have hs : ∀ y, (L.map sg).set L1.length y = L1.map sg ++ y :: L2.map sg := by
          intro y
          rw [h1, List.map_append, List.map_cons]
          have := set_mid y (L1.map sg) (sg (k, v)) (L2.map sg)
          rw [List.length_map] at this
          exact this
        rw [pv_len, dt (by omega), dt (by omega), Int.toNat_natCast, Nat.zero_add, hg]
        simp only [Bool.and_self, cond_true, Option.bind_some, hs, List.nil_append]
        have fw : fits w.length = true := fitsB (by omega)
        have fv : fits v.length = true := fitsB (by omega)
        have fvw : fits (v ++ w).length = true := fitsB (by rw [List.length_append]; omega)
        cases hvl : v with
        | nil => simp only [List.length_nil, Nat.beq_refl, cond_true, fw, List.nil_append, List.map_append, List.map_cons, sg]
        | cons a v' =>
          rw [hvl] at fv fvw
          rw [show Nat.beq (a :: v').length 0 = false from rfl, cond_false, fv, cond_true, fvw, cond_true]
          simp only [List.map_append, List.map_cons, sg]
    · have : ks (L1 ++ (k, v ++ w) :: L2) = ks L := by rw [h1, ks_app, ks_app, ks_cons, ks_cons]
      unfold Asc
      rw [this]
      exact ha
    · intro k'
      have ho : old k L = v := by simp only [old, hmL, Option.getD_some]
      rw [ho, h1, mget_app, mget_app]
      by_cases hk' : k' = k
      · subst hk'
        rw [if_neg h2, if_pos rfl]
        simp [mget]
      · rw [if_neg hk']
        simp only [mget, df hk', cond_false]
  · obtain ⟨L1, L2, h1, h2, h3, h4⟩ := new_eq (n := k) (p := w) (e := ec g1) (i := -1) (n2 := n) (n3 := g2) (n4 := n3) (b2 := false) (b3 := g1) (L := L) (by omega)
    have hmL : mget k L = none := mget_none.2 hk
    refine ⟨L1 ++ (k, w) :: L2, ?_, ?_, ?_⟩
    · rw [if_neg hk, dt (show (-1 : Int) < 0 by omega), h4]
      by_cases hf : n < tot L + p.length
      · rw [dt hf, if_pos hf]; rfl
      · rw [df hf, if_neg hf, cond_false, Option.bind_some]
        simp only []
        have hg : (List.map sg (L1 ++ (k, []) :: L2))[L1.length]? = some (E_kinfolkref11_Seg.mk k []) := by
          rw [List.map_append, List.map_cons]
          have := get_mid (L1.map sg) (sg (k, [])) (L2.map sg)
          rw [List.length_map] at this
          exact this
        have hs : ∀ y, (List.map sg (L1 ++ (k, []) :: L2)).set L1.length y = L1.map sg ++ y :: L2.map sg := by
          intro y
          rw [List.map_append, List.map_cons]
          have := set_mid y (L1.map sg) (sg (k, [])) (L2.map sg)
          rw [List.length_map] at this
          exact this
        have fw : fits w.length = true := fitsB (by omega)
        have hlt : ((L1.length : Nat) : Int) < (((L1 ++ (k, ([] : List Int)) :: L2).length : Nat) : Int) := by rw [List.length_append, List.length_cons]; omega
        rw [pv_len, dt hlt, dt (by omega), Int.toNat_natCast, Nat.zero_add, hg]
        simp only [Bool.and_self, cond_true, Option.bind_some, hs, List.nil_append, List.length_nil, fw]
        simp only [List.map_append, List.map_cons, sg]
        rfl
    · unfold Asc
      unfold Asc at ha
      rw [h1, ks_app, List.pairwise_append] at ha
      rw [h1, ks_app, List.mem_append, not_or] at hk
      rw [ks_app, ks_cons, List.pairwise_append, List.pairwise_cons]
      have hgt : ∀ y ∈ ks L2, k < y := by
        intro y hy
        cases hq : ks L2 with
        | nil => rw [hq] at hy; cases hy
        | cons a q =>
          have ha1 := h3 a (by rw [hq]; rfl)
          have ha2 : k ≠ a := fun e => hk.2 (by rw [hq, e]; simp)
          rw [hq] at hy
          rcases List.mem_cons.1 hy with rfl | hy
          · omega
          · have hp2 := ha.2.1
            rw [hq, List.pairwise_cons] at hp2
            have := hp2.1 y hy
            omega
      refine ⟨ha.1, ⟨hgt, ha.2.1⟩, ?_⟩
      intro x hx y hy
      have hxk := h2 x hx
      rcases List.mem_cons.1 hy with rfl | hy
      · exact hxk
      · exact Int.lt_trans hxk (hgt y hy)
    · intro k'
      have ho : old k L = [] := by simp only [old, hmL, Option.getD_none]
      have hk1 : k ∉ ks L1 := fun h => hk (by rw [h1, ks_app]; exact List.mem_append_left _ h)
      rw [ho, h1, mget_app, mget_app]
      by_cases hk' : k' = k
      · subst hk'
        rw [if_neg hk1, if_pos rfl]
        simp [mget]
      · rw [if_neg hk']
        simp only [mget, df hk', cond_false]
theorem dropR {k n n2 n3 : Int} {b : Bool} {L : Segm} (hL : L.length ≤ 100) (ha : Asc L) (h0 : 0 ≤ n2 ∧ n2 ≤ 9223372036854775807) :
    ∃ L' : Segm, kinfolkref11_Drop_2 k n b false n2 n3 (L.map sg) = some (if (mget k L).isSome = true then (ec (goN n2).1, (goN n2).1, (goN n2).2, if (goN n2).1 = true ∧ ¬ 0 < n3 then L.map sg else L'.map sg) else (2, false, n2, L.map sg)) ∧
      Asc L' ∧ ∀ k', mget k' L' = if k' = k then none else mget k' L := by
  unfold kinfolkref11_Drop_2
  rw [find_eq (by omega), cond_false, Option.bind_some]
  by_cases hk : k ∈ ks L
  · obtain ⟨L1, v, L2, h1, h2, h3⟩ := split_at hk
    have hmL : mget k L = some v := by
      rw [h1, mget_app, if_neg h2]; simp [mget]
    have ha' := ha
    unfold Asc at ha'
    rw [h1, ks_app, ks_cons, List.pairwise_append, List.pairwise_cons] at ha'
    have hk2 : k ∉ ks L2 := fun h => by
      have := ha'.2.1.1 k h
      exact absurd this (Int.lt_irrefl _)
    refine ⟨L1 ++ L2, ?_, ?_, ?_⟩
    · rw [if_pos hk, h3, df (show ¬ ((L1.length : Nat) : Int) < 0 by omega), cond_false, goesR h0, Option.bind_some, hmL, Option.isSome_some, if_pos rfl]
      dsimp only
      have hlen : L.length = L1.length + (L2.length + 1) := by rw [h1]; simp
      have e1 : iadd .i64 ((L1.length : Nat) : Int) 1 = ((L1.length + 1 : Nat) : Int) := by rw [iadd64 (by omega) (by omega)]; omega
      have t1 : ∀ {α : Type} (f : Int × List Int → α), List.take ((L.length : Int) - ((L1.length + 1 : Nat) : Int)).toNat (List.drop (0 + (((L1.length + 1 : Nat) : Int)).toNat) (L.map f)) = L2.map f := by
        intro α f
        rw [h1, List.map_append, List.map_cons, Nat.zero_add, Int.toNat_natCast, ← List.drop_drop, List.drop_left' (by simp), List.drop_succ_cons, List.drop_zero, List.take_of_length_le]
        simp only [List.length_map, List.length_append, List.length_cons]
        omega
      have t2 : ∀ {α : Type} (f : Int × List Int → α), List.take ((L1.length : Int) - 0).toNat (L.map f) = L1.map f := by
        intro α f
        rw [Int.sub_zero, Int.toNat_natCast, h1, List.map_append, List.take_left' (by simp)]
      have key : (bif decide ((0 : Int) ≤ (iadd .i64 ((L1.length : Nat) : Int) 1)) && decide (((iadd .i64 ((L1.length : Nat) : Int) 1) : Int) ≤ (((List.map E_kinfolkref11_Seg.pv (L.map sg))).length : Int)) && decide (((((List.map E_kinfolkref11_Seg.pv (L.map sg))).length : Int) : Int) ≤ (((List.map E_kinfolkref11_Seg.pv (L.map sg))).length : Int)) && decide (((((List.map E_kinfolkref11_Seg.pv (L.map sg))).length : Int) : Int) = (((List.map E_kinfolkref11_Seg.pv (L.map sg))).length : Int)) then
          bif decide ((0 : Int) ≤ 0) && decide ((0 : Int) ≤ ((L1.length : Nat) : Int)) && decide (((L1.length : Nat) : Int) ≤ (((List.map E_kinfolkref11_Seg.pv (L.map sg))).length : Int)) && decide (((L1.length : Nat) : Int) = ((L1.length : Nat) : Int)) then
          bif Nat.beq ((List.take (((L1.length : Nat) : Int) - 0).toNat (List.map E_kinfolkref11_Seg.pv (L.map sg)))).length 0 then
            bif fits ((([] : List (List PV)) ++ (List.take ((((List.map E_kinfolkref11_Seg.pv (L.map sg))).length : Int) - (iadd .i64 ((L1.length : Nat) : Int) 1)).toNat (List.drop (0 + ((iadd .i64 ((L1.length : Nat) : Int) 1)).toNat) (List.map E_kinfolkref11_Seg.pv (L.map sg)))))).length then
            some (ec (goN n2).1, (goN n2).1, (goN n2).2, ([] ++ (List.take ((((List.map E_kinfolkref11_Seg.pv (L.map sg))).length : Int) - (iadd .i64 ((L1.length : Nat) : Int) 1)).toNat (List.drop (0 + ((iadd .i64 ((L1.length : Nat) : Int) 1)).toNat) (L.map sg)))))
            else none
          else
            bif fits ((([] : List (List PV)) ++ (List.take (((L1.length : Nat) : Int) - 0).toNat (List.map E_kinfolkref11_Seg.pv (L.map sg))))).length then
            bif fits (((([] : List (List PV)) ++ (List.take (((L1.length : Nat) : Int) - 0).toNat (List.map E_kinfolkref11_Seg.pv (L.map sg)))) ++ (List.take ((((List.map E_kinfolkref11_Seg.pv (L.map sg))).length : Int) - (iadd .i64 ((L1.length : Nat) : Int) 1)).toNat (List.drop (0 + ((iadd .i64 ((L1.length : Nat) : Int) 1)).toNat) (List.map E_kinfolkref11_Seg.pv (L.map sg)))))).length then
            some (ec (goN n2).1, (goN n2).1, (goN n2).2, (([] ++ (List.take (((L1.length : Nat) : Int) - 0).toNat (L.map sg))) ++ (List.take ((((List.map E_kinfolkref11_Seg.pv (L.map sg))).length : Int) - (iadd .i64 ((L1.length : Nat) : Int) 1)).toNat (List.drop (0 + ((iadd .i64 ((L1.length : Nat) : Int) 1)).toNat) (L.map sg)))))
            else none
            else none
          else none
          else none) = some (ec (goN n2).1, (goN n2).1, (goN n2).2, (L1 ++ L2).map sg) := by
        rw [e1]
        have f1 : fits L1.length = true := fitsB (by omega)
        have f2 : fits L2.length = true := fitsB (by omega)
        have f3 : fits (L1.length + L2.length) = true := fitsB (by omega)
        simp only [List.map_map, List.length_map, t1, t2, dt (show (0 : Int) ≤ ((L1.length + 1 : Nat) : Int) by omega), dt (show ((L1.length + 1 : Nat) : Int) ≤ (L.length : Int) by omega), dt (show (0 : Int) ≤ (L1.length : Int) by omega), dt (show (L1.length : Int) ≤ (L.length : Int) by omega), dt (Int.le_refl (L.length : Int)), dt (Int.le_refl 0), decide_true, Bool.and_self, cond_true, List.nil_append, List.length_append, f1, f2, f3]
        cases hz : L1 with
        | nil => rfl
        | cons e q => simp [Nat.beq]
      generalize goN n2 = g at key ⊢
      obtain ⟨g1, g2⟩ := g
      cases g1
      · rw [cond_false, if_neg (by simp)]
        exact key
      · by_cases hq : 0 < n3
        · rw [cond_true, dt hq, cond_true, if_neg (by simp [hq])]
          exact key
        · rw [cond_true, df hq, cond_false, if_pos ⟨rfl, hq⟩]
          rfl
    · unfold Asc
      rw [ks_app, List.pairwise_append]
      exact ⟨ha'.1, ha'.2.1.2, fun x hx y hy => ha'.2.2 x hx y (List.mem_cons_of_mem _ hy)⟩
    · intro k'
      rw [h1, mget_app, mget_app]
      by_cases hk' : k' = k
      · subst hk'
        rw [if_neg h2, if_pos rfl]
        exact mget_none.2 hk2
      · rw [if_neg hk']
        simp only [mget, df hk', cond_false]
  · have hmL : mget k L = none := mget_none.2 hk
    refine ⟨L, ?_, ha, ?_⟩
    · rw [if_neg hk, dt (by omega), cond_true, hmL]
      rfl
    · intro k'
      by_cases hk' : k' = k
      · rw [if_pos hk', hk', hmL]
      · rw [if_neg hk']
end Go.Proofs.Ytgimaogkhblaiaa
