/- Growing: what it makes, part by part, and its cost; the program's, and the document's. Plain. -/
import Derived.Test.YtjjakdmcnkldoaaDoorST6
set_option linter.unusedVariables false
set_option linter.unusedSimpArgs false
namespace Go.Proofs.YtjjakdmcnkldoaaDoor
open Go.Ev Go.Lib

def hL : Tr → Int × Tr
  | .nil => (0, .nil)
  | .mk a t _ _ => (a, t)
def hR : Tr → Int × Tr
  | .nil => (0, .nil)
  | .mk _ _ b u => (b, u)
theorem hL_nf {e : Int} {u : Tr} (h : nf e u) : nf (hL u).1 (hL u).2 := by
  cases u with
  | nil => exact Int.le_refl 0
  | mk a t b u => exact h.2.1
theorem hR_nf {e : Int} {u : Tr} (h : nf e u) : nf (hR u).1 (hR u).2 := by
  cases u with
  | nil => exact Int.le_refl 0
  | mk a t b u => exact h.2.2.1
theorem hL_depth {u : Tr} {d : Nat} (h : depthE u ≤ d + 1) : depthE (hL u).2 ≤ d := by
  cases u <;> simp only [depthE, hL] at h ⊢ <;> omega
theorem hR_depth {u : Tr} {d : Nat} (h : depthE u ≤ d + 1) : depthE (hR u).2 ≤ d := by
  cases u <;> simp only [depthE, hR] at h ⊢ <;> omega
theorem hL_max {e : Int} {u : Tr} : e + maxE (hL u).1 (hL u).2 ≤ maxE e u := by
  cases u <;> simp only [hL, maxE] <;> omega
theorem hR_max {e : Int} {u : Tr} : e + maxE (hR u).1 (hR u).2 ≤ maxE e u := by
  cases u <;> simp only [hR, maxE] <;> omega
theorem hts_h (d : Nat) (e : Int) (u : Tr) : hts (d + 1) e u = hts d (e + (hL u).1) (hL u).2 ++ hts d (e + (hR u).1) (hR u).2 := by
  cases u with
  | nil => simp only [hL, hR, Int.add_zero]; rfl
  | mk => rfl
theorem evL {e : Int} {u : Tr} : event_Event_Left e u = some (hL u) := by cases u <;> rfl
theorem evR {e : Int} {u : Tr} : event_Event_Right e u = some (hR u) := by cases u <;> rfl
/-- Grown; the cost. -/
def growR : Nat → Bool → Idt → Int → Tr → (Int × Tr) × Nat
  | 0, _, _, e, _ => ((e + 1, .nil), 0)
  | d + 1, i, t, e, u =>
    if u = .nil ∧ i = true then ((e + 1, .nil), 0)
    else if zeroI (leftI i t).1 (leftI i t).2 = true then
      (nodeE e (hL u).1 (hL u).2 (growR d (rightI i t).1 (rightI i t).2 (hR u).1 (hR u).2).1.1 (growR d (rightI i t).1 (rightI i t).2 (hR u).1 (hR u).2).1.2,
        (growR d (rightI i t).1 (rightI i t).2 (hR u).1 (hR u).2).2 + (if u = .nil then 1001 else 1))
    else if zeroI (rightI i t).1 (rightI i t).2 = true then
      (nodeE e (growR d (leftI i t).1 (leftI i t).2 (hL u).1 (hL u).2).1.1 (growR d (leftI i t).1 (leftI i t).2 (hL u).1 (hL u).2).1.2 (hR u).1 (hR u).2,
        (growR d (leftI i t).1 (leftI i t).2 (hL u).1 (hL u).2).2 + (if u = .nil then 1001 else 1))
    else if (growR d (leftI i t).1 (leftI i t).2 (hL u).1 (hL u).2).2 < (growR d (rightI i t).1 (rightI i t).2 (hR u).1 (hR u).2).2 then
      (nodeE e (growR d (leftI i t).1 (leftI i t).2 (hL u).1 (hL u).2).1.1 (growR d (leftI i t).1 (leftI i t).2 (hL u).1 (hL u).2).1.2 (hR u).1 (hR u).2,
        (growR d (leftI i t).1 (leftI i t).2 (hL u).1 (hL u).2).2 + (if u = .nil then 1001 else 1))
    else
      (nodeE e (hL u).1 (hL u).2 (growR d (rightI i t).1 (rightI i t).2 (hR u).1 (hR u).2).1.1 (growR d (rightI i t).1 (rightI i t).2 (hR u).1 (hR u).2).1.2,
        (growR d (rightI i t).1 (rightI i t).2 (hR u).1 (hR u).2).2 + (if u = .nil then 1001 else 1))
/-- Is it the right half that grows? -/
def rightR : Nat → Bool → Idt → Tr → Bool
  | 0, _, _, _ => false
  | d + 1, i, t, u =>
    if u = .nil ∧ i = true then false
    else if zeroI (leftI i t).1 (leftI i t).2 = true then true
    else if zeroI (rightI i t).1 (rightI i t).2 = true then false
    else decide ((growR d (rightI i t).1 (rightI i t).2 (hR u).1 (hR u).2).2 ≤ (growR d (leftI i t).1 (leftI i t).2 (hL u).1 (hL u).2).2)
def goL (d : Nat) (i : Bool) (t : Idt) (u : Tr) : (Int × Tr) × Nat := growR d (leftI i t).1 (leftI i t).2 (hL u).1 (hL u).2
def goR (d : Nat) (i : Bool) (t : Idt) (u : Tr) : (Int × Tr) × Nat := growR d (rightI i t).1 (rightI i t).2 (hR u).1 (hR u).2
/-- By what grows. -/
theorem grow_by (d : Nat) (i : Bool) (t : Idt) (e : Int) (u : Tr) : growR (d + 1) i t e u =
    if u = .nil ∧ i = true then ((e + 1, .nil), 0)
    else if rightR (d + 1) i t u = true then (nodeE e (hL u).1 (hL u).2 (goR d i t u).1.1 (goR d i t u).1.2, (goR d i t u).2 + (if u = .nil then 1001 else 1))
    else (nodeE e (goL d i t u).1.1 (goL d i t u).1.2 (hR u).1 (hR u).2, (goL d i t u).2 + (if u = .nil then 1001 else 1)) := by
  simp only [growR, rightR, goL, goR]
  by_cases h : u = .nil ∧ i = true
  · rw [if_pos h, if_pos h]
  · simp only [if_neg h]
    by_cases h1 : zeroI (leftI i t).1 (leftI i t).2 = true
    · simp only [if_pos h1, if_true]
    · simp only [if_neg h1]
      by_cases h2 : zeroI (rightI i t).1 (rightI i t).2 = true
      · simp only [if_pos h2, Bool.false_eq_true, if_false]
      · simp only [if_neg h2]
        by_cases h3 : (growR d (leftI i t).1 (leftI i t).2 (hL u).1 (hL u).2).2 < (growR d (rightI i t).1 (rightI i t).2 (hR u).1 (hR u).2).2
        · rw [if_pos h3, df (show ¬ (growR d (rightI i t).1 (rightI i t).2 (hR u).1 (hR u).2).2 ≤ (growR d (leftI i t).1 (leftI i t).2 (hL u).1 (hL u).2).2 by omega)]
          simp only [Bool.false_eq_true, if_false]
        · rw [if_neg h3, dt (show (growR d (rightI i t).1 (rightI i t).2 (hR u).1 (hR u).2).2 ≤ (growR d (leftI i t).1 (leftI i t).2 (hL u).1 (hL u).2).2 by omega)]
          simp only [if_true]
theorem half_nz {i : Bool} {t : Idt} (h : nfI i t) (hz : zeroI i t = false) (h1 : zeroI (leftI i t).1 (leftI i t).2 = true) : zeroI (rightI i t).1 (rightI i t).2 = false := by
  cases t with
  | nil => exact hz
  | mk a v b w =>
    obtain ⟨rfl, i1, i2, i3⟩ := nfI_mk h
    simp only [leftI, rightI] at h1 ⊢
    obtain ⟨rfl, rfl⟩ := zeroI_iff.1 h1
    rcases Bool.eq_false_or_eq_true (zeroI b w) with hb | hb
    · obtain ⟨rfl, rfl⟩ := zeroI_iff.1 hb
      exact absurd ⟨rfl, rfl, rfl⟩ i3
    · exact hb
/-- Which half grows has a share. -/
theorem right_nz {d : Nat} {i : Bool} {t : Idt} {u : Tr} (h : nfI i t) (hz : zeroI i t = false) (hr : rightR (d + 1) i t u = true) : zeroI (rightI i t).1 (rightI i t).2 = false := by
  simp only [rightR] at hr
  split at hr
  · cases hr
  · split at hr
    · rename_i h1; exact half_nz h hz h1
    · split at hr
      · cases hr
      · rename_i h2; exact Bool.eq_false_iff.2 h2
theorem left_nz {d : Nat} {i : Bool} {t : Idt} {u : Tr} (hn : ¬ (u = .nil ∧ i = true)) (hr : ¬ rightR (d + 1) i t u = true) : zeroI (leftI i t).1 (leftI i t).2 = false := by
  simp only [rightR, if_neg hn] at hr
  split at hr
  · exact absurd rfl hr
  · rename_i h1; exact Bool.eq_false_iff.2 h1
theorem grow_ok : ∀ {d : Nat} {i : Bool} {t : Idt} {e : Int} {u : Tr}, nfI i t → zeroI i t = false → nf e u → depthI t ≤ d → depthE u ≤ d →
    nf (growR d i t e u).1.1 (growR d i t e u).1.2 ∧ depthE (growR d i t e u).1.2 ≤ d ∧ maxE (growR d i t e u).1.1 (growR d i t e u).1.2 ≤ maxE e u + 1 ∧ (growR d i t e u).2 ≤ 1001 * d
  | 0, i, t, e, u, hi, hz, h, d1, d2 => by
    have h0 := h.base
    have h1 := maxE_ge h
    simp only [growR]
    exact ⟨by simp only [nf]; omega, by simp [depthE], by simp only [maxE]; omega, by omega⟩
  | d + 1, i, t, e, u, hi, hz, h, d1, d2 => by
    have h0 := h.base
    have h1 := maxE_ge h
    have l1 := hL_max (e := e) (u := u)
    have l2 := hR_max (e := e) (u := u)
    rw [grow_by]
    by_cases hn : u = .nil ∧ i = true
    · rw [if_pos hn]
      exact ⟨by simp only [nf]; omega, by simp [depthE], by simp only [maxE]; omega, by omega⟩
    · rw [if_neg hn]
      by_cases hr : rightR (d + 1) i t u = true
      · rw [if_pos hr]
        obtain ⟨p1, p2, p3, p4⟩ := grow_ok (d := d) (rightI_nf hi) (right_nz hi hz hr) (hR_nf h) (rightI_depth d1) (hR_depth d2)
        have hdp := node_depth e (hL u).1 (goR d i t u).1.1 (hL u).2 (goR d i t u).1.2
        have hh := hL_depth d2
        simp only [goR] at hdp ⊢
        refine ⟨node_nf h0 (hL_nf h) p1, by omega, by rw [node_max]; omega, by split <;> omega⟩
      · rw [if_neg hr]
        obtain ⟨p1, p2, p3, p4⟩ := grow_ok (d := d) (leftI_nf hi) (left_nz hn hr) (hL_nf h) (leftI_depth d1) (hL_depth d2)
        have hdp := node_depth e (goL d i t u).1.1 (hR u).1 (goL d i t u).1.2 (hR u).2
        have hh := hR_depth d2
        simp only [goL] at hdp ⊢
        refine ⟨node_nf h0 p1 (hR_nf h), by omega, by rw [node_max]; omega, by split <;> omega⟩
theorem grow_shift {k : Int} : ∀ {d : Nat} {i : Bool} {t : Idt} {e : Int} {u : Tr}, (growR d i t (k + e) u).1 = (k + (growR d i t e u).1.1, (growR d i t e u).1.2)
  | 0, i, t, e, u => by simp only [growR, Int.add_assoc]
  | d + 1, i, t, e, u => by
    rw [grow_by, grow_by]
    split
    · simp only [Int.add_assoc]
    · split
      · rw [nodeE_shift]
      · rw [nodeE_shift]
theorem grow_up {M : Int} : ∀ {d : Nat} {i : Bool} {t : Idt} {e : Int} {u : Tr}, nfI i t → zeroI i t = false → nf e u → depthI t ≤ d → depthE u ≤ d → maxE e u + 1 ≤ M →
    upL M (hts d e u) (hts d (growR d i t e u).1.1 (growR d i t e u).1.2) (bits d i t) ∧ hts d e u ≠ hts d (growR d i t e u).1.1 (growR d i t e u).1.2
  | 0, i, t, e, u, hi, hz, h, d1, d2, hM => by
    cases t with
    | mk => simp [depthI] at d1
    | nil =>
      cases u with
      | mk => simp [depthE] at d2
      | nil =>
        cases i with
        | false => cases hz
        | true =>
          simp only [maxE] at hM
          simp only [growR, hts, bits, maxE]
          exact ⟨⟨⟨by omega, by omega, .inr rfl⟩, trivial⟩, fun hc => by simp only [List.cons.injEq] at hc; omega⟩
  | d + 1, i, t, e, u, hi, hz, h, d1, d2, hM => by
    have h0 := h.base
    have l1 := hL_max (e := e) (u := u)
    have l2 := hR_max (e := e) (u := u)
    rw [grow_by]
    by_cases hn : u = .nil ∧ i = true
    · rw [if_pos hn]
      obtain ⟨rfl, rfl⟩ := hn
      cases t with
      | mk => exact hi.elim
      | nil =>
        simp only [maxE] at hM
        dsimp only
        rw [hts_nil, hts_nil, bits_nil]
        refine ⟨upL_all hM (by simp) (fun x hx => by rw [List.eq_of_mem_replicate hx]; omega), fun hc => ?_⟩
        have hp := Nat.two_pow_pos (d + 1)
        obtain ⟨j, hj⟩ : ∃ j, 2 ^ (d + 1) = j + 1 := ⟨2 ^ (d + 1) - 1, by omega⟩
        rw [hj, List.replicate_succ, List.replicate_succ, List.cons.injEq] at hc
        omega
    · rw [if_neg hn]
      have keepL : upL M (hts d (e + (hL u).1) (hL u).2) (hts d (e + (hL u).1) (hL u).2) (bits d (leftI i t).1 (leftI i t).2) :=
        upL_refl (by rw [hts_len, bits_len]) (fun x hx => by have := (hts_top ((hL_nf h).up h0) x hx).2; rw [maxE_up] at this; omega)
      have keepR : upL M (hts d (e + (hR u).1) (hR u).2) (hts d (e + (hR u).1) (hR u).2) (bits d (rightI i t).1 (rightI i t).2) :=
        upL_refl (by rw [hts_len, bits_len]) (fun x hx => by have := (hts_top ((hR_nf h).up h0) x hx).2; rw [maxE_up] at this; omega)
      by_cases hr : rightR (d + 1) i t u = true
      · rw [if_pos hr]
        obtain ⟨p1, p2⟩ := grow_up (M := M) (d := d) (e := e + (hR u).1) (rightI_nf hi) (right_nz hi hz hr) ((hR_nf h).up h0) (rightI_depth d1) (hR_depth d2) (by rw [maxE_up]; omega)
        rw [grow_shift] at p1 p2
        simp only [goR]
        rw [hts_node, hts_h d e u, bits_lr]
        refine ⟨upL_app keepL p1, fun hc => p2 (app_inj (by simp only [hts_len]) hc).2⟩
      · rw [if_neg hr]
        obtain ⟨p1, p2⟩ := grow_up (M := M) (d := d) (e := e + (hL u).1) (leftI_nf hi) (left_nz hn hr) ((hL_nf h).up h0) (leftI_depth d1) (hL_depth d2) (by rw [maxE_up]; omega)
        rw [grow_shift] at p1 p2
        simp only [goL]
        rw [hts_node, hts_h d e u, bits_lr]
        refine ⟨upL_app p1 keepR, fun hc => p2 (app_inj (by simp only [hts_len]) hc).1⟩

/-! ### The program's -/
theorem isLeaf_is {e : Int} {u : Tr} : event_Event_IsLeaf e u = some (isNil u) := by cases u <;> rfl
theorem isNil_of {u : Tr} : (isNil u = true) ↔ u = .nil := isNil_iff
theorem evCost : ∀ {d N : Nat} {i : Bool} {t : Idt} {e : Int} {u : Tr}, d < N → d ≤ 1000 → nfI i t → zeroI i t = false → nf e u → depthI t ≤ d → depthE u ≤ d →
    stamp_cost N i t e u = some (((growR d i t e u).2 : Int), rightR d i t u)
  | d, 0, i, t, e, u, hN, hd, hi, hz, h, d1, d2 => by omega
  | 0, N + 1, i, t, e, u, hN, hd, hi, hz, h, d1, d2 => by
    cases t with
    | mk => simp [depthI] at d1
    | nil =>
      cases u with
      | mk => simp [depthE] at d2
      | nil =>
        cases i with
        | false => cases hz
        | true => rfl
  | d + 1, N + 1, i, t, e, u, hN, hd, hi, hz, h, d1, d2 => by
    -- of the halves
    have half : ¬ (u = .nil ∧ i = true) → stamp_half_3 (stamp_cost N) i t e u = some (((if rightR (d + 1) i t u = true then (goR d i t u).2 else (goL d i t u).2 : Nat) : Int) + 1, rightR (d + 1) i t u) := by
      intro hn
      unfold stamp_half_3
      simp only [idLeft, idRight, idZero, evL, evR, Option.bind_some]
      have hrr : rightR (d + 1) i t u = if zeroI (leftI i t).1 (leftI i t).2 = true then true else if zeroI (rightI i t).1 (rightI i t).2 = true then false else decide ((goR d i t u).2 ≤ (goL d i t u).2) := by
        rw [rightR, if_neg hn]; rfl
      rw [hrr]
      have cL : zeroI (leftI i t).1 (leftI i t).2 = false → stamp_cost N (leftI i t).1 (leftI i t).2 (hL u).1 (hL u).2 = some (((goL d i t u).2 : Int), rightR d (leftI i t).1 (leftI i t).2 (hL u).2) ∧ (goL d i t u).2 ≤ 1001 * d := fun h1 =>
        ⟨evCost (d := d) (N := N) (e := (hL u).1) (by omega) (by omega) (leftI_nf hi) h1 (hL_nf h) (leftI_depth d1) (hL_depth d2), (grow_ok (d := d) (leftI_nf hi) h1 (hL_nf h) (leftI_depth d1) (hL_depth d2)).2.2.2⟩
      have cR : zeroI (rightI i t).1 (rightI i t).2 = false → stamp_cost N (rightI i t).1 (rightI i t).2 (hR u).1 (hR u).2 = some (((goR d i t u).2 : Int), rightR d (rightI i t).1 (rightI i t).2 (hR u).2) ∧ (goR d i t u).2 ≤ 1001 * d := fun h1 =>
        ⟨evCost (d := d) (N := N) (e := (hR u).1) (by omega) (by omega) (rightI_nf hi) h1 (hR_nf h) (rightI_depth d1) (hR_depth d2), (grow_ok (d := d) (rightI_nf hi) h1 (hR_nf h) (rightI_depth d1) (hR_depth d2)).2.2.2⟩
      cases h1 : zeroI (leftI i t).1 (leftI i t).2 with
      | true =>
        obtain ⟨c2, g2⟩ := cR (half_nz hi hz h1)
        simp only [cond_true, c2, Option.bind_some, if_true]
        rw [iadd64 (by omega) (by omega)]
      | false =>
        obtain ⟨c1, g1⟩ := cL h1
        cases h2 : zeroI (rightI i t).1 (rightI i t).2 with
        | true =>
          simp only [cond_true, cond_false, c1, Option.bind_some, if_true, Bool.false_eq_true, if_false]
          rw [iadd64 (by omega) (by omega)]
        | false =>
          obtain ⟨c2, g2⟩ := cR h2
          simp only [cond_false, c1, c2, Option.bind_some, Bool.false_eq_true, if_false]
          generalize (goL d i t u).2 = x at *
          generalize (goR d i t u).2 = y at *
          by_cases hxy : y ≤ x
          · rw [dt hxy, dt (show (y : Int) ≤ (x : Int) by omega), if_pos rfl]
            rw [show (if (y : Int) < (x : Int) then (y : Int) else (x : Int)) = (y : Int) by split <;> omega, iadd64 (by omega) (by omega)]
          · rw [df hxy, df (show ¬ (y : Int) ≤ (x : Int) by omega)]
            rw [show (if (y : Int) < (x : Int) then (y : Int) else (x : Int)) = (x : Int) by split <;> omega, iadd64 (by omega) (by omega)]
            simp only [Bool.false_eq_true, if_false]
    have hg := (grow_ok (d := d + 1) hi hz h d1 d2).2.2.2
    rw [grow_by] at hg ⊢
    unfold stamp_cost stamp_cost_b
    simp only [isLeaf_is, id_ID_IsOne, Option.bind_some]
    by_cases hn : u = .nil ∧ i = true
    · obtain ⟨rfl, rfl⟩ := hn
      simp only [isNil, cond_true, true_and, if_true, rightR]
      rfl
    · rw [half hn]
      simp only [if_neg hn] at hg ⊢
      cases u with
      | nil =>
        cases i with
        | true => exact absurd ⟨rfl, rfl⟩ hn
        | false =>
          simp only [isNil, cond_true, cond_false, Option.bind_some, if_true] at hg ⊢
          by_cases hr : rightR (d + 1) false t .nil = true
          · simp only [if_pos hr] at hg ⊢
            rw [iadd64 (by omega) (by omega)]; congr 2
          · simp only [if_neg hr] at hg ⊢
            rw [iadd64 (by omega) (by omega)]; congr 2
      | mk n1 t1 n2 t2 =>
        simp only [isNil, cond_false, Option.bind_some, reduceCtorEq, if_false] at hg ⊢
        by_cases hr : rightR (d + 1) i t (.mk n1 t1 n2 t2) = true
        · simp only [if_pos hr]; rfl
        · simp only [if_neg hr]; rfl
theorem evgrow : ∀ {d N : Nat} {i : Bool} {t : Idt} {e : Int} {u : Tr}, d + 2 < N → d ≤ 16 → nfI i t → zeroI i t = false → nf e u → depthI t ≤ d → depthE u ≤ d → maxE e u + 1 ≤ 1048576 →
    stamp_grow N i t e u = some ((growR d i t e u).1.1, (growR d i t e u).1.2, 0)
  | d, 0, i, t, e, u, hN, hd, hi, hz, h, d1, d2, hm => by omega
  | 0, N + 1, i, t, e, u, hN, hd, hi, hz, h, d1, d2, hm => by
    have h0 := h.base
    cases t with
    | mk => simp [depthI] at d1
    | nil =>
      cases u with
      | mk => simp [depthE] at d2
      | nil =>
        cases i with
        | false => cases hz
        | true =>
          simp only [maxE] at hm
          unfold stamp_grow stamp_grow_b event_Leaf
          have e1 : iadd .u64 e 1 = e + 1 := iaddU (by omega) (by omega)
          simp only [isLeaf_is, isNil, Option.bind_some, cond_true, id_ID_IsOne, event_Event_Base, e1, df (show ¬ (1048576 : Int) < e + 1 by omega), cond_false, growR]
  | d + 1, N + 1, i, t, e, u, hN, hd, hi, hz, h, d1, d2, hm => by
    have h0 := h.base
    have hme := maxE_ge h
    have l1 := hL_max (e := e) (u := u)
    have l2 := hR_max (e := e) (u := u)
    have b1 := maxE_ge (hL_nf h)
    have b2 := maxE_ge (hR_nf h)
    have b3 := (hL_nf h).base
    have b4 := (hR_nf h).base
    unfold stamp_grow stamp_grow_b
    rw [grow_by]
    simp only [isLeaf_is, Option.bind_some, id_ID_IsOne, event_Event_Base, evL, evR, idLeft, idRight]
    have hc := evCost (d := d + 1) (N := N) (e := e) (by omega) (by omega) hi hz h d1 d2
    by_cases hn : u = .nil ∧ i = true
    · obtain ⟨rfl, rfl⟩ := hn
      simp only [maxE] at hm
      have e1 : iadd .u64 e 1 = e + 1 := iaddU (by omega) (by omega)
      simp only [isNil, cond_true, event_Leaf, e1, df (show ¬ (1048576 : Int) < e + 1 by omega), cond_false, Option.bind_some, true_and, if_true]
    · have key : (bif rightR (d + 1) i t u then
            (stamp_grow N (rightI i t).1 (rightI i t).2 (hR u).1 (hR u).2).bind fun x => bif decide (x.2.2 = 0) then (event_Node N e (hL u).1 (hL u).2 x.1 x.2.1).bind fun y => some (y.1, y.2.1, y.2.2) else some (e, u, x.2.2)
          else
            (stamp_grow N (leftI i t).1 (leftI i t).2 (hL u).1 (hL u).2).bind fun x => bif decide (x.2.2 = 0) then (event_Node N e x.1 x.2.1 (hR u).1 (hR u).2).bind fun y => some (y.1, y.2.1, y.2.2) else some (e, u, x.2.2)) =
          some ((if rightR (d + 1) i t u = true then (nodeE e (hL u).1 (hL u).2 (goR d i t u).1.1 (goR d i t u).1.2, (goR d i t u).2 + (if u = .nil then 1001 else 1)) else (nodeE e (goL d i t u).1.1 (goL d i t u).1.2 (hR u).1 (hR u).2, (goL d i t u).2 + (if u = .nil then 1001 else 1))).1.1,
            (if rightR (d + 1) i t u = true then (nodeE e (hL u).1 (hL u).2 (goR d i t u).1.1 (goR d i t u).1.2, (goR d i t u).2 + (if u = .nil then 1001 else 1)) else (nodeE e (goL d i t u).1.1 (goL d i t u).1.2 (hR u).1 (hR u).2, (goL d i t u).2 + (if u = .nil then 1001 else 1))).1.2, 0) := by
        cases hr : rightR (d + 1) i t u with
        | true =>
          have r := evgrow (d := d) (N := N) (by omega) (by omega) (rightI_nf hi) (right_nz hi hz hr) (hR_nf h) (rightI_depth d1) (hR_depth d2) (by omega)
          obtain ⟨p1, p2, p3, p4⟩ := grow_ok (d := d) (rightI_nf hi) (right_nz hi hz hr) (hR_nf h) (rightI_depth d1) (hR_depth d2)
          have hh := hL_depth d2
          have hn := evNode (N := N) (n := e) (by omega) (by omega) (by omega) (by omega) h0 (hL_nf h) p1 (by omega)
          simp only [cond_true, r, Option.bind_some, decide_true, hn, if_true, goR]
        | false =>
          have r := evgrow (d := d) (N := N) (by omega) (by omega) (leftI_nf hi) (left_nz hn (by rw [hr]; decide)) (hL_nf h) (leftI_depth d1) (hL_depth d2) (by omega)
          obtain ⟨p1, p2, p3, p4⟩ := grow_ok (d := d) (leftI_nf hi) (left_nz hn (by rw [hr]; decide)) (hL_nf h) (leftI_depth d1) (hL_depth d2)
          have hh := hR_depth d2
          have hn := evNode (N := N) (n := e) (by omega) (by omega) (by omega) (by omega) h0 p1 (hR_nf h) (by omega)
          simp only [cond_true, cond_false, r, Option.bind_some, decide_true, hn, if_true, Bool.false_eq_true, if_false, goL]
      rw [if_neg hn, ← key, hc]
      cases u with
      | nil =>
        cases i with
        | true => exact absurd ⟨rfl, rfl⟩ hn
        | false =>
          simp only [isNil, cond_true, cond_false, Option.bind_some]
      | mk n1 t1 n2 t2 =>
        simp only [isNil, cond_false, Option.bind_some]
theorem evGrow {d N : Nat} {i : Bool} {t : Idt} {e : Int} {u : Tr} (hN : d + 2 < N) (hd : d ≤ 16) (hi : nfI i t) (hz : zeroI i t = false) (h : nf e u) (d1 : depthI t ≤ d) (d2 : depthE u ≤ d) (hm : maxE e u + 1 ≤ 1048576) :
    stamp_Grow N i t e u = some ((growR d i t e u).1.1, (growR d i t e u).1.2, ((growR d i t e u).2 : Int), 0) := by
  unfold stamp_Grow
  rw [idZero, hz, evCost (by omega) (by omega) hi hz h d1 d2, evgrow hN hd hi hz h d1 d2 hm]
  simp only [Option.bind_some, cond_false, decide_true, cond_true]

/-! ### The document's -/
theorem rILeft {i : Bool} {t : Idt} (h : nfI i t) : kinfolkref01_Left (fromI i t) = some (fromI (leftI i t).1 (leftI i t).2) := by
  cases t with
  | nil => cases i <;> rfl
  | mk => obtain ⟨rfl, -⟩ := nfI_mk h; rfl
theorem rIRight {i : Bool} {t : Idt} (h : nfI i t) : kinfolkref01_Right (fromI i t) = some (fromI (rightI i t).1 (rightI i t).2) := by
  cases t with
  | nil => cases i <;> rfl
  | mk => obtain ⟨rfl, -⟩ := nfI_mk h; rfl
theorem kind_z {a : Bool} {v : Idt} : decide (kindI a v = 0) = zeroI a v := by cases a <;> cases v <;> rfl
theorem rHalves {e : Int} {u : Tr} : kinfolkref04_halves (fromEv e u) = some (fromEv (hL u).1 (hL u).2, fromEv (hR u).1 (hR u).2) := by
  cases u with
  | nil => rfl
  | mk n1 t1 n2 t2 =>
    obtain ⟨x, y, hx⟩ := fromEv_mk n1 t1
    unfold kinfolkref04_halves
    simp only [fromEv, hx, hL, hR]
theorem rGrow : ∀ {d N : Nat} {i : Bool} {t : Idt} {e : Int} {u : Tr}, d + 1 < N → d ≤ 1000 → nfI i t → zeroI i t = false → nf e u → depthI t ≤ d → depthE u ≤ d → maxE e u + 1 ≤ 1048576 →
    kinfolkref04_Grow N (fromI i t) (fromEv e u) = some (fromEv (growR d i t e u).1.1 (growR d i t e u).1.2, ((growR d i t e u).2 : Int))
  | d, 0, i, t, e, u, hN, hd, hi, hz, h, d1, d2, hm => by omega
  | 0, N + 1, i, t, e, u, hN, hd, hi, hz, h, d1, d2, hm => by
    have h0 := h.base
    cases t with
    | mk => simp [depthI] at d1
    | nil =>
      cases u with
      | mk => simp [depthE] at d2
      | nil =>
        cases i with
        | false => cases hz
        | true =>
          simp only [maxE] at hm
          have e1 : iadd .u64 e 1 = e + 1 := iaddU (by omega) (by omega)
          unfold kinfolkref04_Grow kinfolkref04_Grow_b kinfolkref02_Leaf
          simp only [fromEv, fromI, decide_true, cond_true, e1, Option.bind_some, growR]
          rfl
  | d + 1, N + 1, i, t, e, u, hN, hd, hi, hz, h, d1, d2, hm => by
    have h0 := h.base
    have hme := maxE_ge h
    have l1 := hL_max (e := e) (u := u)
    have l2 := hR_max (e := e) (u := u)
    have b1 := maxE_ge (hL_nf h)
    have b2 := maxE_ge (hR_nf h)
    have b3 := (hL_nf h).base
    have b4 := (hR_nf h).base
    have q1 := hL_depth d2
    have q2 := hR_depth d2
    obtain ⟨x1, y1, f1⟩ := fromI_kind (leftI i t).1 (leftI i t).2
    obtain ⟨x2, y2, f2⟩ := fromI_kind (rightI i t).1 (rightI i t).2
    -- the halves, with what it costs besides
    have half : ∀ (more : Nat), more ≤ 2000 → ¬ (u = .nil ∧ i = true) → ((kinfolkref04_halves (fromEv e u)).bind fun (t5, t6) => (kinfolkref01_Left (fromI i t)).bind fun t7 => (kinfolkref01_Right (fromI i t)).bind fun t8 =>
          match t7 with
          | .nil => none
          | .mk n3 t9 t10 =>
            bif (decide (n3 = 0)) then
              (kinfolkref04_Grow N t8 t6).bind fun (t11, n4) => (kinfolkref02_Node N e t5 t11).bind fun t12 => some (t12, (iadd .i64 n4 (more : Int)))
            else
              match t8 with
              | .nil => none
              | .mk n4 t11 t12 =>
                bif (decide (n4 = 0)) then
                  (kinfolkref04_Grow N t7 t5).bind fun (t13, n5) => (kinfolkref02_Node N e t13 t6).bind fun t14 => some (t14, (iadd .i64 n5 (more : Int)))
                else
                  (kinfolkref04_Grow N t7 t5).bind fun (t13, n5) => (kinfolkref04_Grow N t8 t6).bind fun (t14, n6) =>
                  bif (decide (n5 < n6)) then
                    (kinfolkref02_Node N e t13 t6).bind fun t15 => some (t15, (iadd .i64 n5 (more : Int)))
                  else
                    (kinfolkref02_Node N e t5 t14).bind fun t15 => some (t15, (iadd .i64 n6 (more : Int)))) =
        some (fromEv (if rightR (d + 1) i t u = true then nodeE e (hL u).1 (hL u).2 (goR d i t u).1.1 (goR d i t u).1.2 else nodeE e (goL d i t u).1.1 (goL d i t u).1.2 (hR u).1 (hR u).2).1
            (if rightR (d + 1) i t u = true then nodeE e (hL u).1 (hL u).2 (goR d i t u).1.1 (goR d i t u).1.2 else nodeE e (goL d i t u).1.1 (goL d i t u).1.2 (hR u).1 (hR u).2).2,
          ((if rightR (d + 1) i t u = true then (goR d i t u).2 else (goL d i t u).2 : Nat) : Int) + (more : Int)) := by
      intro more hmore hn
      rw [rHalves, rILeft hi, rIRight hi]
      simp only [Option.bind_some]
      have hrr : rightR (d + 1) i t u = if zeroI (leftI i t).1 (leftI i t).2 = true then true else if zeroI (rightI i t).1 (rightI i t).2 = true then false else decide ((goR d i t u).2 ≤ (goL d i t u).2) := by
        rw [rightR, if_neg hn]; rfl
      have sideL : zeroI (leftI i t).1 (leftI i t).2 = false → kinfolkref04_Grow N (fromI (leftI i t).1 (leftI i t).2) (fromEv (hL u).1 (hL u).2) = some (fromEv (goL d i t u).1.1 (goL d i t u).1.2, ((goL d i t u).2 : Int)) ∧ (goL d i t u).2 ≤ 1001 * d ∧
          kinfolkref02_Node N e (fromEv (goL d i t u).1.1 (goL d i t u).1.2) (fromEv (hR u).1 (hR u).2) = some (fromEv (nodeE e (goL d i t u).1.1 (goL d i t u).1.2 (hR u).1 (hR u).2).1 (nodeE e (goL d i t u).1.1 (goL d i t u).1.2 (hR u).1 (hR u).2).2) := by
        intro h1
        obtain ⟨p1, p2, p3, p4⟩ := grow_ok (d := d) (leftI_nf hi) h1 (hL_nf h) (leftI_depth d1) q1
        exact ⟨rGrow (d := d) (N := N) (by omega) (by omega) (leftI_nf hi) h1 (hL_nf h) (leftI_depth d1) q1 (by omega), p4, rNode (N := N) (by simp only [goL]; omega) (by omega) p1 (hR_nf h) (by omega) (by simp only [goL]; omega) (by omega)⟩
      have sideR : zeroI (rightI i t).1 (rightI i t).2 = false → kinfolkref04_Grow N (fromI (rightI i t).1 (rightI i t).2) (fromEv (hR u).1 (hR u).2) = some (fromEv (goR d i t u).1.1 (goR d i t u).1.2, ((goR d i t u).2 : Int)) ∧ (goR d i t u).2 ≤ 1001 * d ∧
          kinfolkref02_Node N e (fromEv (hL u).1 (hL u).2) (fromEv (goR d i t u).1.1 (goR d i t u).1.2) = some (fromEv (nodeE e (hL u).1 (hL u).2 (goR d i t u).1.1 (goR d i t u).1.2).1 (nodeE e (hL u).1 (hL u).2 (goR d i t u).1.1 (goR d i t u).1.2).2) := by
        intro h1
        obtain ⟨p1, p2, p3, p4⟩ := grow_ok (d := d) (rightI_nf hi) h1 (hR_nf h) (rightI_depth d1) q2
        exact ⟨rGrow (d := d) (N := N) (by omega) (by omega) (rightI_nf hi) h1 (hR_nf h) (rightI_depth d1) q2 (by omega), p4, rNode (N := N) (by omega) (by simp only [goR]; omega) (hL_nf h) p1 (by omega) (by omega) (by simp only [goR]; omega)⟩
      rw [hrr, f1, f2]
      simp only [kind_z]
      rw [← f1, ← f2]
      cases h1 : zeroI (leftI i t).1 (leftI i t).2 with
      | true =>
        obtain ⟨g1, g2, g3⟩ := sideR (half_nz hi hz h1)
        simp only [cond_true, g1, Option.bind_some, g3, if_true]
        rw [iadd64 (by omega) (by omega)]
      | false =>
        obtain ⟨k1, k2, k3⟩ := sideL h1
        cases h2 : zeroI (rightI i t).1 (rightI i t).2 with
        | true =>
          simp only [cond_true, cond_false, k1, Option.bind_some, k3, if_true, Bool.false_eq_true, if_false]
          rw [iadd64 (by omega) (by omega)]
        | false =>
          obtain ⟨g1, g2, g3⟩ := sideR h2
          simp only [cond_false, k1, g1, Option.bind_some, k3, g3, Bool.false_eq_true, if_false]
          generalize (goL d i t u).2 = x at *
          generalize (goR d i t u).2 = y at *
          by_cases hxy : y ≤ x
          · rw [dt hxy, df (show ¬ (x : Int) < (y : Int) by omega), cond_false, iadd64 (by omega) (by omega)]
            simp only [if_true]
          · rw [df hxy, dt (show (x : Int) < (y : Int) by omega), cond_true, iadd64 (by omega) (by omega)]
            simp only [Bool.false_eq_true, if_false]
    unfold kinfolkref04_Grow kinfolkref04_Grow_b
    rw [grow_by]
    by_cases hn : u = .nil ∧ i = true
    · obtain ⟨rfl, rfl⟩ := hn
      cases t with
      | mk => exact hi.elim
      | nil =>
        simp only [maxE] at hm
        have e1 : iadd .u64 e 1 = e + 1 := iaddU (by omega) (by omega)
        simp only [fromEv, fromI, decide_true, cond_true, e1, kinfolkref02_Leaf, Option.bind_some, true_and, if_true]
        rfl
    · rw [if_neg hn]
      cases u with
      | nil =>
        have hk := half 1001 (by omega) hn
        obtain ⟨x3, y3, f3⟩ := fromI_kind i t
        have hk1 : decide (kindI i t = 1) = false := by
          rw [kind_one]
          cases i with
          | true => exact absurd ⟨rfl, rfl⟩ hn
          | false => rfl
        simp only [fromEv] at hk ⊢
        rw [f3] at hk ⊢
        simp only [hk1, cond_false]
        refine hk.trans ?_
        by_cases hr : rightR (d + 1) i t .nil = true
        · simp only [if_pos hr, if_true]; rfl
        · simp only [if_neg hr, if_true]; rfl
      | mk n1 t1 n2 t2 =>
        have hk := half 1 (by omega) hn
        obtain ⟨x, y, hx⟩ := fromEv_mk n1 t1
        simp only [fromEv, hx] at hk ⊢
        refine hk.trans ?_
        by_cases hr : rightR (d + 1) i t (.mk n1 t1 n2 t2) = true
        · simp only [if_pos hr, reduceCtorEq, if_false]; rfl
        · simp only [if_neg hr, reduceCtorEq, if_false]; rfl
end Go.Proofs.YtjjakdmcnkldoaaDoor
