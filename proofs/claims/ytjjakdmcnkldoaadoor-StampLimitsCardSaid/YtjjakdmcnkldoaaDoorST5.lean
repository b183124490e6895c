/- Shares: their form, their bits part by part; split, summed; their texts. Plain. -/
import Derived.Test.YtjjakdmcnkldoaaDoorST4
set_option linter.unusedVariables false
set_option linter.unusedSimpArgs false
namespace Go.Proofs.YtjjakdmcnkldoaaDoor
open Go.Ev Go.Lib

abbrev Idt := T_id_halves
instance decNilI (t : Idt) : Decidable (t = T_id_halves.nil) := match t with
  | .nil => isTrue rfl
  | .mk .. => isFalse (fun h => by cases h)
def zeroI (i : Bool) : Idt → Bool
  | .nil => !i
  | .mk .. => false
def depthI : Idt → Nat
  | .nil => 0
  | .mk _ t _ u => max (depthI t) (depthI u) + 1
def nfI : Bool → Idt → Prop
  | true, .nil => True
  | true, .mk .. => False
  | false, .nil => True
  | false, .mk b l b2 r => nfI b l ∧ nfI b2 r ∧ ¬ (l = .nil ∧ r = .nil ∧ b = b2)
theorem nfI_nil (i : Bool) : nfI i .nil := by cases i <;> trivial
theorem nfI_mk {i b c : Bool} {l r : Idt} (h : nfI i (.mk b l c r)) : i = false ∧ nfI b l ∧ nfI c r ∧ ¬ (l = .nil ∧ r = .nil ∧ b = c) := by
  cases i with
  | true => exact h.elim
  | false => exact ⟨rfl, h⟩
def bits : Nat → Bool → Idt → List Bool
  | 0, i, _ => [i]
  | d + 1, i, .nil => bits d i .nil ++ bits d i .nil
  | d + 1, i, .mk a t b u => bits d a t ++ bits d b u
theorem bits_len : ∀ (d : Nat) (i : Bool) (t : Idt), (bits d i t).length = 2 ^ d
  | 0, i, t => rfl
  | d + 1, i, .nil => by simp only [bits, List.length_append, bits_len d]; omega
  | d + 1, i, .mk a t b u => by simp only [bits, List.length_append, bits_len d]; omega
theorem appB {a b c d : List Bool} (hl : a.length = c.length) (h : a ++ b = c ++ d) : a = c ∧ b = d := List.append_inj h hl
theorem bits_inj : ∀ {d : Nat} {i j : Bool} {t u : Idt}, nfI i t → nfI j u → depthI t ≤ d → depthI u ≤ d → bits d i t = bits d j u → i = j ∧ t = u
  | 0, i, j, t, u, h1, h2, d1, d2, h => by
    cases t with
    | mk => simp [depthI] at d1
    | nil =>
      cases u with
      | mk => simp [depthI] at d2
      | nil => simp only [bits, List.cons.injEq] at h; exact ⟨h.1, rfl⟩
  | d + 1, i, j, .nil, .nil, h1, h2, d1, d2, h => by
    simp only [bits] at h
    obtain ⟨h3, h4⟩ := appB (by simp only [bits_len]) h
    exact bits_inj (d := d) h1 h2 (by simp [depthI]) (by simp [depthI]) h3
  | d + 1, i, j, .nil, .mk a v b w, h1, h2, d1, d2, h => by
    obtain ⟨rfl, n1, n2, n3⟩ := nfI_mk h2
    simp only [bits] at h
    simp only [depthI] at d2
    obtain ⟨h3, h4⟩ := appB (by simp only [bits_len]) h
    obtain ⟨g1, g2⟩ := bits_inj (d := d) h1 n1 (by simp [depthI]) (by omega) h3
    obtain ⟨g3, g4⟩ := bits_inj (d := d) h1 n2 (by simp [depthI]) (by omega) h4
    exact absurd ⟨g2.symm, g4.symm, g1.symm.trans g3⟩ n3
  | d + 1, i, j, .mk a v b w, .nil, h1, h2, d1, d2, h => by
    obtain ⟨rfl, n1, n2, n3⟩ := nfI_mk h1
    simp only [bits] at h
    simp only [depthI] at d1
    obtain ⟨h3, h4⟩ := appB (by simp only [bits_len]) h
    obtain ⟨g1, g2⟩ := bits_inj (d := d) n1 h2 (by omega) (by simp [depthI]) h3
    obtain ⟨g3, g4⟩ := bits_inj (d := d) n2 h2 (by omega) (by simp [depthI]) h4
    exact absurd ⟨g2, g4, g1.trans g3.symm⟩ n3
  | d + 1, i, j, .mk a v b w, .mk a' v' b' w', h1, h2, d1, d2, h => by
    obtain ⟨rfl, n1, n2, n3⟩ := nfI_mk h1
    obtain ⟨rfl, m1, m2, m3⟩ := nfI_mk h2
    simp only [bits] at h
    simp only [depthI] at d1 d2
    obtain ⟨h3, h4⟩ := appB (by simp only [bits_len]) h
    obtain ⟨rfl, rfl⟩ := bits_inj (d := d) n1 m1 (by omega) (by omega) h3
    obtain ⟨rfl, rfl⟩ := bits_inj (d := d) n2 m2 (by omega) (by omega) h4
    exact ⟨rfl, rfl⟩
def pairF (i : Bool) (t : Idt) (j : Bool) (u : Idt) : Bool × Idt := if t = .nil ∧ u = .nil ∧ i = j then (i, .nil) else (false, .mk i t j u)
theorem bits_pair (d : Nat) (i j : Bool) (t u : Idt) : bits (d + 1) (pairF i t j u).1 (pairF i t j u).2 = bits d i t ++ bits d j u := by
  unfold pairF
  split
  · rename_i h
    obtain ⟨rfl, rfl, rfl⟩ := h
    rfl
  · rfl
theorem pair_nf {i j : Bool} {t u : Idt} (h1 : nfI i t) (h2 : nfI j u) : nfI (pairF i t j u).1 (pairF i t j u).2 := by
  unfold pairF
  split
  · exact nfI_nil i
  · rename_i h; exact ⟨h1, h2, h⟩
theorem pair_depth (i j : Bool) (t u : Idt) : depthI (pairF i t j u).2 ≤ max (depthI t) (depthI u) + 1 := by
  unfold pairF
  split
  · simp [depthI]
  · exact Nat.le_refl _
theorem idZero {i : Bool} {t : Idt} : id_ID_IsZero i t = some (zeroI i t) := by cases i <;> cases t <;> rfl
theorem idpair {i j : Bool} {t u : Idt} (h1 : nfI i t) (h2 : nfI j u) : id_pair i t j u = some (pairF i t j u) := by
  unfold id_pair pairF
  simp only [idZero, id_ID_IsOne, id_Zero, id_One, Option.bind_some]
  cases t with
  | nil =>
    cases u with
    | nil => cases i <;> cases j <;> rfl
    | mk => obtain ⟨rfl, -⟩ := nfI_mk h2; cases i <;> simp [zeroI]
  | mk => obtain ⟨rfl, -⟩ := nfI_mk h1; simp [zeroI]
theorem idDepth : ∀ {N : Nat} {i : Bool} {t : Idt}, depthI t < N → depthI t ≤ 100000 → id_ID_Depth N i t = some (depthI t : Int)
  | 0, i, t, hN, h => by omega
  | N + 1, i, t, hN, h => by
    unfold id_ID_Depth id_ID_Depth_b
    cases t with
    | nil => rfl
    | mk b l b2 r =>
      simp only [depthI] at hN h
      simp only [idDepth (N := N) (i := b) (t := l) (by omega) (by omega), idDepth (N := N) (i := b2) (t := r) (by omega) (by omega), Option.bind_some]
      have e : (if (depthI l : Int) < (depthI r : Int) then (depthI r : Int) else (depthI l : Int)) = ((max (depthI l) (depthI r) : Nat) : Int) := by split <;> omega
      rw [e, iadd64 (by omega) (by omega)]
      simp only [depthI]
      congr 1
      omega
def leftI (i : Bool) : Idt → Bool × Idt
  | .nil => (i, .nil)
  | .mk a t _ _ => (a, t)
def rightI (i : Bool) : Idt → Bool × Idt
  | .nil => (i, .nil)
  | .mk _ _ b u => (b, u)
theorem idLeft {i : Bool} {t : Idt} : id_ID_Left i t = some (leftI i t) := by cases t <;> rfl
theorem idRight {i : Bool} {t : Idt} : id_ID_Right i t = some (rightI i t) := by cases t <;> rfl
theorem bits_lr (d : Nat) (i : Bool) (t : Idt) : bits (d + 1) i t = bits d (leftI i t).1 (leftI i t).2 ++ bits d (rightI i t).1 (rightI i t).2 := by cases t <;> rfl
theorem leftI_nf {i : Bool} {t : Idt} (h : nfI i t) : nfI (leftI i t).1 (leftI i t).2 := by
  cases t with
  | nil => exact h
  | mk a t b u => exact (nfI_mk h).2.1
theorem rightI_nf {i : Bool} {t : Idt} (h : nfI i t) : nfI (rightI i t).1 (rightI i t).2 := by
  cases t with
  | nil => exact h
  | mk a t b u => exact (nfI_mk h).2.2.1
theorem leftI_depth {i : Bool} {t : Idt} {d : Nat} (h : depthI t ≤ d + 1) : depthI (leftI i t).2 ≤ d := by
  cases t <;> simp only [depthI, leftI] at h ⊢ <;> omega
theorem rightI_depth {i : Bool} {t : Idt} {d : Nat} (h : depthI t ≤ d + 1) : depthI (rightI i t).2 ≤ d := by
  cases t <;> simp only [depthI, rightI] at h ⊢ <;> omega
/-- Nothing. -/
theorem zeroI_iff {i : Bool} {t : Idt} : zeroI i t = true ↔ i = false ∧ t = .nil := by
  cases t <;> cases i <;> simp [zeroI]
theorem zeroI_mk {i a b : Bool} {t u : Idt} : zeroI i (.mk a t b u) = false := rfl
theorem bits_nil : ∀ (d : Nat) (i : Bool), bits d i .nil = List.replicate (2 ^ d) i
  | 0, i => rfl
  | d + 1, i => by
    simp only [bits, bits_nil d]
    rw [List.replicate_append_replicate]
    congr 1
    rw [Nat.pow_succ]; omega
theorem not_zero {d : Nat} {i : Bool} {t : Idt} (h : nfI i t) (hd : depthI t ≤ d) (hz : zeroI i t = false) : true ∈ bits d i t := by
  rcases Bool.eq_false_or_eq_true (decide (true ∈ bits d i t)) with hm | hm
  · exact of_decide_eq_true hm
  · exfalso
    have hm' := of_decide_eq_false hm
    have hall : bits d i t = List.replicate (2 ^ d) false := by
      rw [List.eq_replicate_iff]
      refine ⟨bits_len d i t, fun b hb => ?_⟩
      cases b with
      | true => exact absurd hb hm'
      | false => rfl
    rw [← bits_nil d false] at hall
    obtain ⟨rfl, rfl⟩ := bits_inj h (nfI_nil false) hd (by simp [depthI]) hall
    cases hz

/-! ### Apart; of both -/
def disjL : List Bool → List Bool → Bool
  | x :: l, y :: m => !(x && y) && disjL l m
  | _, _ => true
def orL : List Bool → List Bool → List Bool
  | x :: l, y :: m => (x || y) :: orL l m
  | _, _ => []
theorem disjL_app : ∀ {a c b d : List Bool}, a.length = c.length → disjL (a ++ b) (c ++ d) = (disjL a c && disjL b d)
  | [], [], b, d, h => by simp [disjL]
  | [], _ :: _, b, d, h => by cases h
  | _ :: _, [], b, d, h => by cases h
  | x :: a, y :: c, b, d, h => by simp only [List.cons_append, disjL, disjL_app (show a.length = c.length by simpa using h), Bool.and_assoc]
theorem orL_app : ∀ {a c b d : List Bool}, a.length = c.length → orL (a ++ b) (c ++ d) = orL a c ++ orL b d
  | [], [], b, d, h => rfl
  | [], _ :: _, b, d, h => by cases h
  | _ :: _, [], b, d, h => by cases h
  | x :: a, y :: c, b, d, h => by simp only [List.cons_append, orL, orL_app (show a.length = c.length by simpa using h)]
theorem orL_comm : ∀ {a b : List Bool}, orL a b = orL b a
  | [], [] => rfl
  | [], _ :: _ => rfl
  | _ :: _, [] => rfl
  | x :: a, y :: b => by simp only [orL, orL_comm (a := a) (b := b), Bool.or_comm]
theorem disjL_comm : ∀ {a b : List Bool}, disjL a b = disjL b a
  | [], [] => rfl
  | [], _ :: _ => rfl
  | _ :: _, [] => rfl
  | x :: a, y :: b => by simp only [disjL, disjL_comm (a := a) (b := b), Bool.and_comm]
theorem disjL_false : ∀ {n : Nat} {b : List Bool}, disjL (List.replicate n false) b = true
  | 0, b => by cases b <;> rfl
  | n + 1, [] => rfl
  | n + 1, y :: b => by simp only [List.replicate_succ, disjL, disjL_false]; rfl
theorem orL_false : ∀ {n : Nat} {b : List Bool}, b.length = n → orL (List.replicate n false) b = b
  | 0, b, h => by rw [List.length_eq_zero_iff.1 h]; rfl
  | n + 1, [], h => by cases h
  | n + 1, y :: b, h => by simp only [List.replicate_succ, orL, orL_false (show b.length = n by simpa using h), Bool.false_or]
theorem disjL_true : ∀ {n : Nat} {b : List Bool}, b.length = n → true ∈ b → disjL (List.replicate n true) b = false
  | 0, b, h, hb => by rw [List.length_eq_zero_iff.1 h] at hb; cases hb
  | n + 1, [], h, hb => by cases hb
  | n + 1, y :: b, h, hb => by
    simp only [List.replicate_succ, disjL]
    cases y with
    | true => rfl
    | false =>
      have := disjL_true (show b.length = n by simpa using h) (by simpa using hb)
      rw [this]; rfl
theorem disjL_self : ∀ {b : List Bool}, true ∈ b → disjL b b = false
  | x :: b, h => by
    cases x with
    | true => rfl
    | false =>
      have := disjL_self (b := b) (by simpa using h)
      simp only [disjL, this]; rfl
theorem idDisj : ∀ {N d : Nat} {i j : Bool} {t u : Idt}, d < N → nfI i t → nfI j u → depthI t ≤ d → depthI u ≤ d → id_Disjoint N i t j u = some (disjL (bits d i t) (bits d j u))
  | 0, d, i, j, t, u, hN, h1, h2, d1, d2 => by omega
  | N + 1, d, i, j, t, u, hN, h1, h2, d1, d2 => by
    unfold id_Disjoint id_Disjoint_b
    simp only [idZero, id_ID_IsOne, Option.bind_some]
    cases hz : zeroI i t with
    | true =>
      obtain ⟨rfl, rfl⟩ := zeroI_iff.1 hz
      rw [bits_nil, disjL_false]; rfl
    | false =>
      cases hz2 : zeroI j u with
      | true =>
        obtain ⟨rfl, rfl⟩ := zeroI_iff.1 hz2
        rw [bits_nil, disjL_comm, disjL_false]; rfl
      | false =>
        have b1 := not_zero h1 d1 hz
        have b2 := not_zero h2 d2 hz2
        simp only [cond_false]
        cases t with
        | nil =>
          cases i with
          | false => cases hz
          | true => rw [bits_nil, disjL_true (bits_len d j u) b2]; rfl
        | mk a v b w =>
          obtain ⟨rfl, n1, n2, n3⟩ := nfI_mk h1
          cases u with
          | nil =>
            cases j with
            | false => cases hz2
            | true => rw [bits_nil, disjL_comm, disjL_true (bits_len d false _) b1]; rfl
          | mk a' v' b' w' =>
            obtain ⟨rfl, m1, m2, m3⟩ := nfI_mk h2
            cases d with
            | zero => simp [depthI] at d1
            | succ d =>
              simp only [depthI] at d1 d2
              simp only [cond_false, idDisj (N := N) (d := d) (by omega) n1 m1 (by omega) (by omega), idDisj (N := N) (d := d) (by omega) n2 m2 (by omega) (by omega), Option.bind_some, bits]
              rw [disjL_app (by simp only [bits_len])]
              cases disjL (bits d a v) (bits d a' v') <;> rfl
theorem idsum : ∀ {N d : Nat} {i j : Bool} {t u : Idt}, d < N → nfI i t → nfI j u → depthI t ≤ d → depthI u ≤ d → disjL (bits d i t) (bits d j u) = true →
    ∃ k v, id_sum N i t j u = some (k, v) ∧ nfI k v ∧ depthI v ≤ d ∧ bits d k v = orL (bits d i t) (bits d j u)
  | 0, d, i, j, t, u, hN, h1, h2, d1, d2, hj => by omega
  | N + 1, d, i, j, t, u, hN, h1, h2, d1, d2, hj => by
    unfold id_sum id_sum_b
    simp only [idZero, Option.bind_some]
    cases hz : zeroI i t with
    | true =>
      obtain ⟨rfl, rfl⟩ := zeroI_iff.1 hz
      exact ⟨j, u, rfl, h2, d2, by rw [bits_nil, orL_false (bits_len d j u)]⟩
    | false =>
      cases hz2 : zeroI j u with
      | true =>
        obtain ⟨rfl, rfl⟩ := zeroI_iff.1 hz2
        exact ⟨i, t, rfl, h1, d1, by rw [bits_nil, orL_comm, orL_false (bits_len d i t)]⟩
      | false =>
        have b1 := not_zero h1 d1 hz
        have b2 := not_zero h2 d2 hz2
        simp only [cond_false]
        cases t with
        | nil =>
          cases i with
          | false => cases hz
          | true => rw [bits_nil, disjL_true (bits_len d j u) b2] at hj; cases hj
        | mk a v b w =>
          obtain ⟨rfl, n1, n2, n3⟩ := nfI_mk h1
          cases u with
          | nil =>
            cases j with
            | false => cases hz2
            | true => rw [bits_nil, disjL_comm, disjL_true (bits_len d false _) b1] at hj; cases hj
          | mk a' v' b' w' =>
            obtain ⟨rfl, m1, m2, m3⟩ := nfI_mk h2
            cases d with
            | zero => simp [depthI] at d1
            | succ d =>
              simp only [depthI] at d1 d2
              simp only [bits] at hj
              rw [disjL_app (by simp only [bits_len]), Bool.and_eq_true] at hj
              obtain ⟨k1, x1, p1, p2, p3, p4⟩ := idsum (N := N) (d := d) (by omega) n1 m1 (by omega) (by omega) hj.1
              obtain ⟨k2, x2, q1, q2, q3, q4⟩ := idsum (N := N) (d := d) (by omega) n2 m2 (by omega) (by omega) hj.2
              simp only [p1, q1, Option.bind_some, idpair p2 q2]
              refine ⟨_, _, rfl, pair_nf p2 q2, ?_, ?_⟩
              · have := pair_depth k1 k2 x1 x2; omega
              · rw [bits_pair, p4, q4]
                simp only [bits]
                rw [orL_app (by simp only [bits_len])]
theorem idSum {N d : Nat} {i j : Bool} {t u : Idt} (hN : d < N) (h1 : nfI i t) (h2 : nfI j u) (d1 : depthI t ≤ d) (d2 : depthI u ≤ d) (hj : disjL (bits d i t) (bits d j u) = true) :
    ∃ k v, id_Sum N i t j u = some (k, v, 0) ∧ nfI k v ∧ depthI v ≤ d ∧ bits d k v = orL (bits d i t) (bits d j u) := by
  obtain ⟨k, v, e1, e2, e3, e4⟩ := idsum hN h1 h2 d1 d2 hj
  unfold id_Sum
  rw [idDisj hN h1 h2 d1 d2, hj]
  simp only [Option.bind_some, cond_true, e1]
  exact ⟨k, v, rfl, e2, e3, e4⟩
theorem idSum_is {N d : Nat} {i j k : Bool} {t u v : Idt} (hN : d < N) (h1 : nfI i t) (h2 : nfI j u) (h3 : nfI k v) (d1 : depthI t ≤ d) (d2 : depthI u ≤ d) (d3 : depthI v ≤ d) (hj : disjL (bits d i t) (bits d j u) = true) (ho : orL (bits d i t) (bits d j u) = bits d k v) :
    id_Sum N i t j u = some (k, v, 0) := by
  obtain ⟨k', v', e1, e2, e3, e4⟩ := idSum hN h1 h2 d1 d2 hj
  obtain ⟨rfl, rfl⟩ := bits_inj e2 h3 e3 d3 (e4.trans ho)
  exact e1
theorem idCov : ∀ {N : Nat} {i : Bool} {t : Idt}, depthI t < N → nfI i t → id_Covers N i t i t = some true
  | 0, i, t, hN, h => by omega
  | N + 1, i, t, hN, h => by
    unfold id_Covers id_Covers_b
    simp only [idZero, id_ID_IsOne, Option.bind_some]
    cases t with
    | nil => cases i <;> rfl
    | mk a v b w =>
      obtain ⟨rfl, n1, n2, n3⟩ := nfI_mk h
      simp only [depthI] at hN
      simp only [zeroI, cond_false, idCov (N := N) (by omega) n1, idCov (N := N) (by omega) n2, Option.bind_some, cond_true]
theorem idSame {N : Nat} {i : Bool} {t : Idt} (hN : depthI t < N) (h : nfI i t) : id_Same N i t i t = some true := by
  unfold id_Same
  rw [idCov hN h]
  rfl

/-! ### The document's -/
def fromI : Bool → Idt → T_kinfolkref01_ID
  | true, _ => .mk 1 .nil .nil
  | false, .nil => .mk 0 .nil .nil
  | false, .mk b l b2 r => .mk 2 (fromI b l) (fromI b2 r)
def kindI (i : Bool) (t : Idt) : Int := if i = true then 1 else if t = .nil then 0 else 2
theorem fromI_kind (i : Bool) (t : Idt) : ∃ x y, fromI i t = .mk (kindI i t) x y := by
  cases i <;> cases t <;> exact ⟨_, _, rfl⟩
theorem rpair {i j : Bool} {t u : Idt} (h1 : nfI i t) (h2 : nfI j u) : kinfolkref01_Pair (fromI i t) (fromI j u) = some (fromI (pairF i t j u).1 (pairF i t j u).2) := by
  unfold kinfolkref01_Pair pairF
  cases t with
  | nil =>
    cases u with
    | nil => cases i <;> cases j <;> rfl
    | mk => obtain ⟨rfl, -⟩ := nfI_mk h2; cases i <;> rfl
  | mk =>
    obtain ⟨rfl, -⟩ := nfI_mk h1
    cases u with
    | nil => cases j <;> rfl
    | mk => obtain ⟨rfl, -⟩ := nfI_mk h2; rfl
theorem rmakeID : ∀ {N most : Nat} {p : List Int}, most < N → most ≤ 1000 → Bytes p → ∃ i t rest, kinfolkref01_Make N p (most : Int) = some (fromI i t, rest) ∧ nfI i t ∧ depthI t ≤ most ∧ Bytes rest
  | 0, most, p, hN, hm, h => by omega
  | N + 1, most, p, hN, hm, h => by
    unfold kinfolkref01_Make kinfolkref01_Make_b
    by_cases h0 : (p.length : Int) = 0
    · rw [dt h0]
      exact ⟨false, .nil, [], rfl, trivial, Nat.zero_le _, fun x hx => by simp at hx⟩
    · have hl : 0 < p.length := by omega
      have hb := h.at hl
      have leaf : ∀ q : List Int, Bytes q → ∃ i t rest, some (T_kinfolkref01_ID.mk (IntKind.i64.wrap (irem .u8 (p.getD 0 0) 2)) T_kinfolkref01_ID.nil T_kinfolkref01_ID.nil, q) = some (fromI i t, rest) ∧ nfI i t ∧ depthI t ≤ most ∧ Bytes rest := by
        intro q hq
        have e : IntKind.i64.wrap (irem .u8 (p.getD 0 0) 2) = p.getD 0 0 % 2 := by
          rw [show (2 : Int) = ((2 : Nat) : Int) from rfl, irem8 hb.1, i64_in (by omega) (by omega)]
        rw [e]
        rcases Int.emod_two_eq (p.getD 0 0) with h2 | h2
        · exact ⟨false, .nil, q, by rw [h2]; rfl, trivial, Nat.zero_le _, hq⟩
        · exact ⟨true, .nil, q, by rw [h2]; rfl, trivial, Nat.zero_le _, hq⟩
      have ht := take_drop1 p 1
      have ht' : List.take ((p.length : Int) - 1).toNat (List.drop 1 p) = List.drop 1 p := ht
      have hd := h.drop 1
      simp only [df h0, cond_false, ht', dt (show (0 : Int) < p.length by omega), dt (show (1 : Int) ≤ p.length by omega), dt (Int.le_refl (0 : Int)), dt (show (0 : Int) ≤ 1 by omega), dt (Int.le_refl (p.length : Int)), dt (show (p.length : Int) = p.length from rfl), Bool.and_self, cond_true]
      by_cases hm0 : (most : Int) = 0
      · rw [dt hm0, cond_true]; exact leaf _ hd
      · rw [df hm0, cond_false]
        by_cases h4 : irem .u8 (p.getD 0 0) 4 < 2
        · rw [dt h4, cond_true]; exact leaf _ hd
        · rw [df h4, cond_false]
          obtain ⟨m, rfl⟩ : ∃ m, most = m + 1 := ⟨most - 1, by omega⟩
          have em : isub .i64 ((m + 1 : Nat) : Int) 1 = (m : Int) := by rw [isub64 (by omega) (by omega)]; omega
          rw [em]
          obtain ⟨i, t, r1, q1, q2, q3, q4⟩ := rmakeID (N := N) (most := m) (by omega) (by omega) hd
          obtain ⟨j, u, r2, q5, q6, q7, q8⟩ := rmakeID (N := N) (most := m) (by omega) (by omega) q4
          rw [q1]
          simp only [Option.bind_some]
          rw [q5]
          simp only [Option.bind_some]
          rw [rpair q2 q6]
          refine ⟨_, _, r2, rfl, pair_nf q2 q6, ?_, q8⟩
          have := pair_depth i j t u
          omega
theorem pair_keep {i a b : Bool} {t u : Idt} (h : nfI i (.mk a t b u)) : pairF a t b u = (i, .mk a t b u) := by
  obtain ⟨rfl, -, -, h3⟩ := nfI_mk h
  rw [pairF, if_neg h3]
theorem ownI_eq : ∀ {N : Nat} {i : Bool} {t : Idt}, nfI i t → depthI t ≤ 16 → depthI t + 1 < N → kinfolklaw04_own N (fromI i t) = some (i, t)
  | 0, i, t, hn, hd, hN => by omega
  | N + 1, i, t, hn, hd, hN => by
    unfold kinfolklaw04_own kinfolklaw04_own_b
    cases t with
    | nil => cases i <;> rfl
    | mk b l b2 r =>
      have hk := pair_keep hn
      have hdp := idDepth (N := N) (i := i) (t := .mk b l b2 r) (by omega) (by omega)
      obtain ⟨rfl, n1, n2, n3⟩ := nfI_mk hn
      simp only [depthI] at hN hd
      have r1 := ownI_eq (N := N) n1 (by omega) (by omega)
      have r2 := ownI_eq (N := N) n2 (by omega) (by omega)
      have e2 : decide ((2 : Int) = 0) = false := rfl
      have e3 : decide ((2 : Int) = 1) = false := rfl
      simp only [fromI, r1, r2, Option.bind_some, id_Pair, idpair n1 n2, hk, hdp, df (show ¬ (16 : Int) < ((depthI (.mk b l b2 r) : Nat) : Int) by simp only [depthI]; omega), cond_false, e2, e3]
theorem tree_eq : ∀ {N : Nat} {e : Int} {t : Tr}, nf e t → depthE t ≤ 16 → maxE e t ≤ 1048576 → depthE t + 1 < N → kinfolklaw04_tree N (fromEv e t) = some (e, t)
  | 0, e, t, hw, hd, hm, hN => by omega
  | N + 1, e, t, hw, hd, hm, hN => by
    unfold kinfolklaw04_tree kinfolklaw04_tree_b
    cases t with
    | nil =>
      simp only [maxE] at hm
      simp only [fromEv, event_Leaf, df (show ¬ (1048576 : Int) < e by omega), cond_false, Option.bind_some]
    | mk a t b u =>
      have hk := node_keep hw
      simp only [depthE] at hN hd
      obtain ⟨w1, w2, w3, w4, w5⟩ := hw
      have g1 := maxE_ge w2
      have g2 := maxE_ge w3
      have g3 := w2.base
      have g4 := w3.base
      simp only [maxE] at hm
      have r1 := tree_eq (N := N) w2 (by omega) (by omega) (by omega)
      have r2 := tree_eq (N := N) w3 (by omega) (by omega) (by omega)
      have hn := evNode (N := N) (n := e) (by omega) (by omega) (by omega) (by omega) w1 w2 w3 (by omega)
      rw [hk] at hn
      obtain ⟨x, y, hx⟩ := fromEv_mk a t
      rw [hx] at r1
      simp only [fromEv, hx, r1, r2, hn, Option.bind_some]
/-- What the law makes of bytes: a share, and a tree. -/
structure Made (i : Bool) (t : Idt) (e : Int) (u : Tr) : Prop where
  nfi : nfI i t
  nfe : nf e u
  di : depthI t ≤ 6
  de : depthE u ≤ 6
  mx : maxE e u ≤ 25
theorem made_eq {N : Nat} {p q : List Int} (hN : 20 ≤ N) (hp : Bytes p) (hq : Bytes q) : ∃ i t e u, kinfolklaw04_made N p q = some (i, t, e, u, fromI i t, fromEv e u) ∧ Made i t e u := by
  obtain ⟨i, t, r1, q1, q2, q3, q4⟩ := rmakeID (N := N) (most := 6) (p := List.take (min 60 p.length) p) (by omega) (by decide) (hp.take _)
  obtain ⟨e, u, r2, s1, s2, s3, s4, s5⟩ := rmakeEv (N := N) (most := 6) (p := List.take (min 60 q.length) q) (by omega) (by decide) (hq.take _)
  refine ⟨i, t, e, u, ?_, q2, s2, q3, s3, by omega⟩
  have hmin : ∀ l : List Int, (if (60 : Int) < (l.length : Int) then 60 else (l.length : Int)) = ((min 60 l.length : Nat) : Int) := fun l => by split <;> omega
  have q1' : kinfolkref01_Make N (List.take (min 60 p.length) p) 6 = some (fromI i t, r1) := q1
  have s1' : kinfolkref02_Make N (List.take (min 60 q.length) q) 6 = some (fromEv e u, r2) := s1
  unfold kinfolklaw04_made
  simp only [hmin, Int.sub_zero, Int.toNat_natCast, dt (Int.le_refl (0 : Int)), dt (show (0 : Int) ≤ ((min 60 p.length : Nat) : Int) by omega), dt (show ((min 60 p.length : Nat) : Int) ≤ (p.length : Int) by omega), dt (show (0 : Int) ≤ ((min 60 q.length : Nat) : Int) by omega), dt (show ((min 60 q.length : Nat) : Int) ≤ (q.length : Int) by omega), decide_true, Bool.and_self, cond_true, q1', s1', Option.bind_some, ownI_eq q2 (by omega) (show depthI t + 1 < N by omega), tree_eq s2 (by omega) (by omega) (show depthE u + 1 < N by omega)]

/-! ### Split -/
theorem idsplit : ∀ {N : Nat} {i : Bool} {t : Idt}, depthI t + 1 < N → nfI i t → ∃ a v b w, id_ID_split N i t = some (a, v, b, w) ∧ kinfolkref01_Split N (fromI i t) = some (fromI a v, fromI b w) ∧ nfI a v ∧ nfI b w ∧ depthI v ≤ depthI t + 1 ∧ depthI w ≤ depthI t + 1 ∧
    ∀ d, depthI t + 1 ≤ d → disjL (bits d a v) (bits d b w) = true ∧ orL (bits d a v) (bits d b w) = bits d i t
  | 0, i, t, hN, h => by omega
  | N + 1, i, t, hN, h => by
    unfold id_ID_split id_ID_split_b kinfolkref01_Split kinfolkref01_Split_b
    have z0 : nfI false T_id_halves.nil := trivial
    have z1 : nfI true T_id_halves.nil := trivial
    simp only [idLeft, idRight, idZero, id_ID_IsOne, id_Zero, Option.bind_some, kinfolkref01_Zero, kinfolkref01_One]
    cases t with
    | nil =>
      cases i with
      | false =>
        refine ⟨false, .nil, false, .nil, rfl, rfl, z0, z0, by omega, by omega, fun d hd => ?_⟩
        rw [bits_nil]
        exact ⟨disjL_false, orL_false (by simp)⟩
      | true =>
        have e1 := idpair z1 z0
        have e2 := idpair z0 z1
        have e3 := rpair z1 z0
        have e4 := rpair z0 z1
        refine ⟨false, .mk true .nil false .nil, false, .mk false .nil true .nil, ?_, ?_, by simp [nfI], by simp [nfI], by simp [depthI], by simp [depthI], fun d hd => ?_⟩
        · simp only [zeroI, Bool.not_true, cond_false, cond_true, e1, e2, Option.bind_some]
          rfl
        · simp only [fromI]
          rw [df (show ¬ (1 : Int) = 0 by decide), cond_false]
          simp only [decide_true, cond_true]
          rfl
        · cases d with
          | zero => omega
          | succ d =>
            simp only [bits]
            rw [disjL_app (by simp only [bits_len]), orL_app (by simp only [bits_len]), bits_nil, bits_nil, disjL_comm, disjL_false, orL_comm, orL_false (by simp)]
            exact ⟨rfl, rfl⟩
    | mk a v b w =>
      obtain ⟨rfl, n1, n2, n3⟩ := nfI_mk h
      simp only [depthI] at hN
      have kind : ∀ {c : Bool} {x : Idt}, decide (kindI c x = 0) = zeroI c x := by
        intro c x; cases c <;> cases x <;> rfl
      have e2 : decide ((2 : Int) = 0) = false := rfl
      have e3 : decide ((2 : Int) = 1) = false := rfl
      obtain ⟨x1, y1, f1⟩ := fromI_kind a v
      obtain ⟨x2, y2, f2⟩ := fromI_kind b w
      have zf : T_kinfolkref01_ID.mk 0 .nil .nil = fromI false .nil := rfl
      simp only [zeroI_mk, cond_false, leftI, rightI, fromI, e2, e3]
      cases hz : zeroI a v with
      | true =>
        obtain ⟨rfl, rfl⟩ := zeroI_iff.1 hz
        obtain ⟨a1, v1, b1, w1, s1, s2, s3, s4, s5, s6, s7⟩ := idsplit (N := N) (by omega) n2
        simp only [cond_true, s1, Option.bind_some, idpair n1 s3, idpair n1 s4]
        refine ⟨_, _, _, _, rfl, ?_, pair_nf n1 s3, pair_nf n1 s4, ?_, ?_, fun d hd => ?_⟩
        · simp only [fromI]
          simp only [decide_true, cond_true, s2, Option.bind_some]
          rw [zf, rpair n1 s3, Option.bind_some, rpair n1 s4, Option.bind_some]
        · have := pair_depth false a1 .nil v1
          simp only [depthI] at this ⊢; omega
        · have := pair_depth false b1 .nil w1
          simp only [depthI] at this ⊢; omega
        · cases d with
          | zero => omega
          | succ d =>
            simp only [depthI] at hd
            obtain ⟨q1, q2⟩ := s7 d (by omega)
            rw [bits_pair, bits_pair, disjL_app (by simp only [bits_len]), orL_app (by simp only [bits_len]), q1, q2, bits_nil, disjL_false, orL_false (by simp)]
            exact ⟨rfl, by simp only [bits, bits_nil]⟩
      | false =>
        simp only [cond_false]
        cases hz2 : zeroI b w with
        | true =>
          obtain ⟨rfl, rfl⟩ := zeroI_iff.1 hz2
          obtain ⟨a1, v1, b1, w1, s1, s2, s3, s4, s5, s6, s7⟩ := idsplit (N := N) (by omega) n1
          simp only [cond_true, s1, Option.bind_some, idpair s3 n2, idpair s4 n2]
          refine ⟨_, _, _, _, rfl, ?_, pair_nf s3 n2, pair_nf s4 n2, ?_, ?_, fun d hd => ?_⟩
          · have hk : decide (kindI a v = 0) = false := by rw [kind, hz]
            rw [f1] at s2 ⊢
            simp only [hk, cond_false, fromI]
            simp only [decide_true, cond_true, s2, Option.bind_some]
            rw [zf, rpair s3 n2, Option.bind_some, rpair s4 n2, Option.bind_some]
          · have := pair_depth a1 false v1 .nil
            simp only [depthI] at this ⊢; omega
          · have := pair_depth b1 false w1 .nil
            simp only [depthI] at this ⊢; omega
          · cases d with
            | zero => omega
            | succ d =>
              simp only [depthI] at hd
              obtain ⟨q1, q2⟩ := s7 d (by omega)
              rw [bits_pair, bits_pair, disjL_app (by simp only [bits_len]), orL_app (by simp only [bits_len]), q1, q2, bits_nil, disjL_false, orL_false (by simp)]
              exact ⟨rfl, by simp only [bits, bits_nil]⟩
        | false =>
          simp only [cond_false, idpair n1 z0, idpair z0 n2, Option.bind_some]
          refine ⟨_, _, _, _, rfl, ?_, pair_nf n1 z0, pair_nf z0 n2, ?_, ?_, fun d hd => ?_⟩
          · have hk : decide (kindI a v = 0) = false := by rw [kind, hz]
            have hk2 : decide (kindI b w = 0) = false := by rw [kind, hz2]
            have r1 := rpair n1 z0
            have r2 := rpair z0 n2
            rw [f1] at r1 ⊢
            rw [f2] at r2 ⊢
            rw [← zf] at r1 r2
            simp only [hk, hk2, cond_false, r1, r2, Option.bind_some]
          · have := pair_depth a false v .nil
            simp only [depthI] at this ⊢; omega
          · have := pair_depth false b .nil w
            simp only [depthI] at this ⊢; omega
          · cases d with
            | zero => omega
            | succ d =>
              rw [bits_pair, bits_pair, disjL_app (by simp only [bits_len]), orL_app (by simp only [bits_len]), bits_nil, disjL_comm, disjL_false, disjL_false, orL_comm, orL_false (bits_len _ _ _), orL_false (bits_len _ _ _)]
              exact ⟨rfl, rfl⟩
theorem idSplit {N : Nat} {i : Bool} {t : Idt} (hN : depthI t + 1 < N) (h : nfI i t) (hd : depthI t < 16) : ∃ a v b w, id_ID_Split N i t = some (a, v, b, w, 0) ∧ kinfolkref01_Split N (fromI i t) = some (fromI a v, fromI b w) ∧ nfI a v ∧ nfI b w ∧ depthI v ≤ depthI t + 1 ∧ depthI w ≤ depthI t + 1 ∧
    ∀ d, depthI t + 1 ≤ d → disjL (bits d a v) (bits d b w) = true ∧ orL (bits d a v) (bits d b w) = bits d i t := by
  obtain ⟨a, v, b, w, s1, s2, s3, s4, s5, s6, s7⟩ := idsplit hN h
  refine ⟨a, v, b, w, ?_, s2, s3, s4, s5, s6, s7⟩
  unfold id_ID_Split
  rw [s1]
  simp only [Option.bind_some, idDepth (N := N) (i := a) (t := v) (by omega) (by omega), idDepth (N := N) (i := b) (t := w) (by omega) (by omega)]
  rw [df (show ¬ (16 : Int) < (if (depthI v : Int) < (depthI w : Int) then (depthI w : Int) else (depthI v : Int)) by split <;> omega), cond_false]

/-! ### Texts -/
def textI : Bool → Idt → List UInt8
  | true, _ => [49]
  | false, .nil => [48]
  | false, .mk a t b u => [40] ++ textI a t ++ [44] ++ textI b u ++ [41]
theorem textI_len : ∀ {t : Idt} {i : Bool}, (textI i t).length + 3 ≤ 4 * 2 ^ depthI t
  | .nil, i => by cases i <;> simp [textI, depthI]
  | .mk a t b u, i => by
    have r1 := textI_len (t := t) (i := a)
    have r2 := textI_len (t := u) (i := b)
    have p1 : 2 ^ depthI t ≤ 2 ^ max (depthI t) (depthI u) := Nat.pow_le_pow_right (by decide) (by omega)
    have p2 : 2 ^ depthI u ≤ 2 ^ max (depthI t) (depthI u) := Nat.pow_le_pow_right (by decide) (by omega)
    have p3 := Nat.two_pow_pos (max (depthI t) (depthI u))
    cases i with
    | true => simp only [textI, depthI, Nat.pow_succ, List.length_singleton]; omega
    | false => simp only [textI, depthI, Nat.pow_succ, List.length_append, List.length_singleton]; omega
theorem s49 : (⟨#[49]⟩ : ByteArray) = mkS [49] := rfl
theorem s59 : (⟨#[59]⟩ : ByteArray) = mkS [59] := rfl
theorem idText : ∀ {N : Nat} {i : Bool} {t : Idt}, depthI t < N → nfI i t → depthI t ≤ 30 → id_ID_Text N i t = some (mkS (textI i t))
  | 0, i, t, hN, h, hd => by omega
  | N + 1, i, t, hN, h, hd => by
    unfold id_ID_Text id_ID_Text_b
    simp only [idZero, id_ID_IsOne, Option.bind_some]
    cases t with
    | nil => cases i <;> rfl
    | mk a t b u =>
      obtain ⟨rfl, n1, n2, n3⟩ := nfI_mk h
      simp only [depthI] at hN hd
      have l1 := textI_len (t := t) (i := a)
      have l2 := textI_len (t := u) (i := b)
      have p1 : 2 ^ depthI t ≤ 2 ^ 30 := Nat.pow_le_pow_right (by decide) (by omega)
      have p2 : 2 ^ depthI u ≤ 2 ^ 30 := Nat.pow_le_pow_right (by decide) (by omega)
      have r1 := idText (N := N) (by omega) n1 (by omega)
      have r2 := idText (N := N) (by omega) n2 (by omega)
      simp only [zeroI, cond_false, Option.bind_some, s40, s41, s44, mkS_app, mkS_size, List.length_append, List.length_singleton, r1, r2]
      rw [dt (by omega), cond_true, dt (by omega), cond_true, dt (by omega), cond_true, dt (by omega), cond_true]
      simp only [textI]
theorem rIText : ∀ {N : Nat} {i : Bool} {t : Idt}, depthI t < N → nfI i t → depthI t ≤ 30 → kinfolkref01_Text N (fromI i t) = some (mkS (textI i t))
  | 0, i, t, hN, h, hd => by omega
  | N + 1, i, t, hN, h, hd => by
    unfold kinfolkref01_Text kinfolkref01_Text_b
    cases t with
    | nil => cases i <;> rfl
    | mk a t b u =>
      obtain ⟨rfl, n1, n2, n3⟩ := nfI_mk h
      simp only [depthI] at hN hd
      have l1 := textI_len (t := t) (i := a)
      have l2 := textI_len (t := u) (i := b)
      have p1 : 2 ^ depthI t ≤ 2 ^ 30 := Nat.pow_le_pow_right (by decide) (by omega)
      have p2 : 2 ^ depthI u ≤ 2 ^ 30 := Nat.pow_le_pow_right (by decide) (by omega)
      have r1 := rIText (N := N) (by omega) n1 (by omega)
      have r2 := rIText (N := N) (by omega) n2 (by omega)
      have e2 : decide ((2 : Int) = 0) = false := rfl
      have e3 : decide ((2 : Int) = 1) = false := rfl
      simp only [fromI, e2, e3, cond_false, Option.bind_some, s40, s41, s44, mkS_app, mkS_size, List.length_append, List.length_singleton, r1, r2]
      rw [dt (by omega), cond_true, dt (by omega), cond_true, dt (by omega), cond_true, dt (by omega), cond_true]
      simp only [textI]
def textS (i : Bool) (t : Idt) (e : Int) (u : Tr) : List UInt8 := [40] ++ textI i t ++ [59] ++ textE e u ++ [41]
theorem sText {N : Nat} {i : Bool} {t : Idt} {e : Int} {u : Tr} (hN : 60 ≤ N) (h1 : nfI i t) (h2 : nf e u) (d1 : depthI t ≤ 17) (d2 : depthE u ≤ 17) (hm : maxE e u ≤ 1099511627776) : stamp_Stamp_Text N i t e u = some (mkS (textS i t e u)) := by
  have l1 := textI_len (t := t) (i := i)
  have l2 := text_len h2 hm
  have p1 : 2 ^ depthI t ≤ 2 ^ 17 := Nat.pow_le_pow_right (by decide) d1
  have p2 : 2 ^ depthE u ≤ 2 ^ 17 := Nat.pow_le_pow_right (by decide) d2
  unfold stamp_Stamp_Text
  simp only [idText (N := N) (by omega) h1 (by omega), evText (N := N) (by omega) h2 hm (by omega), Option.bind_some, s40, s41, s59, mkS_app, mkS_size, List.length_append, List.length_singleton]
  rw [dt (by omega), cond_true, dt (by omega), cond_true, dt (by omega), cond_true, dt (by omega), cond_true]
  rfl
theorem rSText {N : Nat} {i : Bool} {t : Idt} {e : Int} {u : Tr} (hN : 60 ≤ N) (h1 : nfI i t) (h2 : nf e u) (d1 : depthI t ≤ 17) (d2 : depthE u ≤ 17) (hm : maxE e u ≤ 1099511627776) : kinfolkref04_Text N (fromI i t) (fromEv e u) = some (mkS (textS i t e u)) := by
  have l1 := textI_len (t := t) (i := i)
  have l2 := text_len h2 hm
  have p1 : 2 ^ depthI t ≤ 2 ^ 17 := Nat.pow_le_pow_right (by decide) d1
  have p2 : 2 ^ depthE u ≤ 2 ^ 17 := Nat.pow_le_pow_right (by decide) d2
  unfold kinfolkref04_Text
  simp only [rIText (N := N) (by omega) h1 (by omega), rText (N := N) (by omega) h2 hm (by omega), Option.bind_some, s40, s41, s59, mkS_app, mkS_size, List.length_append, List.length_singleton]
  rw [dt (by omega), cond_true, dt (by omega), cond_true, dt (by omega), cond_true, dt (by omega), cond_true]
  rfl
theorem like_eq {N : Nat} {i : Bool} {t : Idt} {e : Int} {u : Tr} (hN : 60 ≤ N) (h1 : nfI i t) (h2 : nf e u) (d1 : depthI t ≤ 17) (d2 : depthE u ≤ 17) (hm : maxE e u ≤ 1099511627776) : kinfolklaw04_like N i t e u (fromI i t) (fromEv e u) = some true := by
  unfold kinfolklaw04_like
  rw [sText hN h1 h2 d1 d2 hm, rSText hN h1 h2 d1 d2 hm]
  simp only [Option.bind_some, decide_true]
end Go.Proofs.YtjjakdmcnkldoaaDoor
