/- Shares: their form, their bits part by part; split, summed; their texts. Plain. -/
import Derived.Test.YtjjakdmcnkldoaaDoorCT4
set_option linter.unusedVariables false
set_option linter.unusedSimpArgs false
namespace Go.Proofs.YtjjakdmcnkldoaaDoor
open Go.Ev Go.Lib

abbrev Idt := T_id_halves
instance decNilI (t : Idt) : Decidable (t = T_id_halves.nil) := match t with
  | .nil => isTrue rfl
  | .mk .. => isFalse (fun h => by cases h)
def zeroI (i : Bool) : Idt → Bool
  | .nil => !i
  | .mk .. => false
def depthI : Idt → Nat
  | .nil => 0
  | .mk _ t _ u => max (depthI t) (depthI u) + 1
def nfI : Bool → Idt → Prop
  | true, .nil => True
  | true, .mk .. => False
  | false, .nil => True
  | false, .mk b l b2 r => nfI b l ∧ nfI b2 r ∧ ¬ (l = .nil ∧ r = .nil ∧ b = b2)
theorem nfI_nil (i : Bool) : nfI i .nil := by cases i <;> trivial
theorem nfI_mk {i b c : Bool} {l r : Idt} (h : nfI i (.mk b l c r)) : i = false ∧ nfI b l ∧ nfI c r ∧ ¬ (l = .nil ∧ r = .nil ∧ b = c) := by
  cases i with
  | true => exact h.elim
  | false => exact ⟨rfl, h⟩
def bits : Nat → Bool → Idt → List Bool
  | 0, i, _ => [i]
  | d + 1, i, .nil => bits d i .nil ++ bits d i .nil
  | d + 1, i, .mk a t b u => bits d a t ++ bits d b u
theorem bits_len : ∀ (d : Nat) (i : Bool) (t : Idt), (bits d i t).length = 2 ^ d
  | 0, i, t => rfl
  | d + 1, i, .nil => by simp only [bits, List.length_append, bits_len d]; omega
  | d + 1, i, .mk a t b u => by simp only [bits, List.length_append, bits_len d]; omega
theorem appB {a b c d : List Bool} (hl : a.length = c.length) (h : a ++ b = c ++ d) : a = c ∧ b = d := List.append_inj h hl
theorem bits_inj : ∀ {d : Nat} {i j : Bool} {t u : Idt}, nfI i t → nfI j u → depthI t ≤ d → depthI u ≤ d → bits d i t = bits d j u → i = j ∧ t = u
  | 0, i, j, t, u, h1, h2, d1, d2, h => by
    cases t with
    | mk => simp [depthI] at d1
    | nil =>
      cases u with
      | mk => simp [depthI] at d2
      | nil => simp only [bits, List.cons.injEq] at h; exact ⟨h.1, rfl⟩
  | d + 1, i, j, .nil, .nil, h1, h2, d1, d2, h => by
    simp only [bits] at h
    obtain ⟨h3, h4⟩ := appB (by simp only [bits_len]) h
    exact bits_inj (d := d) h1 h2 (by simp [depthI]) (by simp [depthI]) h3
  | d + 1, i, j, .nil, .mk a v b w, h1, h2, d1, d2, h => by
    obtain ⟨rfl, n1, n2, n3⟩ := nfI_mk h2
    simp only [bits] at h
    simp only [depthI] at d2
    obtain ⟨h3, h4⟩ := appB (by simp only [bits_len]) h
    obtain ⟨g1, g2⟩ := bits_inj (d := d) h1 n1 (by simp [depthI]) (by omega) h3
    obtain ⟨g3, g4⟩ := bits_inj (d := d) h1 n2 (by simp [depthI]) (by omega) h4
    exact absurd ⟨g2.symm, g4.symm, g1.symm.trans g3⟩ n3
  | d + 1, i, j, .mk a v b w, .nil, h1, h2, d1, d2, h => by
    obtain ⟨rfl, n1, n2, n3⟩ := nfI_mk h1
    simp only [bits] at h
    simp only [depthI] at d1
    obtain ⟨h3, h4⟩ := appB (by simp only [bits_len]) h
    obtain ⟨g1, g2⟩ := bits_inj (d := d) n1 h2 (by omega) (by simp [depthI]) h3
    obtain ⟨g3, g4⟩ := bits_inj (d := d) n2 h2 (by omega) (by simp [depthI]) h4
    exact absurd ⟨g2, g4, g1.trans g3.symm⟩ n3
  | d + 1, i, j, .mk a v b w, .mk a' v' b' w', h1, h2, d1, d2, h => by
    obtain ⟨rfl, n1, n2, n3⟩ := nfI_mk h1
    obtain ⟨rfl, m1, m2, m3⟩ := nfI_mk h2
    simp only [bits] at h
    simp only [depthI] at d1 d2
    obtain ⟨h3, h4⟩ := appB (by simp only [bits_len]) h
    obtain ⟨rfl, rfl⟩ := bits_inj (d := d) n1 m1 (by omega) (by omega) h3
    obtain ⟨rfl, rfl⟩ := bits_inj (d := d) n2 m2 (by omega) (by omega) h4
    exact ⟨rfl, rfl⟩
def pairF (i : Bool) (t : Idt) (j : Bool) (u : Idt) : Bool × Idt := if t = .nil ∧ u = .nil ∧ i = j then (i, .nil) else (false, .mk i t j u)
theorem bits_pair (d : Nat) (i j : Bool) (t u : Idt) : bits (d + 1) (pairF i t j u).1 (pairF i t j u).2 = bits d i t ++ bits d j u := by
  unfold pairF
  split
  · rename_i h
    obtain ⟨rfl, rfl, rfl⟩ := h
    rfl
  · rfl
theorem pair_nf {i j : Bool} {t u : Idt} (h1 : nfI i t) (h2 : nfI j u) : nfI (pairF i t j u).1 (pairF i t j u).2 := by
  unfold pairF
  split
  · exact nfI_nil i
  · rename_i h; exact ⟨h1, h2, h⟩
theorem pair_depth (i j : Bool) (t u : Idt) : depthI (pairF i t j u).2 ≤ max (depthI t) (depthI u) + 1 := by
  unfold pairF
  split
  · simp [depthI]
  · exact Nat.le_refl _
theorem idZero {i : Bool} {t : Idt} : id_ID_IsZero i t = some (zeroI i t) := by cases i <;> cases t <;> rfl
theorem idpair {i j : Bool} {t u : Idt} (h1 : nfI i t) (h2 : nfI j u) : id_pair i t j u = some (pairF i t j u) := by
  unfold id_pair pairF
  simp only [idZero, id_ID_IsOne, id_Zero, id_One, Option.bind_some]
  cases t with
  | nil =>
    cases u with
    | nil => cases i <;> cases j <;> rfl
    | mk => obtain ⟨rfl, -⟩ := nfI_mk h2; cases i <;> simp [zeroI]
  | mk => obtain ⟨rfl, -⟩ := nfI_mk h1; simp [zeroI]
theorem idDepth : ∀ {N : Nat} {i : Bool} {t : Idt}, depthI t < N → depthI t ≤ 100000 → id_ID_Depth N i t = some (depthI t : Int)
  | 0, i, t, hN, h => by omega
  | N + 1, i, t, hN, h => by
    unfold id_ID_Depth id_ID_Depth_b
    cases t with
    | nil => rfl
    | mk b l b2 r =>
      simp only [depthI] at hN h
      simp only [idDepth (N := N) (i := b) (t := l) (by omega) (by omega), idDepth (N := N) (i := b2) (t := r) (by omega) (by omega), Option.bind_some]
      have e : (if (depthI l : Int) < (depthI r : Int) then (depthI r : Int) else (depthI l : Int)) = ((max (depthI l) (depthI r) : Nat) : Int) := by split <;> omega
      rw [e, iadd64 (by omega) (by omega)]
      simp only [depthI]
      congr 1
      omega
def leftI (i : Bool) : Idt → Bool × Idt
  | .nil => (i, .nil)
  | .mk a t _ _ => (a, t)
def rightI (i : Bool) : Idt → Bool × Idt
  | .nil => (i, .nil)
  | .mk _ _ b u => (b, u)
theorem idLeft {i : Bool} {t : Idt} : id_ID_Left i t = some (leftI i t) := by cases t <;> rfl
theorem idRight {i : Bool} {t : Idt} : id_ID_Right i t = some (rightI i t) := by cases t <;> rfl
theorem bits_lr (d : Nat) (i : Bool) (t : Idt) : bits (d + 1) i t = bits d (leftI i t).1 (leftI i t).2 ++ bits d (rightI i t).1 (rightI i t).2 := by cases t <;> rfl
theorem leftI_nf {i : Bool} {t : Idt} (h : nfI i t) : nfI (leftI i t).1 (leftI i t).2 := by
  cases t with
  | nil => exact h
  | mk a t b u => exact (nfI_mk h).2.1
theorem rightI_nf {i : Bool} {t : Idt} (h : nfI i t) : nfI (rightI i t).1 (rightI i t).2 := by
  cases t with
  | nil => exact h
  | mk a t b u => exact (nfI_mk h).2.2.1
theorem leftI_depth {i : Bool} {t : Idt} {d : Nat} (h : depthI t ≤ d + 1) : depthI (leftI i t).2 ≤ d := by
  cases t <;> simp only [depthI, leftI] at h ⊢ <;> omega
theorem rightI_depth {i : Bool} {t : Idt} {d : Nat} (h : depthI t ≤ d + 1) : depthI (rightI i t).2 ≤ d := by
  cases t <;> simp only [depthI, rightI] at h ⊢ <;> omega
/-- Nothing. -/
theorem zeroI_iff {i : Bool} {t : Idt} : zeroI i t = true ↔ i = false ∧ t = .nil := by
  cases t <;> cases i <;> simp [zeroI]
theorem zeroI_mk {i a b : Bool} {t u : Idt} : zeroI i (.mk a t b u) = false := rfl
theorem bits_nil : ∀ (d : Nat) (i : Bool), bits d i .nil = List.replicate (2 ^ d) i
  | 0, i => rfl
  | d + 1, i => by
    simp only [bits, bits_nil d]
    rw [List.replicate_append_replicate]
    congr 1
    rw [Nat.pow_succ]; omega
theorem not_zero {d : Nat} {i : Bool} {t : Idt} (h : nfI i t) (hd : depthI t ≤ d) (hz : zeroI i t = false) : true ∈ bits d i t := by
  rcases Bool.eq_false_or_eq_true (decide (true ∈ bits d i t)) with hm | hm
  · exact of_decide_eq_true hm
  · exfalso
    have hm' := of_decide_eq_false hm
    have hall : bits d i t = List.replicate (2 ^ d) false := by
      rw [List.eq_replicate_iff]
      refine ⟨bits_len d i t, fun b hb => ?_⟩
      cases b with
      | true => exact absurd hb hm'
      | false => rfl
    rw [← bits_nil d false] at hall
    obtain ⟨rfl, rfl⟩ := bits_inj h (nfI_nil false) hd (by simp [depthI]) hall
    cases hz

/-! ### Apart; of both -/
def disjL : List Bool → List Bool → Bool
  | x :: l, y :: m => !(x && y) && disjL l m
  | _, _ => true
def orL : List Bool → List Bool → List Bool
  | x :: l, y :: m => (x || y) :: orL l m
  | _, _ => []
theorem disjL_app : ∀ {a c b d : List Bool}, a.length = c.length → disjL (a ++ b) (c ++ d) = (disjL a c && disjL b d)
  | [], [], b, d, h => by simp [disjL]
  | [], _ :: _, b, d, h => by cases h
  | _ :: _, [], b, d, h => by cases h
  | x :: a, y :: c, b, d, h => by simp only [List.cons_append, disjL, disjL_app (show a.length = c.length by simpa using h), Bool.and_assoc]
theorem orL_app : ∀ {a c b d : List Bool}, a.length = c.length → orL (a ++ b) (c ++ d) = orL a c ++ orL b d
  | [], [], b, d, h => rfl
  | [], _ :: _, b, d, h => by cases h
  | _ :: _, [], b, d, h => by cases h
  | x :: a, y :: c, b, d, h => by simp only [List.cons_append, orL, orL_app (show a.length = c.length by simpa using h)]
theorem orL_comm : ∀ {a b : List Bool}, orL a b = orL b a
  | [], [] => rfl
  | [], _ :: _ => rfl
  | _ :: _, [] => rfl
  | x :: a, y :: b => by simp only [orL, orL_comm (a := a) (b := b), Bool.or_comm]
theorem disjL_comm : ∀ {a b : List Bool}, disjL a b = disjL b a
  | [], [] => rfl
  | [], _ :: _ => rfl
  | _ :: _, [] => rfl
  | x :: a, y :: b => by simp only [disjL, disjL_comm (a := a) (b := b), Bool.and_comm]
theorem disjL_false : ∀ {n : Nat} {b : List Bool}, disjL (List.replicate n false) b = true
  | 0, b => by cases b <;> rfl
  | n + 1, [] => rfl
  | n + 1, y :: b => by simp only [List.replicate_succ, disjL, disjL_false]; rfl
theorem orL_false : ∀ {n : Nat} {b : List Bool}, b.length = n → orL (List.replicate n false) b = b
  | 0, b, h => by rw [List.length_eq_zero_iff.1 h]; rfl
  | n + 1, [], h => by cases h
  | n + 1, y :: b, h => by simp only [List.replicate_succ, orL, orL_false (show b.length = n by simpa using h), Bool.false_or]
theorem disjL_true : ∀ {n : Nat} {b : List Bool}, b.length = n → true ∈ b → disjL (List.replicate n true) b = false
  | 0, b, h, hb => by rw [List.length_eq_zero_iff.1 h] at hb; cases hb
  | n + 1, [], h, hb => by cases hb
  | n + 1, y :: b, h, hb => by
    simp only [List.replicate_succ, disjL]
    cases y with
    | true => rfl
    | false =>
      have := disjL_true (show b.length = n by simpa using h) (by simpa using hb)
      rw [this]; rfl
theorem disjL_self : ∀ {b : List Bool}, true ∈ b → disjL b b = false
  | x :: b, h => by
    cases x with
    | true => rfl
    | false =>
      have := disjL_self (b := b) (by simpa using h)
      simp only [disjL, this]; rfl
/-! ### The document's -/
def fromI : Bool → Idt → T_kinfolkref01_ID
  | true, _ => .mk 1 .nil .nil
  | false, .nil => .mk 0 .nil .nil
  | false, .mk b l b2 r => .mk 2 (fromI b l) (fromI b2 r)
def kindI (i : Bool) (t : Idt) : Int := if i = true then 1 else if t = .nil then 0 else 2
theorem fromI_kind (i : Bool) (t : Idt) : ∃ x y, fromI i t = .mk (kindI i t) x y := by
  cases i <;> cases t <;> exact ⟨_, _, rfl⟩
theorem pair_keep {i a b : Bool} {t u : Idt} (h : nfI i (.mk a t b u)) : pairF a t b u = (i, .mk a t b u) := by
  obtain ⟨rfl, -, -, h3⟩ := nfI_mk h
  rw [pairF, if_neg h3]
/-- What the law makes of bytes: a share, and a tree. -/
structure Made (i : Bool) (t : Idt) (e : Int) (u : Tr) : Prop where
  nfi : nfI i t
  nfe : nf e u
  di : depthI t ≤ 6
  de : depthE u ≤ 6
  mx : maxE e u ≤ 25
/-! ### Texts -/
def textI : Bool → Idt → List UInt8
  | true, _ => [49]
  | false, .nil => [48]
  | false, .mk a t b u => [40] ++ textI a t ++ [44] ++ textI b u ++ [41]
theorem textI_len : ∀ {t : Idt} {i : Bool}, (textI i t).length + 3 ≤ 4 * 2 ^ depthI t
  | .nil, i => by cases i <;> simp [textI, depthI]
  | .mk a t b u, i => by
    have r1 := textI_len (t := t) (i := a)
    have r2 := textI_len (t := u) (i := b)
    have p1 : 2 ^ depthI t ≤ 2 ^ max (depthI t) (depthI u) := Nat.pow_le_pow_right (by decide) (by omega)
    have p2 : 2 ^ depthI u ≤ 2 ^ max (depthI t) (depthI u) := Nat.pow_le_pow_right (by decide) (by omega)
    have p3 := Nat.two_pow_pos (max (depthI t) (depthI u))
    cases i with
    | true => simp only [textI, depthI, Nat.pow_succ, List.length_singleton]; omega
    | false => simp only [textI, depthI, Nat.pow_succ, List.length_append, List.length_singleton]; omega
theorem s49 : (⟨#[49]⟩ : ByteArray) = mkS [49] := rfl
theorem s59 : (⟨#[59]⟩ : ByteArray) = mkS [59] := rfl
theorem idText : ∀ {N : Nat} {i : Bool} {t : Idt}, depthI t < N → nfI i t → depthI t ≤ 30 → id_ID_Text N i t = some (mkS (textI i t))
  | 0, i, t, hN, h, hd => by omega
  | N + 1, i, t, hN, h, hd => by
    unfold id_ID_Text id_ID_Text_b
    simp only [idZero, id_ID_IsOne, Option.bind_some]
    cases t with
    | nil => cases i <;> rfl
    | mk a t b u =>
      obtain ⟨rfl, n1, n2, n3⟩ := nfI_mk h
      simp only [depthI] at hN hd
      have l1 := textI_len (t := t) (i := a)
      have l2 := textI_len (t := u) (i := b)
      have p1 : 2 ^ depthI t ≤ 2 ^ 30 := Nat.pow_le_pow_right (by decide) (by omega)
      have p2 : 2 ^ depthI u ≤ 2 ^ 30 := Nat.pow_le_pow_right (by decide) (by omega)
      have r1 := idText (N := N) (by omega) n1 (by omega)
      have r2 := idText (N := N) (by omega) n2 (by omega)
      simp only [zeroI, cond_false, Option.bind_some, s40, s41, s44, mkS_app, mkS_size, List.length_append, List.length_singleton, r1, r2]
      rw [dt (by omega), cond_true, dt (by omega), cond_true, dt (by omega), cond_true, dt (by omega), cond_true]
      simp only [textI]
theorem rIText : ∀ {N : Nat} {i : Bool} {t : Idt}, depthI t < N → nfI i t → depthI t ≤ 30 → kinfolkref01_Text N (fromI i t) = some (mkS (textI i t))
  | 0, i, t, hN, h, hd => by omega
  | N + 1, i, t, hN, h, hd => by
    unfold kinfolkref01_Text kinfolkref01_Text_b
    cases t with
    | nil => cases i <;> rfl
    | mk a t b u =>
      obtain ⟨rfl, n1, n2, n3⟩ := nfI_mk h
      simp only [depthI] at hN hd
      have l1 := textI_len (t := t) (i := a)
      have l2 := textI_len (t := u) (i := b)
      have p1 : 2 ^ depthI t ≤ 2 ^ 30 := Nat.pow_le_pow_right (by decide) (by omega)
      have p2 : 2 ^ depthI u ≤ 2 ^ 30 := Nat.pow_le_pow_right (by decide) (by omega)
      have r1 := rIText (N := N) (by omega) n1 (by omega)
      have r2 := rIText (N := N) (by omega) n2 (by omega)
      have e2 : decide ((2 : Int) = 0) = false := rfl
      have e3 : decide ((2 : Int) = 1) = false := rfl
      simp only [fromI, e2, e3, cond_false, Option.bind_some, s40, s41, s44, mkS_app, mkS_size, List.length_append, List.length_singleton, r1, r2]
      rw [dt (by omega), cond_true, dt (by omega), cond_true, dt (by omega), cond_true, dt (by omega), cond_true]
      simp only [textI]
def textS (i : Bool) (t : Idt) (e : Int) (u : Tr) : List UInt8 := [40] ++ textI i t ++ [59] ++ textE e u ++ [41]
theorem sText {N : Nat} {i : Bool} {t : Idt} {e : Int} {u : Tr} (hN : 60 ≤ N) (h1 : nfI i t) (h2 : nf e u) (d1 : depthI t ≤ 17) (d2 : depthE u ≤ 17) (hm : maxE e u ≤ 1099511627776) : stamp_Stamp_Text N i t e u = some (mkS (textS i t e u)) := by
  have l1 := textI_len (t := t) (i := i)
  have l2 := text_len h2 hm
  have p1 : 2 ^ depthI t ≤ 2 ^ 17 := Nat.pow_le_pow_right (by decide) d1
  have p2 : 2 ^ depthE u ≤ 2 ^ 17 := Nat.pow_le_pow_right (by decide) d2
  unfold stamp_Stamp_Text
  simp only [idText (N := N) (by omega) h1 (by omega), evText (N := N) (by omega) h2 hm (by omega), Option.bind_some, s40, s41, s59, mkS_app, mkS_size, List.length_append, List.length_singleton]
  rw [dt (by omega), cond_true, dt (by omega), cond_true, dt (by omega), cond_true, dt (by omega), cond_true]
  rfl
theorem rSText {N : Nat} {i : Bool} {t : Idt} {e : Int} {u : Tr} (hN : 60 ≤ N) (h1 : nfI i t) (h2 : nf e u) (d1 : depthI t ≤ 17) (d2 : depthE u ≤ 17) (hm : maxE e u ≤ 1099511627776) : kinfolkref04_Text N (fromI i t) (fromEv e u) = some (mkS (textS i t e u)) := by
  have l1 := textI_len (t := t) (i := i)
  have l2 := text_len h2 hm
  have p1 : 2 ^ depthI t ≤ 2 ^ 17 := Nat.pow_le_pow_right (by decide) d1
  have p2 : 2 ^ depthE u ≤ 2 ^ 17 := Nat.pow_le_pow_right (by decide) d2
  unfold kinfolkref04_Text
  simp only [rIText (N := N) (by omega) h1 (by omega), rText (N := N) (by omega) h2 hm (by omega), Option.bind_some, s40, s41, s59, mkS_app, mkS_size, List.length_append, List.length_singleton]
  rw [dt (by omega), cond_true, dt (by omega), cond_true, dt (by omega), cond_true, dt (by omega), cond_true]
  rfl
end Go.Proofs.YtjjakdmcnkldoaaDoor
