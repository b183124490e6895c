/- Filling: what it makes, part by part; the program's, and the document's. Plain. -/
import Derived.Test.YtjjakdmcnkldoaaDoorST5
set_option linter.unusedVariables false
set_option linter.unusedSimpArgs false
namespace Go.Proofs.YtjjakdmcnkldoaaDoor
open Go.Ev Go.Lib

theorem nodeE_shift {k n a b : Int} {t u : Tr} : nodeE (k + n) a t b u = (k + (nodeE n a t b u).1, (nodeE n a t b u).2) := by
  unfold nodeE
  split
  · simp only [Int.add_assoc]
  · simp only [Int.add_assoc]
/-- A node, made again of what it is. -/
theorem nodeE_again (n a b : Int) (t u : Tr) : (nodeE n a t b u = (n + a, .nil) ∧ t = .nil ∧ u = .nil ∧ a = b) ∨ (nodeE n a t b u = (n + min a b, .mk (a - min a b) t (b - min a b) u) ∧ nodeE (n + min a b) (a - min a b) t (b - min a b) u = nodeE n a t b u) := by
  by_cases h : t = .nil ∧ u = .nil ∧ a = b
  · exact .inl ⟨by rw [nodeE, if_pos h], h⟩
  · refine .inr ⟨nodeE_mk h, ?_⟩
    rw [nodeE_mk h, nodeE_mk (fun hc => h ⟨hc.1, hc.2.1, by omega⟩)]
    rw [show min (a - min a b) (b - min a b) = 0 by omega, Int.add_zero, Int.sub_zero, Int.sub_zero]
theorem hts_nil : ∀ (d : Nat) (e : Int), hts d e .nil = List.replicate (2 ^ d) e
  | 0, e => rfl
  | d + 1, e => by
    simp only [hts, hts_nil d]
    rw [List.replicate_append_replicate]
    congr 1
    rw [Nat.pow_succ]; omega
theorem hts_top : ∀ {d : Nat} {e : Int} {t : Tr}, nf e t → ∀ x ∈ hts d e t, 0 ≤ x ∧ x ≤ maxE e t
  | 0, e, t, h, x, hx => by
    simp only [hts, List.mem_singleton] at hx
    have := maxE_ge h
    have := h.base
    omega
  | d + 1, e, t, h, x, hx => by
    rw [hts_lr] at hx
    have := left_max (e := e) (t := t)
    have := right_max (e := e) (t := t)
    rcases List.mem_append.1 hx with hx | hx
    · have := hts_top (left_nf h) x hx; omega
    · have := hts_top (right_nf h) x hx; omega
/-- Part by part: not lowered, not above M, and lifted at places that are one's own alone. -/
def upL (M : Int) : List Int → List Int → List Bool → Prop
  | x :: l, y :: m, b :: n => (x ≤ y ∧ y ≤ M ∧ (x = y ∨ b = true)) ∧ upL M l m n
  | [], [], [] => True
  | _, _, _ => False
theorem upL_app {M : Int} : ∀ {a b : List Int} {c : List Bool} {a' b' : List Int} {c' : List Bool}, upL M a b c → upL M a' b' c' → upL M (a ++ a') (b ++ b') (c ++ c')
  | [], [], [], a', b', c', h, h' => h'
  | x :: a, y :: b, z :: c, a', b', c', h, h' => ⟨h.1, upL_app h.2 h'⟩
  | [], [], _ :: _, _, _, _, h, _ => h.elim
  | [], _ :: _, _, _, _, _, h, _ => by cases h
  | _ :: _, [], _, _, _, _, h, _ => by cases h
  | _ :: _, _ :: _, [], _, _, _, h, _ => by cases h
theorem upL_refl {M : Int} : ∀ {l : List Int} {n : List Bool}, l.length = n.length → (∀ x ∈ l, x ≤ M) → upL M l l n
  | [], [], h, hm => trivial
  | [], _ :: _, h, hm => by cases h
  | _ :: _, [], h, hm => by cases h
  | x :: l, b :: n, h, hm => ⟨⟨Int.le_refl x, hm x (by simp), .inl rfl⟩, upL_refl (by simpa using h) (fun y hy => hm y (by simp [hy]))⟩
theorem upL_all {M y : Int} (hy : y ≤ M) : ∀ {k : Nat} {l : List Int}, l.length = k → (∀ x ∈ l, x ≤ y) → upL M l (List.replicate k y) (List.replicate k true)
  | 0, [], h, hm => trivial
  | 0, _ :: _, h, hm => by cases h
  | k + 1, [], h, hm => by cases h
  | k + 1, x :: l, h, hm => ⟨⟨hm x (by simp), hy, .inr rfl⟩, upL_all hy (by simpa using h) (fun x hx => hm x (by simp [hx]))⟩
theorem upL_le {M : Int} : ∀ {l m : List Int} {n : List Bool}, upL M l m n → leL l m = true
  | [], [], [], h => rfl
  | x :: l, y :: m, b :: n, h => by
    simp only [leL, Bool.and_eq_true, decide_eq_true_eq]
    exact ⟨h.1.1, upL_le h.2⟩
  | [], [], _ :: _, h => h.elim
  | [], _ :: _, _, h => by cases h
  | _ :: _, [], _, h => by cases h
  | _ :: _, _ :: _, [], h => by cases h
theorem upL_at {M : Int} : ∀ {l m : List Int} {n : List Bool}, upL M l m n → ∀ k, k < l.length → l.getD k 0 ≤ m.getD k 0 ∧ m.getD k 0 ≤ M ∧ (l.getD k 0 = m.getD k 0 ∨ n.getD k false = true)
  | [], [], [], h, k, hk => by simp at hk
  | x :: l, y :: m, b :: n, h, 0, hk => h.1
  | x :: l, y :: m, b :: n, h, k + 1, hk => upL_at h.2 k (by simpa using hk)
  | [], [], _ :: _, h, _, _ => h.elim
  | [], _ :: _, _, h, _, _ => by cases h
  | _ :: _, [], _, h, _, _ => by cases h
  | _ :: _, _ :: _, [], h, _, _ => by cases h

def fillF : Bool → Idt → Int → Tr → Int × Tr
  | i, .nil, e, u => if i = true then (maxE e u, .nil) else (e, u)
  | _, .mk a v b w, e, .nil => (e, .nil)
  | _, .mk a v b w, e, .mk n1 t1 n2 t2 =>
    if a = true then nodeE e (max (maxE n1 t1) (fillF b w n2 t2).1) .nil (fillF b w n2 t2).1 (fillF b w n2 t2).2
    else if b = true then nodeE e (fillF a v n1 t1).1 (fillF a v n1 t1).2 (max (maxE n2 t2) (fillF a v n1 t1).1) .nil
    else nodeE e (fillF a v n1 t1).1 (fillF a v n1 t1).2 (fillF b w n2 t2).1 (fillF b w n2 t2).2
theorem fill_ok : ∀ {t : Idt} {i : Bool} {e : Int} {u : Tr}, nf e u → nf (fillF i t e u).1 (fillF i t e u).2 ∧ depthE (fillF i t e u).2 ≤ depthE u ∧ maxE (fillF i t e u).1 (fillF i t e u).2 = maxE e u
  | .nil, i, e, u, h => by
    have h0 := h.base
    have h1 := maxE_ge h
    unfold fillF
    split
    · exact ⟨by simp only [nf]; omega, by simp [depthE], rfl⟩
    · exact ⟨h, Nat.le_refl _, rfl⟩
  | .mk a v b w, i, e, .nil, h => ⟨h, Nat.le_refl _, rfl⟩
  | .mk a v b w, i, e, .mk n1 t1 n2 t2, h => by
    obtain ⟨h0, h1, h2, h3, h4⟩ := h
    obtain ⟨p1, p2, p3⟩ := fill_ok (t := v) (i := a) h1
    obtain ⟨q1, q2, q3⟩ := fill_ok (t := w) (i := b) h2
    have b1 := p1.base
    have b2 := q1.base
    have c1 := maxE_ge p1
    have c2 := maxE_ge q1
    have c3 := maxE_ge h1
    have c4 := maxE_ge h2
    have b3 := h1.base
    have b4 := h2.base
    simp only [fillF]
    split
    · refine ⟨node_nf h0 (by simp only [nf]; omega) q1, ?_, ?_⟩
      · have := node_depth e (max (maxE n1 t1) (fillF b w n2 t2).1) (fillF b w n2 t2).1 .nil (fillF b w n2 t2).2
        simp only [depthE] at this ⊢; omega
      · rw [node_max]; simp only [maxE]; omega
    · split
      · refine ⟨node_nf h0 p1 (by simp only [nf]; omega), ?_, ?_⟩
        · have := node_depth e (fillF a v n1 t1).1 (max (maxE n2 t2) (fillF a v n1 t1).1) (fillF a v n1 t1).2 .nil
          simp only [depthE] at this ⊢; omega
        · rw [node_max]; simp only [maxE]; omega
      · refine ⟨node_nf h0 p1 q1, ?_, ?_⟩
        · have := node_depth e (fillF a v n1 t1).1 (fillF b w n2 t2).1 (fillF a v n1 t1).2 (fillF b w n2 t2).2
          simp only [depthE] at this ⊢; omega
        · rw [node_max]; simp only [maxE]; omega
theorem fill_shift {k e : Int} : ∀ {t : Idt} {i : Bool} {u : Tr}, fillF i t (k + e) u = (k + (fillF i t e u).1, (fillF i t e u).2)
  | .nil, i, u => by
    unfold fillF
    split
    · rw [maxE_up]
    · rfl
  | .mk a v b w, i, .nil => rfl
  | .mk a v b w, i, .mk n1 t1 n2 t2 => by
    simp only [fillF]
    split
    · rw [nodeE_shift]
    · split
      · rw [nodeE_shift]
      · rw [nodeE_shift]
theorem fill_idem : ∀ {t : Idt} {i : Bool} {e : Int} {u : Tr}, nf e u → fillF i t (fillF i t e u).1 (fillF i t e u).2 = fillF i t e u
  | .nil, i, e, u, h => by
    simp only [fillF]
    cases i <;> simp [maxE]
  | .mk a v b w, i, e, .nil, h => rfl
  | .mk a v b w, i, e, .mk n1 t1 n2 t2, h => by
    obtain ⟨h0, h1, h2, h3, h4⟩ := h
    have p4 := fill_idem (t := v) (i := a) h1
    have q4 := fill_idem (t := w) (i := b) h2
    generalize hp : fillF a v n1 t1 = p at p4
    generalize hq : fillF b w n2 t2 = q at q4
    obtain ⟨p, x⟩ := p
    obtain ⟨q, y⟩ := q
    simp only at p4 q4
    simp only [fillF, hp, hq]
    by_cases ha : a = true
    · simp only [if_pos ha]
      rcases nodeE_again e (max (maxE n1 t1) q) q .nil y with ⟨z1, z2, z3, z4⟩ | ⟨z1, z2⟩
      · rw [z1]; rfl
      · have hs := fill_shift (k := - min (max (maxE n1 t1) q) q) (e := q) (t := w) (i := b) (u := y)
        rw [q4, show -min (max (maxE n1 t1) q) q + q = q - min (max (maxE n1 t1) q) q by omega] at hs
        generalize hz : nodeE e (max (maxE n1 t1) q) .nil q y = z at *
        rw [z1]
        simp only [fillF, if_pos ha, hs, maxE]
        rw [← z1, ← z2]
        congr 1
        omega
    · simp only [if_neg ha]
      by_cases hb : b = true
      · simp only [if_pos hb]
        rcases nodeE_again e p (max (maxE n2 t2) p) x .nil with ⟨z1, z2, z3, z4⟩ | ⟨z1, z2⟩
        · rw [z1]; rfl
        · have hs := fill_shift (k := - min p (max (maxE n2 t2) p)) (e := p) (t := v) (i := a) (u := x)
          rw [p4, show -min p (max (maxE n2 t2) p) + p = p - min p (max (maxE n2 t2) p) by omega] at hs
          generalize hz : nodeE e p x (max (maxE n2 t2) p) .nil = z at *
          rw [z1]
          simp only [fillF, if_neg ha, if_pos hb, hs, maxE]
          rw [← z1, ← z2]
          congr 1
          omega
      · simp only [if_neg hb]
        rcases nodeE_again e p q x y with ⟨z1, z2, z3, z4⟩ | ⟨z1, z2⟩
        · rw [z1]; rfl
        · have hs := fill_shift (k := - min p q) (e := p) (t := v) (i := a) (u := x)
          have hs2 := fill_shift (k := - min p q) (e := q) (t := w) (i := b) (u := y)
          rw [p4, show -min p q + p = p - min p q by omega] at hs
          rw [q4, show -min p q + q = q - min p q by omega] at hs2
          generalize hz : nodeE e p x q y = z at *
          rw [z1]
          simp only [fillF, if_neg ha, if_neg hb, hs, hs2]
          rw [← z1, ← z2]
theorem fill_up {M : Int} : ∀ {d : Nat} {t : Idt} {i : Bool} {e : Int} {u : Tr}, nfI i t → nf e u → maxE e u ≤ M → upL M (hts d e u) (hts d (fillF i t e u).1 (fillF i t e u).2) (bits d i t)
  | 0, t, i, e, u, hi, h, hM => by
    obtain ⟨h1, h2, h3⟩ := fill_ok (t := t) (i := i) h
    simp only [hts, bits, h3]
    exact ⟨⟨Int.le_refl _, hM, .inl rfl⟩, trivial⟩
  | d + 1, .nil, i, e, u, hi, h, hM => by
    cases i with
    | true =>
      simp only [fillF, if_true]
      rw [hts_nil, bits_nil]
      exact upL_all hM (hts_len _ _ _) (fun x hx => (hts_top h x hx).2)
    | false => exact upL_refl (by rw [hts_len, bits_len]) (fun x hx => Int.le_trans (hts_top h x hx).2 hM)
  | d + 1, .mk a v b w, i, e, .nil, hi, h, hM => upL_refl (by rw [hts_len, bits_len]) (fun x hx => Int.le_trans (hts_top h x hx).2 hM)
  | d + 1, .mk a v b w, i, e, .mk n1 t1 n2 t2, hi, h, hM => by
    obtain ⟨rfl, i1, i2, -⟩ := nfI_mk hi
    obtain ⟨h0, h1, h2, h3, h4⟩ := h
    simp only [maxE] at hM
    obtain ⟨p1, p2, p3⟩ := fill_ok (t := v) (i := a) h1
    obtain ⟨q1, q2, q3⟩ := fill_ok (t := w) (i := b) h2
    have c1 := maxE_ge p1
    have c2 := maxE_ge q1
    have up1 := fill_up (M := M) (d := d) (t := v) (i := a) (e := e + n1) (u := t1) i1 (h1.up h0) (by rw [maxE_up]; omega)
    have up2 := fill_up (M := M) (d := d) (t := w) (i := b) (e := e + n2) (u := t2) i2 (h2.up h0) (by rw [maxE_up]; omega)
    rw [fill_shift] at up1 up2
    have one : ∀ {c : Bool} {x : Idt} {n m : Int} {s : Tr}, c = true → nfI c x → nf n s → maxE n s ≤ m → e + m ≤ M → upL M (hts d (e + n) s) (hts d (e + m) .nil) (bits d c x) := by
      rintro c x n m s rfl hx hs h1 h2
      cases x with
      | mk => exact hx.elim
      | nil =>
        rw [hts_nil, bits_nil]
        refine upL_all h2 (hts_len _ _ _) (fun y hy => ?_)
        have := (hts_top (hs.up h0) y hy).2
        rw [maxE_up] at this
        omega
    simp only [fillF]
    split
    · rename_i ha
      rw [hts_node]
      simp only [hts, bits]
      exact upL_app (one ha i1 h1 (by omega) (by omega)) up2
    · split
      · rename_i ha hb
        rw [hts_node]
        simp only [hts, bits]
        exact upL_app up1 (one hb i2 h2 (by omega) (by omega))
      · rw [hts_node]
        simp only [hts, bits]
        exact upL_app up1 up2

/-! ### The program's, and the document's -/
theorem leaf_is {n : Int} (h : n ≤ 1048576) : stamp_leaf n = some n := by
  unfold stamp_leaf event_Leaf
  rw [df (show ¬ (1048576 : Int) < n by omega)]
  rfl
theorem node_is {N : Nat} {n a b : Int} {t u : Tr} (hN : depthE t + 1 < N) (hN2 : depthE u + 1 < N) (hd : depthE t < 16) (hd2 : depthE u < 16) (hn : 0 ≤ n) (h1 : nf a t) (h2 : nf b u) (hm : n + max (maxE a t) (maxE b u) ≤ 1048576) :
    stamp_node N n a t b u = some (nodeE n a t b u) := by
  unfold stamp_node
  rw [evNode hN hN2 hd hd2 hn h1 h2 hm]
  rfl
theorem max_if {a b : Int} : (if a < b then b else a) = max a b := by split <;> omega
theorem evFill : ∀ {N : Nat} {i : Bool} {t : Idt} {e : Int} {u : Tr}, depthE u + 2 < N → nfI i t → nf e u → depthE u ≤ 16 → maxE e u ≤ 1048576 → stamp_Fill N i t e u = some (fillF i t e u)
  | 0, i, t, e, u, hN, hi, h, hd, hm => by omega
  | N + 1, i, t, e, u, hN, hi, h, hd, hm => by
    unfold stamp_Fill stamp_Fill_b
    simp only [idZero, id_ID_IsOne, Option.bind_some, idLeft, idRight, event_Event_Min, event_Event_Base]
    cases t with
    | nil =>
      cases i with
      | false => rfl
      | true =>
        cases u with
        | nil => rfl
        | mk n1 t1 n2 t2 =>
          simp only [zeroI, Bool.not_true, cond_false, event_Event_IsLeaf, Option.bind_some, cond_true, evMax (N := N) (by omega) h (by omega), leaf_is hm, fillF, if_true]
    | mk a v b w =>
      cases u with
      | nil => rfl
      | mk n1 t1 n2 t2 =>
        obtain ⟨rfl, i1, i2, -⟩ := nfI_mk hi
        obtain ⟨h0, h1, h2, h3, h4⟩ := h
        simp only [maxE] at hm
        simp only [depthE] at hN hd
        have b3 := h1.base
        have b4 := h2.base
        have r1 := evFill (N := N) (t := v) (i := a) (by omega) i1 h1 (by omega) (by omega)
        have r2 := evFill (N := N) (t := w) (i := b) (by omega) i2 h2 (by omega) (by omega)
        obtain ⟨p1, p2, p3⟩ := fill_ok (t := v) (i := a) h1
        obtain ⟨q1, q2, q3⟩ := fill_ok (t := w) (i := b) h2
        have c1 := maxE_ge p1
        have c2 := maxE_ge q1
        have c3 := maxE_ge h1
        have c4 := maxE_ge h2
        have g1 := p1.base
        have g2 := q1.base
        have m1 := evMax (N := N) (by omega) h1 (by omega)
        have m2 := evMax (N := N) (by omega) h2 (by omega)
        have l1 := leaf_is (n := max (maxE n1 t1) (fillF b w n2 t2).1) (by omega)
        have l2 := leaf_is (n := max (maxE n2 t2) (fillF a v n1 t1).1) (by omega)
        have k1 := node_is (N := N) (n := e) (a := max (maxE n1 t1) (fillF b w n2 t2).1) (t := .nil) (by simp only [depthE]; omega) (by omega) (by simp [depthE]) (by omega) h0 (by simp only [nf]; omega) q1 (by simp only [maxE]; omega)
        have k2 := node_is (N := N) (n := e) (b := max (maxE n2 t2) (fillF a v n1 t1).1) (u := .nil) (by omega) (by simp only [depthE]; omega) (by omega) (by simp [depthE]) h0 p1 (by simp only [nf]; omega) (by simp only [maxE]; omega)
        have k3 := node_is (N := N) (n := e) (by omega) (by omega) (by omega) (by omega) h0 p1 q1 (by omega)
        simp only [zeroI, cond_false, event_Event_IsLeaf, event_Event_Left, event_Event_Right, Option.bind_some, leftI, rightI, r1, r2, m1, m2, max_if, l1, l2, k1, k2, k3, fillF]
        cases a with
        | true => simp only [cond_true, if_true]
        | false => cases b <;> simp [cond_false]
theorem greater_is {a b : Int} : kinfolkref04_greater a b = some (max a b) := by
  unfold kinfolkref04_greater
  by_cases h : b < a
  · rw [dt h, cond_true]; congr 1; omega
  · rw [df h, cond_false]; congr 1; omega
theorem kind_one {a : Bool} {v : Idt} : decide (kindI a v = 1) = a := by cases a <;> cases v <;> rfl
theorem kind_zero {a : Bool} {v : Idt} : decide (kindI a v = 0) = (bif a then false else decide (v = .nil)) := by cases a <;> cases v <;> rfl
theorem rFill : ∀ {N : Nat} {i : Bool} {t : Idt} {e : Int} {u : Tr}, depthE u + 2 < N → nfI i t → nf e u → maxE e u ≤ 1048576 → kinfolkref04_Fill N (fromI i t) (fromEv e u) = some (fromEv (fillF i t e u).1 (fillF i t e u).2)
  | 0, i, t, e, u, hN, hi, h, hm => by omega
  | N + 1, i, t, e, u, hN, hi, h, hm => by
    unfold kinfolkref04_Fill kinfolkref04_Fill_b kinfolkref02_Leaf
    have hmx := rMax (N := N) (e := e) (t := u) (by omega) h (by omega)
    cases t with
    | nil =>
      cases i with
      | false => rfl
      | true =>
        cases u with
        | nil => rfl
        | mk n1 t1 n2 t2 =>
          obtain ⟨x, y, hx⟩ := fromEv_mk n1 t1
          simp only [fromEv, hx] at hmx
          have e1 : decide ((1 : Int) = 0) = false := rfl
          simp only [fromI, fromEv, hx, e1, decide_true, cond_false, cond_true, hmx, Option.bind_some, fillF, if_true]
    | mk a v b w =>
      have e2 : decide ((2 : Int) = 0) = false := rfl
      have e3 : decide ((2 : Int) = 1) = false := rfl
      obtain ⟨rfl, i1, i2, -⟩ := nfI_mk hi
      cases u with
      | nil =>
        obtain ⟨x1, y1, f1⟩ := fromI_kind a v
        simp only [fromI, fromEv, e2, cond_false, fillF]
      | mk n1 t1 n2 t2 =>
        obtain ⟨x, y, hx⟩ := fromEv_mk n1 t1
        obtain ⟨x1, y1, f1⟩ := fromI_kind a v
        obtain ⟨x2, y2, f2⟩ := fromI_kind b w
        obtain ⟨h0, h1, h2, h3, h4⟩ := h
        simp only [maxE] at hm
        simp only [depthE] at hN
        have b3 := h1.base
        have b4 := h2.base
        have r1 := rFill (N := N) (t := v) (i := a) (by omega) i1 h1 (by omega)
        have r2 := rFill (N := N) (t := w) (i := b) (by omega) i2 h2 (by omega)
        obtain ⟨p1, p2, p3⟩ := fill_ok (t := v) (i := a) h1
        obtain ⟨q1, q2, q3⟩ := fill_ok (t := w) (i := b) h2
        have c1 := maxE_ge p1
        have c2 := maxE_ge q1
        have c3 := maxE_ge h1
        have c4 := maxE_ge h2
        have g1 := p1.base
        have g2 := q1.base
        have m1 := rMax (N := N) (e := n1) (t := t1) (by omega) h1 (by omega)
        have m2 := rMax (N := N) (e := n2) (t := t2) (by omega) h2 (by omega)
        have n1' := rMin (N := N) (e := (fillF a v n1 t1).1) (t := (fillF a v n1 t1).2) (by omega) p1 (by omega)
        have n2' := rMin (N := N) (e := (fillF b w n2 t2).1) (t := (fillF b w n2 t2).2) (by omega) q1 (by omega)
        have lf : ∀ n : Int, T_kinfolkref02_Event.mk n .nil .nil = fromEv n .nil := fun n => rfl
        have k1 := rNode (N := N) (n := e) (a := max (maxE n1 t1) (fillF b w n2 t2).1) (t := .nil) (b := (fillF b w n2 t2).1) (u := (fillF b w n2 t2).2) (by simp only [depthE]; omega) (by omega) (by simp only [nf]; omega) q1 (by omega) (by simp only [maxE]; omega) (by omega)
        have k2 := rNode (N := N) (n := e) (a := (fillF a v n1 t1).1) (t := (fillF a v n1 t1).2) (b := max (maxE n2 t2) (fillF a v n1 t1).1) (u := .nil) (by omega) (by simp only [depthE]; omega) p1 (by simp only [nf]; omega) (by omega) (by omega) (by simp only [maxE]; omega)
        have k3 := rNode (N := N) (n := e) (a := (fillF a v n1 t1).1) (t := (fillF a v n1 t1).2) (b := (fillF b w n2 t2).1) (u := (fillF b w n2 t2).2) (by omega) (by omega) p1 q1 (by omega) (by omega) (by omega)
        rw [f1] at r1
        rw [f2] at r2
        rw [hx] at m1 r1
        simp only [fromI, fromEv, hx, f1, f2, e2, e3, cond_false, kind_one]
        cases a with
        | true => simp only [cond_true, r2, m1, n2', Option.bind_some, greater_is, lf, k1, fillF, if_true]
        | false =>
          cases b with
          | true => simp only [cond_true, cond_false, r1, m2, n1', Option.bind_some, greater_is, lf, k2, fillF, if_true, Bool.false_eq_true, if_false]
          | false => simp only [cond_false, r1, r2, Option.bind_some, k3, fillF, Bool.false_eq_true, if_false]
theorem rLeq : ∀ {N d : Nat} {A B : Int} {t u : Tr}, d < N → nf A t → nf B u → depthE t ≤ d → depthE u ≤ d → maxE A t ≤ 1099511627776 → maxE B u ≤ 1099511627776 → kinfolkref02_Leq N (fromEv A t) (fromEv B u) = some (leL (hts d A t) (hts d B u))
  | 0, d, A, B, t, u, hN, h1, h2, d1, d2, m1, m2 => by omega
  | N + 1, d, A, B, t, u, hN, h1, h2, d1, d2, m1, m2 => by
    unfold kinfolkref02_Leq kinfolkref02_Leq_b
    by_cases hs : t = .nil ∧ u = .nil
    · obtain ⟨rfl, rfl⟩ := hs
      simp only [fromEv]
      rw [le_base h2 d2]
    · cases d with
      | zero =>
        exfalso
        cases t with
        | mk => simp [depthE] at d1
        | nil => cases u with
          | mk => simp [depthE] at d2
          | nil => exact hs ⟨rfl, rfl⟩
      | succ d =>
        have l1 := left_max (e := A) (t := t)
        have l2 := left_max (e := B) (t := u)
        have l3 := right_max (e := A) (t := t)
        have l4 := right_max (e := B) (t := u)
        have r1 := rLeq (d := d) (N := N) (by omega) (left_nf h1) (left_nf h2) (left_depth d1) (left_depth d2) (by omega) (by omega)
        have r2 := rLeq (d := d) (N := N) (by omega) (right_nf h1) (right_nf h2) (right_depth d1) (right_depth d2) (by omega) (by omega)
        have key : ((kinfolkref02_Left (fromEv A t)).bind fun t7 => (kinfolkref02_Left (fromEv B u)).bind fun t8 => (kinfolkref02_Leq N t7 t8).bind fun b2 =>
            bif b2 then (kinfolkref02_Right (fromEv A t)).bind fun t9 => (kinfolkref02_Right (fromEv B u)).bind fun t10 => (kinfolkref02_Leq N t9 t10).bind fun b3 => some b3 else some false) = some (leL (hts (d + 1) A t) (hts (d + 1) B u)) := by
          rw [rLeft h1 m1, rLeft h2 m2, rRight h1 m1, rRight h2 m2]
          simp only [Option.bind_some, r1, r2]
          rw [hts_lr d A t, hts_lr d B u, leL_app (by simp only [hts_len])]
          cases leL (hts d (leftE A t).1 (leftE A t).2) (hts d (leftE B u).1 (leftE B u).2) <;> rfl
        cases t with
        | nil =>
          cases u with
          | nil => exact absurd ⟨rfl, rfl⟩ hs
          | mk n1 t1 n2 t2 =>
            obtain ⟨x, y, hx⟩ := fromEv_mk n1 t1
            simp only [fromEv, hx] at key ⊢
            exact key
        | mk n1 t1 n2 t2 =>
          obtain ⟨x, y, hx⟩ := fromEv_mk n1 t1
          simp only [fromEv, hx] at key ⊢
          exact key
theorem rSame {N d : Nat} {e f : Int} {t u : Tr} (hN : d < N) (d1 : depthE t ≤ d) (d2 : depthE u ≤ d) (h1 : nf e t) (h2 : nf f u) (h3 : maxE e t ≤ 1099511627776) (h4 : maxE f u ≤ 1099511627776) :
    ∃ b, kinfolkref02_Same N (fromEv e t) (fromEv f u) = some b ∧ (b = true ↔ (e = f ∧ t = u)) := by
  unfold kinfolkref02_Same
  rw [rLeq hN h1 h2 d1 d2 h3 h4, rLeq hN h2 h1 d2 d1 h4 h3]
  simp only [Option.bind_some]
  cases ha : leL (hts d e t) (hts d f u) with
  | false =>
    refine ⟨false, rfl, ⟨fun h => (by cases h), ?_⟩⟩
    rintro ⟨rfl, rfl⟩
    rw [leL_refl] at ha; cases ha
  | true =>
    simp only [cond_true]
    refine ⟨_, rfl, fun hb => hts_inj h1 h2 d1 d2 (leL_anti ha hb), ?_⟩
    rintro ⟨rfl, rfl⟩
    exact leL_refl
theorem rHas : ∀ {d N : Nat} {i : Bool} {t : Idt}, d < N → d ≤ 20 → nfI i t → kinfolkref01_Has N (fromI i t) (d : Int) = some (bits d i t)
  | d, 0, i, t, hN, hd, h => by omega
  | 0, N + 1, i, t, hN, hd, h => by
    unfold kinfolkref01_Has kinfolkref01_Has_b
    obtain ⟨x, y, f⟩ := fromI_kind i t
    rw [dt (show ((0 : Nat) : Int) = 0 from rfl), cond_true, f]
    simp only [kind_one, bits]
  | d + 1, N + 1, i, t, hN, hd, h => by
    unfold kinfolkref01_Has kinfolkref01_Has_b
    have e1 : isub .i64 ((d + 1 : Nat) : Int) 1 = (d : Int) := by rw [isub64 (by omega) (by omega)]; omega
    have r1 := rHas (d := d) (N := N) (by omega) (by omega) (leftI_nf h)
    have r2 := rHas (d := d) (N := N) (by omega) (by omega) (rightI_nf h)
    have h2 : 2 ^ d ≤ 2 ^ 20 := Nat.pow_le_pow_right (by decide) (by omega)
    have hl : kinfolkref01_Left (fromI i t) = some (fromI (leftI i t).1 (leftI i t).2) := by
      cases t with
      | nil => cases i <;> rfl
      | mk => obtain ⟨rfl, -⟩ := nfI_mk h; rfl
    have hr : kinfolkref01_Right (fromI i t) = some (fromI (rightI i t).1 (rightI i t).2) := by
      cases t with
      | nil => cases i <;> rfl
      | mk => obtain ⟨rfl, -⟩ := nfI_mk h; rfl
    simp only [df (show ¬ ((d + 1 : Nat) : Int) = 0 by omega), cond_false, hl, hr, e1, r1, r2, Option.bind_some, List.take_length]
    rw [fits_ok (by rw [List.length_append, bits_len, bits_len]; omega), cond_true, ← bits_lr]
end Go.Proofs.YtjjakdmcnkldoaaDoor
