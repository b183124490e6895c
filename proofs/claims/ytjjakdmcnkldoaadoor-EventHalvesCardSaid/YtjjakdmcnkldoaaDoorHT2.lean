/- Trees: what the program's functions, and the document's, make of them. Plain. -/
import Derived.Test.YtjjakdmcnkldoaaDoorHA
import Derived.Test.YtjjakdmcnkldoaaDoorHT1
set_option linter.unusedVariables false
set_option linter.unusedSimpArgs false
namespace Go.Proofs.YtjjakdmcnkldoaaDoor
open Go.Ev

/-! ### The program's -/
theorem evDepth : ∀ {N : Nat} {e : Int} {t : Tr}, depthE t < N → depthE t ≤ 100000 → event_Event_Depth N e t = some (depthE t : Int)
  | 0, e, t, hN, h => by omega
  | N + 1, e, t, hN, h => by
    unfold event_Event_Depth event_Event_Depth_b
    cases t with
    | nil => rfl
    | mk b l b2 r =>
      simp only [depthE] at hN h
      simp only [evDepth (N := N) (e := b) (t := l) (by omega) (by omega), evDepth (N := N) (e := b2) (t := r) (by omega) (by omega), Option.bind_some]
      have e : (if (depthE l : Int) < (depthE r : Int) then (depthE r : Int) else (depthE l : Int)) = ((max (depthE l) (depthE r) : Nat) : Int) := by split <;> omega
      rw [e, iadd64 (by omega) (by omega)]
      simp only [depthE]
      congr 1
      omega
theorem evMax : ∀ {N : Nat} {e : Int} {t : Tr}, depthE t < N → nf e t → maxE e t ≤ 1099511627776 → event_Event_Max N e t = some (maxE e t)
  | 0, e, t, hN, h, hm => by omega
  | N + 1, e, t, hN, h, hm => by
    unfold event_Event_Max event_Event_Max_b
    cases t with
    | nil => rfl
    | mk a t b u =>
      simp only [depthE] at hN
      simp only [maxE] at hm
      obtain ⟨g0, n1, n2, g5, g6⟩ := h
      have g1 := maxE_ge n1
      have g2 := maxE_ge n2
      have g3 := n1.base
      have g4 := n2.base
      simp only [evMax (N := N) (e := a) (t := t) (by omega) n1 (by omega), evMax (N := N) (e := b) (t := u) (by omega) n2 (by omega), Option.bind_some]
      have e1 : (if maxE a t < maxE b u then maxE b u else maxE a t) = max (maxE a t) (maxE b u) := by split <;> omega
      rw [e1, iaddU (by omega) (by omega)]
      rfl
theorem evnode {n a b : Int} {t u : Tr} (hn : 0 ≤ n ∧ n ≤ 1099511627776) (ha : 0 ≤ a ∧ a ≤ 1099511627776) (hb : 0 ≤ b ∧ b ≤ 1099511627776) : event_node n a t b u = some (nodeE n a t b u) := by
  have em : (if b < a then b else a) = min a b := by split <;> omega
  have e1 : iadd .u64 n (min a b) = n + min a b := iaddU (by omega) (by omega)
  have e2 : isub .u64 a (min a b) = a - min a b := isubU (by omega) (by omega)
  have e3 : isub .u64 b (min a b) = b - min a b := isubU (by omega) (by omega)
  have e4 : iadd .u64 n a = n + a := iaddU (by omega) (by omega)
  cases t with
  | nil =>
    cases u with
    | nil =>
      by_cases h : a = b
      · rw [nodeE_leaf h]; simp only [event_node, dt h, cond_true, e4]
      · rw [nodeE_mk (fun hc => h hc.2.2)]; simp only [event_node, df h, cond_false, em, e1, e2, e3]
    | mk => rw [nodeE_mk (fun hc => by cases hc.2.1)]; simp only [event_node, em, e1, e2, e3]
  | mk => rw [nodeE_mk (fun hc => by cases hc.1)]; simp only [event_node, em, e1, e2, e3]
theorem evLeft {A : Int} {t : Tr} (hA : nf A t) (hm : maxE A t ≤ 1099511627776) : ∃ x, event_Event_Left A t = some (x, (leftE A t).2) ∧ event_Event_up x (leftE A t).2 A = some (leftE A t).1 := by
  have h0 := hA.base
  have hg := maxE_ge hA
  cases t with
  | nil => exact ⟨0, rfl, by rw [event_Event_up, iaddU (by omega) (by omega)]; simp [leftE]⟩
  | mk a v b w =>
    obtain ⟨g0, n1, n2, g5, g6⟩ := hA
    have g1 := maxE_ge n1
    have g3 := n1.base
    simp only [maxE] at hm
    exact ⟨a, rfl, by rw [event_Event_up, iaddU (by omega) (by omega)]; simp only [leftE]; congr 1; omega⟩
theorem evRight {A : Int} {t : Tr} (hA : nf A t) (hm : maxE A t ≤ 1099511627776) : ∃ x, event_Event_Right A t = some (x, (rightE A t).2) ∧ event_Event_up x (rightE A t).2 A = some (rightE A t).1 := by
  have h0 := hA.base
  have hg := maxE_ge hA
  cases t with
  | nil => exact ⟨0, rfl, by rw [event_Event_up, iaddU (by omega) (by omega)]; simp [rightE]⟩
  | mk a v b w =>
    obtain ⟨g0, n1, n2, g5, g6⟩ := hA
    have g1 := maxE_ge n2
    have g3 := n2.base
    simp only [maxE] at hm
    exact ⟨b, rfl, by rw [event_Event_up, iaddU (by omega) (by omega)]; simp only [rightE]; congr 1; omega⟩
theorem evJoin : ∀ {d N : Nat} {A B : Int} {t u : Tr}, d < N → nf A t → nf B u → depthE t ≤ d → depthE u ≤ d → maxE A t ≤ 1099511627776 → maxE B u ≤ 1099511627776 → event_Join N A t B u = some (joinF d A t B u)
  | d, 0, A, B, t, u, hN, h1, h2, d1, d2, m1, m2 => by omega
  | d, N + 1, A, B, t, u, hN, h1, h2, d1, d2, m1, m2 => by
    unfold event_Join event_Join_b
    have hA := h1.base
    have hB := h2.base
    by_cases hs : t = .nil ∧ u = .nil
    · obtain ⟨rfl, rfl⟩ := hs
      have e : (if A < B then B else A) = max A B := by split <;> omega
      simp only [e]
      cases d <;> simp [joinF]
    · cases d with
      | zero =>
        exfalso
        cases t with
        | mk => simp [depthE] at d1
        | nil => cases u with
          | mk => simp [depthE] at d2
          | nil => exact hs ⟨rfl, rfl⟩
      | succ d =>
        obtain ⟨x1, p1, p2⟩ := evLeft h1 m1
        obtain ⟨x2, p3, p4⟩ := evLeft h2 m2
        obtain ⟨x3, p5, p6⟩ := evRight h1 m1
        obtain ⟨x4, p7, p8⟩ := evRight h2 m2
        have l1 := left_max (e := A) (t := t)
        have l2 := left_max (e := B) (t := u)
        have l3 := right_max (e := A) (t := t)
        have l4 := right_max (e := B) (t := u)
        have r1 := evJoin (d := d) (N := N) (by omega) (left_nf h1) (left_nf h2) (left_depth d1) (left_depth d2) (by omega) (by omega)
        have r2 := evJoin (d := d) (N := N) (by omega) (right_nf h1) (right_nf h2) (right_depth d1) (right_depth d2) (by omega) (by omega)
        obtain ⟨j1, j2, j3, j4⟩ := join_ok (left_nf h1) (left_nf h2) (left_depth (d := d) d1) (left_depth (d := d) d2)
        obtain ⟨k1, k2, k3, k4⟩ := join_ok (right_nf h1) (right_nf h2) (right_depth (d := d) d1) (right_depth (d := d) d2)
        have j5 := maxE_ge j1
        have k5 := maxE_ge k1
        have j6 := j1.base
        have k6 := k1.base
        have hn := evnode (n := 0) (a := (joinF d (leftE A t).1 (leftE A t).2 (leftE B u).1 (leftE B u).2).1) (b := (joinF d (rightE A t).1 (rightE A t).2 (rightE B u).1 (rightE B u).2).1)
          (t := (joinF d (leftE A t).1 (leftE A t).2 (leftE B u).1 (leftE B u).2).2) (u := (joinF d (rightE A t).1 (rightE A t).2 (rightE B u).1 (rightE B u).2).2) (by omega) (by omega) (by omega)
        have hj : joinF (d + 1) A t B u = nodeE 0 (joinF d (leftE A t).1 (leftE A t).2 (leftE B u).1 (leftE B u).2).1 (joinF d (leftE A t).1 (leftE A t).2 (leftE B u).1 (leftE B u).2).2 (joinF d (rightE A t).1 (rightE A t).2 (rightE B u).1 (rightE B u).2).1 (joinF d (rightE A t).1 (rightE A t).2 (rightE B u).1 (rightE B u).2).2 := by
          rw [joinF, if_neg hs]
        cases t with
        | nil =>
          cases u with
          | nil => exact absurd ⟨rfl, rfl⟩ hs
          | mk => simp only [p1, p2, p3, p4, p5, p6, p7, p8, r1, r2, hn, Option.bind_some, hj]
        | mk => simp only [p1, p2, p3, p4, p5, p6, p7, p8, r1, r2, hn, Option.bind_some, hj]
theorem evLeq : ∀ {N : Nat} {A B : Int} {t u : Tr}, depthE t < N → nf A t → nf B u → maxE A t ≤ 1099511627776 → maxE B u ≤ 1099511627776 → event_Leq N A t B u = some (leqE A t B u)
  | 0, A, B, t, u, hN, h1, h2, h3, h4 => by omega
  | N + 1, A, B, t, u, hN, h1, h2, h3, h4 => by
    unfold event_Leq event_Leq_b event_Event_up
    have hA := h1.base
    have hB := h2.base
    have gB := maxE_ge h2
    cases t with
    | nil => simp only [leqE]
    | mk n t n2 t2 =>
      obtain ⟨-, ht, ht2, -, -⟩ := h1
      have g1 := maxE_ge ht
      have g2 := maxE_ge ht2
      have b1 := ht.base
      have b2 := ht2.base
      simp only [maxE] at h3
      simp only [depthE] at hN
      have e1 : iadd .u64 n A = A + n := by rw [iaddU (by omega) (by omega)]; omega
      have e2 : iadd .u64 n2 A = A + n2 := by rw [iaddU (by omega) (by omega)]; omega
      have o1 : nf (A + n) t := ht.up hA
      have o2 : nf (A + n2) t2 := ht2.up hA
      cases u with
      | nil =>
        simp only [maxE] at h4
        have e3 : iadd .u64 0 B = B := by rw [iaddU (by omega) (by omega)]; omega
        have r1 := evLeq (N := N) (A := A + n) (B := B) (t := t) (u := .nil) (by omega) o1 h2 (by rw [maxE_up]; omega) h4
        have r2 := evLeq (N := N) (A := A + n2) (B := B) (t := t2) (u := .nil) (by omega) o2 h2 (by rw [maxE_up]; omega) h4
        simp only [event_Event_Left, event_Event_Right, Option.bind_some, e1, e2, e3, r1, r2, leqE]
        by_cases hlt : B < A
        · rw [dt hlt, if_pos hlt]; rfl
        · rw [df hlt, if_neg hlt]
          simp only [cond_false]
          cases leqE (A + n) t B .nil <;> rfl
      | mk m u m2 u2 =>
        obtain ⟨-, hu, hu2, -, -⟩ := h2
        have g3 := maxE_ge hu
        have g4 := maxE_ge hu2
        have b3 := hu.base
        have b4 := hu2.base
        simp only [maxE] at h4
        have e3 : iadd .u64 m B = B + m := by rw [iaddU (by omega) (by omega)]; omega
        have e4 : iadd .u64 m2 B = B + m2 := by rw [iaddU (by omega) (by omega)]; omega
        have r1 := evLeq (N := N) (A := A + n) (B := B + m) (t := t) (u := u) (by omega) o1 (hu.up hB) (by rw [maxE_up]; omega) (by rw [maxE_up]; omega)
        have r2 := evLeq (N := N) (A := A + n2) (B := B + m2) (t := t2) (u := u2) (by omega) o2 (hu2.up hB) (by rw [maxE_up]; omega) (by rw [maxE_up]; omega)
        simp only [event_Event_Left, event_Event_Right, Option.bind_some, e1, e2, e3, e4, r1, r2, leqE]
        cases leqE (A + n) t (B + m) u <;> cases decide (B < A) <;> rfl
theorem evSame {N d : Nat} {e f : Int} {t u : Tr} (hN : d < N) (d1 : depthE t ≤ d) (d2 : depthE u ≤ d) (h1 : nf e t) (h2 : nf f u) (h3 : maxE e t ≤ 1099511627776) (h4 : maxE f u ≤ 1099511627776) :
    ∃ b, event_Same N e t f u = some b ∧ (b = true ↔ (e = f ∧ t = u)) := by
  unfold event_Same
  rw [evLeq (by omega) h1 h2 h3 h4, evLeq (by omega) h2 h1 h4 h3, leq_hts h1 h2 d1 d2, leq_hts h2 h1 d2 d1]
  simp only [Option.bind_some]
  cases ha : leL (hts d e t) (hts d f u) with
  | false =>
    refine ⟨false, rfl, ⟨fun h => (by cases h), ?_⟩⟩
    rintro ⟨rfl, rfl⟩
    rw [leL_refl] at ha; cases ha
  | true =>
    simp only [cond_true]
    refine ⟨_, rfl, fun hb => hts_inj h1 h2 d1 d2 (leL_anti ha hb), ?_⟩
    rintro ⟨rfl, rfl⟩
    exact leL_refl
theorem evSame_self {N d : Nat} {e : Int} {t : Tr} (hN : d < N) (d1 : depthE t ≤ d) (h1 : nf e t) (h3 : maxE e t ≤ 1099511627776) : event_Same N e t e t = some true := by
  obtain ⟨b, h, h2⟩ := evSame hN d1 d1 h1 h1 h3 h3
  rw [h, h2.2 ⟨rfl, rfl⟩]
theorem evRightOk {N : Nat} {e : Int} {t : Tr} (hN : depthE t < N) (hd : depthE t ≤ 16) (h : nf e t) (hm : maxE e t ≤ 1048576) : event_Event_right N e t = some 0 := by
  unfold event_Event_right
  rw [evDepth hN (by omega)]
  simp only [Option.bind_some, df (show ¬ (16 : Int) < (depthE t : Int) by omega), cond_false, evMax hN h (by omega), df (show ¬ (1048576 : Int) < maxE e t by omega)]
theorem evNode {N : Nat} {n a b : Int} {t u : Tr} (hN : depthE t + 1 < N) (hN2 : depthE u + 1 < N) (hd : depthE t < 16) (hd2 : depthE u < 16) (hn : 0 ≤ n) (h1 : nf a t) (h2 : nf b u) (hm : n + max (maxE a t) (maxE b u) ≤ 1048576) :
    event_Node N n a t b u = some ((nodeE n a t b u).1, (nodeE n a t b u).2, 0) := by
  have g1 := maxE_ge h1
  have g2 := maxE_ge h2
  have g3 := h1.base
  have g4 := h2.base
  unfold event_Node
  rw [if_neg (by omega), evnode (by omega) (by omega) (by omega)]
  have hd3 := node_depth n a b t u
  simp only [Option.bind_some]
  rw [evRightOk (by omega) (by omega) (node_nf hn h1 h2) (by rw [node_max]; exact hm)]
  rfl

/-! ### The document's -/
def fromEv : Int → Tr → T_kinfolkref02_Event
  | e, .nil => .mk e .nil .nil
  | e, .mk a t b u => .mk e (fromEv a t) (fromEv b u)
theorem fromEv_mk (a : Int) (t : Tr) : ∃ x y, fromEv a t = .mk a x y := by cases t <;> exact ⟨_, _, rfl⟩
theorem fromEv_base {a c : Int} {t : Tr} {x y : T_kinfolkref02_Event} (h : fromEv a t = .mk a x y) : fromEv c t = .mk c x y := by
  cases t with
  | nil => simp only [fromEv, T_kinfolkref02_Event.mk.injEq] at h ⊢; exact ⟨trivial, h.2⟩
  | mk => simp only [fromEv, T_kinfolkref02_Event.mk.injEq] at h ⊢; exact ⟨trivial, h.2⟩
theorem rMin : ∀ {N : Nat} {e : Int} {t : Tr}, depthE t < N → nf e t → maxE e t ≤ 1099511627776 → kinfolkref02_Min N (fromEv e t) = some e
  | 0, e, t, hN, h, hm => by omega
  | N + 1, e, t, hN, h, hm => by
    unfold kinfolkref02_Min kinfolkref02_Min_b
    cases t with
    | nil => rfl
    | mk a t b u =>
      simp only [depthE] at hN
      simp only [maxE] at hm
      obtain ⟨g0, n1, n2, g5, g6⟩ := h
      have g1 := maxE_ge n1
      have g2 := maxE_ge n2
      have g3 := n1.base
      have g4 := n2.base
      have r1 := rMin (N := N) (by omega) n1 (by omega)
      have r2 := rMin (N := N) (by omega) n2 (by omega)
      obtain ⟨x, y, hx⟩ := fromEv_mk a t
      rw [hx] at r1
      simp only [fromEv, hx, r1, r2, Option.bind_some]
      have e0 : iadd .u64 e 0 = e := by rw [iaddU (by omega) (by omega)]; omega
      by_cases hlt : a < b
      · rw [dt hlt, cond_true, show a = 0 by omega, e0]
      · rw [df hlt, cond_false, show b = 0 by omega, e0]
theorem rMax : ∀ {N : Nat} {e : Int} {t : Tr}, depthE t < N → nf e t → maxE e t ≤ 1099511627776 → kinfolkref02_Max N (fromEv e t) = some (maxE e t)
  | 0, e, t, hN, h, hm => by omega
  | N + 1, e, t, hN, h, hm => by
    unfold kinfolkref02_Max kinfolkref02_Max_b
    cases t with
    | nil => rfl
    | mk a t b u =>
      simp only [depthE] at hN
      simp only [maxE] at hm
      obtain ⟨g0, n1, n2, g5, g6⟩ := h
      have g1 := maxE_ge n1
      have g2 := maxE_ge n2
      have g3 := n1.base
      have g4 := n2.base
      have r1 := rMax (N := N) (by omega) n1 (by omega)
      have r2 := rMax (N := N) (by omega) n2 (by omega)
      obtain ⟨x, y, hx⟩ := fromEv_mk a t
      rw [hx] at r1
      simp only [fromEv, hx, r1, r2, Option.bind_some, maxE]
      by_cases hlt : maxE b u < maxE a t
      · rw [dt hlt, cond_true, iaddU (by omega) (by omega)]; congr 1; omega
      · rw [df hlt, cond_false, iaddU (by omega) (by omega)]; congr 1; omega
theorem rDepth : ∀ {N : Nat} {e : Int} {t : Tr}, depthE t < N → depthE t ≤ 100000 → kinfolkref02_Depth N (fromEv e t) = some (depthE t : Int)
  | 0, e, t, hN, h => by omega
  | N + 1, e, t, hN, h => by
    unfold kinfolkref02_Depth kinfolkref02_Depth_b
    cases t with
    | nil => rfl
    | mk a t b u =>
      simp only [depthE] at hN h
      have r1 := rDepth (N := N) (e := a) (t := t) (by omega) (by omega)
      have r2 := rDepth (N := N) (e := b) (t := u) (by omega) (by omega)
      obtain ⟨x, y, hx⟩ := fromEv_mk a t
      rw [hx] at r1
      simp only [fromEv, hx, r1, r2, Option.bind_some, depthE]
      by_cases hlt : (depthE u : Int) < (depthE t : Int)
      · rw [dt hlt, cond_true, iadd64 (by omega) (by omega)]; congr 1; omega
      · rw [df hlt, cond_false, iadd64 (by omega) (by omega)]; congr 1; omega
theorem rNode {N : Nat} {n a b : Int} {t u : Tr} (hN : depthE t < N) (hN2 : depthE u < N) (h1 : nf a t) (h2 : nf b u) (hn : 0 ≤ n ∧ n ≤ 1099511627776) (m1 : maxE a t ≤ 1099511627776) (m2 : maxE b u ≤ 1099511627776) :
    kinfolkref02_Node N n (fromEv a t) (fromEv b u) = some (fromEv (nodeE n a t b u).1 (nodeE n a t b u).2) := by
  have g1 := maxE_ge h1
  have g2 := maxE_ge h2
  have g3 := h1.base
  have g4 := h2.base
  have r1 := rMin hN h1 m1
  have r2 := rMin hN2 h2 m2
  have e1 : iadd .u64 n (min a b) = n + min a b := iaddU (by omega) (by omega)
  have e2 : isub .u64 a (min a b) = a - min a b := isubU (by omega) (by omega)
  have e3 : isub .u64 b (min a b) = b - min a b := isubU (by omega) (by omega)
  have e4 : iadd .u64 n a = n + a := iaddU (by omega) (by omega)
  have main : ∀ (X : Option T_kinfolkref02_Event), (¬ (t = .nil ∧ u = .nil ∧ a = b)) → (X = bif decide (b < a) then some (.mk (iadd .u64 n b) (fromEv (isub .u64 a b) t) (fromEv (isub .u64 b b) u)) else some (.mk (iadd .u64 n a) (fromEv (isub .u64 a a) t) (fromEv (isub .u64 b a) u))) →
      X = some (fromEv (nodeE n a t b u).1 (nodeE n a t b u).2) := by
    intro X hne hX
    rw [hX, nodeE_mk hne]
    by_cases hlt : b < a
    · rw [dt hlt, cond_true]
      rw [show min a b = b by omega] at *
      rw [e1, e2, e3]; rfl
    · rw [df hlt, cond_false]
      rw [show min a b = a by omega] at *
      rw [e1, e2, e3]; rfl
  unfold kinfolkref02_Node
  cases t with
  | nil =>
    cases u with
    | nil =>
      by_cases hab : a = b
      · rw [nodeE_leaf hab]; simp only [fromEv, kinfolkref02_Leaf, dt hab, cond_true, Option.bind_some, e4]
      · refine main _ (fun h => hab h.2.2) ?_
        simp only [fromEv] at r1 r2 ⊢
        simp only [df hab, cond_false, r1, r2, Option.bind_some]
    | mk c x d y =>
      refine main _ (fun h => by cases h.2.1) ?_
      obtain ⟨x1, x2, hx⟩ := fromEv_mk c x
      simp only [fromEv, hx] at r1 r2 ⊢
      simp only [r1, r2, Option.bind_some]
  | mk c x d y =>
    refine main _ (fun h => by cases h.1) ?_
    obtain ⟨x1, x2, hx⟩ := fromEv_mk c x
    cases u with
    | nil =>
      simp only [fromEv, hx] at r1 r2 ⊢
      simp only [r1, r2, Option.bind_some]
    | mk c2 v d2 w =>
      simp only [fromEv, hx] at r1 r2 ⊢
      simp only [r1, r2, Option.bind_some]
theorem rLeft {e : Int} {t : Tr} (h : nf e t) (hm : maxE e t ≤ 1099511627776) : kinfolkref02_Left (fromEv e t) = some (fromEv (leftE e t).1 (leftE e t).2) := by
  cases t with
  | nil => rfl
  | mk a t b u =>
    obtain ⟨g0, n1, n2, g5, g6⟩ := h
    have g1 := maxE_ge n1
    have g3 := n1.base
    simp only [maxE] at hm
    obtain ⟨x, y, hx⟩ := fromEv_mk a t
    have e1 : iadd .u64 a e = e + a := by rw [iaddU (by omega) (by omega)]; omega
    unfold kinfolkref02_Left kinfolkref02_Add
    simp only [fromEv, hx, Option.bind_some, e1, leftE]
    rw [fromEv_base hx]
theorem rRight {e : Int} {t : Tr} (h : nf e t) (hm : maxE e t ≤ 1099511627776) : kinfolkref02_Right (fromEv e t) = some (fromEv (rightE e t).1 (rightE e t).2) := by
  cases t with
  | nil => rfl
  | mk a t b u =>
    obtain ⟨g0, n1, n2, g5, g6⟩ := h
    have g1 := maxE_ge n2
    have g3 := n2.base
    simp only [maxE] at hm
    obtain ⟨x, y, hx⟩ := fromEv_mk a t
    obtain ⟨x2, y2, hx2⟩ := fromEv_mk b u
    have e1 : iadd .u64 b e = e + b := by rw [iaddU (by omega) (by omega)]; omega
    unfold kinfolkref02_Right kinfolkref02_Add
    simp only [fromEv, hx, hx2, Option.bind_some, e1, rightE]
    rw [fromEv_base hx2]
end Go.Proofs.YtjjakdmcnkldoaaDoor
