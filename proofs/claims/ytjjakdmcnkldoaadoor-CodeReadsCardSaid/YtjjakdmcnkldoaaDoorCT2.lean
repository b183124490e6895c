/- Trees: what the program's functions, and the document's, make of them. Plain. -/
import Derived.Test.YtjjakdmcnkldoaaDoorCA
import Derived.Test.YtjjakdmcnkldoaaDoorCT1
set_option linter.unusedVariables false
set_option linter.unusedSimpArgs false
namespace Go.Proofs.YtjjakdmcnkldoaaDoor
open Go.Ev

/-! ### The program's -/
theorem evDepth : ∀ {N : Nat} {e : Int} {t : Tr}, depthE t < N → depthE t ≤ 100000 → event_Event_Depth N e t = some (depthE t : Int)
  | 0, e, t, hN, h => by omega
  | N + 1, e, t, hN, h => by
    unfold event_Event_Depth event_Event_Depth_b
    cases t with
    | nil => rfl
    | mk b l b2 r =>
      simp only [depthE] at hN h
      simp only [evDepth (N := N) (e := b) (t := l) (by omega) (by omega), evDepth (N := N) (e := b2) (t := r) (by omega) (by omega), Option.bind_some]
      have e : (if (depthE l : Int) < (depthE r : Int) then (depthE r : Int) else (depthE l : Int)) = ((max (depthE l) (depthE r) : Nat) : Int) := by split <;> omega
      rw [e, iadd64 (by omega) (by omega)]
      simp only [depthE]
      congr 1
      omega
theorem evMax : ∀ {N : Nat} {e : Int} {t : Tr}, depthE t < N → nf e t → maxE e t ≤ 1099511627776 → event_Event_Max N e t = some (maxE e t)
  | 0, e, t, hN, h, hm => by omega
  | N + 1, e, t, hN, h, hm => by
    unfold event_Event_Max event_Event_Max_b
    cases t with
    | nil => rfl
    | mk a t b u =>
      simp only [depthE] at hN
      simp only [maxE] at hm
      obtain ⟨g0, n1, n2, g5, g6⟩ := h
      have g1 := maxE_ge n1
      have g2 := maxE_ge n2
      have g3 := n1.base
      have g4 := n2.base
      simp only [evMax (N := N) (e := a) (t := t) (by omega) n1 (by omega), evMax (N := N) (e := b) (t := u) (by omega) n2 (by omega), Option.bind_some]
      have e1 : (if maxE a t < maxE b u then maxE b u else maxE a t) = max (maxE a t) (maxE b u) := by split <;> omega
      rw [e1, iaddU (by omega) (by omega)]
      rfl
theorem evnode {n a b : Int} {t u : Tr} (hn : 0 ≤ n ∧ n ≤ 1099511627776) (ha : 0 ≤ a ∧ a ≤ 1099511627776) (hb : 0 ≤ b ∧ b ≤ 1099511627776) : event_node n a t b u = some (nodeE n a t b u) := by
  have em : (if b < a then b else a) = min a b := by split <;> omega
  have e1 : iadd .u64 n (min a b) = n + min a b := iaddU (by omega) (by omega)
  have e2 : isub .u64 a (min a b) = a - min a b := isubU (by omega) (by omega)
  have e3 : isub .u64 b (min a b) = b - min a b := isubU (by omega) (by omega)
  have e4 : iadd .u64 n a = n + a := iaddU (by omega) (by omega)
  cases t with
  | nil =>
    cases u with
    | nil =>
      by_cases h : a = b
      · rw [nodeE_leaf h]; simp only [event_node, dt h, cond_true, e4]
      · rw [nodeE_mk (fun hc => h hc.2.2)]; simp only [event_node, df h, cond_false, em, e1, e2, e3]
    | mk => rw [nodeE_mk (fun hc => by cases hc.2.1)]; simp only [event_node, em, e1, e2, e3]
  | mk => rw [nodeE_mk (fun hc => by cases hc.1)]; simp only [event_node, em, e1, e2, e3]
theorem evRightOk {N : Nat} {e : Int} {t : Tr} (hN : depthE t < N) (hd : depthE t ≤ 16) (h : nf e t) (hm : maxE e t ≤ 1048576) : event_Event_right N e t = some 0 := by
  unfold event_Event_right
  rw [evDepth hN (by omega)]
  simp only [Option.bind_some, df (show ¬ (16 : Int) < (depthE t : Int) by omega), cond_false, evMax hN h (by omega), df (show ¬ (1048576 : Int) < maxE e t by omega)]
theorem evNode {N : Nat} {n a b : Int} {t u : Tr} (hN : depthE t + 1 < N) (hN2 : depthE u + 1 < N) (hd : depthE t < 16) (hd2 : depthE u < 16) (hn : 0 ≤ n) (h1 : nf a t) (h2 : nf b u) (hm : n + max (maxE a t) (maxE b u) ≤ 1048576) :
    event_Node N n a t b u = some ((nodeE n a t b u).1, (nodeE n a t b u).2, 0) := by
  have g1 := maxE_ge h1
  have g2 := maxE_ge h2
  have g3 := h1.base
  have g4 := h2.base
  unfold event_Node
  rw [if_neg (by omega), evnode (by omega) (by omega) (by omega)]
  have hd3 := node_depth n a b t u
  simp only [Option.bind_some]
  rw [evRightOk (by omega) (by omega) (node_nf hn h1 h2) (by rw [node_max]; exact hm)]
  rfl

/-! ### The document's -/
def fromEv : Int → Tr → T_kinfolkref02_Event
  | e, .nil => .mk e .nil .nil
  | e, .mk a t b u => .mk e (fromEv a t) (fromEv b u)
theorem fromEv_mk (a : Int) (t : Tr) : ∃ x y, fromEv a t = .mk a x y := by cases t <;> exact ⟨_, _, rfl⟩
theorem fromEv_base {a c : Int} {t : Tr} {x y : T_kinfolkref02_Event} (h : fromEv a t = .mk a x y) : fromEv c t = .mk c x y := by
  cases t with
  | nil => simp only [fromEv, T_kinfolkref02_Event.mk.injEq] at h ⊢; exact ⟨trivial, h.2⟩
  | mk => simp only [fromEv, T_kinfolkref02_Event.mk.injEq] at h ⊢; exact ⟨trivial, h.2⟩
theorem rMax : ∀ {N : Nat} {e : Int} {t : Tr}, depthE t < N → nf e t → maxE e t ≤ 1099511627776 → kinfolkref02_Max N (fromEv e t) = some (maxE e t)
  | 0, e, t, hN, h, hm => by omega
  | N + 1, e, t, hN, h, hm => by
    unfold kinfolkref02_Max kinfolkref02_Max_b
    cases t with
    | nil => rfl
    | mk a t b u =>
      simp only [depthE] at hN
      simp only [maxE] at hm
      obtain ⟨g0, n1, n2, g5, g6⟩ := h
      have g1 := maxE_ge n1
      have g2 := maxE_ge n2
      have g3 := n1.base
      have g4 := n2.base
      have r1 := rMax (N := N) (by omega) n1 (by omega)
      have r2 := rMax (N := N) (by omega) n2 (by omega)
      obtain ⟨x, y, hx⟩ := fromEv_mk a t
      rw [hx] at r1
      simp only [fromEv, hx, r1, r2, Option.bind_some, maxE]
      by_cases hlt : maxE b u < maxE a t
      · rw [dt hlt, cond_true, iaddU (by omega) (by omega)]; congr 1; omega
      · rw [df hlt, cond_false, iaddU (by omega) (by omega)]; congr 1; omega
end Go.Proofs.YtjjakdmcnkldoaaDoor
