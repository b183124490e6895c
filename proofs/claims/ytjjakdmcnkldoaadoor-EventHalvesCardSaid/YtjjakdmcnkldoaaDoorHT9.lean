/- Heights are upon the base, half by half. Plain. -/
import Derived.Test.YtjjakdmcnkldoaaDoorHT7
set_option linter.unusedVariables false
set_option linter.unusedSimpArgs false
namespace Go.Proofs.YtjjakdmcnkldoaaDoor
open Go.Ev

theorem upH {N : Nat} {A x : Int} {t : Tr} (hN : 30 ≤ N) (hA : 0 ≤ A) (h : nf x t) (hd : depthE t ≤ 6) (hm : A + maxE x t ≤ 100) : kinfolklaw02_EventHalves_1 N x t A = some (A + x, t) := by
  have h0 := h.base
  have hg := maxE_ge h
  have hi : iadd .u64 A x = A + x := iaddU (by omega) (by omega)
  have hl : event_Leaf (A + x) = some (A + x, 0) := by
    unfold event_Leaf
    rw [df (by omega)]
    rfl
  unfold kinfolklaw02_EventHalves_1
  simp only [event_Event_Base, Option.bind_some, hi, hl]
  cases t with
  | nil => rfl
  | mk a v b w =>
    have hk : nf (A + x) (.mk a v b w) := nf.up h hA
    obtain ⟨g0, n1, n2, g5, g6⟩ := h
    simp only [depthE] at hd
    simp only [maxE] at hm
    have hn := evNode (N := N) (n := A + x) (a := a) (b := b) (t := v) (u := w) (by omega) (by omega) (by omega) (by omega) (by omega) n1 n2 (by omega)
    rw [node_keep hk] at hn
    simp only [event_Event_IsLeaf, Option.bind_some, cond_false, event_Event_Left, event_Event_Right, hn]
theorem leftH {N : Nat} {A : Int} {t : Tr} (hN : 30 ≤ N) (h : nf A t) (hd : depthE t ≤ 6) (hm : maxE A t ≤ 50) : ∃ x u, event_Event_Left A t = some (x, u) ∧ kinfolklaw02_EventHalves_1 N x u A = some (leftE A t) := by
  have h0 := h.base
  cases t with
  | nil => exact ⟨0, .nil, rfl, by simpa [leftE] using upH (A := A) (x := 0) (t := .nil) hN h0 (Int.le_refl 0) (by simp [depthE]) (by simp only [maxE] at hm ⊢; omega)⟩
  | mk a v b w =>
    obtain ⟨g0, n1, n2, g5, g6⟩ := h
    simp only [depthE] at hd
    simp only [maxE] at hm
    exact ⟨a, v, rfl, upH hN h0 n1 (by omega) (by omega)⟩
theorem rightH {N : Nat} {A : Int} {t : Tr} (hN : 30 ≤ N) (h : nf A t) (hd : depthE t ≤ 6) (hm : maxE A t ≤ 50) : ∃ x u, event_Event_Right A t = some (x, u) ∧ kinfolklaw02_EventHalves_1 N x u A = some (rightE A t) := by
  have h0 := h.base
  cases t with
  | nil => exact ⟨0, .nil, rfl, by simpa [rightE] using upH (A := A) (x := 0) (t := .nil) hN h0 (Int.le_refl 0) (by simp [depthE]) (by simp only [maxE] at hm ⊢; omega)⟩
  | mk a v b w =>
    obtain ⟨g0, n1, n2, g5, g6⟩ := h
    simp only [depthE] at hd
    simp only [maxE] at hm
    exact ⟨b, w, rfl, upH hN h0 n2 (by omega) (by omega)⟩

theorem eventHalves_true {N : Nat} {p q : List Int} (hN : 60 ≤ N) (hp : Bytes p) (hq : Bytes q) : kinfolklaw02_EventHalves N p q = some true := by
  obtain ⟨e1, t1, a1, a2⟩ := made_eq (N := N) (by omega) hp
  obtain ⟨e2, t2, b1, b2⟩ := made_eq (N := N) (by omega) hq
  have h3 := a2.depth
  have h4 := b2.depth
  have h5 := a2.max
  have h6 := b2.max
  obtain ⟨x1, u1, c1, c2⟩ := leftH (N := N) (by omega) a2.nf h3 (by omega)
  obtain ⟨x2, u2, c3, c4⟩ := rightH (N := N) (by omega) a2.nf h3 (by omega)
  obtain ⟨x3, u3, c5, c6⟩ := leftH (N := N) (by omega) b2.nf h4 (by omega)
  obtain ⟨x4, u4, c7, c8⟩ := rightH (N := N) (by omega) b2.nf h4 (by omega)
  have nl1 := left_nf a2.nf
  have nr1 := right_nf a2.nf
  have nl2 := left_nf b2.nf
  have nr2 := right_nf b2.nf
  have dl1 : depthE (leftE e1 t1).2 ≤ 5 := left_depth (by omega)
  have dr1 : depthE (rightE e1 t1).2 ≤ 5 := right_depth (by omega)
  have dl2 : depthE (leftE e2 t2).2 ≤ 5 := left_depth (by omega)
  have dr2 : depthE (rightE e2 t2).2 ≤ 5 := right_depth (by omega)
  have ml1 := left_max (e := e1) (t := t1)
  have mr1 := right_max (e := e1) (t := t1)
  have ml2 := left_max (e := e2) (t := t2)
  have mr2 := right_max (e := e2) (t := t2)
  have hh1 := hts_lr 5 e1 t1
  have hh2 := hts_lr 5 e2 t2
  have rl := rLeft a2.nf (by omega)
  have rr := rRight b2.nf (by omega)
  have lk1 := like_of hN nl1 (by omega) (by omega)
  have lk2 := like_of hN nr2 (by omega) (by omega)
  generalize hl1 : leftE e1 t1 = L1 at *
  generalize hr1 : rightE e1 t1 = R1 at *
  generalize hl2 : leftE e2 t2 = L2 at *
  generalize hr2 : rightE e2 t2 = R2 at *
  obtain ⟨el1, tl1⟩ := L1
  obtain ⟨er1, tr1⟩ := R1
  obtain ⟨el2, tl2⟩ := L2
  obtain ⟨er2, tr2⟩ := R2
  simp only at *
  obtain ⟨j1, j2, j3, j4⟩ := join_ok (d := 5) nl1 nl2 dl1 dl2
  have jl := evJoin (d := 5) (N := N) (by omega) nl1 nl2 dl1 dl2 (by omega) (by omega)
  obtain ⟨k1, k2, k3, k4⟩ := join_ok (d := 5) nr1 nr2 dr1 dr2
  have jr := evJoin (d := 5) (N := N) (by omega) nr1 nr2 dr1 dr2 (by omega) (by omega)
  generalize hz1 : joinF 5 el1 tl1 el2 tl2 = z1 at *
  generalize hz2 : joinF 5 er1 tr1 er2 tr2 = z2 at *
  obtain ⟨ej, tj⟩ := z1
  obtain ⟨ek, tk⟩ := z2
  simp only at *
  have hnode := evNode (N := N) (n := 0) (a := ej) (b := ek) (t := tj) (u := tk) (by omega) (by omega) (by omega) (by omega) (by omega) j1 k1 (by omega)
  have n1 := node_nf (Int.le_refl 0) j1 k1
  have n2 := node_depth 0 ej ek tj tk
  have n3 := hts_node 5 0 ej ek tj tk
  have n4 := node_max 0 ej ek tj tk
  obtain ⟨w1, w2, w3, w4⟩ := join_ok (d := 6) a2.nf b2.nf h3 h4
  have jw := evJoin (d := 6) (N := N) (by omega) a2.nf b2.nf h3 h4 (by omega) (by omega)
  have hsame : nodeE 0 ej tj ek tk = joinF 6 e1 t1 e2 t2 := by
    have := hts_inj (d := 6) n1 w1 (by omega) w2 (by
      rw [n3, w3, Int.zero_add, Int.zero_add, j3, k3, hh1, hh2, maxL_app (by rw [hts_len, hts_len])])
    exact Prod.ext this.1 this.2
  rw [hsame] at hnode n1 n2 n4
  generalize hz : joinF 6 e1 t1 e2 t2 = z at *
  obtain ⟨e, t⟩ := z
  simp only at *
  have s1 := evSame_self (N := N) (d := 6) (e := e) (t := t) (by omega) w2 w1 (by omega)
  have hlq : ∀ {d : Nat} {e f : Int} {t u : Tr}, d ≤ 6 → nf e t → nf f u → depthE t ≤ d → depthE u ≤ d → maxE e t ≤ 25 → maxE f u ≤ 25 → event_Leq N e t f u = some (leL (hts d e t) (hts d f u)) := by
    intro d e f t u hd n1 n2 d1 d2 m1 m2
    rw [evLeq (by omega) n1 n2 (by omega) (by omega), leq_hts n1 n2 d1 d2]
  have q1 := hlq (d := 6) (by omega) a2.nf b2.nf h3 h4 h5 h6
  have q2 := hlq (d := 5) (by omega) nl1 nl2 dl1 dl2 (by omega) (by omega)
  have q3 := hlq (d := 5) (by omega) nr1 nr2 dr1 dr2 (by omega) (by omega)
  rw [hh1, hh2, leL_app (by rw [hts_len, hts_len])] at q1
  unfold kinfolklaw02_EventHalves
  rw [awake_eq (by omega), a1, b1]
  simp only [Option.bind_some, cond_true, c1, c2, c3, c4, c5, c6, c7, c8, event_Event_Base, jl, jr, hnode, decide_true, q1, q2, q3, jw, s1, rl, rr, lk1, lk2]
  cases leL (hts 5 el1 tl1) (hts 5 el2 tl2) with
  | false => rfl
  | true =>
    cases leL (hts 5 er1 tr1) (hts 5 er2 tr2) with
    | false => rfl
    | true => rfl
end Go.Proofs.YtjjakdmcnkldoaaDoor
