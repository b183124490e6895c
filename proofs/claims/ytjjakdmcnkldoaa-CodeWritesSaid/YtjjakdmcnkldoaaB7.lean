/- The law's stamps, of bytes: trees. Plain. -/
import Derived.Test.YtjjakdmcnkldoaaB6
set_option linter.unusedVariables false
set_option linter.unusedSimpArgs false
namespace Go.Proofs.Ytjjakdmcnkldoaa
open Go.Ev

def fromEv : Int → T_event_halves → T_kinfolkref02_Event
  | e, .nil => .mk e .nil .nil
  | e, .mk a t b u => .mk e (fromEv a t) (fromEv b u)
theorem rmin_eq : ∀ {N : Nat} {e : Int} {t : T_event_halves}, depthE t < N → 0 ≤ e → e < 18446744073709551616 → okE e t → nfE t → kinfolkref02_Min N (fromEv e t) = some e
  | 0, e, t, hN, h0, h1, ho, hn => by omega
  | N + 1, e, t, hN, h0, h1, ho, hn => by
    unfold kinfolkref02_Min kinfolkref02_Min_b
    cases t with
    | nil => rfl
    | mk a t b u =>
      simp only [depthE] at hN
      obtain ⟨z1, z2, z3, z4, z5, z6⟩ := hn
      have r1 := rmin_eq (N := N) (e := a) (t := t) (by omega) z1 ho.2.1.base.2 ho.2.1 z3
      have r2 := rmin_eq (N := N) (e := b) (t := u) (by omega) z2 ho.2.2.base.2 ho.2.2 z4
      have e0 : iadd .u64 e 0 = e := by rw [iaddU (by omega) (by omega)]; omega
      have key : (bif decide (a < b) then some (iadd .u64 e a) else some (iadd .u64 e b)) = some e := by
        by_cases h : a < b
        · rw [dt h, cond_true, show a = 0 by omega, e0]
        · rw [df h, cond_false, show b = 0 by omega, e0]
      cases t with
      | nil => simp only [fromEv] at r1 ⊢; simp only [r1, r2, Option.bind_some]; exact key
      | mk c v d w => simp only [fromEv] at r1 ⊢; simp only [r1, r2, Option.bind_some]; exact key
theorem rnode_eq {N : Nat} {n a b : Int} {t u : T_event_halves} (hN : depthE t < N) (hN2 : depthE u < N) (h1 : wfE a t) (h2 : wfE b u) (hn : 0 ≤ n ∧ n ≤ 1000000) (m1 : maxE a t ≤ 1000000) (m2 : maxE b u ≤ 1000000) :
    ∃ e v, kinfolkref02_Node N n (fromEv a t) (fromEv b u) = some (fromEv e v) ∧ wfE e v ∧ depthE v ≤ max (depthE t) (depthE u) + 1 ∧ maxE e v ≤ n + max (maxE a t) (maxE b u) := by
  have ba := h1.ok.base
  have bb := h2.ok.base
  have ga := maxE_ge h1.ok
  have gb := maxE_ge h2.ok
  have r1 := rmin_eq hN ba.1 ba.2 h1.ok h1.nf
  have r2 := rmin_eq hN2 bb.1 bb.2 h2.ok h2.nf
  -- a tree lowered by what its base has at least
  have low : ∀ {e m : Int} {v : T_event_halves}, wfE e v → 0 ≤ m → m ≤ e → wfE (e - m) v ∧ maxE (e - m) v = maxE e v - m ∧ isub .u64 e m = e - m := by
    intro e m v h hm hme
    have hb := h.ok.base
    have hu := maxE_up (t := v) (e := e - m) (d := m)
    rw [show m + (e - m) = e by omega] at hu
    refine ⟨?_, by omega, isubU (by omega) (by omega)⟩
    cases v with
    | nil => exact ⟨by omega, by omega⟩
    | mk c x d y => exact ⟨⟨by omega, by omega⟩, h.2⟩
  have fin : ∀ m : Int, (m = a ∨ m = b) → m ≤ a → m ≤ b → ¬ (t = .nil ∧ u = .nil ∧ a = b) →
      kinfolkref02_Node N n (fromEv a t) (fromEv b u) = some (fromEv (iadd .u64 n m) (.mk (isub .u64 a m) t (isub .u64 b m) u)) →
      ∃ e v, kinfolkref02_Node N n (fromEv a t) (fromEv b u) = some (fromEv e v) ∧ wfE e v ∧ depthE v ≤ max (depthE t) (depthE u) + 1 ∧ maxE e v ≤ n + max (maxE a t) (maxE b u) := by
    intro m hm hma hmb hne h
    have hm0 : 0 ≤ m := by rcases hm with rfl | rfl <;> omega
    obtain ⟨l1, l2, l3⟩ := low h1 hm0 hma
    obtain ⟨l4, l5, l6⟩ := low h2 hm0 hmb
    have en : iadd .u64 n m = n + m := by rw [iaddU (by omega) (by omega)]
    rw [l3, l6, en] at h
    refine ⟨n + m, .mk (a - m) t (b - m) u, h, ⟨by omega, l1, l4, by omega, fun hc => hne ⟨hc.1, hc.2.1, by omega⟩⟩, Nat.le_refl _, ?_⟩
    simp only [maxE, l2, l5]
    omega
  by_cases hs : t = .nil ∧ u = .nil ∧ a = b
  · obtain ⟨rfl, rfl, rfl⟩ := hs
    have en : iadd .u64 n a = n + a := by rw [iaddU (by omega) (by omega)]
    refine ⟨n + a, .nil, ?_, ⟨by omega, by omega⟩, Nat.zero_le _, by simp only [maxE]; omega⟩
    simp only [fromEv, kinfolkref02_Node, kinfolkref02_Leaf, decide_true, cond_true, Option.bind_some, en]
  · by_cases hlt : b < a
    · refine fin b (.inr rfl) (by omega) (Int.le_refl _) hs ?_
      cases t with
      | nil =>
        cases u with
        | nil =>
          have hne : ¬ a = b := by omega
          simp only [fromEv] at r1 r2 ⊢
          simp only [kinfolkref02_Node, r1, r2, Option.bind_some, df hne, dt hlt, cond_false, cond_true]
        | mk c x d y =>
          cases x <;> (simp only [fromEv] at r1 r2 ⊢; simp only [kinfolkref02_Node, r1, r2, Option.bind_some, dt hlt, cond_true])
      | mk c x d y =>
        cases u with
        | nil => cases x <;> (simp only [fromEv] at r1 r2 ⊢; simp only [kinfolkref02_Node, r1, r2, Option.bind_some, dt hlt, cond_true])
        | mk c2 x2 d2 y2 => cases x <;> cases x2 <;> (simp only [fromEv] at r1 r2 ⊢; simp only [kinfolkref02_Node, r1, r2, Option.bind_some, dt hlt, cond_true])
    · refine fin a (.inl rfl) (Int.le_refl _) (by omega) hs ?_
      cases t with
      | nil =>
        cases u with
        | nil =>
          have hne : ¬ a = b := fun h => hs ⟨rfl, rfl, h⟩
          simp only [fromEv] at r1 r2 ⊢
          simp only [kinfolkref02_Node, r1, r2, Option.bind_some, df hne, df hlt, cond_false]
        | mk c x d y =>
          cases x <;> (simp only [fromEv] at r1 r2 ⊢; simp only [kinfolkref02_Node, r1, r2, Option.bind_some, df hlt, cond_false])
      | mk c x d y =>
        cases u with
        | nil => cases x <;> (simp only [fromEv] at r1 r2 ⊢; simp only [kinfolkref02_Node, r1, r2, Option.bind_some, df hlt, cond_false])
        | mk c2 x2 d2 y2 => cases x <;> cases x2 <;> (simp only [fromEv] at r1 r2 ⊢; simp only [kinfolkref02_Node, r1, r2, Option.bind_some, df hlt, cond_false])
theorem rmakeEv : ∀ {N most : Nat} {p : List Int}, most + 1 < N → most ≤ 1000 → Bytes p → ∃ e t rest, kinfolkref02_Make N p (most : Int) = some (fromEv e t, rest) ∧ wfE e t ∧ depthE t ≤ most ∧ maxE e t ≤ 3 * most + 7 ∧ Bytes rest
  | 0, most, p, hN, hm, h => by omega
  | N + 1, most, p, hN, hm, h => by
    unfold kinfolkref02_Make kinfolkref02_Make_b kinfolkref02_Leaf
    by_cases h0 : (p.length : Int) = 0
    · rw [dt h0]
      exact ⟨0, .nil, [], rfl, ⟨by decide, by decide⟩, Nat.zero_le _, by simp only [maxE]; omega, fun x hx => by simp at hx⟩
    · have hl : 0 < p.length := by omega
      have hb := h.at hl
      have e8 : IntKind.u64.wrap (irem .u8 (iquo .u8 (p.getD 0 0) 4) 8) = p.getD 0 0 / 4 % 8 := by
        rw [iquo8 hb, show (8 : Int) = ((8 : Nat) : Int) from rfl, irem8 (by omega), u64_in (by omega) (by omega)]
      have e4 : IntKind.u64.wrap (irem .u8 (iquo .u8 (p.getD 0 0) 4) 4) = p.getD 0 0 / 4 % 4 := by
        rw [iquo8 hb, show (4 : Int) = ((4 : Nat) : Int) from rfl, irem8 (by omega), u64_in (by omega) (by omega)]
      have leaf : ∀ q : List Int, Bytes q → ∃ e t rest, some (T_kinfolkref02_Event.mk (p.getD 0 0 / 4 % 8) T_kinfolkref02_Event.nil T_kinfolkref02_Event.nil, q) = some (fromEv e t, rest) ∧ wfE e t ∧ depthE t ≤ most ∧ maxE e t ≤ 3 * most + 7 ∧ Bytes rest :=
        fun q hq => ⟨p.getD 0 0 / 4 % 8, .nil, q, rfl, ⟨by omega, by omega⟩, Nat.zero_le _, by simp only [maxE]; omega, hq⟩
      have ht := take_drop1 p 1
      have ht' : List.take ((p.length : Int) - 1).toNat (List.drop 1 p) = List.drop 1 p := ht
      have hd := h.drop 1
      simp only [df h0, cond_false, ht', e8, e4, dt (show (0 : Int) < p.length by omega), dt (show (1 : Int) ≤ p.length by omega), dt (Int.le_refl (0 : Int)), dt (show (0 : Int) ≤ 1 by omega), dt (Int.le_refl (p.length : Int)), dt (show (p.length : Int) = p.length from rfl), Bool.and_self, cond_true, Option.bind_some]
      by_cases hm0 : (most : Int) = 0
      · rw [dt hm0, cond_true]; exact leaf _ hd
      · rw [df hm0, cond_false]
        by_cases h4 : irem .u8 (p.getD 0 0) 4 < 2
        · rw [dt h4, cond_true]; exact leaf _ hd
        · rw [df h4, cond_false]
          obtain ⟨m, rfl⟩ : ∃ m, most = m + 1 := ⟨most - 1, by omega⟩
          have em : isub .i64 ((m + 1 : Nat) : Int) 1 = (m : Int) := by rw [isub64 (by omega) (by omega)]; omega
          rw [em]
          obtain ⟨e, t, r1, q1, q2, q3, q4, q5⟩ := rmakeEv (N := N) (most := m) (by omega) (by omega) hd
          obtain ⟨f, u, r2, s1, s2, s3, s4, s5⟩ := rmakeEv (N := N) (most := m) (by omega) (by omega) q5
          obtain ⟨g, v, w1, w2, w3, w4⟩ := rnode_eq (N := N) (n := p.getD 0 0 / 4 % 4) (by omega) (by omega) q2 s2 (by omega) (by omega) (by omega)
          rw [q1]
          simp only [Option.bind_some]
          rw [s1]
          simp only [Option.bind_some]
          rw [w1]
          exact ⟨g, v, r2, rfl, w2, by omega, by omega, s5⟩
theorem depthE_eq : ∀ {N : Nat} {e : Int} {t : T_event_halves}, depthE t < N → depthE t ≤ 1000 → event_Event_Depth N e t = some (depthE t : Int)
  | 0, e, t, hN, h => by omega
  | N + 1, e, t, hN, h => by
    unfold event_Event_Depth event_Event_Depth_b
    cases t with
    | nil => rfl
    | mk b l b2 r =>
      simp only [depthE] at hN h
      simp only [depthE_eq (N := N) (e := b) (t := l) (by omega) (by omega), depthE_eq (N := N) (e := b2) (t := r) (by omega) (by omega), Option.bind_some]
      have e : (if (depthE l : Int) < (depthE r : Int) then (depthE r : Int) else (depthE l : Int)) = ((max (depthE l) (depthE r) : Nat) : Int) := by split <;> omega
      rw [e, iadd64 (by omega) (by omega)]
      simp only [depthE]
      congr 1
      omega
theorem maxE_eq : ∀ {N : Nat} {e : Int} {t : T_event_halves}, depthE t < N → okE e t → maxE e t < 18446744073709551616 → event_Event_Max N e t = some (maxE e t)
  | 0, e, t, hN, h, hm => by omega
  | N + 1, e, t, hN, h, hm => by
    unfold event_Event_Max event_Event_Max_b
    cases t with
    | nil => rfl
    | mk a t b u =>
      simp only [depthE] at hN
      simp only [maxE] at hm
      have g0 := h.base
      have g1 := maxE_ge h.2.1
      have g2 := maxE_ge h.2.2
      have g3 := h.2.1.base
      have g4 := h.2.2.base
      simp only [maxE_eq (N := N) (e := a) (t := t) (by omega) h.2.1 (by omega), maxE_eq (N := N) (e := b) (t := u) (by omega) h.2.2 (by omega), Option.bind_some]
      have e1 : (if maxE a t < maxE b u then maxE b u else maxE a t) = max (maxE a t) (maxE b u) := by split <;> omega
      rw [e1, iaddU (by omega) (by omega)]
      rfl
theorem tree_eq : ∀ {N : Nat} {e : Int} {t : T_event_halves}, wfE e t → depthE t ≤ 16 → maxE e t ≤ 1048576 → depthE t + 1 < N → kinfolklaw07_tree N (fromEv e t) = some (e, t)
  | 0, e, t, hw, hd, hm, hN => by omega
  | N + 1, e, t, hw, hd, hm, hN => by
    unfold kinfolklaw07_tree kinfolklaw07_tree_b
    cases t with
    | nil =>
      simp only [maxE] at hm
      simp only [fromEv, event_Leaf, df (show ¬ (1048576 : Int) < e by omega), cond_false, Option.bind_some]
    | mk a t b u =>
      have hdp := depthE_eq (N := N) (e := e) (t := .mk a t b u) (by omega) (by omega)
      have hmx := maxE_eq (N := N) (e := e) (t := .mk a t b u) (by omega) hw.ok (by omega)
      simp only [depthE] at hN hd
      obtain ⟨w1, w2, w3, w4, w5⟩ := hw
      have g1 := maxE_ge w2.ok
      have g2 := maxE_ge w3.ok
      have g3 := w2.ok.base
      have g4 := w3.ok.base
      have hm' := hm
      simp only [maxE] at hm'
      have r1 := tree_eq (N := N) w2 (by omega) (by omega) (by omega)
      have r2 := tree_eq (N := N) w3 (by omega) (by omega) (by omega)
      have em : (if b < a then b else a) = 0 := by split <;> omega
      have ea : isub .u64 a 0 = a := by rw [isubU (by omega) (by omega)]; omega
      have eb : isub .u64 b 0 = b := by rw [isubU (by omega) (by omega)]; omega
      have ee : iadd .u64 e 0 = e := by rw [iaddU (by omega) (by omega)]; omega
      have hn : event_node (if (2097152 : Int) < e then 2097152 else e) a t b u = some (e, .mk a t b u) := by
        rw [if_neg (by omega)]
        cases t with
        | nil =>
          cases u with
          | nil =>
            have hne : ¬ a = b := fun h => w5 ⟨rfl, rfl, h⟩
            simp only [event_node, df hne, cond_false, em, ea, eb, ee]
          | mk => simp only [event_node, em, ea, eb, ee]
        | mk => simp only [event_node, em, ea, eb, ee]
      have hr : event_Event_right N e (.mk a t b u) = some 0 := by
        unfold event_Event_right
        rw [hdp, hmx]
        simp only [Option.bind_some, df (show ¬ (16 : Int) < ((depthE (.mk a t b u) : Nat) : Int) by simp only [depthE]; omega), df (show ¬ (1048576 : Int) < maxE e (.mk a t b u) by omega), cond_false]
      have key : (event_Node N e a t b u).bind (fun (n5, t7, n6) => some (n5, t7)) = some (e, .mk a t b u) := by
        unfold event_Node
        rw [hn]
        simp only [Option.bind_some, hr, decide_true, cond_true]
      cases t with
      | nil => simp only [fromEv] at r1 ⊢; simp only [r1, r2, Option.bind_some]; exact key
      | mk c v d w => simp only [fromEv] at r1 ⊢; simp only [r1, r2, Option.bind_some]; exact key
/-- Whatever bytes: a stamp that is right, and the document's. -/
theorem made_eq {N : Nat} {p q : List Int} (hN : 20 ≤ N) (hp : Bytes p) (hq : Bytes q) : ∃ i t e u, kinfolklaw07_made N p q = some (i, t, e, u, fromID i t, fromEv e u) ∧ nfID i t ∧ depthID t ≤ 7 ∧ wfE e u ∧ depthE u ≤ 7 ∧ maxE e u ≤ 28 := by
  obtain ⟨i, t, r1, q1, q2, q3, q4⟩ := rmakeID (N := N) (most := 7) (p := List.take (min 60 p.length) p) (by omega) (by decide) (hp.take _)
  obtain ⟨e, u, r2, s1, s2, s3, s4, s5⟩ := rmakeEv (N := N) (most := 7) (p := List.take (min 60 q.length) q) (by omega) (by decide) (hq.take _)
  refine ⟨i, t, e, u, ?_, q2, q3, s2, s3, by omega⟩
  have hmin : ∀ l : List Int, (if (60 : Int) < (l.length : Int) then 60 else (l.length : Int)) = ((min 60 l.length : Nat) : Int) := fun l => by split <;> omega
  have q1' : kinfolkref01_Make N (List.take (min 60 p.length) p) 7 = some (fromID i t, r1) := q1
  have s1' : kinfolkref02_Make N (List.take (min 60 q.length) q) 7 = some (fromEv e u, r2) := s1
  unfold kinfolklaw07_made
  simp only [hmin, Int.sub_zero, Int.toNat_natCast, dt (Int.le_refl (0 : Int)), dt (show (0 : Int) ≤ ((min 60 p.length : Nat) : Int) by omega), dt (show ((min 60 p.length : Nat) : Int) ≤ (p.length : Int) by omega), dt (show (0 : Int) ≤ ((min 60 q.length : Nat) : Int) by omega), dt (show ((min 60 q.length : Nat) : Int) ≤ (q.length : Int) by omega), decide_true, Bool.and_self, cond_true, q1', s1', Option.bind_some, own_eq q2 (by omega) (show depthID t + 1 < N by omega), tree_eq s2 (by omega) (by omega) (show depthE u + 1 < N by omega)]
end Go.Proofs.Ytjjakdmcnkldoaa
