/- The laws of the stamps: forked, joined; their limits. Plain. -/
import Derived.Test.YtjjakdmcnkldoaaDoorST8
set_option linter.unusedVariables false
set_option linter.unusedSimpArgs false
namespace Go.Proofs.YtjjakdmcnkldoaaDoor
open Go.Ev Go.Lib

/-- A tree of the laws'. -/
structure MadeE (e : Int) (u : Tr) : Prop where
  nf : nf e u
  depth : depthE u ≤ 6
  max : maxE e u ≤ 25
theorem MadeE.join {N : Nat} (hN : 20 ≤ N) {e f : Int} {t u : Tr} (h1 : MadeE e t) (h2 : MadeE f u) : ∃ g v, event_Join N e t f u = some (g, v) ∧ MadeE g v ∧ hts 6 g v = maxL (hts 6 e t) (hts 6 f u) := by
  have h3 := h1.depth
  have h4 := h2.depth
  have h5 := h1.max
  have h6 := h2.max
  obtain ⟨a1, a2, a3, a4⟩ := join_ok h1.nf h2.nf h3 h4
  exact ⟨_, _, evJoin (by omega) h1.nf h2.nf h3 h4 (by omega) (by omega), ⟨a1, a2, by omega⟩, a3⟩
theorem join_of {N : Nat} {i j k : Bool} {t u v : Idt} {e f g : Int} {x y z : Tr} (hS : id_Sum N i t j u = some (k, v, 0)) (hJ : event_Join N e x f y = some (g, z)) : stamp_Join N i t e x j u f y = some (k, v, g, z, 0) := by
  unfold stamp_Join
  rw [hS]
  simp only [Option.bind_some, decide_true, cond_true, hJ]
theorem stampForks_true {N : Nat} {p q : List Int} (hN : 60 ≤ N) (hp : Bytes p) (hq : Bytes q) : kinfolklaw04_StampForks N p q = some true := by
  obtain ⟨i, t, e, u, m1, ⟨hi, h, d1, d2, mx⟩⟩ := made_eq (N := N) (by omega) hp hq
  obtain ⟨a, v, b, w, s1, s2, s3, s4, s5, s6, s7⟩ := fork_eq (N := N) (i := i) (t := t) (e := e) (u := u) (by omega) hi (by omega)
  obtain ⟨k1, k2⟩ := s7 7 (by omega)
  have hS := idSum_is (N := N) (d := 7) (by omega) s3 s4 hi (by omega) (by omega) (by omega) k1 k2
  have hM : MadeE e u := ⟨h, d2, mx⟩
  have hJ : event_Join N e u e u = some (e, u) := by
    rw [evJoin (d := 6) (by omega) h h d2 d2 (by omega) (by omega), join_is h h h d2 d2 d2 maxL_self.symm]
  have j1 := join_of hS hJ
  have x1 := like_eq hN s3 h (by omega) (show depthE u ≤ 17 by omega) (by omega)
  have x2 := like_eq hN s4 h (by omega) (show depthE u ≤ 17 by omega) (by omega)
  have x3 : kinfolklaw04_like N false T_id_halves.nil e u (T_kinfolkref01_ID.mk 0 T_kinfolkref01_ID.nil T_kinfolkref01_ID.nil) (fromEv e u) = some true := like_eq hN (i := false) (t := .nil) trivial h (by simp [depthI]) (show depthE u ≤ 17 by omega) (by omega)
  have x4 := same_self (N := N) (by omega) hi (by omega) h (show depthE u ≤ 17 by omega) (by omega)
  obtain ⟨x, y, fk⟩ := fromI_kind i t
  -- with itself
  have self : ∃ k v g z n, stamp_Join N i t e u i t e u = some (k, v, g, z, n) ∧ (decide (n = 5) == !(decide (kindI i t = 0))) = true := by
    cases hz : zeroI i t with
    | true =>
      obtain ⟨rfl, rfl⟩ := zeroI_iff.1 hz
      have hS0 := idSum_is (N := N) (d := 7) (i := false) (j := false) (k := false) (t := .nil) (u := .nil) (v := .nil) (by omega) trivial trivial trivial (by simp [depthI]) (by simp [depthI]) (by simp [depthI]) (by rw [bits_nil, disjL_false]) (by rw [bits_nil, orL_false (by simp)])
      exact ⟨_, _, _, _, _, join_of hS0 hJ, rfl⟩
    | false =>
      have hdj := idDisj (N := N) (d := 6) (by omega) hi hi d1 d1
      rw [disjL_self (not_zero hi d1 hz)] at hdj
      refine ⟨false, .nil, 0, .nil, 5, ?_, ?_⟩
      · unfold stamp_Join id_Sum
        rw [hdj]
        rfl
      · rw [kind_z, hz]; rfl
  obtain ⟨k, v', g, z, n, e1, e2⟩ := self
  unfold kinfolklaw04_StampForks
  rw [awake_eq hN, m1]
  simp only [Option.bind_some, cond_true, s1, s2, j1, e1, decide_true, x1, x2, x4]
  rw [fk]
  simp only [e2, cond_true, stamp_Stamp_Peek, kinfolkref01_Zero, Option.bind_some, x3]
theorem stampJoins_true {N : Nat} {p q r s : List Int} (hN : 60 ≤ N) (hp : Bytes p) (hq : Bytes q) (hr : Bytes r) (hs : Bytes s) : kinfolklaw04_StampJoins N p q r s = some true := by
  have h0 : Bytes [] := fun x hx => by simp at hx
  obtain ⟨i, t, e1, u1, m1, ⟨hi, n1, d1, dd1, mx1⟩⟩ := made_eq (N := N) (by omega) hp hq
  obtain ⟨i2, t2, e2, u2, m2, ⟨hi2, n2, d2, dd2, mx2⟩⟩ := made_eq (N := N) (by omega) h0 hr
  obtain ⟨i3, t3, e3, u3, m3, ⟨hi3, n3, d3, dd3, mx3⟩⟩ := made_eq (N := N) (by omega) h0 hs
  obtain ⟨a, v, b, w, s1, s2, s3, s4, s5, s6, s7⟩ := fork_eq (N := N) (i := i) (t := t) (e := e1) (u := u1) (by omega) hi (by omega)
  obtain ⟨k1, k2⟩ := s7 7 (by omega)
  have A : MadeE e1 u1 := ⟨n1, dd1, mx1⟩
  have B : MadeE e2 u2 := ⟨n2, dd2, mx2⟩
  have C : MadeE e3 u3 := ⟨n3, dd3, mx3⟩
  -- the shares
  have S1 := idSum_is (N := N) (d := 7) (by omega) s3 s4 hi (by omega) (by omega) (by omega) k1 k2
  have S2 := idSum_is (N := N) (d := 7) (by omega) s4 s3 hi (by omega) (by omega) (by omega) (by rw [disjL_comm]; exact k1) (by rw [orL_comm]; exact k2)
  have zero : ∀ {c : Bool} {x : Idt}, nfI c x → depthI x ≤ 7 → id_Sum N c x false .nil = some (c, x, 0) := fun {c x} hx hd =>
    idSum_is (N := N) (d := 7) (by omega) hx (nfI_nil false) hx hd (by simp [depthI]) hd (by rw [disjL_comm, bits_nil, disjL_false]) (by rw [orL_comm, bits_nil, orL_false (bits_len _ _ _)])
  have S3 := zero hi (by omega)
  have S4 := zero s3 (by omega)
  -- what was seen
  obtain ⟨f1, v1, j1, M1, q1⟩ := B.join (by omega : 20 ≤ N) C
  obtain ⟨f2, v2, j2, M2, q2⟩ := C.join (by omega : 20 ≤ N) B
  obtain ⟨f3, v3, j3, M3, q3⟩ := M1.join (by omega : 20 ≤ N) A
  obtain ⟨f4, v4, j4, M4, q4⟩ := B.join (by omega : 20 ≤ N) A
  obtain ⟨f5, v5, j5, M5, q5⟩ := M4.join (by omega : 20 ≤ N) C
  obtain ⟨f6, v6, j6, M6, q6⟩ := M3.join (by omega : 20 ≤ N) B
  obtain ⟨rfl, rfl⟩ : f1 = f2 ∧ v1 = v2 := hts_inj M1.nf M2.nf M1.depth M2.depth (by rw [q1, q2, maxL_comm])
  obtain ⟨rfl, rfl⟩ : f3 = f5 ∧ v3 = v5 := hts_inj M3.nf M5.nf M3.depth M5.depth (by rw [q3, q5, q1, q4, maxL_assoc, maxL_assoc, maxL_comm (a := hts 6 e3 u3)])
  obtain ⟨rfl, rfl⟩ : f6 = f3 ∧ v6 = v3 := hts_inj M6.nf M3.nf M6.depth M3.depth (by
    rw [q6, maxL_comm]
    refine leL_max_eq (by rw [hts_len, hts_len]) ?_
    rw [q3, q1]
    exact leL_trans (leL_max1 (by rw [hts_len, hts_len])) (leL_max1 (by rw [maxL_len (by rw [hts_len, hts_len]), hts_len, hts_len])))
  have same : ∀ {f : Int} {y : Tr}, MadeE f y → stamp_Same N i t f y i t f y = some true := fun {f y} hy => by
    have := hy.depth
    have := hy.max
    exact same_self (by omega) hi (by omega) hy.nf (by omega) (by omega)
  have L := leq_is (N := N) (d := 6) (i := i) (j := i) (v := t) (w := t) (by omega) n1 M6.nf dd1 M6.depth (by omega) (by have := M6.max; omega)
  have hle : leL (hts 6 e1 u1) (hts 6 f6 v6) = true := by
    rw [q3]
    exact leL_max2 (by rw [hts_len, hts_len])
  rw [hle] at L
  unfold kinfolklaw04_StampJoins
  rw [awake_eq hN, m1, m2, m3]
  simp only [Option.bind_some, cond_true, s1, decide_true, join_of S1 j1, join_of S2 j2, stamp_Stamp_Peek, join_of S3 j3, join_of S4 j4, join_of S1 j5, join_of S3 j6, same M1, same M6, idSame (N := N) (show depthI t < N by omega) hi, L]

/-! ### Limits -/
theorem tick_one {N : Nat} {e : Int} (hN : 20 ≤ N) (he : 0 ≤ e ∧ e ≤ 1048576) : stamp_Stamp_Tick N true .nil e .nil = some (if e + 1 ≤ 1048576 then (e + 1, .nil, 0) else (e, .nil, 4)) := by
  have hn : nf e T_event_halves.nil := he.1
  have e1 : iadd .u64 e 1 = e + 1 := iaddU (by omega) (by omega)
  obtain ⟨M, rfl⟩ : ∃ M, N = M + 1 := ⟨N - 1, by omega⟩
  rw [tick_grow hN (nfI_nil _) hn (by simp [depthE]) (by simp only [maxE]; omega) rfl]
  have hc : stamp_cost (M + 1) true .nil e .nil = some (0, false) := rfl
  have hg : stamp_grow (M + 1) true .nil e .nil = some (if e + 1 ≤ 1048576 then (e + 1, .nil, 0) else (0, .nil, 4)) := by
    unfold stamp_grow stamp_grow_b event_Leaf
    simp only [isLeaf_is, isNil, Option.bind_some, cond_true, id_ID_IsOne, event_Event_Base, e1]
    by_cases h : e + 1 ≤ 1048576
    · rw [if_pos h, df (show ¬ (1048576 : Int) < e + 1 by omega)]; rfl
    · rw [if_neg h, dt (show (1048576 : Int) < e + 1 by omega)]; rfl
  unfold stamp_Grow
  rw [idZero, hc, hg]
  by_cases h : e + 1 ≤ 1048576
  · simp only [if_pos h]; rfl
  · simp only [if_neg h]; rfl
theorem limits0_go {N m : Nat} {n turns : Int} (hN : 20 ≤ N) (hm : IntKind.i64.wrap (irem .u8 n 3) = (m : Int)) (hm3 : m < 3) : ∀ (j k : Nat), k + j = 4 →
    ∃ f, runL (kinfolklaw04_StampLimits_L0_step N n turns) ((k : Int), 1048576 - (m : Int) + ((min k m : Nat) : Int), .nil) = some (.inr (f, .nil))
  | 0, k, h => by
    refine ⟨1048576 - (m : Int) + ((min k m : Nat) : Int), runL_done ?_⟩
    unfold kinfolklaw04_StampLimits_L0_step
    simp only [df (show ¬ (k : Int) < 4 by omega), cond_false]
  | j + 1, k, h => by
    obtain ⟨f, r⟩ := limits0_go (turns := turns) hN hm hm3 j (k + 1) (by omega)
    refine ⟨f, ?_⟩
    rw [← r]
    refine runL_next ?_
    have ht := tick_one (N := N) (e := 1048576 - (m : Int) + ((min k m : Nat) : Int)) hN (by omega)
    have hsm := same_self (N := N) (i := true) (t := .nil) (e := 1048576 - (m : Int) + ((min k m : Nat) : Int)) (u := .nil) hN trivial (by simp [depthI]) (show (0 : Int) ≤ _ by omega) (by simp [depthE]) (by simp only [maxE]; omega)
    unfold kinfolklaw04_StampLimits_L0_step
    simp only [dt (show (k : Int) < 4 by omega), cond_true, ht, Option.bind_some, hm]
    by_cases hk : k < m
    · rw [if_pos (by omega)]
      simp only [decide_true, dt (show (k : Int) < (m : Int) by omega), beq_self_eq_true, cond_true]
      rw [iadd64 (by omega) (by omega)]
      congr 3
      simp only [Prod.mk.injEq, and_true]
      omega
    · rw [if_neg (by omega)]
      simp only [df (show ¬ (4 : Int) = 0 by decide), decide_true, df (show ¬ (k : Int) < (m : Int) by omega), beq_self_eq_true, cond_true, cond_false, hsm, Option.bind_some]
      rw [iadd64 (by omega) (by omega)]
      congr 3
      simp only [Prod.mk.injEq, and_true]
      omega
/-- All of one part of the 2^k. -/
def chain : Nat → Bool → Idt → Prop
  | 0, i, t => i = true ∧ t = .nil
  | k + 1, i, t => i = false ∧ ∃ a v b w, t = .mk a v b w ∧ ((chain k a v ∧ b = false ∧ w = .nil) ∨ (a = false ∧ v = .nil ∧ chain k b w))
theorem chain_ok : ∀ {k : Nat} {i : Bool} {t : Idt}, chain k i t → nfI i t ∧ depthI t = k ∧ zeroI i t = false ∧ (k = 0 ∨ t ≠ .nil)
  | 0, i, t, h => by
    obtain ⟨rfl, rfl⟩ := h
    exact ⟨trivial, rfl, rfl, .inl rfl⟩
  | k + 1, i, t, h => by
    obtain ⟨rfl, a, v, b, w, rfl, hc⟩ := h
    rcases hc with ⟨h1, rfl, rfl⟩ | ⟨rfl, rfl, h1⟩
    · obtain ⟨p1, p2, p3, p4⟩ := chain_ok h1
      refine ⟨⟨p1, trivial, fun hc => ?_⟩, by simp only [depthI, p2]; omega, rfl, .inr (by simp)⟩
      obtain ⟨rfl, -, rfl⟩ := hc
      cases p3
    · obtain ⟨p1, p2, p3, p4⟩ := chain_ok h1
      refine ⟨⟨trivial, p1, fun hc => ?_⟩, by simp only [depthI, p2]; omega, rfl, .inr (by simp)⟩
      obtain ⟨-, rfl, rfl⟩ := hc
      cases p3
theorem chain_pairL {k : Nat} {i : Bool} {t : Idt} (h : chain k i t) : id_pair i t false .nil = some (false, .mk i t false .nil) ∧ chain (k + 1) false (.mk i t false .nil) := by
  obtain ⟨p1, p2, p3, p4⟩ := chain_ok h
  refine ⟨?_, rfl, i, t, false, .nil, rfl, .inl ⟨h, rfl, rfl⟩⟩
  rw [idpair p1 (nfI_nil _), pairF, if_neg]
  rintro ⟨rfl, -, rfl⟩
  cases p3
theorem chain_pairR {k : Nat} {i : Bool} {t : Idt} (h : chain k i t) : id_pair false .nil i t = some (false, .mk false .nil i t) ∧ chain (k + 1) false (.mk false .nil i t) := by
  obtain ⟨p1, p2, p3, p4⟩ := chain_ok h
  refine ⟨?_, rfl, false, .nil, i, t, rfl, .inr ⟨rfl, rfl, h⟩⟩
  rw [idpair (nfI_nil _) p1, pairF, if_neg]
  rintro ⟨-, rfl, rfl⟩
  cases p3
theorem chain_split : ∀ {k N : Nat} {i : Bool} {t : Idt}, k < N → chain k i t → ∃ a v b w, id_ID_split N i t = some (a, v, b, w) ∧ chain (k + 1) a v ∧ chain (k + 1) b w
  | k, 0, i, t, hN, h => by omega
  | 0, N + 1, i, t, hN, h => by
    obtain ⟨rfl, rfl⟩ := h
    have h0 : chain 0 true .nil := ⟨rfl, rfl⟩
    exact ⟨_, _, _, _, rfl, (chain_pairL h0).2, (chain_pairR h0).2⟩
  | k + 1, N + 1, i, t, hN, h => by
    obtain ⟨rfl, a, v, b, w, rfl, hc⟩ := h
    unfold id_ID_split id_ID_split_b
    simp only [idLeft, idRight, idZero, id_ID_IsOne, id_Zero, Option.bind_some, zeroI_mk, cond_false, leftI, rightI]
    rcases hc with ⟨h1, rfl, rfl⟩ | ⟨rfl, rfl, h1⟩
    · obtain ⟨p1, p2, p3, p4⟩ := chain_ok h1
      obtain ⟨a1, v1, b1, w1, s1, s2, s3⟩ := chain_split (N := N) (by omega) h1
      have z : zeroI false T_id_halves.nil = true := rfl
      simp only [p3, z, cond_false, cond_true, s1, Option.bind_some, (chain_pairL s2).1, (chain_pairL s3).1]
      exact ⟨_, _, _, _, rfl, (chain_pairL s2).2, (chain_pairL s3).2⟩
    · obtain ⟨a1, v1, b1, w1, s1, s2, s3⟩ := chain_split (N := N) (by omega) h1
      have z : zeroI false T_id_halves.nil = true := rfl
      simp only [z, cond_true, s1, Option.bind_some, (chain_pairR s2).1, (chain_pairR s3).1]
      exact ⟨_, _, _, _, rfl, (chain_pairR s2).2, (chain_pairR s3).2⟩
theorem chain_fork {k N : Nat} {i : Bool} {t : Idt} {e : Int} {u : Tr} (hN : k + 1 < N) (hk : k ≤ 1000) (h : chain k i t) : (k < 16 → ∃ a v b w, stamp_Stamp_Fork N i t e u = some (a, v, e, u, b, w, e, u, 0) ∧ chain (k + 1) a v ∧ chain (k + 1) b w) ∧ (¬ k < 16 → stamp_Stamp_Fork N i t e u = some (false, .nil, 0, .nil, false, .nil, 0, .nil, 3)) := by
  obtain ⟨a, v, b, w, s1, s2, s3⟩ := chain_split (N := N) (by omega) h
  obtain ⟨-, p2, -, -⟩ := chain_ok s2
  obtain ⟨-, q2, -, -⟩ := chain_ok s3
  have hd1 := idDepth (N := N) (i := a) (t := v) (by omega) (by omega)
  have hd2 := idDepth (N := N) (i := b) (t := w) (by omega) (by omega)
  rw [p2] at hd1
  rw [q2] at hd2
  have hS : id_ID_Split N i t = some (if k < 16 then (a, v, b, w, 0) else (false, .nil, false, .nil, 3)) := by
    unfold id_ID_Split
    rw [s1]
    simp only [Option.bind_some, hd1, hd2, id_Zero]
    rw [if_neg (show ¬ ((k + 1 : Nat) : Int) < ((k + 1 : Nat) : Int) by omega)]
    by_cases hk : k < 16
    · rw [if_pos hk, df (show ¬ (16 : Int) < ((k + 1 : Nat) : Int) by omega)]; rfl
    · rw [if_neg hk, dt (show (16 : Int) < ((k + 1 : Nat) : Int) by omega)]; rfl
  unfold stamp_Stamp_Fork
  rw [hS]
  refine ⟨fun hk => ⟨a, v, b, w, ?_, s2, s3⟩, fun hk => ?_⟩
  · rw [if_pos hk]; rfl
  · rw [if_neg hk]; rfl
theorem limits1_go {N : Nat} {turns : Int} (hN : 40 ≤ N) : ∀ (j k : Nat) (i : Bool) (t : Idt), k + j = 18 → chain (min k 16) i t → ∃ a v, runL (kinfolklaw04_StampLimits_L1_step N turns) ((k : Int), i, t, 0, .nil) = some (.inr (a, v, 0, .nil)) ∧ chain 16 a v
  | 0, k, i, t, h, hc => by
    refine ⟨i, t, runL_done ?_, by rw [show min k 16 = 16 by omega] at hc; exact hc⟩
    unfold kinfolklaw04_StampLimits_L1_step
    simp only [df (show ¬ (k : Int) < 18 by omega), cond_false]
  | j + 1, k, i, t, h, hc => by
    obtain ⟨f1, f2⟩ := chain_fork (N := N) (e := 0) (u := .nil) (by omega) (by omega) hc
    by_cases hk : k < 16
    · obtain ⟨a, v, b, w, s1, s2, s3⟩ := f1 (by omega)
      rw [show min k 16 + 1 = min (k + 1) 16 by omega] at s2 s3
      by_cases ht : irem .u16 (ishr .u16 turns (k : Int)) 2 = 1
      · obtain ⟨x, y, r1, r2⟩ := limits1_go (turns := turns) hN j (k + 1) b w (by omega) s3
        refine ⟨x, y, ?_, r2⟩
        rw [← r1]
        refine runL_next ?_
        unfold kinfolklaw04_StampLimits_L1_step
        simp only [dt (show (k : Int) < 18 by omega), cond_true, s1, Option.bind_some, decide_true, dt (show (k : Int) < 16 by omega), beq_self_eq_true, dt (show (0 : Int) ≤ (k : Int) by omega), dt ht]
        rw [iadd64 (by omega) (by omega)]
        rfl
      · obtain ⟨x, y, r1, r2⟩ := limits1_go (turns := turns) hN j (k + 1) a v (by omega) s2
        refine ⟨x, y, ?_, r2⟩
        rw [← r1]
        refine runL_next ?_
        unfold kinfolklaw04_StampLimits_L1_step
        simp only [dt (show (k : Int) < 18 by omega), cond_true, s1, Option.bind_some, decide_true, dt (show (k : Int) < 16 by omega), beq_self_eq_true, dt (show (0 : Int) ≤ (k : Int) by omega), df ht, cond_false]
        rw [iadd64 (by omega) (by omega)]
        rfl
    · have s1 := f2 (by omega)
      rw [show min k 16 = min (k + 1) 16 by omega] at hc
      obtain ⟨x, y, r1, r2⟩ := limits1_go (turns := turns) hN j (k + 1) i t (by omega) hc
      refine ⟨x, y, ?_, r2⟩
      rw [← r1]
      refine runL_next ?_
      unfold kinfolklaw04_StampLimits_L1_step
      simp only [dt (show (k : Int) < 18 by omega), cond_true, s1, Option.bind_some, decide_true, df (show ¬ (3 : Int) = 0 by decide), df (show ¬ (k : Int) < 16 by omega), beq_self_eq_true, cond_false]
      rw [iadd64 (by omega) (by omega)]
      rfl
theorem grow_chain : ∀ {k : Nat} {i : Bool} {t : Idt}, chain k i t → depthE (growR k i t 0 .nil).1.2 = k ∧ maxE (growR k i t 0 .nil).1.1 (growR k i t 0 .nil).1.2 = 1
  | 0, i, t, h => ⟨rfl, rfl⟩
  | k + 1, i, t, h => by
    obtain ⟨rfl, a, v, b, w, rfl, hc⟩ := h
    have hn : ¬ (T_event_halves.nil = .nil ∧ false = true) := fun h => by cases h.2
    have z : zeroI false T_id_halves.nil = true := rfl
    rw [growR, if_neg hn]
    dsimp only [leftI, rightI, hL, hR]
    rcases hc with ⟨h1, rfl, rfl⟩ | ⟨rfl, rfl, h1⟩
    · obtain ⟨p1, p2, p3, p4⟩ := chain_ok h1
      obtain ⟨q1, q2⟩ := grow_chain h1
      simp only [p3, Bool.false_eq_true, if_false, z, if_true]
      generalize hg : growR k a v 0 .nil = g at *
      refine ⟨?_, by rw [node_max]; simp only [maxE]; omega⟩
      rw [nodeE_mk]
      · simp only [depthE, q1]; omega
      · rintro ⟨hx, -, hy⟩
        rw [hx] at q2
        simp only [maxE] at q2
        omega
    · obtain ⟨p1, p2, p3, p4⟩ := chain_ok h1
      obtain ⟨q1, q2⟩ := grow_chain h1
      simp only [z, if_true]
      generalize hg : growR k b w 0 .nil = g at *
      refine ⟨?_, by rw [node_max]; simp only [maxE]; omega⟩
      rw [nodeE_mk]
      · simp only [depthE, q1]; omega
      · rintro ⟨-, hx, hy⟩
        rw [hx] at q2
        simp only [maxE] at q2
        omega
theorem stampLimits_true {N : Nat} {n turns : Int} (hN : 60 ≤ N) (hn : 0 ≤ n ∧ n < 256) : kinfolklaw04_StampLimits N n turns = some true := by
  obtain ⟨m, hm, hm3⟩ : ∃ m : Nat, IntKind.i64.wrap (irem .u8 n 3) = (m : Int) ∧ m < 3 := by
    refine ⟨n.toNat % 3, ?_, Nat.mod_lt _ (by decide)⟩
    rw [irem, Int.tmod_eq_emod_of_nonneg hn.1, i64_in (by omega) (by omega)]; omega
  have hmu : IntKind.u64.wrap (irem .u8 n 3) = (m : Int) := by
    have h2 : irem .u8 n 3 = n % 3 := by rw [irem, Int.tmod_eq_emod_of_nonneg hn.1]
    rw [h2] at hm ⊢
    rw [i64_in (by omega) (by omega)] at hm
    rw [u64_in (by omega) (by omega), hm]
  have hl : event_Leaf (isub .u64 1048576 (IntKind.u64.wrap (irem .u8 n 3))) = some (1048576 - (m : Int), 0) := by
    rw [hmu, isubU (by omega) (by omega)]
    unfold event_Leaf
    rw [df (show ¬ (1048576 : Int) < 1048576 - (m : Int) by omega)]
    rfl
  obtain ⟨f, r0⟩ := limits0_go (N := N) (turns := turns) (by omega) hm hm3 4 0 (by omega)
  have e0 : 1048576 - (m : Int) + ((min 0 m : Nat) : Int) = 1048576 - (m : Int) := by omega
  rw [e0] at r0
  have r0' : runL (kinfolklaw04_StampLimits_L0_step N n turns) (0, 1048576 - (m : Int), T_event_halves.nil) = some (.inr (f, .nil)) := r0
  obtain ⟨a, v, r1, hc⟩ := limits1_go (N := N) (turns := turns) (by omega) 18 0 true .nil (by omega) ⟨rfl, rfl⟩
  have r1' : runL (kinfolklaw04_StampLimits_L1_step N turns) (0, true, T_id_halves.nil, 0, T_event_halves.nil) = some (.inr (a, v, 0, .nil)) := r1
  obtain ⟨p1, p2, p3, p4⟩ := chain_ok hc
  have h0 : nf 0 T_event_halves.nil := Int.le_refl 0
  have hf : fillF a v 0 .nil = (0, .nil) := by
    obtain ⟨rfl, a1, v1, b1, w1, rfl, -⟩ := hc
    rfl
  have ht := tick_grow (N := N) (by omega) p1 h0 (by simp [depthE]) (by simp [maxE]) hf
  rw [evGrow (N := N) (d := 16) (by omega) (by omega) p1 p3 h0 (by omega) (by simp [depthE]) (by simp [maxE])] at ht
  simp only [Option.bind_some] at ht
  obtain ⟨g1, g2⟩ := grow_chain hc
  obtain ⟨k1, k2, k3, k4⟩ := grow_ok (d := 16) p1 p3 h0 (by omega) (by simp [depthE])
  have x1 := evDepth (N := N) (e := (growR 16 a v 0 .nil).1.1) (t := (growR 16 a v 0 .nil).1.2) (by omega) (by omega)
  have x2 := evMax (N := N) (e := (growR 16 a v 0 .nil).1.1) (t := (growR 16 a v 0 .nil).1.2) (by omega) k1 (by omega)
  rw [g1] at x1
  rw [g2] at x2
  have d16 : decide (((16 : Nat) : Int) = 16) = true := rfl
  unfold kinfolklaw04_StampLimits
  rw [awake_eq hN, hl]
  simp only [Option.bind_some, cond_true, id_One, stamp_Seed, r0', r1', ht, decide_true, x1, x2, d16]
end Go.Proofs.YtjjakdmcnkldoaaDoor
