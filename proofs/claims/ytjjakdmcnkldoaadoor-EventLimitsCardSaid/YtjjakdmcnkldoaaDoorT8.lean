/- The laws of the counting trees: their texts, their limits. Plain. -/
import Derived.Test.YtjjakdmcnkldoaaDoorT7
set_option linter.unusedVariables false
set_option linter.unusedSimpArgs false
namespace Go.Proofs.YtjjakdmcnkldoaaDoor
open Go.Ev Go.Lib

theorem eventTexts_true {N : Nat} {s : ByteArray} (hN : 300 ≤ N) : kinfolklaw02_EventTexts N s = some true := by
  obtain ⟨l, rfl⟩ : ∃ l, s = mkS l := ⟨s.data.toList, (mkS_of s).symm⟩
  have hmin : (if (250 : Int) < ((mkS l).size : Int) then 250 else ((mkS l).size : Int)) = ((min 250 l.length : Nat) : Int) := by rw [mkS_size]; split <;> omega
  have hx : (mkS l).extract 0 (min 250 l.length) = mkS (l.take (min 250 l.length)) := by rw [mkS_ext, List.drop_zero]
  have hl : (l.take (min 250 l.length)).length ≤ 250 := by rw [List.length_take]; omega
  have h1 := evParse (N := N) (l := l.take (min 250 l.length)) (by omega) (by omega)
  have h2 := rParse (N := N) (l := l.take (min 250 l.length)) (by omega) (by omega)
  obtain ⟨h3, h4, h5, h6⟩ := parseV_ok (n := N) (l := l.take (min 250 l.length)) (by omega)
  generalize hz : parseV (refP N (l.take (min 250 l.length))) = z at *
  obtain ⟨e, t, c⟩ := z
  simp only at h3 h4 h5 h6
  have h7 := like_of (N := N) (by omega) h3 (by omega) (by omega)
  have hlt := text_len h3 (by omega)
  have hpow : 2 ^ depthE t ≤ 2 ^ 16 := Nat.pow_le_pow_right (by decide) h4
  have h8 := evText (N := N) (e := e) (t := t) (by omega) h3 (by omega) (by omega)
  unfold kinfolklaw02_EventTexts
  rw [awake_eq (by omega)]
  simp only [hmin, Option.bind_some, cond_true, Int.toNat_natCast, hx, h1, h2, decide_true, h7, dt (Int.le_refl 0), dt (Nat.le_refl 0), dt (show (0 : Int) ≤ ((min 250 l.length : Nat) : Int) by omega), dt (show ((min 250 l.length : Nat) : Int) ≤ ((mkS l).size : Int) by rw [mkS_size]; omega), Bool.and_self]
  by_cases hc : c = 0
  · rw [dt hc, cond_true, h8, Option.bind_some, h6 hc, dt rfl]
  · rw [df hc, cond_false]

/-- A node, asked for: it, or what is wrong with it. -/
theorem evNodeIs {N : Nat} {n a b : Int} {t u : Tr} (hN : depthE t + 1 < N) (hN2 : depthE u + 1 < N) (hd : depthE t ≤ 1000) (hd2 : depthE u ≤ 1000) (hn : 0 ≤ n) (h1 : nf a t) (h2 : nf b u) (m1 : maxE a t ≤ 1048576) (m2 : maxE b u ≤ 1048576) :
    event_Node N n a t b u = some (if checkE (nodeE (min n 2097152) a t b u).1 (nodeE (min n 2097152) a t b u).2 = 0 then ((nodeE (min n 2097152) a t b u).1, (nodeE (min n 2097152) a t b u).2, 0) else (0, .nil, checkE (nodeE (min n 2097152) a t b u).1 (nodeE (min n 2097152) a t b u).2)) := by
  have g1 := maxE_ge h1
  have g2 := maxE_ge h2
  have g3 := h1.base
  have g4 := h2.base
  have hd3 := node_depth (min n 2097152) a b t u
  unfold event_Node
  rw [show (if (2097152 : Int) < n then 2097152 else n) = min n 2097152 by split <;> omega, evnode (by omega) (by omega) (by omega)]
  simp only [Option.bind_some]
  rw [evRightIs (by omega) (by omega) (node_nf (by omega) h1 h2) (by rw [node_max]; omega)]
  simp only [Option.bind_some]
  by_cases hc : checkE (nodeE (min n 2097152) a t b u).1 (nodeE (min n 2097152) a t b u).2 = 0
  · rw [if_pos hc, dt hc, cond_true]
  · rw [if_neg hc, df hc, cond_false]
theorem limits_go {N : Nat} {k : Nat} (hN : 40 ≤ N) (hk : k ≤ 18) : ∀ (m i : Nat) (e : Int) (t : Tr), i + m = k → nf e t → maxE e t ≤ 1 → depthE t = min i 16 → (t = .nil → e = 1) →
    ∃ f u, runL (kinfolklaw02_EventLimits_L0_step N (k : Int) (k : Int)) ((i : Int), e, t) = some (.inr (f, u)) ∧ depthE u = min k 16
  | 0, i, e, t, h, h1, h2, h3, h4 => by
    refine ⟨e, t, runL_done ?_, by rw [h3, show i = k by omega]⟩
    unfold kinfolklaw02_EventLimits_L0_step
    simp only [df (show ¬ (i : Int) < (k : Int) by omega), cond_false]
  | m + 1, i, e, t, h, h1, h2, h3, h4 => by
    have b0 := h1.base
    have hne : ¬ (t = .nil ∧ T_event_halves.nil = .nil ∧ e = 0) := fun hc => by have := h4 hc.1; omega
    have hz : nf 0 T_event_halves.nil := Int.le_refl 0
    have hnd := evNodeIs (N := N) (n := 0) (a := e) (b := 0) (t := t) (u := .nil) (by omega) (by simp only [depthE]; omega) (by omega) (by simp [depthE]) (Int.le_refl 0) h1 hz (by omega) (by simp [maxE])
    have hnf := node_nf (n := 0) (Int.le_refl 0) h1 hz
    have hmx := node_max 0 e 0 t .nil
    rw [show min (0 : Int) 2097152 = 0 by omega, nodeE_mk hne] at hnd
    rw [nodeE_mk hne] at hnf hmx
    simp only [show min e 0 = 0 by omega, Int.add_zero, Int.sub_zero] at hnd hnf hmx
    have hm0 : maxE 0 T_event_halves.nil = 0 := rfl
    have hdp : depthE (.mk e t 0 .nil) = depthE t + 1 := by simp [depthE]
    have hck : checkE 0 (.mk e t 0 .nil) = if i < 16 then 0 else 3 := by
      unfold checkE
      rw [hdp, hmx, hm0]
      by_cases hi : i < 16
      · rw [if_neg (by omega), if_neg (by omega), if_pos hi]
      · rw [if_pos (by omega), if_neg hi]
    rw [hck] at hnd
    by_cases hi : i < 16
    · rw [if_pos hi, if_pos rfl] at hnd
      obtain ⟨f, u, r1, r2⟩ := limits_go hN hk m (i + 1) 0 (.mk e t 0 .nil) (by omega) hnf (by rw [hmx, hm0]; omega) (by rw [hdp]; omega) (fun hc => by cases hc)
      refine ⟨f, u, ?_, r2⟩
      rw [← r1]
      refine runL_next ?_
      unfold kinfolklaw02_EventLimits_L0_step
      simp only [dt (show (i : Int) < (k : Int) by omega), cond_true, hnd, Option.bind_some, decide_true, dt (show (i : Int) < 16 by omega), beq_self_eq_true]
      rw [iadd64 (by omega) (by omega)]
      rfl
    · rw [if_neg hi, if_neg (by decide)] at hnd
      obtain ⟨f, u, r1, r2⟩ := limits_go hN hk m (i + 1) e t (by omega) h1 h2 (by omega) h4
      refine ⟨f, u, ?_, r2⟩
      rw [← r1]
      refine runL_next ?_
      unfold kinfolklaw02_EventLimits_L0_step
      simp only [dt (show (i : Int) < (k : Int) by omega), cond_true, hnd, Option.bind_some, df (show ¬ (3 : Int) = 0 by decide), df (show ¬ (i : Int) < 16 by omega), beq_self_eq_true, cond_false, decide_true]
      rw [iadd64 (by omega) (by omega)]
      rfl
theorem eventLimits_true {N : Nat} {n depth base : Int} (hN : 40 ≤ N) (hn : 0 ≤ n ∧ n < 18446744073709551616) (hd : 0 ≤ depth ∧ depth < 256) (hb : 0 ≤ base ∧ base < 18446744073709551616) : kinfolklaw02_EventLimits N n depth base = some true := by
  -- the tower of nodes
  have hk : IntKind.i64.wrap (irem .u8 depth 19) = ((depth.toNat % 19 : Nat) : Int) := by
    rw [irem, Int.tmod_eq_emod_of_nonneg hd.1, i64_in (by omega) (by omega)]; omega
  obtain ⟨f, u, r1, r2⟩ := limits_go (N := N) (k := depth.toNat % 19) hN (by omega) (depth.toNat % 19) 0 1 .nil (by omega) (show (0 : Int) ≤ 1 by decide) (by simp [maxE]) (by simp [depthE]) (fun _ => rfl)
  have r1' : runL (kinfolklaw02_EventLimits_L0_step N ((depth.toNat % 19 : Nat) : Int) ((depth.toNat % 19 : Nat) : Int)) (0, 1, T_event_halves.nil) = some (.inr (f, u)) := r1
  have r3 := evDepth (N := N) (e := f) (t := u) (by omega) (by omega)
  have hkk : (decide ((depthE u : Int) = (if (16 : Int) < ((depth.toNat % 19 : Nat) : Int) then 16 else ((depth.toNat % 19 : Nat) : Int)))) = true := dt (by rw [r2]; split <;> omega)
  have l1 : event_Leaf 1 = some (1, 0) := rfl
  have z1 : nf 0 T_event_halves.nil := Int.le_refl 0
  unfold kinfolklaw02_EventLimits
  rw [awake_eq (by omega), hk]
  simp only [Option.bind_some, cond_true]
  by_cases hn1 : n ≤ 1048576
  · have l0 : event_Leaf n = some (n, 0) := by unfold event_Leaf; rw [df (by omega), cond_false]
    have hnn : nf n T_event_halves.nil := hn.1
    have hnd := evNodeIs (N := N) (n := base) (a := n) (b := 0) (t := .nil) (u := .nil) (by simp only [depthE]; omega) (by simp only [depthE]; omega) (by simp [depthE]) (by simp [depthE]) hb.1 hnn z1 (by simp only [maxE]; omega) (by simp [maxE])
    have hnf := node_nf (n := min base 2097152) (by omega) hnn z1
    have hmx := node_max (min base 2097152) n 0 .nil .nil
    have hdp := node_depth (min base 2097152) n 0 .nil .nil
    generalize hz : nodeE (min base 2097152) n .nil 0 .nil = z at *
    obtain ⟨e, t⟩ := z
    simp only [maxE, depthE] at hmx hdp hnf hnd
    have hck : checkE e t = if base ≤ 1048576 ∧ base + n ≤ 1048576 then 0 else 4 := by
      unfold checkE
      rw [if_neg (by omega), hmx]
      by_cases hi : base ≤ 1048576 ∧ base + n ≤ 1048576
      · rw [if_neg (by omega), if_pos hi]
      · rw [if_pos (by omega), if_neg hi]
    rw [hck] at hnd
    simp only [l0, Option.bind_some, decide_true, dt hn1, beq_self_eq_true, cond_true, hnd]
    by_cases hb1 : base ≤ 1048576
    · have ha : iadd .u64 base n = base + n := iaddU (by omega) (by omega)
      rw [dt hb1, cond_true, ha]
      by_cases hs : base + n ≤ 1048576
      · have hmax := evMax (N := N) (e := e) (t := t) (by omega) hnf (by omega)
        have hmv : maxE e t = base + n := by rw [hmx]; omega
        simp only [if_pos (show base ≤ 1048576 ∧ base + n ≤ 1048576 from ⟨hb1, hs⟩), if_true, decide_true, dt hs, beq_self_eq_true, cond_true, hmax, hmv, Option.bind_some, l1, r1', r3, hkk]
      · simp only [if_neg (show ¬ (base ≤ 1048576 ∧ base + n ≤ 1048576) from fun h => hs h.2), if_neg (show ¬ (4 : Int) = 0 by decide), df (show ¬ (4 : Int) = 0 by decide), df hs, beq_self_eq_true, cond_true, cond_false, decide_true, Option.bind_some, l1, r1', r3, hkk]
    · rw [df hb1, cond_false]
      simp only [if_neg (show ¬ (base ≤ 1048576 ∧ base + n ≤ 1048576) from fun h => hb1 h.1), if_neg (show ¬ (4 : Int) = 0 by decide), df (show ¬ (4 : Int) = 0 by decide), beq_self_eq_true, cond_true, cond_false, decide_true, Option.bind_some, l1, r1', r3, hkk]
  · have l0 : event_Leaf n = some (0, 4) := by unfold event_Leaf; rw [dt (by omega), cond_true]
    have hx : textE 0 T_event_halves.nil = [48] := by simp only [textE]; exact dec_small (by decide)
    have h5 := evText (N := N) (e := 0) (t := .nil) (by simp only [depthE]; omega) z1 (by simp [maxE]) (by rw [hx]; decide)
    rw [hx] at h5
    have h48 : mkS [48] = (⟨#[48]⟩ : ByteArray) := rfl
    simp only [l0, Option.bind_some, df (show ¬ (4 : Int) = 0 by decide), df hn1, beq_self_eq_true, cond_true, cond_false, decide_true, h5, h48, l1, r1', r3, hkk]
end Go.Proofs.YtjjakdmcnkldoaaDoor
