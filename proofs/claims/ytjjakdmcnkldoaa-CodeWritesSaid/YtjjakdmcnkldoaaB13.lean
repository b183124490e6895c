/- The document's bits are the bits that are written. Plain. -/
import Derived.Test.YtjjakdmcnkldoaaB12
import Derived.Test.YtjjakdmcnkldoaaA7
set_option linter.unusedVariables false
set_option linter.unusedSimpArgs false
namespace Go.Proofs.Ytjjakdmcnkldoaa
open Go.Ev

theorem rWithin {k : Nat} (hk : k ≤ 64) : kinfolkref05_within (k : Int) = some (k : Int) := by
  unfold kinfolkref05_within
  rw [df (show ¬ (k : Int) < 0 by omega), df (show ¬ (64 : Int) < (k : Int) by omega)]
  rfl
theorem rPut_go {l : List Bool} {k v : Nat} (hk : k ≤ 64) (hv : v < 2 ^ 64) : ∀ (m i : Nat), i + m = k → runL (kinfolkref05_Put_L0_2_step l (k : Int)) (((v / 2 ^ i : Nat) : Int), (i : Int), bitsN i v) = some (bitsN k v)
  | 0, i, hi => by
    obtain rfl : i = k := by omega
    refine runL_done ?_
    unfold kinfolkref05_Put_L0_2_step
    simp only [rWithin hk, Option.bind_some, df (show ¬ (i : Int) < (i : Int) by omega), cond_false]
  | m + 1, i, hi => by
    rw [← rPut_go hk hv m (i + 1) (by omega)]
    refine runL_next ?_
    have hd : v / 2 ^ i ≤ v := Nat.div_le_self _ _
    have e4 : decide (((v / 2 ^ i % 2 : Nat) : Int) = 1) = v.testBit i := by
      rw [Nat.testBit_eq_decide_div_mod_eq]
      apply decide_eq_decide.2
      omega
    have hqq : v / 2 ^ (i + 1) = v / 2 ^ i / 2 := by rw [Nat.pow_succ, Nat.div_div_eq_div_mul]
    rw [hqq]
    generalize v / 2 ^ i = q at *
    have e1 : iquo .u64 (q : Int) 2 = ((q / 2 : Nat) : Int) := by
      rw [iquo, Int.tdiv_eq_ediv_of_nonneg (by omega)]
      rw [show (2 : Int) = ((2 : Nat) : Int) from rfl, ← Int.natCast_ediv]
      exact u64_in (by omega) (by omega)
    have e2 : irem .u64 (q : Int) 2 = ((q % 2 : Nat) : Int) := by
      rw [irem, Int.tmod_eq_emod_of_nonneg (by omega)]; omega
    have e3 : iadd .i64 (i : Int) 1 = ((i + 1 : Nat) : Int) := by rw [iadd64 (by omega) (by omega)]; omega
    unfold kinfolkref05_Put_L0_2_step
    simp only [rWithin hk, Option.bind_some, dt (show (i : Int) < (k : Int) by omega), cond_true, e1, e2, e3, e4, List.take_length]
    have hb := bitsN_len i v
    cases i with
    | zero => rfl
    | succ i =>
      rw [show Nat.beq (bitsN (i + 1) v).length 0 = false by rw [hb]; rfl, cond_false, fits_ok (by rw [List.length_append, hb]; simp; omega)]
      rfl
theorem rPut {l : List Bool} {k v : Nat} (hk : k ≤ 64) (hv : v < 2 ^ 64) (hl : l.length ≤ 1000000) : kinfolkref05_Put l (v : Int) (k : Int) = some (l ++ bitsN k v) := by
  have h := rPut_go (l := l) hk hv k 0 (by omega)
  rw [Nat.pow_zero, Nat.div_one] at h
  have h' : runL (kinfolkref05_Put_L0_2_step l (k : Int)) ((v : Int), 0, []) = _ := h
  unfold kinfolkref05_Put
  rw [h']
  simp only [Option.bind_some, List.nil_append, List.take_length, List.length_append, bitsN_len]
  rw [fits_ok (by omega), fits_ok (by omega), fits_ok (by omega)]
  cases l with
  | nil => rfl
  | cons a l => rfl
theorem rPower_go {b : Nat} (hb : b < 64) : ∀ (m i : Nat), i + m = b → runL (kinfolkref05_power_L0_step (b : Int)) (((2 ^ i : Nat) : Int), (i : Int)) = some ((2 ^ b : Nat) : Int)
  | 0, i, hi => by
    obtain rfl : i = b := by omega
    refine runL_done ?_
    unfold kinfolkref05_power_L0_step
    simp only [df (show ¬ (i : Int) < (i : Int) by omega), cond_false]
  | m + 1, i, hi => by
    rw [← rPower_go hb m (i + 1) (by omega)]
    refine runL_next ?_
    have h2 : 2 ^ i < 2 ^ 63 := Nat.pow_lt_pow_right (by decide) (by omega)
    rw [Nat.pow_succ]
    generalize 2 ^ i = w at *
    have e1 : imul .u64 (w : Int) 2 = ((w * 2 : Nat) : Int) := by
      rw [imul, u64_in (by omega) (by omega)]; omega
    have e3 : iadd .i64 (i : Int) 1 = ((i + 1 : Nat) : Int) := by rw [iadd64 (by omega) (by omega)]; omega
    unfold kinfolkref05_power_L0_step
    simp only [dt (show (i : Int) < (b : Int) by omega), cond_true, e1, e3]
theorem rPower {b : Nat} (hb : b < 64) : kinfolkref05_power (b : Int) = some ((2 ^ b : Nat) : Int) := by
  have h := rPower_go hb b 0 (by omega)
  rw [Nat.pow_zero] at h
  have h' : runL (kinfolkref05_power_L0_step (b : Int)) (1, 0) = _ := h
  unfold kinfolkref05_power
  rw [h']
  rfl
/-- The loop of Num, from any place on: what is put in front and behind. -/
theorem rNum_go {l0 : List Bool} {n0 : Int} : ∀ (f b : Nat) {v : Nat} {l : List Bool}, f + b = 64 → v < 2 ^ 64 → l.length + f + 70 ≤ 1000000 →
    ∃ v' b' l', runL (kinfolkref05_Num_L0_step l0 n0) (.inr ((v : Int), (b : Int), l)) = some (.inr ((v' : Nat), (b' : Nat), l')) ∧ b' ≤ 64 ∧ v' < 2 ^ 64 ∧ l'.length ≤ l.length + f ∧ l' ++ (bitsN 1 0 ++ bitsN b' v') = l ++ encGo f b v
  | 0, b, v, l, hf, hv, hl => by
    obtain rfl : b = 64 := by omega
    refine ⟨v, 64, l, runL_done rfl, by omega, hv, by omega, rfl⟩
  | f + 1, b, v, l, hf, hv, hl => by
    have hb : b < 64 := by omega
    have hpow := rPower hb
    have hen : encGo (f + 1) b v = if 2 ^ b ≤ v then true :: encGo f (b + 1) (v - 2 ^ b) else false :: bitsN b v := rfl
    generalize 2 ^ b = w at *
    by_cases hlt : w ≤ v
    · have p1 : kinfolkref05_Put l 1 1 = some (l ++ bitsN 1 1) := rPut (v := 1) (k := 1) (by decide) (by decide) (by omega)
      have e1 : isub .u64 (v : Int) (w : Int) = ((v - w : Nat) : Int) := by rw [isubU (by omega) (by omega)]; omega
      have e2 : iadd .i64 (b : Int) 1 = ((b + 1 : Nat) : Int) := by rw [iadd64 (by omega) (by omega)]; omega
      have hs : kinfolkref05_Num_L0_step l0 n0 (.inr ((v : Int), (b : Int), l)) = some (.inl (.inr (((v - w : Nat) : Int), ((b + 1 : Nat) : Int), l ++ bitsN 1 1))) := by
        unfold kinfolkref05_Num_L0_step
        simp only [dt (show (b : Int) < 64 by omega), cond_true, hpow, Option.bind_some, dt (show (w : Int) ≤ (v : Int) by omega), p1, e1, e2]
      obtain ⟨v', b', l', r1, r2, r3, r4, r5⟩ := rNum_go (l0 := l0) (n0 := n0) f (b + 1) (v := v - w) (l := l ++ bitsN 1 1) (by omega) (by omega) (by simp [bitsN_len]; omega)
      refine ⟨v', b', l', by rw [runL_next hs, r1], r2, r3, by simp [bitsN_len] at r4; omega, ?_⟩
      rw [r5, hen, if_pos hlt, List.append_assoc]
      rfl
    · refine ⟨v, b, l, runL_done ?_, by omega, hv, by omega, ?_⟩
      · unfold kinfolkref05_Num_L0_step
        simp only [dt (show (b : Int) < 64 by omega), cond_true, hpow, Option.bind_some, df (show ¬ (w : Int) ≤ (v : Int) by omega), cond_false]
      · rw [hen, if_neg hlt]
        rfl
theorem rNum {l : List Bool} {v : Nat} (hv : v < 2 ^ 64) (hl : l.length ≤ 900000) : kinfolkref05_Num l (v : Int) = some (l ++ encNum v) := by
  unfold kinfolkref05_Num
  have q2 : kinfolkref05_power 2 = some 4 := rPower (b := 2) (by decide)
  have p1 : kinfolkref05_Put l 1 1 = some (l ++ bitsN 1 1) := rPut (v := 1) (k := 1) (by decide) (by decide) (by omega)
  have p0 : ∀ {m : List Bool}, m.length ≤ 1000000 → kinfolkref05_Put m 0 1 = some (m ++ bitsN 1 0) := fun hm => rPut (v := 0) (k := 1) (by decide) (by decide) hm
  by_cases hlt : 4 ≤ v
  · have e1 : isub .u64 (v : Int) 4 = ((v - 4 : Nat) : Int) := by rw [isubU (by omega) (by omega)]; omega
    have hs : kinfolkref05_Num_L0_step l (v : Int) (.inl ()) = some (.inl (.inr (((v - 4 : Nat) : Int), ((3 : Nat) : Int), l ++ bitsN 1 1))) := by
      unfold kinfolkref05_Num_L0_step
      simp only [q2, Option.bind_some, dt (show (4 : Int) ≤ (v : Int) by omega), cond_true, p1, e1]
      rfl
    obtain ⟨v', b', l', r1, r2, r3, r4, r5⟩ := rNum_go (l0 := l) (n0 := (v : Int)) 61 3 (v := v - 4) (l := l ++ bitsN 1 1) (by omega) (by omega) (by simp [bitsN_len]; omega)
    rw [runL_next hs, r1]
    simp only [List.length_append, bitsN_len] at r4
    simp only [Option.bind_some, p0 (show l'.length ≤ 1000000 by omega), rPut (v := v') (k := b') r2 r3 (show (l' ++ bitsN 1 0).length ≤ 1000000 by simp [bitsN_len]; omega)]
    have hen : encNum v = bitsN 1 1 ++ encGo 61 3 (v - 4) := by
      show encGo 62 2 v = _
      rw [encGo, if_pos (show 2 ^ 2 ≤ v from hlt)]
      rfl
    rw [List.append_assoc, r5, hen, List.append_assoc]
  · have hs : kinfolkref05_Num_L0_step l (v : Int) (.inl ()) = some (.inr (.inl ())) := by
      unfold kinfolkref05_Num_L0_step
      simp only [q2, Option.bind_some, df (show ¬ (4 : Int) ≤ (v : Int) by omega), cond_false]
    rw [runL_done hs]
    have p2 : ∀ {m : List Bool}, m.length ≤ 1000000 → kinfolkref05_Put m (v : Int) 2 = some (m ++ bitsN 2 v) := fun hm => rPut (v := v) (k := 2) (by decide) hv hm
    simp only [Option.bind_some, p0 (show l.length ≤ 1000000 by omega), p2 (show (l ++ bitsN 1 0).length ≤ 1000000 by simp [bitsN_len]; omega)]
    have hen : encNum v = bitsN 1 0 ++ bitsN 2 v := by
      show encGo 62 2 v = _
      rw [encGo, if_neg (show ¬ 2 ^ 2 ≤ v from hlt)]
      rfl
    rw [hen, List.append_assoc]
theorem rPut' {l : List Bool} (k v : Nat) (hk : k ≤ 2) (hv : v < 4) (hl : l.length ≤ 900000) : kinfolkref05_Put l (v : Int) (k : Int) = some (l ++ bitsN k v) := rPut (by omega) (by omega) (by omega)
theorem fromID_mk (i : Bool) (t : T_id_halves) : ∃ x y, fromID i t = .mk (match i, t with | true, _ => 1 | false, .nil => 0 | false, .mk .. => 2) x y := by
  cases i <;> cases t <;> exact ⟨_, _, rfl⟩
theorem kind0 (i : Bool) (t : T_id_halves) : (decide ((match i, t with | true, _ => (1 : Int) | false, .nil => 0 | false, .mk .. => 2) = 0)) = zeroID i t := by
  cases i <;> cases t <;> rfl
theorem rID : ∀ {N : Nat} {t : T_id_halves} {i : Bool} {l : List Bool}, depthID t < N → nfID i t → l.length + (encID i t).length ≤ 800000 → kinfolkref07_ID N l (fromID i t) = some (l ++ encID i t)
  | 0, t, i, l, hN, hw, hl => by omega
  | N + 1, t, i, l, hN, hw, hl => by
    unfold kinfolkref07_ID kinfolkref07_ID_b
    cases t with
    | nil =>
      have q0 : ∀ {m : List Bool} (v : Nat), v < 4 → m.length ≤ 900000 → kinfolkref05_Put m (v : Int) 1 = some (m ++ bitsN 1 v) := fun v hv hm => rPut' 1 v (by decide) hv hm
      have q1 : kinfolkref05_Put l 0 2 = some (l ++ bitsN 2 0) := rPut' 2 0 (by decide) (by decide) (by omega)
      have q2 : kinfolkref05_Put (l ++ bitsN 2 0) 0 1 = some (l ++ bitsN 2 0 ++ bitsN 1 0) := q0 0 (by decide) (by simp [bitsN_len]; omega)
      have q3 : kinfolkref05_Put (l ++ bitsN 2 0) 1 1 = some (l ++ bitsN 2 0 ++ bitsN 1 1) := q0 1 (by decide) (by simp [bitsN_len]; omega)
      cases i with
      | true =>
        simp only [fromID, dt (show (1 : Int) < 2 by decide), cond_true, q1, Option.bind_some, show IntKind.u64.wrap 1 = 1 from u64_in (by omega) (by omega), q3, encID, List.append_assoc]
      | false =>
        simp only [fromID, dt (show (0 : Int) < 2 by decide), cond_true, q1, Option.bind_some, show IntKind.u64.wrap 0 = 0 from u64_in (by omega) (by omega), q2, encID, List.append_assoc]
    | mk b x b2 y =>
      cases i with
      | true => exact hw.elim
      | false =>
        simp only [depthID] at hN
        obtain ⟨g1, g2, g3⟩ := hw
        obtain ⟨x1, x2, hx⟩ := fromID_mk b x
        obtain ⟨y1, y2, hy⟩ := fromID_mk b2 y
        have kx := kind0 b x
        have ky := kind0 b2 y
        have r1 := fun {m : List Bool} (h : m.length + (encID b x).length ≤ 800000) => rID (N := N) (t := x) (i := b) (l := m) (by omega) g1 h
        have r2 := fun {m : List Bool} (h : m.length + (encID b2 y).length ≤ 800000) => rID (N := N) (t := y) (i := b2) (l := m) (by omega) g2 h
        have q1 : kinfolkref05_Put l 1 2 = some (l ++ bitsN 2 1) := rPut' 2 1 (by decide) (by decide) (by omega)
        have q2 : kinfolkref05_Put l 2 2 = some (l ++ bitsN 2 2) := rPut' 2 2 (by decide) (by decide) (by omega)
        have q3 : kinfolkref05_Put l 3 2 = some (l ++ bitsN 2 3) := rPut' 2 3 (by decide) (by decide) (by omega)
        have hl' := hl
        simp only [encID] at hl' ⊢
        rw [hx] at r1
        rw [hy] at r2
        simp only [fromID, hx, hy, df (show ¬ (2 : Int) < 2 by decide), cond_false, kx, ky]
        cases hz : zeroID b x with
        | true =>
          rw [hz] at hl'
          simp only [if_true, List.length_append, bitsN_len] at hl'
          simp only [cond_true, q1, Option.bind_some, r2 (m := l ++ bitsN 2 1) (by simp only [List.length_append, bitsN_len]; omega), if_true, List.append_assoc]
        | false =>
          cases hz2 : zeroID b2 y with
          | true =>
            rw [hz, hz2] at hl'
            simp only [if_true, Bool.false_eq_true, if_false, List.length_append, bitsN_len] at hl'
            simp only [cond_true, cond_false, q2, Option.bind_some, r1 (m := l ++ bitsN 2 2) (by simp only [List.length_append, bitsN_len]; omega), if_true, Bool.false_eq_true, if_false, List.append_assoc]
          | false =>
            rw [hz, hz2] at hl'
            simp only [if_true, Bool.false_eq_true, if_false, List.length_append, bitsN_len] at hl'
            simp only [cond_true, cond_false, q3, Option.bind_some, r1 (m := l ++ bitsN 2 3) (by simp only [List.length_append, bitsN_len]; omega), Bool.false_eq_true, if_false]
            rw [r2 (by simp only [List.length_append, bitsN_len]; omega)]
            simp only [Option.bind_some, List.append_assoc]
theorem fromEv_zero (e : Int) (t : T_event_halves) : kinfolkref07_zero (fromEv e t) = some (zeroEv e t) := by
  cases t with
  | nil => rfl
  | mk a x b y => cases x <;> rfl
theorem rEv : ∀ {N : Nat} {t : T_event_halves} {e : Int} {l : List Bool}, depthE t < N → wfE e t → l.length + (encEv e t).length ≤ 800000 → kinfolkref07_Event N l (fromEv e t) = some (l ++ encEv e t)
  | 0, t, e, l, hN, hw, hl => by omega
  | N + 1, t, e, l, hN, hw, hl => by
    unfold kinfolkref07_Event kinfolkref07_Event_b
    have hbase := hw.ok.base
    have nt : ((e.toNat : Nat) : Int) = e := by omega
    have num := fun {m : List Bool} (h : m.length ≤ 900000) => rNum (l := m) (v := e.toNat) (by omega) h
    rw [nt] at num
    have put1 := fun {m : List Bool} (v : Nat) (hv : v < 4) (h : m.length ≤ 900000) => rPut' (l := m) 1 v (by decide) hv h
    have put2 := fun {m : List Bool} (v : Nat) (hv : v < 4) (h : m.length ≤ 900000) => rPut' (l := m) 2 v (by decide) hv h
    cases t with
    | nil =>
      simp only [encEv, List.length_append, bitsN_len] at hl
      have q1 : kinfolkref05_Put l 1 1 = some (l ++ bitsN 1 1) := put1 1 (by decide) (by omega)
      simp only [fromEv, q1, Option.bind_some, num (m := l ++ bitsN 1 1) (by simp only [List.length_append, bitsN_len]; omega), encEv, List.append_assoc]
    | mk a x b y =>
      simp only [depthE] at hN
      obtain ⟨w1, w2, w3, w4, w5⟩ := hw
      have r1 := fun {m : List Bool} (h : m.length + (encEv a x).length ≤ 800000) => rEv (N := N) (t := x) (e := a) (l := m) (by omega) w2 h
      have r2 := fun {m : List Bool} (h : m.length + (encEv b y).length ≤ 800000) => rEv (N := N) (t := y) (e := b) (l := m) (by omega) w3 h
      have zx := fromEv_zero a x
      have zy := fromEv_zero b y
      obtain ⟨x1, x2, x3, hx⟩ : ∃ x1 x2 x3, fromEv a x = .mk x1 x2 x3 := by cases x <;> exact ⟨_, _, _, rfl⟩
      have q0 : kinfolkref05_Put l 0 1 = some (l ++ bitsN 1 0) := put1 0 (by decide) (by omega)
      rw [hx] at r1 zx
      simp only [fromEv, hx]
      simp only [q0, Option.bind_some, zx, zy]
      simp only [encEv] at hl ⊢
      have nz : ¬ (zeroEv a x = true ∧ zeroEv b y = true) := by
        rintro ⟨h1, h2⟩
        obtain ⟨rfl, rfl⟩ := zeroEv_eq h1
        obtain ⟨rfl, rfl⟩ := zeroEv_eq h2
        exact w5 ⟨rfl, rfl, rfl⟩
      by_cases h0 : e = 0
      · rw [if_pos h0, if_neg (show ¬ 0 < e by omega)] at *
        rw [dt h0, cond_true]
        cases hz : zeroEv a x with
        | true =>
          have hz2 : zeroEv b y = false := by
            cases hz2 : zeroEv b y with
            | false => rfl
            | true => exact absurd ⟨hz, hz2⟩ nz
          simp only [hz, hz2, if_true, Bool.false_eq_true, if_false, List.length_append, bitsN_len, List.nil_append] at hl ⊢
          have q1 : kinfolkref05_Put (l ++ bitsN 1 0) 0 2 = some (l ++ bitsN 1 0 ++ bitsN 2 0) := put2 0 (by decide) (by simp only [List.length_append, bitsN_len]; omega)
          rw [cond_true, q1, Option.bind_some, r2 (by simp only [List.length_append, bitsN_len]; omega)]
          simp only [Option.bind_some, List.append_assoc]
        | false =>
          cases hz2 : zeroEv b y with
          | true =>
            simp only [hz, hz2, if_true, Bool.false_eq_true, if_false, List.length_append, bitsN_len, List.nil_append, List.append_nil] at hl ⊢
            have q1 : kinfolkref05_Put (l ++ bitsN 1 0) 1 2 = some (l ++ bitsN 1 0 ++ bitsN 2 1) := put2 1 (by decide) (by simp only [List.length_append, bitsN_len]; omega)
            simp only [cond_true, cond_false, q1, Option.bind_some]
            rw [r1 (by simp only [List.length_append, bitsN_len]; omega)]
            simp only [Option.bind_some, List.append_assoc]
          | false =>
            simp only [hz, hz2, if_true, Bool.false_eq_true, if_false, List.length_append, bitsN_len, List.nil_append] at hl ⊢
            have q1 : kinfolkref05_Put (l ++ bitsN 1 0) 2 2 = some (l ++ bitsN 1 0 ++ bitsN 2 2) := put2 2 (by decide) (by simp only [List.length_append, bitsN_len]; omega)
            simp only [cond_true, cond_false, q1, Option.bind_some]
            rw [r1 (by simp only [List.length_append, bitsN_len]; omega)]
            simp only [Option.bind_some]
            rw [r2 (by simp only [List.length_append, bitsN_len]; omega)]
            simp only [Option.bind_some, List.append_assoc]
      · rw [if_neg h0, if_pos (show 0 < e by omega)] at *
        rw [df h0, cond_false]
        have q3 : kinfolkref05_Put (l ++ bitsN 1 0) 3 2 = some (l ++ bitsN 1 0 ++ bitsN 2 3) := by
          simp only [List.length_append, bitsN_len] at hl
          exact put2 3 (by decide) (by simp only [List.length_append, bitsN_len]; omega)
        rw [q3, Option.bind_some]
        cases hz : zeroEv a x with
        | true =>
          have hz2 : zeroEv b y = false := by
            cases hz2 : zeroEv b y with
            | false => rfl
            | true => exact absurd ⟨hz, hz2⟩ nz
          simp only [hz, hz2, if_true, Bool.false_eq_true, if_false, List.length_append, bitsN_len, List.nil_append] at hl ⊢
          have q1 : kinfolkref05_Put (l ++ bitsN 1 0 ++ bitsN 2 3) 0 2 = some (l ++ bitsN 1 0 ++ bitsN 2 3 ++ bitsN 2 0) := put2 0 (by decide) (by simp only [List.length_append, bitsN_len]; omega)
          rw [cond_true, q1, Option.bind_some, num (by simp only [List.length_append, bitsN_len]; omega), Option.bind_some, r2 (by simp only [List.length_append, bitsN_len]; omega)]
          simp only [Option.bind_some, List.append_assoc]
        | false =>
          cases hz2 : zeroEv b y with
          | true =>
            simp only [hz, hz2, if_true, Bool.false_eq_true, if_false, List.length_append, bitsN_len, List.nil_append, List.append_nil] at hl ⊢
            have q1 : kinfolkref05_Put (l ++ bitsN 1 0 ++ bitsN 2 3) 1 2 = some (l ++ bitsN 1 0 ++ bitsN 2 3 ++ bitsN 2 1) := put2 1 (by decide) (by simp only [List.length_append, bitsN_len]; omega)
            simp only [cond_true, cond_false, q1, Option.bind_some]
            rw [num (by simp only [List.length_append, bitsN_len]; omega), Option.bind_some, r1 (by simp only [List.length_append, bitsN_len]; omega)]
            simp only [Option.bind_some, List.append_assoc]
          | false =>
            simp only [hz, hz2, if_true, Bool.false_eq_true, if_false, List.length_append, bitsN_len, List.nil_append] at hl ⊢
            have q1 : kinfolkref05_Put (l ++ bitsN 1 0 ++ bitsN 2 3) 1 1 = some (l ++ bitsN 1 0 ++ bitsN 2 3 ++ bitsN 1 1) := put1 1 (by decide) (by simp only [List.length_append, bitsN_len]; omega)
            simp only [cond_true, cond_false, q1, Option.bind_some]
            rw [num (by simp only [List.length_append, bitsN_len]; omega), Option.bind_some, r1 (by simp only [List.length_append, bitsN_len]; omega)]
            simp only [Option.bind_some]
            rw [r2 (by simp only [List.length_append, bitsN_len]; omega)]
            simp only [Option.bind_some, List.append_assoc]
end Go.Proofs.Ytjjakdmcnkldoaa
