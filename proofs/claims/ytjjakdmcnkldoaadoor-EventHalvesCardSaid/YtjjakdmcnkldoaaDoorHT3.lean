/- Texts: bytes as lists; numerals; a tree's text. Plain. -/
import Derived.Test.YtjjakdmcnkldoaaDoorHT2
set_option linter.unusedVariables false
set_option linter.unusedSimpArgs false
namespace Go.Proofs.YtjjakdmcnkldoaaDoor
open Go.Ev Go.Lib

/-! ### Bytes as lists -/
def mkS (l : List UInt8) : ByteArray := ⟨l.toArray⟩
theorem mkS_size (l : List UInt8) : (mkS l).size = l.length := by simp [mkS, ByteArray.size]
theorem mkS_app (l m : List UInt8) : mkS l ++ mkS m = mkS (l ++ m) := by
  apply ByteArray.ext
  simp [mkS, ByteArray.data_append]
theorem mkS_inj {l m : List UInt8} : mkS l = mkS m ↔ l = m := by
  constructor
  · intro h
    have := congrArg (fun s => s.data.toList) h
    simpa [mkS] using this
  · rintro rfl; rfl
theorem mkS_of (s : ByteArray) : mkS s.data.toList = s := by
  apply ByteArray.ext
  simp [mkS]
theorem mkS_get (l : List UInt8) (i : Nat) : (mkS l).data.getD i 0 = l.getD i 0 := by
  simp [mkS, Array.getD_eq_getD_getElem?, List.getD]
theorem mkS_ext (l : List UInt8) (a b : Nat) : (mkS l).extract a b = mkS ((l.take b).drop a) := by
  apply ByteArray.ext
  simp only [mkS, ByteArray.data_extract]
  apply Array.ext'
  simp only [Array.toList_extract, List.extract_eq_take_drop]
  rw [List.drop_take]

/-! ### Numerals -/
theorem dec_small {u : Nat} (h : u < 10) : decDigits u = [UInt8.ofNat (48 + u)] := by rw [decDigits, dif_pos h]
theorem dec_big {u : Nat} (h : ¬ u < 10) : decDigits u = decDigits (u / 10) ++ [UInt8.ofNat (48 + u % 10)] := by rw [decDigits, dif_neg h]
theorem dec_len : ∀ {k u : Nat}, 1 ≤ k → u < 10 ^ k → (decDigits u).length ≤ k
  | 0, u, h1, h => by omega
  | k + 1, u, h1, h => by
    by_cases hu : u < 10
    · rw [dec_small hu]; simp
    · rw [dec_big hu, List.length_append, List.length_singleton]
      have hk : 1 ≤ k := by
        rcases Nat.eq_zero_or_pos k with rfl | hk
        · rw [Nat.zero_add, Nat.pow_one] at h; omega
        · exact hk
      have h3 : u / 10 < 10 ^ k := by
        rw [Nat.pow_succ] at h
        exact Nat.div_lt_of_lt_mul (by omega)
      have := dec_len (k := k) hk h3
      omega
/-- A digit. -/
def digB (c : UInt8) : Bool := decide (48 ≤ c.toNat) && decide (c.toNat ≤ 57)
theorem dig_of {d : Nat} (h : d < 10) : (UInt8.ofNat (48 + d)).toNat = 48 + d := by
  rw [UInt8.toNat_ofNat']; omega
theorem dec_digs : ∀ (u : Nat), ∀ c ∈ decDigits u, digB c = true := by
  intro u
  induction u using Nat.strongRecOn with
  | _ u ih =>
    intro c hc
    by_cases hu : u < 10
    · rw [dec_small hu, List.mem_singleton] at hc
      rw [hc, digB, dig_of hu]; simp; omega
    · rw [dec_big hu, List.mem_append, List.mem_singleton] at hc
      rcases hc with hc | rfl
      · exact ih (u / 10) (by omega) c hc
      · rw [digB, dig_of (by omega)]; simp; omega
theorem dec_ne (u : Nat) : decDigits u ≠ [] := by
  by_cases hu : u < 10
  · rw [dec_small hu]; simp
  · rw [dec_big hu]; simp
/-- The number that digits are. -/
def dval (l : List UInt8) : Nat := l.foldl (fun a c => 10 * a + (c.toNat - 48)) 0
theorem dval_snoc (l : List UInt8) (c : UInt8) : dval (l ++ [c]) = 10 * dval l + (c.toNat - 48) := by simp [dval, List.foldl_append]
theorem dval_dec : ∀ (u : Nat), dval (decDigits u) = u := by
  intro u
  induction u using Nat.strongRecOn with
  | _ u ih =>
    by_cases hu : u < 10
    · rw [dec_small hu]
      show 10 * 0 + ((UInt8.ofNat (48 + u)).toNat - 48) = u
      rw [dig_of hu]; omega
    · rw [dec_big hu, dval_snoc, ih (u / 10) (by omega), dig_of (by omega)]; omega
theorem dec_inj {u v : Nat} (h : decDigits u = decDigits v) : u = v := by rw [← dval_dec u, h, dval_dec]
theorem const_digit : ∀ d : Fin 10, (⟨#[48, 49, 50, 51, 52, 53, 54, 55, 56, 57]⟩ : ByteArray).extract d.val (d.val + 1) = mkS [UInt8.ofNat (48 + d.val)] := by decide
theorem rDec : ∀ {N : Nat} {u : Nat}, 1 ≤ N → u < 10 ^ N → u < 18446744073709551616 → kinfolkref02_Dec N (u : Int) = some (mkS (decDigits u))
  | 0, u, hN, h, h2 => by omega
  | N + 1, u, hN, h, h2 => by
    unfold kinfolkref02_Dec kinfolkref02_Dec_b
    have e1 : irem .u64 (u : Int) 10 = ((u % 10 : Nat) : Int) := by rw [irem, Int.tmod_eq_emod_of_nonneg (by omega)]; omega
    have e2 : iadd .u64 ((u % 10 : Nat) : Int) 1 = ((u % 10 + 1 : Nat) : Int) := by rw [iaddU (by omega) (by omega)]; omega
    have e3 : iquo .u64 (u : Int) 10 = ((u / 10 : Nat) : Int) := by
      rw [iquo, Int.tdiv_eq_ediv_of_nonneg (by omega), show (10 : Int) = ((10 : Nat) : Int) from rfl, ← Int.natCast_ediv]
      exact u64_in (by omega) (by omega)
    have hc := const_digit ⟨u % 10, Nat.mod_lt _ (by decide)⟩
    have hsz : ((⟨#[48, 49, 50, 51, 52, 53, 54, 55, 56, 57]⟩ : ByteArray).size : Int) = 10 := rfl
    have hd := dec_len (k := N + 1) (u := u) (by omega) h
    simp only [e1, e2, e3, hsz, Int.toNat_natCast, hc, dt (show (0 : Int) ≤ ((u % 10 : Nat) : Int) by omega), dt (show ((u % 10 : Nat) : Int) ≤ ((u % 10 + 1 : Nat) : Int) by omega), dt (show ((u % 10 + 1 : Nat) : Int) ≤ 10 by omega), Bool.and_self, cond_true]
    by_cases hu : u < 10
    · rw [dt (show (u : Int) < 10 by omega), cond_true, dec_small hu, Nat.mod_eq_of_lt hu]
    · have h3 : u / 10 < 10 ^ N := by
        rw [Nat.pow_succ] at h
        exact Nat.div_lt_of_lt_mul (by omega)
      have hd2 : (decDigits (u / 10)).length ≤ 20 := dec_len (by decide) (show u / 10 < 10 ^ 20 by omega)
      have hN1 : 1 ≤ N := by
        rcases Nat.eq_zero_or_pos N with rfl | hk
        · rw [Nat.pow_zero] at h3; omega
        · exact hk
      rw [df (show ¬ (u : Int) < 10 by omega), cond_false, rDec hN1 h3 (by omega)]
      simp only [Option.bind_some, mkS_size, List.length_singleton]
      rw [dt (by omega), cond_true, mkS_app, ← dec_big hu]
theorem fmt10 {u : Nat} (h : u < 18446744073709551616) : strconv_FormatUint (u : Int) 10 = some (mkS (decDigits u)) := by
  unfold strconv_FormatUint strconv_FormatUint10
  rw [if_pos ⟨rfl, by omega, by omega⟩]
  rfl

/-! ### A tree's text -/
def textE : Int → Tr → List UInt8
  | e, .nil => decDigits e.toNat
  | e, .mk a t b u => [40] ++ decDigits e.toNat ++ [44] ++ textE a t ++ [44] ++ textE b u ++ [41]
theorem text_len : ∀ {t : Tr} {e : Int}, nf e t → maxE e t ≤ 1099511627776 → (textE e t).length + 24 ≤ 48 * 2 ^ depthE t
  | .nil, e, h, hm => by
    have h0 := h.base
    simp only [maxE] at hm
    have : (decDigits e.toNat).length ≤ 20 := dec_len (by decide) (show e.toNat < 10 ^ 20 by omega)
    simp only [textE, depthE, Nat.pow_zero]; omega
  | .mk a t b u, e, h, hm => by
    have h0 := h.1
    have g1 := maxE_ge h.2.1
    have g2 := maxE_ge h.2.2.1
    have b1 := h.2.1.base
    have b2 := h.2.2.1.base
    simp only [maxE] at hm
    have hd : (decDigits e.toNat).length ≤ 20 := dec_len (by decide) (show e.toNat < 10 ^ 20 by omega)
    have r1 := text_len h.2.1 (by omega)
    have r2 := text_len h.2.2.1 (by omega)
    have p1 : 2 ^ depthE t ≤ 2 ^ max (depthE t) (depthE u) := Nat.pow_le_pow_right (by decide) (by omega)
    have p2 : 2 ^ depthE u ≤ 2 ^ max (depthE t) (depthE u) := Nat.pow_le_pow_right (by decide) (by omega)
    simp only [textE, depthE, Nat.pow_succ, List.length_append, List.length_singleton]
    omega
theorem s40 : (⟨#[40]⟩ : ByteArray) = mkS [40] := rfl
theorem s41 : (⟨#[41]⟩ : ByteArray) = mkS [41] := rfl
theorem s44 : (⟨#[44]⟩ : ByteArray) = mkS [44] := rfl
theorem s48 : (⟨#[48]⟩ : ByteArray) = mkS [48] := rfl
theorem s0 : (⟨#[]⟩ : ByteArray) = mkS [] := rfl
theorem evText : ∀ {N : Nat} {e : Int} {t : Tr}, depthE t < N → nf e t → maxE e t ≤ 1099511627776 → (textE e t).length ≤ 140737488355328 → event_Event_Text N e t = some (mkS (textE e t))
  | 0, e, t, hN, h, hm, hl => by omega
  | N + 1, e, t, hN, h, hm, hl => by
    unfold event_Event_Text event_Event_Text_b
    have h0 := h.base
    have g0 := maxE_ge h
    obtain ⟨u, rfl⟩ : ∃ u : Nat, e = (u : Int) := ⟨e.toNat, by omega⟩
    rw [fmt10 (by omega)]
    cases t with
    | nil => simp only [Option.bind_some, textE, Int.toNat_natCast]
    | mk a t b v =>
      obtain ⟨-, n1, n2, -, -⟩ := h
      have g1 := maxE_ge n1
      have g2 := maxE_ge n2
      have b1 := n1.base
      have b2 := n2.base
      simp only [maxE] at hm
      simp only [depthE] at hN
      simp only [textE, List.length_append, List.length_singleton, Int.toNat_natCast] at hl
      have r1 := evText (N := N) (by omega) n1 (by omega) (by omega)
      have r2 := evText (N := N) (by omega) n2 (by omega) (by omega)
      simp only [Option.bind_some, s40, s41, s44, mkS_app, mkS_size, List.length_append, List.length_singleton, r1, r2]
      rw [dt (by omega), cond_true, dt (by omega), cond_true, dt (by omega), cond_true, dt (by omega), cond_true, dt (by omega), cond_true, dt (by omega), cond_true]
      simp only [textE, Int.toNat_natCast]
theorem rText : ∀ {N : Nat} {e : Int} {t : Tr}, depthE t + 20 < N → nf e t → maxE e t ≤ 1099511627776 → (textE e t).length ≤ 140737488355328 → kinfolkref02_Text N (fromEv e t) = some (mkS (textE e t))
  | 0, e, t, hN, h, hm, hl => by omega
  | N + 1, e, t, hN, h, hm, hl => by
    unfold kinfolkref02_Text kinfolkref02_Text_b
    have h0 := h.base
    have g0 := maxE_ge h
    obtain ⟨u, rfl⟩ : ∃ u : Nat, e = (u : Int) := ⟨e.toNat, by omega⟩
    have hp : 10 ^ 20 ≤ 10 ^ N := Nat.pow_le_pow_right (by decide) (by omega)
    have hdec := rDec (N := N) (u := u) (by omega) (by omega) (by omega)
    cases t with
    | nil => simp only [fromEv, hdec, Option.bind_some, textE, Int.toNat_natCast]
    | mk a t b v =>
      obtain ⟨-, n1, n2, -, -⟩ := h
      have g1 := maxE_ge n1
      have g2 := maxE_ge n2
      have b1 := n1.base
      have b2 := n2.base
      simp only [maxE] at hm
      simp only [depthE] at hN
      simp only [textE, List.length_append, List.length_singleton, Int.toNat_natCast] at hl
      have r1 := rText (N := N) (by omega) n1 (by omega) (by omega)
      have r2 := rText (N := N) (by omega) n2 (by omega) (by omega)
      obtain ⟨x, y, hx⟩ := fromEv_mk a t
      rw [hx] at r1
      simp only [fromEv, hx, hdec, Option.bind_some, s40, s41, s44, mkS_app, mkS_size, List.length_append, List.length_singleton, r1, r2]
      rw [dt (by omega), cond_true, dt (by omega), cond_true, dt (by omega), cond_true, dt (by omega), cond_true, dt (by omega), cond_true, dt (by omega), cond_true]
      simp only [textE, Int.toNat_natCast]
/-- Digits, and what is none. -/
def stop : List UInt8 → Prop
  | [] => True
  | c :: _ => digB c = false
theorem digs_split : ∀ {a b r s : List UInt8}, (∀ c ∈ a, digB c = true) → (∀ c ∈ b, digB c = true) → stop r → stop s → a ++ r = b ++ s → a = b ∧ r = s
  | [], [], r, s, h1, h2, h3, h4, h => ⟨rfl, h⟩
  | [], c :: b, r, s, h1, h2, h3, h4, h => by
    simp only [List.nil_append, List.cons_append] at h
    subst h
    have := h2 c (by simp)
    simp only [stop] at h3
    rw [h3] at this; cases this
  | c :: a, [], r, s, h1, h2, h3, h4, h => by
    simp only [List.nil_append, List.cons_append] at h
    subst h
    have := h1 c (by simp)
    simp only [stop] at h4
    rw [h4] at this; cases this
  | c :: a, d :: b, r, s, h1, h2, h3, h4, h => by
    simp only [List.cons_append, List.cons.injEq] at h
    obtain ⟨rfl, h⟩ := h
    obtain ⟨h5, h6⟩ := digs_split (fun c hc => h1 c (by simp [hc])) (fun c hc => h2 c (by simp [hc])) h3 h4 h
    exact ⟨by rw [h5], h6⟩
theorem text_inj : ∀ {t u : Tr} {e f : Int} {r s : List UInt8}, nf e t → nf f u → stop r → stop s → textE e t ++ r = textE f u ++ s → e = f ∧ t = u ∧ r = s
  | .nil, .nil, e, f, r, s, h1, h2, h3, h4, h => by
    simp only [textE] at h
    obtain ⟨h5, h6⟩ := digs_split (dec_digs _) (dec_digs _) h3 h4 h
    have := dec_inj h5
    have := h1.base
    have := h2.base
    exact ⟨by omega, rfl, h6⟩
  | .nil, .mk a t b u, e, f, r, s, h1, h2, h3, h4, h => by
    exfalso
    simp only [textE, List.append_assoc] at h
    have hd := dec_digs e.toNat
    cases hq : decDigits e.toNat with
    | nil => exact dec_ne _ hq
    | cons c l =>
      rw [hq] at h hd
      simp only [List.cons_append, List.nil_append, List.cons.injEq] at h
      have := hd c (by simp)
      rw [h.1] at this
      exact absurd this (by decide)
  | .mk a t b u, .nil, e, f, r, s, h1, h2, h3, h4, h => by
    exfalso
    simp only [textE, List.append_assoc] at h
    have hd := dec_digs f.toNat
    cases hq : decDigits f.toNat with
    | nil => exact dec_ne _ hq
    | cons c l =>
      rw [hq] at h hd
      simp only [List.cons_append, List.nil_append, List.cons.injEq] at h
      have := hd c (by simp)
      rw [← h.1] at this
      exact absurd this (by decide)
  | .mk a t b u, .mk a' t' b' u', e, f, r, s, h1, h2, h3, h4, h => by
    simp only [textE, List.append_assoc, List.cons_append, List.nil_append, List.cons.injEq, true_and] at h
    have c44 : ∀ l : List UInt8, stop (44 :: l) := fun l => (by decide : digB 44 = false)
    have c41 : ∀ l : List UInt8, stop (41 :: l) := fun l => (by decide : digB 41 = false)
    obtain ⟨q1, q2⟩ := digs_split (dec_digs _) (dec_digs _) (c44 _) (c44 _) h
    simp only [List.cons.injEq, true_and] at q2
    obtain ⟨q3, q4, q5⟩ := text_inj h1.2.1 h2.2.1 (c44 _) (c44 _) q2
    simp only [List.cons.injEq, true_and] at q5
    obtain ⟨q6, q7, q8⟩ := text_inj h1.2.2.1 h2.2.2.1 (c41 _) (c41 _) q5
    simp only [List.cons.injEq, true_and] at q8
    have := dec_inj q1
    have := h1.1
    have := h2.1
    exact ⟨by omega, by rw [q3, q4, q6, q7], q8⟩
theorem text_iff {t u : Tr} {e f : Int} (h1 : nf e t) (h2 : nf f u) : textE e t = textE f u ↔ (e = f ∧ t = u) := by
  constructor
  · intro h
    obtain ⟨a, b, -⟩ := text_inj (r := []) (s := []) h1 h2 trivial trivial (by simpa using h)
    exact ⟨a, b⟩
  · rintro ⟨rfl, rfl⟩; rfl

/-! ### A tree is the document's -/
theorem evLike : ∀ {N : Nat} {e : Int} {t : Tr}, depthE t + 21 < N → depthE t ≤ 30 → nf e t → maxE e t ≤ 1099511627776 → kinfolklaw02_like N e t (fromEv e t) = some true
  | 0, e, t, hN, hd, h, hm => by omega
  | N + 1, e, t, hN, hd, h, hm => by
    unfold kinfolklaw02_like kinfolklaw02_like_b
    have hl := text_len h hm
    have hp : 2 ^ depthE t ≤ 2 ^ 30 := Nat.pow_le_pow_right (by decide) hd
    have p1 := rMin (N := N) (e := e) (t := t) (by omega) h hm
    have p2 := evMax (N := N) (e := e) (t := t) (by omega) h hm
    have p3 := rMax (N := N) (e := e) (t := t) (by omega) h hm
    have p4 := evDepth (N := N) (e := e) (t := t) (by omega) (by omega)
    have p5 := rDepth (N := N) (e := e) (t := t) (by omega) (by omega)
    have p6 := evText (N := N) (e := e) (t := t) (by omega) h hm (by omega)
    have p7 := rText (N := N) (e := e) (t := t) (by omega) h hm (by omega)
    have z1 : nf 0 T_event_halves.nil := Int.le_refl 0
    have z2 := evText (N := N) (e := 0) (t := .nil) (by simp only [depthE]; omega) z1 (by simp [maxE]) (by
      have := text_len z1 (by simp [maxE])
      simp only [depthE, Nat.pow_zero] at this
      omega)
    have z3 : textE 0 T_event_halves.nil = [48] := by simp only [textE]; exact dec_small (by decide)
    rw [z3] at z2
    cases t with
    | nil =>
      simp only [fromEv] at p1 p3 p5 p7 ⊢
      simp only [event_Event_IsLeaf, event_Event_Base, event_Event_Min, Option.bind_some, beq_self_eq_true, cond_true, decide_true, p1, p2, p3, p4, p5, p6, p7, event_Event_Left, event_Event_Right, z2, s48]
    | mk a t b u =>
      simp only [depthE] at hN hd
      simp only [maxE] at hm
      obtain ⟨g0, n1, n2, g5, g6⟩ := h
      have g1 := maxE_ge n1
      have g2 := maxE_ge n2
      have g3 := n1.base
      have g4 := n2.base
      have r1 := evLike (N := N) (by omega) (by omega) n1 (by omega)
      have r2 := evLike (N := N) (by omega) (by omega) n2 (by omega)
      obtain ⟨x, y, hx⟩ := fromEv_mk a t
      simp only [fromEv, hx] at p1 p3 p5 p7 r1 ⊢
      simp only [event_Event_IsLeaf, event_Event_Base, event_Event_Min, Option.bind_some, beq_self_eq_true, cond_true, decide_true, p1, p2, p3, p4, p5, p6, p7, event_Event_Left, event_Event_Right, r1, r2]
end Go.Proofs.YtjjakdmcnkldoaaDoor
