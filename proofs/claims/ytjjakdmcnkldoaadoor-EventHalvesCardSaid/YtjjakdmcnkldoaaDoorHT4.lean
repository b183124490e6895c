/- Reading a tree: on lists, and what both readers make of it. Plain. -/
import Derived.Test.YtjjakdmcnkldoaaDoorHT3
set_option linter.unusedVariables false
set_option linter.unusedSimpArgs false

namespace Go.Proofs.YtjjakdmcnkldoaaDoor
open Go.Ev Go.Lib

/-! ### Numerals read -/
theorem digB_iff {c : UInt8} : digB c = true ↔ 48 ≤ c.toNat ∧ c.toNat ≤ 57 := by simp [digB]
theorem dval_cons_go : ∀ (l : List UInt8) (a : Nat), (∀ c ∈ l, digB c = true) → l.foldl (fun a c => 10 * a + (c.toNat - 48)) a < (a + 1) * 10 ^ l.length
  | [], a, h => by simp
  | c :: l, a, h => by
    have hc := digB_iff.1 (h c (by simp))
    have := dval_cons_go l (10 * a + (c.toNat - 48)) (fun c hc => h c (by simp [hc]))
    have h2 : (10 * a + (c.toNat - 48) + 1) * 10 ^ l.length ≤ (10 * (a + 1)) * 10 ^ l.length := Nat.mul_le_mul_right _ (by omega)
    simp only [List.foldl_cons, List.length_cons]
    rw [Nat.pow_succ, Nat.mul_comm (10 ^ l.length) 10, ← Nat.mul_assoc, Nat.mul_comm (a + 1) 10]
    omega
theorem dval_lt {l : List UInt8} (h : ∀ c ∈ l, digB c = true) : dval l < 10 ^ l.length := by
  have := dval_cons_go l 0 h
  simp only [Nat.zero_add, Nat.one_mul] at this
  exact this
theorem dec_head : ∀ (u : Nat), (decDigits u).head? = some 48 → u = 0 := by
  intro u
  induction u using Nat.strongRecOn with
  | _ u ih =>
    intro h
    by_cases hu : u < 10
    · rw [dec_small hu] at h
      simp only [List.head?_cons, Option.some.injEq] at h
      have := congrArg UInt8.toNat h
      rw [dig_of hu] at this
      have h48 : (48 : UInt8).toNat = 48 := rfl
      omega
    · rw [dec_big hu] at h
      cases hq : decDigits (u / 10) with
      | nil => exact absurd hq (dec_ne _)
      | cons c l =>
        rw [hq] at h
        have := ih (u / 10) (by omega) (by rw [hq]; simpa using h)
        omega
theorem canon : ∀ {n : Nat} {D : List UInt8}, D.length = n → (∀ c ∈ D, digB c = true) → D ≠ [] → ¬ (2 ≤ D.length ∧ D.head? = some 48) → decDigits (dval D) = D := by
  intro n
  induction n with
  | zero => intro D hl hd hn; exact absurd (List.length_eq_zero_iff.1 hl) hn
  | succ n ih =>
    intro D hl hd hn hh
    obtain ⟨D0, c, rfl⟩ : ∃ D0 c, D = D0 ++ [c] := ⟨D.dropLast, D.getLast hn, (List.dropLast_concat_getLast hn).symm⟩
    have hc := digB_iff.1 (hd c (by simp))
    have hb : UInt8.ofNat (48 + (c.toNat - 48)) = c := by
      apply UInt8.toNat_inj.1
      rw [UInt8.toNat_ofNat']
      omega
    simp only [List.length_append, List.length_singleton] at hl
    rw [dval_snoc]
    cases D0 with
    | nil =>
      show decDigits (10 * 0 + (c.toNat - 48)) = [c]
      rw [dec_small (by omega), Nat.mul_zero, Nat.zero_add, hb]
    | cons a D0 =>
      have hh0 : ¬ ((a :: D0).head? = some 48) := fun h => hh ⟨by simp, by simpa using h⟩
      have hi := ih (D := a :: D0) (by omega) (fun x hx => hd x (List.mem_append_left _ hx)) (by simp) (fun h => hh0 h.2)
      have hp : dval (a :: D0) ≠ 0 := by
        intro h
        rw [h, dec_small (by decide)] at hi
        rw [← hi] at hh0
        exact hh0 rfl
      rw [dec_big (by omega), show (10 * dval (a :: D0) + (c.toNat - 48)) / 10 = dval (a :: D0) by omega, show (10 * dval (a :: D0) + (c.toNat - 48)) % 10 = c.toNat - 48 by omega, hi, hb]
theorem canon_not {D : List UInt8} (h : 2 ≤ D.length ∧ D.head? = some 48) : decDigits (dval D) ≠ D := by
  intro he
  have h0 := dec_head (dval D) (by rw [he]; exact h.2)
  rw [h0, dec_small (by decide)] at he
  have := h.1
  rw [← he] at this
  simp at this
theorem parse_go : ∀ (l : List UInt8) (a : Nat), (∀ c ∈ l, digB c = true) → l.length ≤ 19 → a < 10 ^ (19 - l.length) → parseUintM (2 ^ 64 - 1) a l = .ok (l.foldl (fun a c => 10 * a + (c.toNat - 48)) a)
  | [], a, h, hl, ha => rfl
  | c :: l, a, h, hl, ha => by
    have hc := digB_iff.1 (h c (by simp))
    simp only [List.length_cons] at hl ha
    have hp : 10 ^ (19 - l.length) = 10 * 10 ^ (19 - (l.length + 1)) := by
      rw [show 19 - l.length = (19 - (l.length + 1)) + 1 by omega, Nat.pow_succ, Nat.mul_comm]
    have h18 : 10 ^ (19 - (l.length + 1)) ≤ 10 ^ 18 := Nat.pow_le_pow_right (by decide) (by omega)
    rw [parseUintM, if_pos ⟨hc.1, hc.2⟩, if_neg (by omega), if_neg (by omega), List.foldl_cons]
    rw [Nat.mul_comm a 10]
    exact parse_go l _ (fun c hc => h c (by simp [hc])) (by omega) (by omega)
theorem parse_digs {D : List UInt8} (h : ∀ c ∈ D, digB c = true) (hl : D.length ≤ 19) (hn : D ≠ []) : parseUintB 64 D = .ok (dval D) := by
  rw [parseUintB, if_neg hn]
  exact parse_go D 0 h hl (Nat.pow_pos (by decide))

/-! ### A number at the head -/
def numP (l : List UInt8) : Option (Int × List UInt8 × Bool) :=
  if l.takeWhile digB = [] ∨ 19 < (l.takeWhile digB).length ∨ (2 ≤ (l.takeWhile digB).length ∧ (l.takeWhile digB).head? = some 48) then none
  else if 1048576 < dval (l.takeWhile digB) then some (1048576, l.dropWhile digB, true)
  else some ((dval (l.takeWhile digB) : Int), l.dropWhile digB, false)
theorem tw_digs : ∀ (l : List UInt8), ∀ c ∈ l.takeWhile digB, digB c = true
  | [], c, h => by simp at h
  | d :: l, c, h => by
    rw [List.takeWhile_cons] at h
    split at h
    · rename_i hd
      rcases List.mem_cons.1 h with rfl | h
      · exact hd
      · exact tw_digs l c h
    · simp at h
theorem dw_stop : ∀ (l : List UInt8), stop (l.dropWhile digB)
  | [] => trivial
  | d :: l => by
    rw [List.dropWhile_cons]
    split
    · exact dw_stop l
    · rename_i h
      exact Bool.eq_false_iff.2 h
theorem tw_app (l : List UInt8) : l.takeWhile digB ++ l.dropWhile digB = l := List.takeWhile_append_dropWhile
theorem tw_of {D R : List UInt8} (hd : ∀ c ∈ D, digB c = true) (hs : stop R) : (D ++ R).takeWhile digB = D ∧ (D ++ R).dropWhile digB = R := by
  obtain ⟨h1, h2⟩ := digs_split (tw_digs (D ++ R)) hd (dw_stop (D ++ R)) hs (tw_app _)
  exact ⟨h1, h2⟩
theorem numP_ok {l r : List UInt8} {v : Int} {g : Bool} (h : numP l = some (v, r, g)) : 0 ≤ v ∧ v ≤ 1048576 ∧ r.length < l.length ∧ stop r ∧ (g = false → l = decDigits v.toNat ++ r) := by
  unfold numP at h
  have ha := tw_app l
  have hs := dw_stop l
  have hg := tw_digs l
  split at h
  · cases h
  · rename_i hn
    have hn1 : l.takeWhile digB ≠ [] := fun h => hn (.inl h)
    have hn3 : ¬ (2 ≤ (l.takeWhile digB).length ∧ (l.takeWhile digB).head? = some 48) := fun h => hn (.inr (.inr h))
    have hlen : (l.dropWhile digB).length < l.length := by
      have h1 : 0 < (l.takeWhile digB).length := List.length_pos_iff.2 hn1
      have h2 := congrArg List.length ha
      rw [List.length_append] at h2
      omega
    split at h
    · cases h
      exact ⟨by decide, by decide, hlen, hs, fun h => by cases h⟩
    · rename_i hle
      cases h
      refine ⟨by omega, by omega, hlen, hs, fun _ => ?_⟩
      rw [Int.toNat_natCast, canon rfl hg hn1 hn3, ha]

/-! ### The program's number -/
theorem evNum_count {D R : List UInt8} {b f : Bool} (hd : ∀ c ∈ D, digB c = true) (hs : stop R) (hlen : (D ++ R).length ≤ 1000000) :
    ∀ (m k : Nat), k + m = min D.length 19 → runL (event_reader_number_L0_step (mkS (D ++ R)) b f) (k : Int) = some ((min D.length 19 : Nat) : Int)
  | 0, k, h => by
    refine runL_done ?_
    unfold event_reader_number_L0_step
    simp only [mkS_size]
    rw [List.length_append] at hlen ⊢
    by_cases h1 : (k : Int) < ((D.length + R.length : Nat) : Int)
    · rw [dt h1, cond_true]
      by_cases h2 : (k : Int) < 19
      · rw [dt h2, cond_true, dt (show (0 : Int) ≤ k by omega), Bool.true_and, cond_true, Int.toNat_natCast, mkS_get]
        cases R with
        | nil => simp only [List.length_nil] at h1; omega
        | cons c R =>
          have e : (D ++ c :: R).getD k 0 = c := by
            rw [List.getD_eq_getElem?_getD, List.getElem?_append_right (by omega), show k - D.length = 0 by omega]
            rfl
          rw [e]
          have hc : ¬ (48 ≤ c.toNat ∧ c.toNat ≤ 57) := fun h => by
            have := digB_iff.2 h
            rw [hs] at this; cases this
          have hk : (k : Int) = ((min D.length 19 : Nat) : Int) := by omega
          by_cases h3 : (48 : Int) ≤ (c.toNat : Int)
          · rw [dt h3, cond_true, df (show ¬ (c.toNat : Int) ≤ 57 by omega), cond_false, hk]
          · rw [df h3, cond_false, hk]
      · rw [df h2, cond_false]; congr 2; omega
    · rw [df h1, cond_false]; congr 2; omega
  | m + 1, k, h => by
    have hk : k < D.length := by omega
    rw [← evNum_count hd hs hlen m (k + 1) (by omega)]
    refine runL_next ?_
    unfold event_reader_number_L0_step
    simp only [mkS_size]
    rw [List.length_append] at hlen ⊢
    have e : (D ++ R).getD k 0 = D[k] := by
      rw [List.getD_eq_getElem?_getD, List.getElem?_append_left hk, List.getElem?_eq_getElem hk]
      rfl
    have hc := digB_iff.1 (hd D[k] (List.getElem_mem hk))
    rw [dt (show (k : Int) < ((D.length + R.length : Nat) : Int) by omega), cond_true, dt (show (k : Int) < 19 by omega), cond_true, dt (show (0 : Int) ≤ k by omega), Bool.true_and, cond_true, Int.toNat_natCast, mkS_get, e,
      dt (show (48 : Int) ≤ (D[k].toNat : Int) by omega), cond_true, dt (show (D[k].toNat : Int) ≤ 57 by omega), cond_true, iadd64 (by omega) (by omega)]
    rfl
/-- The number's reader behind its count, over any two that write and read numerals: so no numeral is ever worked out. -/
def evNumG (F : Int → Int → Option ByteArray) (PU : ByteArray → Int → Int → Option (Int ⊕ Unit)) (s : ByteArray) (b b2 : Bool) (n : Int) : Option (Int × ByteArray × Bool × Bool) :=
  bif decide (0 ≤ 0) && decide (0 ≤ n) && decide (n ≤ (s.size : Int)) then
  (PU (s.extract 0 (n).toNat) 10 64).bind fun z_ => match z_ with
  | .inl n2 =>
    (F n2 10).bind fun s2 =>
    bif decide (s2 = (s.extract 0 (n).toNat)) then
      bif decide (0 ≤ n) && decide (n ≤ (s.size : Int)) && decide (((s.size : Int) : Int) ≤ (s.size : Int)) then
      bif (decide (1048576 < n2)) then
        some (1048576, (s.extract (n).toNat ((s.size : Int)).toNat), b, true)
      else
        some (n2, (s.extract (n).toNat ((s.size : Int)).toNat), b, b2)
      else none
    else
      some (0, s, true, b2)
  | .inr _ =>
    some (0, s, true, b2)
  else none
theorem evNum_eq (s : ByteArray) (b b2 : Bool) : event_reader_number s b b2 = (runL (event_reader_number_L0_step s b b2) 0).bind (evNumG strconv_FormatUint strconv_ParseUint s b b2) := rfl
theorem evNumG_no {F : Int → Int → Option ByteArray} {PU : ByteArray → Int → Int → Option (Int ⊕ Unit)} {s : ByteArray} {b b2 : Bool} {k : Nat} (hk : k ≤ s.size) (h : PU (s.extract 0 k) 10 64 = some (.inr ())) : evNumG F PU s b b2 (k : Int) = some (0, s, true, b2) := by
  unfold evNumG
  rw [Int.toNat_natCast, h, dt (Nat.le_refl 0), dt (show (0 : Int) ≤ (k : Int) by omega), dt (show (k : Int) ≤ (s.size : Int) by omega)]
  rfl
theorem evNumG_is {F : Int → Int → Option ByteArray} {PU : ByteArray → Int → Int → Option (Int ⊕ Unit)} {s t : ByteArray} {b b2 : Bool} {k : Nat} {v : Int} (hk : k ≤ s.size) (h : PU (s.extract 0 k) 10 64 = some (.inl v)) (hf : F v 10 = some t) :
    evNumG F PU s b b2 (k : Int) = if t = s.extract 0 k then (if 1048576 < v then some (1048576, s.extract k s.size, b, true) else some (v, s.extract k s.size, b, b2)) else some (0, s, true, b2) := by
  unfold evNumG
  rw [Int.toNat_natCast, h, dt (Nat.le_refl 0), dt (show (0 : Int) ≤ (k : Int) by omega), dt (show (k : Int) ≤ (s.size : Int) by omega), dt (Int.le_refl (s.size : Int)), Int.toNat_natCast]
  simp only [Option.bind_some, Bool.and_self, cond_true, hf]
  by_cases h1 : t = s.extract 0 k
  · rw [if_pos h1, dt h1, cond_true]
    by_cases h2 : 1048576 < v
    · rw [if_pos h2, dt h2, cond_true]
    · rw [if_neg h2, df h2, cond_false]
  · rw [if_neg h1, df h1, cond_false]
theorem evNum_some {l r : List UInt8} {v : Int} {f g : Bool} (hlen : l.length ≤ 1000000) (h : numP l = some (v, r, g)) : event_reader_number (mkS l) false f = some (v, mkS r, false, f || g) := by
  have ha := tw_app l
  have hs := dw_stop l
  have hg := tw_digs l
  unfold numP at h
  generalize hD : l.takeWhile digB = D at *
  generalize hR : l.dropWhile digB = R at *
  subst ha
  split at h
  · cases h
  · rename_i hn
    have hn1 : D ≠ [] := fun h => hn (.inl h)
    have hn2 : D.length ≤ 19 := by
      rcases Nat.lt_or_ge 19 D.length with h2 | h2
      · exact absurd (.inr (.inl h2)) hn
      · exact h2
    have hn3 : ¬ (2 ≤ D.length ∧ D.head? = some 48) := fun h => hn (.inr (.inr h))
    have hc := evNum_count (b := false) (f := f) hg hs hlen (min D.length 19) 0 (by omega)
    rw [Nat.min_eq_left hn2] at hc
    have hc' : runL (event_reader_number_L0_step (mkS (D ++ R)) false f) 0 = _ := hc
    have hlt := dval_lt hg
    have h19 : 10 ^ D.length ≤ 10 ^ 19 := Nat.pow_le_pow_right (by decide) hn2
    rw [evNum_eq, hc', Option.bind_some]
    have x1 : (mkS (D ++ R)).extract 0 D.length = mkS D := by rw [mkS_ext, List.take_left, List.drop_zero]
    have x2 : (mkS (D ++ R)).extract D.length (mkS (D ++ R)).size = mkS R := by
      rw [mkS_ext, mkS_size, List.take_length, List.drop_left]
    have hpu : strconv_ParseUint ((mkS (D ++ R)).extract 0 D.length) 10 64 = some (.inl (dval D : Int)) := by
      rw [x1]
      unfold strconv_ParseUint
      rw [List.length_append] at hlen
      rw [if_pos ⟨rfl, rfl, by rw [mkS_size]; omega⟩]
      have : (mkS D).data.toList = D := by simp [mkS]
      rw [this, parse_digs hg hn2 hn1]
    have hfm := fmt10 (u := dval D) (by omega)
    rw [canon rfl hg hn1 hn3] at hfm
    rw [evNumG_is (by rw [mkS_size, List.length_append]; omega) hpu hfm, if_pos x1.symm, x2]
    split at h
    · rename_i hb
      cases h
      rw [if_pos (by omega), Bool.or_true]
    · rename_i hb
      cases h
      rw [if_neg (by omega), Bool.or_false]
def badR (b : Bool) (s : List UInt8) : Prop := b = true ∨ ∃ c r, s = c :: r ∧ digB c = true
theorem evNum_none {l : List UInt8} {f : Bool} (hlen : l.length ≤ 1000000) (h : numP l = none) : ∃ v s b g, event_reader_number (mkS l) false f = some (v, mkS s, b, g) ∧ s.length ≤ l.length ∧ badR b s := by
  have ha := tw_app l
  have hs := dw_stop l
  have hg := tw_digs l
  unfold numP at h
  generalize hD : l.takeWhile digB = D at *
  generalize hR : l.dropWhile digB = R at *
  subst ha
  split at h
  · rename_i hn
    clear h
    have hc := evNum_count (b := false) (f := f) hg hs hlen (min D.length 19) 0 (by omega)
    generalize hk : min D.length 19 = k at hc
    have hc' : runL (event_reader_number_L0_step (mkS (D ++ R)) false f) 0 = some (k : Int) := hc
    rw [evNum_eq, hc', Option.bind_some]
    have x1 : (mkS (D ++ R)).extract 0 k = mkS (D.take k) := by rw [mkS_ext, List.drop_zero, List.take_append_of_le_length (by omega)]
    have ht : (mkS (D.take k)).data.toList = D.take k := by simp [mkS]
    have hlk : (D.take k).length = k := by rw [List.length_take]; omega
    have hgk : ∀ c ∈ D.take k, digB c = true := fun c hc => hg c (List.mem_of_mem_take hc)
    have hks : k ≤ (mkS (D ++ R)).size := by rw [mkS_size, List.length_append]; omega
    by_cases hk0 : D = []
    · have hpu : strconv_ParseUint ((mkS (D ++ R)).extract 0 k) 10 64 = some (.inr ()) := by
        rw [x1]
        unfold strconv_ParseUint
        rw [if_pos ⟨rfl, rfl, by rw [mkS_size, hlk]; omega⟩, ht, hk0]
        simp [parseUintB]
      rw [evNumG_no hks hpu]
      exact ⟨0, D ++ R, true, f, rfl, Nat.le_refl _, .inl rfl⟩
    · have hk1 : 0 < k := by
        have : 0 < D.length := List.length_pos_iff.2 hk0
        omega
      have hne : D.take k ≠ [] := fun h => by rw [h] at hlk; simp at hlk; omega
      have hpu : strconv_ParseUint ((mkS (D ++ R)).extract 0 k) 10 64 = some (.inl (dval (D.take k) : Int)) := by
        rw [x1]
        unfold strconv_ParseUint
        rw [if_pos ⟨rfl, rfl, by rw [mkS_size, hlk]; omega⟩, ht, parse_digs hgk (by omega) hne]
      have hlt := dval_lt hgk
      have h19 : 10 ^ (D.take k).length ≤ 10 ^ 19 := Nat.pow_le_pow_right (by decide) (by omega)
      have hfm := fmt10 (u := dval (D.take k)) (by omega)
      rw [evNumG_is hks hpu hfm, x1]
      by_cases hcan : decDigits (dval (D.take k)) = D.take k
      · rw [if_pos (by rw [hcan])]
        -- so there are more than nineteen
        have hmore : 19 < D.length := by
          rcases hn with hn | hn | hn
          · exact absurd hn hk0
          · exact hn
          · rcases Nat.lt_or_ge 19 D.length with h2 | h2
            · exact h2
            · exfalso
              rw [show k = D.length by omega, List.take_length] at hcan
              exact canon_not hn hcan
        have x2 : (mkS (D ++ R)).extract k (mkS (D ++ R)).size = mkS (D.drop k ++ R) := by
          rw [mkS_ext, mkS_size, List.take_length, List.drop_append_of_le_length (by omega)]
        rw [x2]
        have hdig : badR false (D.drop k ++ R) := by
          refine .inr ?_
          cases hq : D.drop k with
          | nil =>
            have := congrArg List.length hq
            rw [List.length_drop, List.length_nil] at this
            omega
          | cons c r => exact ⟨c, r ++ R, rfl, hg c (List.mem_of_mem_drop (by rw [hq]; simp : c ∈ D.drop k))⟩
        have hl2 : (D.drop k ++ R).length ≤ (D ++ R).length := by rw [List.length_append, List.length_append, List.length_drop]; omega
        split
        · exact ⟨_, D.drop k ++ R, false, _, rfl, hl2, hdig⟩
        · exact ⟨_, D.drop k ++ R, false, _, rfl, hl2, hdig⟩
      · rw [if_neg (by rw [mkS_inj]; exact hcan)]
        exact ⟨0, D ++ R, true, f, rfl, Nat.le_refl _, .inl rfl⟩
  · split at h <;> cases h
end Go.Proofs.YtjjakdmcnkldoaaDoor
