/- The document's reading of words; the fourth law. Plain. -/
import Derived.Test.YtecblpgljmbpeaaDoorT7
set_option linter.unusedVariables false
set_option linter.unusedSimpArgs false
namespace Go.Proofs.YtecblpgljmbpeaaDoor
open Go.Ev Go.Lib

def digN (c : Nat) : Nat := if 48 ≤ c ∧ c ≤ 57 then c - 48 else if 97 ≤ c ∧ c ≤ 102 then c - 87 else 16
theorem digit_f : ∀ c : Fin 256, kinfolkref08_digit (c.val : Int) = some ((digN c.val : Nat) : Int) := by decide +kernel
theorem digit_go (c : UInt8) : kinfolkref08_digit ((c.toNat : Nat) : Int) = some ((digN c.toNat : Nat) : Int) := digit_f ⟨c.toNat, byte_lt c⟩
theorem dig_le (c : Nat) : digN c ≤ 16 := by unfold digN; split <;> (try split) <;> omega
/-- What the document reads. -/
def dP : List UInt8 → Option (List UInt8)
  | [] => some []
  | b :: r => if b.toNat = 92 then (match r with
    | [] => none
    | c :: r2 => if c.toNat = 92 then (dP r2).map (92 :: ·) else (match r2 with
      | [] => none
      | d :: r3 => if digN c.toNat = 16 ∨ digN d.toNat = 16 then none else (dP r3).map (UInt8.ofNat (16 * digN c.toNat + digN d.toNat) :: ·))) else (dP r).map (b :: ·)
theorem dP_nil : dP [] = some [] := by rw [dP.eq_def]
theorem dP_bare {b : UInt8} (h : ¬ b.toNat = 92) (r : List UInt8) : dP (b :: r) = (dP r).map (b :: ·) := by rw [dP.eq_def]; simp only [if_neg h]
theorem dP_one {b : UInt8} (h : b.toNat = 92) : dP [b] = none := by rw [dP.eq_def]; simp only [if_pos h]
theorem dP_back {b c : UInt8} (h : b.toNat = 92) (h2 : c.toNat = 92) (r : List UInt8) : dP (b :: c :: r) = (dP r).map (92 :: ·) := by rw [dP.eq_def]; simp only [if_pos h, if_pos h2]
theorem dP_two {b c : UInt8} (h : b.toNat = 92) (h2 : ¬ c.toNat = 92) : dP [b, c] = none := by rw [dP.eq_def]; simp only [if_pos h, if_neg h2]
theorem dP_hex {b c : UInt8} (h : b.toNat = 92) (h2 : ¬ c.toNat = 92) (d : UInt8) (r : List UInt8) : dP (b :: c :: d :: r) = if digN c.toNat = 16 ∨ digN d.toNat = 16 then none else (dP r).map (UInt8.ofNat (16 * digN c.toNat + digN d.toNat) :: ·) := by rw [dP.eq_def]; simp only [if_pos h, if_neg h2]
theorem w_lt {l : List UInt8} {i : Nat} {b : UInt8} {r : List UInt8} (h : l.drop i = b :: r) : i < l.length ∧ l.getD i 0 = b ∧ l.drop (i + 1) = r ∧ l.length = i + 1 + r.length := by
  have h0 : i < l.length := by
    rcases Nat.lt_or_ge i l.length with h' | h'
    · exact h'
    · rw [List.drop_eq_nil_of_le h'] at h; cases h
  rw [drop_cons' h0] at h
  cases h
  exact ⟨h0, rfl, rfl, by rw [List.length_drop]; omega⟩
theorem dstep_nil {l : List UInt8} {t : List Int} {i : Nat} (h : l.length ≤ i) : kinfolkref08_Unquote_L0_2_step (mkS l) ((i : Int), t) = some (.inr (.inr t)) := by
  unfold kinfolkref08_Unquote_L0_2_step
  simp only [mkS_size]
  rw [df (by omega)]
  rfl
theorem dstep_bare {l t : List UInt8} {i : Nat} (hi : i < l.length) (hl : l.length ≤ 1000) (ht : t.length ≤ 10000) (h : ¬ (l.getD i 0).toNat = 92) :
    kinfolkref08_Unquote_L0_2_step (mkS l) ((i : Int), bI t) = some (.inl (((i + 1 : Nat) : Int), bI (t ++ [l.getD i 0]))) := by
  have e1 : iadd .i64 (i : Int) 1 = ((i + 1 : Nat) : Int) := by rw [iadd64 (by omega) (by omega)]; omega
  unfold kinfolkref08_Unquote_L0_2_step
  simp only [e1, Int.toNat_natCast, mkS_get, mkS_size]
  rw [dt (by omega : (i : Int) < (l.length : Int)), dt (by omega : (0 : Int) ≤ (i : Int)), df (by omega : ¬ (((l.getD i 0).toNat : Nat) : Int) = 92)]
  simp only [Bool.and_self, cond_true, cond_false]
  rw [fits_ok (by simp [bI_len]; omega), bI_app]
  rfl
theorem dstep_back {l t : List UInt8} {i : Nat} (hi : i + 1 < l.length) (hl : l.length ≤ 1000) (ht : t.length ≤ 10000) (h : (l.getD i 0).toNat = 92) (h2 : (l.getD (i + 1) 0).toNat = 92) :
    kinfolkref08_Unquote_L0_2_step (mkS l) ((i : Int), bI t) = some (.inl (((i + 2 : Nat) : Int), bI (t ++ [92]))) := by
  have e1 : iadd .i64 (i : Int) 1 = ((i + 1 : Nat) : Int) := by rw [iadd64 (by omega) (by omega)]; omega
  have e2 : iadd .i64 (i : Int) 2 = ((i + 2 : Nat) : Int) := by rw [iadd64 (by omega) (by omega)]; omega
  unfold kinfolkref08_Unquote_L0_2_step
  simp only [e1, e2, Int.toNat_natCast, mkS_get, mkS_size]
  rw [dt (by omega : (i : Int) < (l.length : Int)), dt (by omega : (0 : Int) ≤ (i : Int)), dt (by omega : (((l.getD i 0).toNat : Nat) : Int) = 92), dt (by omega : ((i + 1 : Nat) : Int) < (l.length : Int)), dt (by omega : (0 : Int) ≤ ((i + 1 : Nat) : Int)), dt (by omega : (((l.getD (i + 1) 0).toNat : Nat) : Int) = 92)]
  simp only [Bool.and_self, cond_true, cond_false]
  rw [fits_ok (by simp [bI_len]; omega), bI_app]
  rfl
theorem dstep_one {l t : List UInt8} {i : Nat} (hi : i + 1 = l.length) (hl : l.length ≤ 1000) (h : (l.getD i 0).toNat = 92) :
    kinfolkref08_Unquote_L0_2_step (mkS l) ((i : Int), bI t) = some (.inr (.inl (mkS []))) := by
  have e1 : iadd .i64 (i : Int) 1 = ((i + 1 : Nat) : Int) := by rw [iadd64 (by omega) (by omega)]; omega
  have e2 : iadd .i64 (i : Int) 2 = ((i + 2 : Nat) : Int) := by rw [iadd64 (by omega) (by omega)]; omega
  unfold kinfolkref08_Unquote_L0_2_step
  simp only [e1, e2, Int.toNat_natCast, mkS_get, mkS_size]
  rw [dt (by omega : (i : Int) < (l.length : Int)), dt (by omega : (0 : Int) ≤ (i : Int)), dt (by omega : (((l.getD i 0).toNat : Nat) : Int) = 92), df (by omega : ¬ ((i + 1 : Nat) : Int) < (l.length : Int)), dt (by omega : (l.length : Int) ≤ ((i + 2 : Nat) : Int))]
  rfl
theorem dstep_two {l t : List UInt8} {i : Nat} (hi : i + 2 = l.length) (hl : l.length ≤ 1000) (h : (l.getD i 0).toNat = 92) (h2 : ¬ (l.getD (i + 1) 0).toNat = 92) :
    kinfolkref08_Unquote_L0_2_step (mkS l) ((i : Int), bI t) = some (.inr (.inl (mkS []))) := by
  have e1 : iadd .i64 (i : Int) 1 = ((i + 1 : Nat) : Int) := by rw [iadd64 (by omega) (by omega)]; omega
  have e2 : iadd .i64 (i : Int) 2 = ((i + 2 : Nat) : Int) := by rw [iadd64 (by omega) (by omega)]; omega
  unfold kinfolkref08_Unquote_L0_2_step
  simp only [e1, e2, Int.toNat_natCast, mkS_get, mkS_size]
  rw [dt (by omega : (i : Int) < (l.length : Int)), dt (by omega : (0 : Int) ≤ (i : Int)), dt (by omega : (((l.getD i 0).toNat : Nat) : Int) = 92), dt (by omega : ((i + 1 : Nat) : Int) < (l.length : Int)), dt (by omega : (0 : Int) ≤ ((i + 1 : Nat) : Int)), df (by omega : ¬ (((l.getD (i + 1) 0).toNat : Nat) : Int) = 92), dt (by omega : (l.length : Int) ≤ ((i + 2 : Nat) : Int))]
  rfl
theorem u8_val {a b : Nat} (h1 : a ≤ 15) (h2 : b ≤ 15) : iadd .u8 (imul .u8 16 (a : Int)) (b : Int) = (((UInt8.ofNat (16 * a + b)).toNat : Nat) : Int) := by
  have h : ∀ a b : Fin 16, iadd .u8 (imul .u8 16 (a.val : Int)) (b.val : Int) = (((UInt8.ofNat (16 * a.val + b.val)).toNat : Nat) : Int) := by decide +kernel
  exact h ⟨a, by omega⟩ ⟨b, by omega⟩
theorem dstep_hex {l t : List UInt8} {i : Nat} (hi : i + 2 < l.length) (hl : l.length ≤ 1000) (ht : t.length ≤ 10000) (h : (l.getD i 0).toNat = 92) (h2 : ¬ (l.getD (i + 1) 0).toNat = 92) :
    kinfolkref08_Unquote_L0_2_step (mkS l) ((i : Int), bI t) = if digN (l.getD (i + 1) 0).toNat = 16 ∨ digN (l.getD (i + 2) 0).toNat = 16 then some (.inr (.inl (mkS []))) else
      some (.inl (((i + 3 : Nat) : Int), bI (t ++ [UInt8.ofNat (16 * digN (l.getD (i + 1) 0).toNat + digN (l.getD (i + 2) 0).toNat)]))) := by
  have e1 : iadd .i64 (i : Int) 1 = ((i + 1 : Nat) : Int) := by rw [iadd64 (by omega) (by omega)]; omega
  have e2 : iadd .i64 (i : Int) 2 = ((i + 2 : Nat) : Int) := by rw [iadd64 (by omega) (by omega)]; omega
  have e3 : iadd .i64 (i : Int) 3 = ((i + 3 : Nat) : Int) := by rw [iadd64 (by omega) (by omega)]; omega
  have d1 := dig_le (l.getD (i + 1) 0).toNat
  have d2 := dig_le (l.getD (i + 2) 0).toNat
  unfold kinfolkref08_Unquote_L0_2_step
  simp only [e1, e2, e3, Int.toNat_natCast, mkS_get, mkS_size]
  rw [dt (by omega : (i : Int) < (l.length : Int)), dt (by omega : (0 : Int) ≤ (i : Int)), dt (by omega : (((l.getD i 0).toNat : Nat) : Int) = 92), dt (by omega : ((i + 1 : Nat) : Int) < (l.length : Int)), dt (by omega : (0 : Int) ≤ ((i + 1 : Nat) : Int)), df (by omega : ¬ (((l.getD (i + 1) 0).toNat : Nat) : Int) = 92), df (by omega : ¬ (l.length : Int) ≤ ((i + 2 : Nat) : Int)), dt (by omega : ((i + 2 : Nat) : Int) < (l.length : Int)), dt (by omega : (0 : Int) ≤ ((i + 2 : Nat) : Int))]
  simp only [Bool.and_self, cond_true, cond_false]
  rw [digit_go, digit_go]
  simp only [Option.bind_some]
  generalize digN (l.getD (i + 1) 0).toNat = a at *
  generalize digN (l.getD (i + 2) 0).toNat = b at *
  by_cases h3 : a = 16
  · rw [if_pos (.inl h3), dt (by omega)]; rfl
  · rw [df (by omega), cond_false]
    by_cases h4 : b = 16
    · rw [if_pos (.inr h4), dt (by omega)]; rfl
    · rw [if_neg (by omega), df (by omega), cond_false, fits_ok (by simp [bI_len]; omega), bI_app, u8_val (by omega) (by omega)]
      rfl
/-- What the document's loop answers. -/
def dEnd (t : List UInt8) : Option (List UInt8) → (ByteArray ⊕ List Int)
  | none => .inl (mkS [])
  | some m => .inr (bI (t ++ m))
theorem dEnd_cons (t : List UInt8) (b : UInt8) (x : Option (List UInt8)) : dEnd (t ++ [b]) x = dEnd t (x.map (b :: ·)) := by
  cases x with
  | none => rfl
  | some m => simp only [dEnd, Option.map_some]; rw [List.append_assoc]; rfl
theorem dloop {l : List UInt8} (hl : l.length ≤ 1000) : ∀ (f i : Nat) (t : List UInt8), l.length ≤ i + f → t.length ≤ i →
    i ≤ l.length → runL (kinfolkref08_Unquote_L0_2_step (mkS l)) ((i : Int), bI t) = some (dEnd t (dP (l.drop i))) := by
  intro f
  induction f with
  | zero =>
    intro i t h1 h2 h3
    rw [drop_nil' (by omega), dP_nil]
    simp only [dEnd, List.append_nil]
    exact runL_done (dstep_nil (by omega))
  | succ f ih =>
    intro i t h1 h2 h3
    rcases hd : l.drop i with _ | ⟨b, r⟩
    · rw [dP_nil]
      simp only [dEnd, List.append_nil]
      refine runL_done (dstep_nil ?_)
      have := congrArg List.length hd
      rw [List.length_drop, List.length_nil] at this
      omega
    · obtain ⟨a1, a2, a3, a4⟩ := w_lt hd
      by_cases hb : b.toNat = 92
      · rcases r with _ | ⟨c, r⟩
        · simp only [List.length_nil] at a4
          rw [dP_one hb]
          exact runL_done (dstep_one (by omega) hl (by rw [a2]; exact hb))
        · obtain ⟨b1, b2, b3, b4⟩ := w_lt a3
          by_cases hc : c.toNat = 92
          · rw [dP_back hb hc, ← dEnd_cons]
            refine (runL_next (dstep_back (by omega) hl (by omega) (by rw [a2]; exact hb) (by rw [b2]; exact hc))).trans ((ih (i + 2) (t ++ [92]) (by omega) (by simp; omega) (by omega)).trans ?_)
            rw [b3]
          · rcases r with _ | ⟨d, r⟩
            · simp only [List.length_nil] at b4
              rw [dP_two hb hc]
              exact runL_done (dstep_two (by omega) hl (by rw [a2]; exact hb) (by rw [b2]; exact hc))
            · obtain ⟨c1, c2, c3, c4⟩ := w_lt b3
              have hs := dstep_hex (t := t) (by omega : i + 2 < l.length) hl (by omega) (by rw [a2]; exact hb) (by rw [b2]; exact hc)
              rw [show i + 1 + 1 = i + 2 from rfl] at c2
              rw [b2, c2] at hs
              rw [dP_hex hb hc]
              by_cases hz : digN c.toNat = 16 ∨ digN d.toNat = 16
              · rw [if_pos hz] at hs ⊢
                exact runL_done hs
              · rw [if_neg hz] at hs ⊢
                rw [← dEnd_cons]
                refine (runL_next hs).trans ((ih (i + 3) _ (by omega) (by simp; omega) (by omega)).trans ?_)
                rw [show i + 3 = i + 1 + 1 + 1 from rfl, c3]
      · rw [dP_bare hb, ← dEnd_cons]
        have hs := dstep_bare (t := t) a1 hl (by omega) (by rw [a2]; exact hb)
        rw [a2] at hs
        refine (runL_next hs).trans ((ih (i + 1) (t ++ [b]) (by omega) (by simp; omega) (by omega)).trans ?_)
        rw [a3]
def dFin (w : List UInt8) : ByteArray × Bool := if w = [92, 45] then (mkS [], true) else match dP w with
  | none => (mkS [], false)
  | some t => if w = [] then (mkS [], false) else if quoteL t = w then (mkS t, true) else (mkS [], false)
theorem dP_len : ∀ (f : Nat) (l : List UInt8) (t : List UInt8), l.length ≤ f → dP l = some t → t.length ≤ l.length := by
  intro f
  induction f with
  | zero =>
    intro l t h1 h
    obtain rfl := List.length_eq_zero_iff.1 (by omega : l.length = 0)
    rw [dP_nil] at h
    cases h
    exact Nat.le_refl _
  | succ f ih =>
    intro l t h1 h
    rcases l with _ | ⟨b, r⟩
    · rw [dP_nil] at h
      cases h
      exact Nat.le_refl _
    · simp only [List.length_cons] at h1
      by_cases hb : b.toNat = 92
      · rcases r with _ | ⟨c, r⟩
        · rw [dP_one hb] at h; cases h
        · simp only [List.length_cons] at h1
          by_cases hc : c.toNat = 92
          · rw [dP_back hb hc] at h
            obtain ⟨m, hm, rfl⟩ := Option.map_eq_some_iff.1 h
            have := ih r m (by omega) hm
            simp only [List.length_cons]; omega
          · rcases r with _ | ⟨d, r⟩
            · rw [dP_two hb hc] at h; cases h
            · simp only [List.length_cons] at h1
              rw [dP_hex hb hc] at h
              split at h
              · cases h
              · obtain ⟨m, hm, rfl⟩ := Option.map_eq_some_iff.1 h
                have := ih r m (by omega) hm
                simp only [List.length_cons]; omega
      · rw [dP_bare hb] at h
        obtain ⟨m, hm, rfl⟩ := Option.map_eq_some_iff.1 h
        have := ih r m (by omega) hm
        simp only [List.length_cons]; omega
theorem runquote_go {w : List UInt8} (hw : w.length ≤ 1000) : kinfolkref08_Unquote (mkS w) = some (dFin w) := by
  have hL := dloop hw w.length 0 [] (by omega) (by simp) (by omega)
  rw [List.drop_zero] at hL
  unfold kinfolkref08_Unquote dFin
  by_cases h : w = [92, 45]
  · rw [if_pos h, l9245, dt (mkS_inj.2 h)]; rfl
  · rw [if_neg h, l9245, df (fun e => h (mkS_inj.1 e)), cond_false, show ((0 : Int), ([] : List Int)) = (((0 : Nat) : Int), bI []) from rfl, hL]
    simp only [Option.bind_some]
    cases hd : dP w with
    | none => rfl
    | some t =>
      have ht := dP_len _ _ _ (Nat.le_refl _) hd
      simp only [dEnd, List.nil_append]
      rw [mkS_size, strOf_take, rquote_go (by omega)]
      simp only [Option.bind_some]
      by_cases h2 : w = []
      · rw [if_pos h2, h2]; rfl
      · have h1 : 1 ≤ w.length := by cases w with | nil => exact absurd rfl h2 | cons => simp
        rw [if_neg h2, df (by omega), cond_false]
        by_cases h3 : quoteL t = w
        · rw [if_pos h3, dt (mkS_inj.2 h3)]; rfl
        · rw [if_neg h3, df (fun e => h3 (mkS_inj.1 e))]; rfl
/-! ### What is quoted is told again -/
theorem hex_not : ∀ n : Fin 16, ¬ (hexD n.val).toNat = 92 := by decide +kernel
theorem hex_dig : ∀ n : Fin 16, digN (hexD n.val).toNat = n.val := by decide +kernel
theorem qB_cases (b : UInt8) : (qB b = [b] ∧ ¬ b.toNat = 92) ∨ (b.toNat = 92 ∧ qB b = [92, 92]) ∨ (qB b = [92, hexD (b.toNat / 16), hexD (b.toNat % 16)]) := by
  unfold qB
  by_cases h : bareN b.toNat = true
  · refine .inl ⟨if_pos h, fun e => ?_⟩
    rw [bare_not, if_pos e] at h
    cases h
  · rw [if_neg h]
    by_cases h2 : b.toNat = 92
    · exact .inr (.inl ⟨h2, if_pos h2⟩)
    · exact .inr (.inr (if_neg h2))
theorem p_back : ∀ t : List UInt8, pP (t.flatMap qB) = t
  | [] => pP_nil
  | b :: t => by
    have hb := byte_lt b
    rw [List.flatMap_cons]
    rcases qB_cases b with ⟨h, h2⟩ | ⟨h, h2⟩ | h
    · rw [h, List.singleton_append, pP_bare h2, p_back t]
    · rw [h2]
      show pP (92 :: 92 :: t.flatMap qB) = _
      rw [pP_back rfl rfl, p_back t, b92 h]
    · rw [h]
      show pP (92 :: hexD (b.toNat / 16) :: hexD (b.toNat % 16) :: t.flatMap qB) = _
      have e := hexB_back ⟨b.toNat, hb⟩
      simp only [UInt8.ofNat_toNat] at e
      rw [pP_hex rfl (hex_not ⟨b.toNat / 16, by omega⟩), p_back t, e]
theorem d_back : ∀ t : List UInt8, dP (t.flatMap qB) = some t
  | [] => dP_nil
  | b :: t => by
    have hb := byte_lt b
    rw [List.flatMap_cons]
    rcases qB_cases b with ⟨h, h2⟩ | ⟨h, h2⟩ | h
    · rw [h, List.singleton_append, dP_bare h2, d_back t]; rfl
    · rw [h2]
      show dP (92 :: 92 :: t.flatMap qB) = _
      rw [dP_back rfl rfl, d_back t, b92 h]; rfl
    · rw [h]
      show dP (92 :: hexD (b.toNat / 16) :: hexD (b.toNat % 16) :: t.flatMap qB) = _
      have e1 := hex_dig ⟨b.toNat / 16, by omega⟩
      have e2 := hex_dig ⟨b.toNat % 16, by omega⟩
      simp only at e1 e2
      rw [dP_hex rfl (hex_not ⟨b.toNat / 16, by omega⟩), d_back t, e1, e2, if_neg (by omega)]
      simp only [Option.map_some]
      rw [show 16 * (b.toNat / 16) + b.toNat % 16 = b.toNat by omega, UInt8.ofNat_toNat]
theorem quote_ne {t : List UInt8} (h : t ≠ []) : t.flatMap qB ≠ [92, 45] := by
  intro e
  have h1 := p_back t
  rw [e, pP_two rfl (by decide)] at h1
  exact h h1.symm
theorem quote_nn {t : List UInt8} (h : t ≠ []) : t.flatMap qB ≠ [] := by
  intro e
  have h1 := p_back t
  rw [e, pP_nil] at h1
  exact h h1.symm
theorem quote_fin (t : List UInt8) : finL (quoteL t) (pP (quoteL t)) = (mkS t, true) := by
  unfold finL
  by_cases h : t = []
  · subst h; rfl
  · have e : quoteL t = t.flatMap qB := if_neg h
    rw [e, if_neg (quote_ne h), p_back, if_pos e]
theorem both (w : List UInt8) : finL w (pP w) = dFin w := by
  unfold finL dFin
  by_cases h : w = [92, 45]
  · rw [if_pos h, if_pos h]
  rw [if_neg h, if_neg h]
  by_cases h2 : quoteL (pP w) = w
  · rw [if_pos h2]
    have hn : pP w ≠ [] := fun e => by
      rw [e] at h2
      exact h h2.symm
    have e : quoteL (pP w) = (pP w).flatMap qB := if_neg hn
    have e2 : w = (pP w).flatMap qB := by rw [← e, h2]
    have hd : dP w = some (pP w) := by
      have := d_back (pP w)
      rw [← e2] at this
      exact this
    have hw : w ≠ [] := fun z => quote_nn hn (by rw [← e2]; exact z)
    rw [hd]
    simp only
    rw [if_neg hw, if_pos h2]
  · rw [if_neg h2]
    cases hd : dP w with
    | none => rfl
    | some t =>
      simp only
      by_cases hw : w = []
      · rw [if_pos hw]
      rw [if_neg hw]
      by_cases h3 : quoteL t = w
      · exfalso
        have hn : t ≠ [] := fun e => by
          rw [e] at h3
          exact h h3.symm
        have e : quoteL t = t.flatMap qB := if_neg hn
        have e2 : w = t.flatMap qB := by rw [← e, h3]
        have hp : pP w = t := by rw [e2]; exact p_back t
        rw [hp] at h2
        exact h2 h3
      · rw [if_neg h3]
theorem fin_back {w t : List UInt8} {x : ByteArray} (h : finL w t = (x, true)) : ∃ m : List UInt8, x = mkS m ∧ quoteL m = w ∧ m.length ≤ w.length ∨ ∃ m, x = mkS m ∧ m = t ∧ quoteL m = w := by
  unfold finL at h
  split at h
  · rename_i hw
    cases h
    exact ⟨[], .inl ⟨rfl, by rw [hw]; rfl, by simp⟩⟩
  · split at h
    · rename_i hq
      cases h
      exact ⟨[], .inr ⟨t, rfl, rfl, hq⟩⟩
    · cases h
theorem pP_len : ∀ (f : Nat) (l : List UInt8), l.length ≤ f → (pP l).length ≤ l.length := by
  intro f
  induction f with
  | zero =>
    intro l h1
    obtain rfl := List.length_eq_zero_iff.1 (by omega : l.length = 0)
    rw [pP_nil]; exact Nat.le_refl _
  | succ f ih =>
    intro l h1
    rcases l with _ | ⟨b, r⟩
    · rw [pP_nil]; exact Nat.le_refl _
    · simp only [List.length_cons] at h1 ⊢
      by_cases hb : b.toNat = 92
      · rcases r with _ | ⟨c, r⟩
        · rw [pP_one hb]; simp
        · simp only [List.length_cons] at h1 ⊢
          by_cases hc : c.toNat = 92
          · rw [pP_back hb hc]
            have := ih r (by omega)
            simp only [List.length_cons]; omega
          · rcases r with _ | ⟨d, r⟩
            · rw [pP_two hb hc]; simp
            · simp only [List.length_cons] at h1 ⊢
              rw [pP_hex hb hc]
              have := ih r (by omega)
              simp only [List.length_cons]; omega
      · rw [pP_bare hb]
        have := ih r (by omega)
        simp only [List.length_cons]; omega
theorem quote_len (l : List UInt8) : (quoteL l).length ≤ 3 * l.length + 2 := by
  unfold quoteL
  split
  · simp
  · have : ∀ m : List UInt8, (m.flatMap qB).length ≤ 3 * m.length := by
      intro m
      induction m with
      | nil => simp
      | cons b m ih =>
        have := qB_len b
        rw [List.flatMap_cons, List.length_append, List.length_cons]
        omega
    have := this l
    omega
theorem textQuotes_true (s w : ByteArray) : kinfolklaw08_TextQuotes s w = some true := by
  obtain ⟨l, hl, hf⟩ := few_go s
  obtain ⟨m, hm, hg⟩ := few_go w
  have hq := quote_len l
  unfold kinfolklaw08_TextQuotes
  rw [awake_go]
  simp only [Option.bind_some, cond_true]
  rw [hf]
  simp only [Option.bind_some]
  rw [hg]
  simp only [Option.bind_some]
  rw [quote_go (by omega)]
  simp only [Option.bind_some]
  rw [unquote_go (by omega), quote_fin]
  simp only [Option.bind_some]
  rw [unquote_go (by omega)]
  rw [runquote_go (by omega), ← both]
  simp only [Option.bind_some]
  rw [mkS_size, show (0 : Int) = ((0 : Nat) : Int) from rfl, good_scan (quote_good l) (by omega) _ _ _ _ _ _ _ _ (quoteL l).length 0 (by omega) (by omega)]
  simp only [Option.bind_some]
  rw [rquote_go (by omega)]
  simp only [Option.bind_some, decide_true, cond_true]
  cases hfin : finL m (pP m) with
  | mk x is_ =>
    simp only [decide_true, cond_true, beq_self_eq_true]
    cases is_ with
    | false => rfl
    | true =>
      simp only [cond_true]
      have hp := pP_len _ m (Nat.le_refl _)
      obtain ⟨n, h⟩ := fin_back hfin
      rcases h with ⟨rfl, h1, h2⟩ | ⟨n, rfl, rfl, h1⟩
      · rw [quote_go (by omega), h1]
        simp only [Option.bind_some, decide_true]
      · rw [quote_go (by omega), h1]
        simp only [Option.bind_some, decide_true]
end Go.Proofs.YtecblpgljmbpeaaDoor
