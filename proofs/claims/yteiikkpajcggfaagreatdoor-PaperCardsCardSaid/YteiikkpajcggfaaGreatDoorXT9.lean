/- Blanks, folded as the document folds; the third law. Plain. -/
import Derived.Test.YteiikkpajcggfaaGreatDoorXT5
set_option linter.unusedVariables false
set_option linter.unusedSimpArgs false
namespace Go.Proofs.YteiikkpajcggfaaGreatDoor
open Go.Ev Go.Lib
theorem lead_loop : ∀ (f : Nat) (l : List UInt8), l.length ≤ f → ∃ m, runL kinfolkref08_Fold_L0_step (mkS l) = some (mkS m) ∧ foldL m = foldL l ∧ m.length ≤ l.length ∧ (∀ b r, m = b :: r → ¬ b.toNat = 32) := by
 intro f
 induction f with
 | zero =>
  intro l h1
  obtain rfl := List.length_eq_zero_iff.1 (by omega : l.length = 0)
  refine ⟨[], runL_done ?_, rfl, Nat.le_refl _, fun b r e => by cases e⟩
  unfold kinfolkref08_Fold_L0_step
  simp only [mkS_size, List.length_nil]
  rw [df (by omega)]
  rfl
 | succ f ih =>
  intro l h1
  rcases l with _ | ⟨b, r⟩
  ·refine ⟨[], runL_done ?_, rfl, Nat.le_refl _, fun b r e => by cases e⟩
   unfold kinfolkref08_Fold_L0_step
   simp only [mkS_size, List.length_nil]
   rw [df (by omega)]
   rfl
  ·simp only [List.length_cons] at h1
   have hx : (mkS (b :: r)).extract 1 (((r.length + 1 : Nat) : Int)).toNat = mkS r := by
    rw [Int.toNat_natCast, mkS_ext, List.take_of_length_le (by simp)]; rfl
   have hg : (mkS (b :: r)).data.getD 0 0 = b := by rw [mkS_get]; rfl
   by_cases hb : b.toNat = 32
   ·obtain ⟨m, h2, h3, h4, h5⟩ := ih r (by omega)
    refine ⟨m, (runL_next ?_).trans h2, by rw [h3, fold_lead hb], by simp only [List.length_cons]; omega, h5⟩
    unfold kinfolkref08_Fold_L0_step
    simp only [mkS_size, List.length_cons, hx, hg]
    rw [dt (by omega : (0 : Int) < ((r.length + 1 : Nat) : Int)), dt (by omega : (0 : Int) ≤ 0), dt (by omega : ((b.toNat : Nat) : Int) = 32), dt (by omega : (0 : Int) ≤ 1), dt (by omega : (1 : Int) ≤ ((r.length + 1 : Nat) : Int)), dt (by omega : ((r.length + 1 : Nat) : Int) ≤ ((r.length + 1 : Nat) : Int))]
    rfl
   ·refine ⟨b :: r, runL_done ?_, rfl, Nat.le_refl _, fun c q e => by cases e; exact hb⟩
    unfold kinfolkref08_Fold_L0_step
    simp only [mkS_size, List.length_cons, hx, hg]
    rw [dt (by omega : (0 : Int) < ((r.length + 1 : Nat) : Int)), dt (by omega : (0 : Int) ≤ 0), df (by omega : ¬ ((b.toNat : Nat) : Int) = 32)]
    rfl
theorem trail_loop : ∀ (f : Nat) (l : List UInt8), l.length ≤ f → l.length ≤ 1000 → (∀ b r, l = b :: r → ¬ b.toNat = 32) → ∃ m, runL kinfolkref08_Fold_L1_step (mkS l) = some (mkS m) ∧ foldL m = foldL l ∧ m.length ≤ l.length ∧ (∀ b r, m = b :: r → ¬ b.toNat = 32) ∧ (∀ p b, m = p ++ [b] → ¬ b.toNat = 32) := by
 intro f
 induction f with
 | zero =>
  intro l h1 hl hlead
  obtain rfl := List.length_eq_zero_iff.1 (by omega : l.length = 0)
  refine ⟨[], runL_done ?_, rfl, Nat.le_refl _, (fun b r e => by cases e), fun p b e => by simp at e⟩
  unfold kinfolkref08_Fold_L1_step
  simp only [mkS_size, List.length_nil]
  rw [df (by omega)]
  rfl
 | succ f ih =>
  intro l h1 hl hlead
  rcases List.eq_nil_or_concat l with e | ⟨r, b, e⟩
  ·subst e
   refine ⟨[], runL_done ?_, rfl, Nat.le_refl _, (fun b r e => by cases e), fun p b e => by simp at e⟩
   unfold kinfolkref08_Fold_L1_step
   simp only [mkS_size, List.length_nil]
   rw [df (by omega)]
   rfl
  ·rw [List.concat_eq_append] at e
   subst e
   have hlen : (r ++ [b]).length = r.length + 1 := by simp
   rw [hlen] at h1 hl
   have e1 : isub .i64 ((r.length + 1 : Nat) : Int) 1 = ((r.length : Nat) : Int) := by rw [isub64 (by omega) (by omega)]; omega
   have hx : (mkS (r ++ [b])).extract 0 (((r.length : Nat) : Int)).toNat = mkS r := by
    rw [Int.toNat_natCast, mkS_ext]; simp
   have hg : (mkS (r ++ [b])).data.getD (((r.length : Nat) : Int)).toNat 0 = b := by
    rw [Int.toNat_natCast, mkS_get]; simp [List.getD]
   by_cases hb : b.toNat = 32
   ·obtain ⟨m, h2, h3, h4, h5⟩ := ih r (by omega) (by omega) (fun c q e => hlead c (q ++ [b]) (by rw [e]; rfl))
    refine ⟨m, (runL_next ?_).trans h2, by rw [h3, fold_trail hb], by rw [hlen]; omega, h5⟩
    unfold kinfolkref08_Fold_L1_step
    simp only [mkS_size, hlen, e1, hx, hg]
    rw [dt (by omega : (0 : Int) < ((r.length + 1 : Nat) : Int)), dt (by omega : (0 : Int) ≤ ((r.length : Nat) : Int)), dt (by omega : ((r.length : Nat) : Int) < ((r.length + 1 : Nat) : Int)), dt (by omega : ((b.toNat : Nat) : Int) = 32), dt (by omega : (0 : Int) ≤ 0), dt (by omega : ((r.length : Nat) : Int) ≤ ((r.length + 1 : Nat) : Int))]
    rfl
   ·refine ⟨r ++ [b], runL_done ?_, rfl, Nat.le_refl _, hlead, fun p c e => by
     have := (List.append_inj' e rfl).2
     cases this
     exact hb⟩
    unfold kinfolkref08_Fold_L1_step
    simp only [mkS_size, hlen, e1, hx, hg]
    rw [dt (by omega : (0 : Int) < ((r.length + 1 : Nat) : Int)), dt (by omega : (0 : Int) ≤ ((r.length : Nat) : Int)), dt (by omega : ((r.length : Nat) : Int) < ((r.length + 1 : Nat) : Int)), df (by omega : ¬ ((b.toNat : Nat) : Int) = 32)]
    rfl
def dbl (l : List UInt8) (j : Nat) : Prop := j + 1 < l.length ∧ (l.getD j 0).toNat = 32 ∧ (l.getD (j + 1) 0).toNat = 32
theorem two_end {l : List UInt8} {rec : ByteArray → Option ByteArray} {i : Nat} (hl : l.length ≤ 1000) (hi : i ≤ l.length) (h : ¬ i + 1 < l.length) : runL (kinfolkref08_Fold_L2_step rec (mkS l)) (i : Int) = some (.inr ()) := by
 refine runL_done ?_
 unfold kinfolkref08_Fold_L2_step
 simp only [mkS_size]
 rw [iadd64 (by omega) (by omega), df (by omega)]
 rfl
theorem two_next {l : List UInt8} {rec : ByteArray → Option ByteArray} {i : Nat} (hl : l.length ≤ 1000) (hi : i + 1 < l.length) (h : ¬ dbl l i) : kinfolkref08_Fold_L2_step rec (mkS l) (i : Int) = some (.inl ((i + 1 : Nat) : Int)) := by
 have e1 : iadd .i64 (i : Int) 1 = ((i + 1 : Nat) : Int) := by rw [iadd64 (by omega) (by omega)]; omega
 unfold kinfolkref08_Fold_L2_step
 simp only [e1, Int.toNat_natCast, mkS_get, mkS_size]
 rw [dt (by omega : ((i + 1 : Nat) : Int) < (l.length : Int)), dt (by omega : (0 : Int) ≤ (i : Int)), dt (by omega : (i : Int) < (l.length : Int)), dt (by omega : (0 : Int) ≤ ((i + 1 : Nat) : Int))]
 simp only [Bool.and_self, cond_true]
 by_cases h1 : (l.getD i 0).toNat = 32
 ·rw [dt (by omega : (((l.getD i 0).toNat : Nat) : Int) = 32), df (show ¬ (((l.getD (i + 1) 0).toNat : Nat) : Int) = 32 from fun q => h ⟨hi, h1, by omega⟩)]
  rfl
 ·rw [df (by omega : ¬ (((l.getD i 0).toNat : Nat) : Int) = 32)]
  rfl
theorem two_hit {l : List UInt8} {rec : ByteArray → Option ByteArray} {i : Nat} (hl : l.length ≤ 1000) (h : dbl l i) {m : ByteArray} (hm : rec (mkS (l.take i ++ l.drop (i + 1))) = some m) : kinfolkref08_Fold_L2_step rec (mkS l) (i : Int) = some (.inr (.inl m)) := by
 obtain ⟨hi, h1, h2⟩ := h
 have e1 : iadd .i64 (i : Int) 1 = ((i + 1 : Nat) : Int) := by rw [iadd64 (by omega) (by omega)]; omega
 unfold kinfolkref08_Fold_L2_step
 simp only [e1, Int.toNat_natCast, mkS_get, mkS_size, mkS_ext, mkS_app, List.drop_zero, List.take_length]
 rw [dt (by omega : ((i + 1 : Nat) : Int) < (l.length : Int)), dt (by omega : (0 : Int) ≤ (i : Int)), dt (by omega : (i : Int) < (l.length : Int)), dt (by omega : (0 : Int) ≤ ((i + 1 : Nat) : Int)), dt (by omega : (((l.getD i 0).toNat : Nat) : Int) = 32), dt (by omega : (((l.getD (i + 1) 0).toNat : Nat) : Int) = 32), dt (by omega : (0 : Int) ≤ 0), dt (by omega : (i : Int) ≤ (l.length : Int)), dt (by omega : ((i + 1 : Nat) : Int) ≤ (l.length : Int)), dt (by omega : (l.length : Int) ≤ (l.length : Int)), dt (by rw [List.length_take, List.length_drop]; omega : (l.take i).length + (l.drop (i + 1)).length ≤ 140737488355328), hm]
 rfl
theorem two_loop {l : List UInt8} (hl : l.length ≤ 1000) (rec : ByteArray → Option ByteArray) : ∀ (f i : Nat), l.length ≤ i + f → i ≤ l.length → (∀ j, j < i → ¬ dbl l j) →
  (∃ j, dbl l j ∧ ∀ m, rec (mkS (l.take j ++ l.drop (j + 1))) = some m → runL (kinfolkref08_Fold_L2_step rec (mkS l)) (i : Int) = some (.inl m)) ∨
  (runL (kinfolkref08_Fold_L2_step rec (mkS l)) (i : Int) = some (.inr ()) ∧ ∀ j, ¬ dbl l j) := by
 intro f
 induction f with
 | zero =>
  intro i h1 h0 h2
  exact .inr ⟨two_end hl h0 (by omega), fun j q => by
   by_cases hj : j < i
   ·exact h2 j hj q
   ·have := q.1; omega⟩
 | succ f ih =>
  intro i h1 h0 h2
  by_cases hi : i + 1 < l.length
  ·by_cases hd : dbl l i
   ·exact .inl ⟨i, hd, fun m hm => runL_done (two_hit hl hd hm)⟩
   ·have hn := two_next (rec := rec) hl hi hd
    rcases ih (i + 1) (by omega) (by omega) (fun j hj => by
      by_cases e : j = i
      ·rw [e]; exact hd
      ·exact h2 j (by omega)) with ⟨j, a, b⟩ | ⟨a, b⟩
    ·exact .inl ⟨j, a, fun m hm => (runL_next hn).trans (b m hm)⟩
    ·exact .inr ⟨(runL_next hn).trans a, b⟩
  ·exact .inr ⟨two_end hl h0 hi, fun j q => by
    by_cases hj : j < i
    ·exact h2 j hj q
    ·have := q.1; omega⟩
theorem rfold_go : ∀ (N : Nat) (l : List UInt8), l.length < N → l.length ≤ 1000 → ∃ m, kinfolkref08_Fold N (mkS l) = some (mkS m) ∧ foldL l = m ∧ Clean m := by
 intro N
 induction N with
 | zero => intro l h; omega
 | succ N ih =>
  intro l h hl
  obtain ⟨m1, a1, a2, a3, a4⟩ := lead_loop l.length l (Nat.le_refl _)
  obtain ⟨m2, b1, b2, b3, b4, b5⟩ := trail_loop m1.length m1 (Nat.le_refl _) (by omega) a4
  unfold kinfolkref08_Fold kinfolkref08_Fold_b
  rw [a1]
  simp only [Option.bind_some]
  rw [b1]
  simp only [Option.bind_some]
  rcases two_loop (l := m2) (by omega) (kinfolkref08_Fold N) m2.length 0 (by omega) (by omega) (fun j hj => by omega) with ⟨j, c1, c2⟩ | ⟨c1, c2⟩
  ·obtain ⟨d1, d2, d3⟩ := c1
   have hlen : (m2.take j ++ m2.drop (j + 1)).length = m2.length - 1 := by rw [List.length_append, List.length_take, List.length_drop]; omega
   obtain ⟨m, e1, e2, e3⟩ := ih (m2.take j ++ m2.drop (j + 1)) (by omega) (by omega)
   rw [show (0 : Int) = ((0 : Nat) : Int) from rfl, c2 _ e1]
   refine ⟨m, rfl, ?_, e3⟩
   rw [← e2, ← a2, ← b2]
   have s1 : m2 = m2.take j ++ m2.getD j 0 :: m2.getD (j + 1) 0 :: m2.drop (j + 2) := by
    conv => lhs; rw [← List.take_append_drop j m2]
    rw [drop_cons' (by omega : j < m2.length), drop_cons' d1]
   have s2 : m2.drop (j + 1) = m2.getD j 0 :: m2.drop (j + 2) := by
    rw [drop_cons' d1, show m2.getD (j + 1) 0 = m2.getD j 0 from UInt8.toNat_inj.1 (by rw [d2, d3])]
   conv => lhs; rw [s1]
   rw [fold_double d2 d3, s2]
  ·rw [show (0 : Int) = ((0 : Nat) : Int) from rfl, c1]
   have hc : Clean m2 := ⟨b4, b5, fun p b c q e hbc => c2 p.length ⟨by rw [e]; simp, by rw [e]; simpa [List.getD] using hbc.1, by rw [e]; simpa [List.getD, List.getElem?_append] using hbc.2⟩⟩
   exact ⟨m2, rfl, by rw [← a2, ← b2, fold_clean hc], hc⟩
theorem dec_cont {l : List UInt8} (hl : l ≠ []) (h : decodeL l ≠ (65533, 1)) {j : Nat} (h1 : 1 ≤ j) (h2 : j < (decodeL l).2) : (l.getD j 0).toNat / 64 = 2 := by
 rw [decodeL_N] at h h2
 generalize hb0 : (l.getD 0 0).toNat = b0 at *
 by_cases k0 : b0 < 128
 ·rw [dec0 k0] at h2; simp only at h2; omega
 by_cases kA : b0 / 32 = 6
 ·rw [decA kA] at h h2
  split at h
  ·rename_i q
   rw [if_pos q] at h2
   simp only at h2
   obtain rfl : j = 1 := by omega
   exact q.1.2
  ·exact absurd rfl h
 by_cases kB : b0 / 16 = 14
 ·rw [decB kB] at h h2
  split at h
  ·rename_i q
   rw [if_pos q] at h2
   simp only at h2
   rcases (by omega : j = 1 ∨ j = 2) with rfl | rfl
   ·exact q.1.1.2
   ·exact q.1.2.2
  ·exact absurd rfl h
 by_cases kC : b0 / 8 = 30
 ·rw [decC kC] at h h2
  split at h
  ·rename_i q
   rw [if_pos q] at h2
   simp only at h2
   rcases (by omega : j = 1 ∨ j = 2 ∨ j = 3) with rfl | rfl | rfl
   ·exact q.1.1.2
   ·exact q.1.2.1.2
   ·exact q.1.2.2.2
  ·exact absurd rfl h
 ·exact absurd (decD k0 kA kB kC _ _ _ _) h
theorem chk_split : ∀ (p : List UInt8) (c : UInt8) (q : List UInt8), c.toNat < 128 → chk (p ++ c :: q) = true → chk p = true ∧ chk (c :: q) = true := by
 refine by_len fun p ih c q hc h => ?_
 by_cases hp : p = []
 ·subst hp; exact ⟨rfl, h⟩
 ·have hne : p ++ c :: q ≠ [] := by simp
  have hp1 : 1 ≤ p.length := by cases p with | nil => exact absurd rfl hp | cons => simp
  obtain ⟨h1, h2, h3⟩ := chk_first hne h
  have hw := wid_in hne
  have hle : (decodeL (p ++ c :: q)).2 ≤ p.length := by
   rcases Nat.lt_or_ge p.length (decodeL (p ++ c :: q)).2 with z | z
   ·exfalso
    have := dec_cont hne h1 hp1 z
    have e : (p ++ c :: q).getD p.length 0 = c := by simp [List.getD]
    rw [e] at this
    omega
   ·exact z
  have hd : decodeL p = decodeL (p ++ c :: q) := by
   have := dec_take hne hp1 h1
   rw [if_pos hle, List.take_left] at this
   exact this
  rw [List.drop_append_of_le_length hle] at h3
  obtain ⟨i1, i2⟩ := ih (p.drop (decodeL (p ++ c :: q)).2) (by rw [List.length_drop]; omega) c q hc h3
  refine ⟨?_, i2⟩
  rw [chk_step hp, hd, if_neg h1, h2, i1]
  rfl
theorem chk_blank {b : UInt8} (hb : b.toNat = 32) (q : List UInt8) : chk (b :: q) = chk q := by
 have hd : decodeL (b :: q) = (32, 1) := by
  rw [decodeL_N, show ((b :: q).getD 0 0).toNat = 32 from hb, dec0 (by omega)]
 rw [chk_step (by simp), hd, if_neg (by simp)]
 rfl
theorem chk_drop {p q : List UInt8} {b : UInt8} (hb : b.toNat = 32) (h : chk (p ++ b :: q) = true) : chk (p ++ q) = true := by
 obtain ⟨h1, h2⟩ := chk_split p b q (by omega) h
 rw [chk_blank hb] at h2
 rw [(chk_app p h1 q).1, h2]
theorem chk_sq : ∀ (l : List UInt8) (bl : Bool) (p : List UInt8), chk (p ++ l) = true → chk (p ++ sq bl l) = true
 | [], _, _, h => h
 | b :: r, bl, p, h => by
  rw [sq]
  have hn : chk ((p ++ [b]) ++ r) = true := by rw [List.append_assoc]; exact h
  by_cases hb : b.toNat = 32
  ·rw [if_pos hb]
   cases bl with
   | true => rw [if_pos rfl]; exact chk_sq r true p (chk_drop hb h)
   | false =>
    rw [if_neg (by simp)]
    have := chk_sq r true (p ++ [b]) hn
    rw [List.append_assoc] at this
    exact this
  ·rw [if_neg hb]
   have := chk_sq r false (p ++ [b]) hn
   rw [List.append_assoc] at this
   exact this
theorem chk_fold {l : List UInt8} (h : chk l = true) : chk (foldL l) = true := by
 have h1 := chk_sq l true [] h
 rw [List.nil_append] at h1
 unfold foldL trim1
 generalize sq true l = m at *
 split
 ·rename_i q
  have e : m = m.take (m.length - 1) ++ m.getD (m.length - 1) 0 :: [] := by
   conv => lhs; rw [← List.take_append_drop (m.length - 1) m]
   rw [drop_cons' (by omega : m.length - 1 < m.length), List.drop_eq_nil_of_le (by omega)]
  rw [e] at h1
  exact (chk_split _ _ _ (by omega) h1).1
 ·exact h1
end Go.Proofs.YteiikkpajcggfaaGreatDoor
