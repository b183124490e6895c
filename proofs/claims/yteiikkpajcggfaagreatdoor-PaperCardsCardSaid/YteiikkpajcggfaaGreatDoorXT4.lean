/- Texts behind one another; cut texts. Plain. -/
import Derived.Test.YteiikkpajcggfaaGreatDoorXT3
set_option linter.unusedVariables false
set_option linter.unusedSimpArgs false
namespace Go.Proofs.YteiikkpajcggfaaGreatDoor
open Go.Ev Go.Lib
theorem dec0 {b0 : Nat} (h : b0 < 128) (n b1 b2 b3 : Nat) : decodeN n b0 b1 b2 b3 = (b0, 1) := by unfold decodeN; rw [if_pos h]
theorem decA {b0 : Nat} (h : b0 / 32 = 6) (n b1 b2 b3 : Nat) : decodeN n b0 b1 b2 b3 = if (1 < n ∧ b1 / 64 = 2) ∧ b0 % 32 * 64 + b1 % 64 ≥ 128 then (b0 % 32 * 64 + b1 % 64, 2) else (65533, 1) := by
 unfold decodeN
 rw [if_neg (show ¬ b0 < 128 by omega)]
 by_cases h1 : 1 < n ∧ b1 / 64 = 2
 ·rw [if_pos ⟨h, h1⟩]
  by_cases h2 : b0 % 32 * 64 + b1 % 64 ≥ 128
  ·rw [if_pos h2, if_pos ⟨h1, h2⟩]
  ·rw [if_neg h2, if_neg (fun q => h2 q.2)]
 ·rw [if_neg (fun q => h1 q.2), if_neg (show ¬ (b0 / 16 = 14 ∧ (1 < n ∧ b1 / 64 = 2) ∧ (2 < n ∧ b2 / 64 = 2)) by omega), if_neg (show ¬ (b0 / 8 = 30 ∧ (1 < n ∧ b1 / 64 = 2) ∧ (2 < n ∧ b2 / 64 = 2) ∧ (3 < n ∧ b3 / 64 = 2)) by omega), if_neg (fun q => h1 q.1)]
abbrev okB (v : Nat) : Prop := v ≥ 2048 ∧ (v < 55296 ∨ (57344 ≤ v ∧ v ≤ 1114111))
abbrev okC (v : Nat) : Prop := v ≥ 65536 ∧ (v < 55296 ∨ (57344 ≤ v ∧ v ≤ 1114111))
theorem decB {b0 : Nat} (h : b0 / 16 = 14) (n b1 b2 b3 : Nat) : decodeN n b0 b1 b2 b3 = if ((1 < n ∧ b1 / 64 = 2) ∧ (2 < n ∧ b2 / 64 = 2)) ∧ okB (b0 % 16 * 4096 + b1 % 64 * 64 + b2 % 64) then (b0 % 16 * 4096 + b1 % 64 * 64 + b2 % 64, 3) else (65533, 1) := by
 unfold decodeN
 rw [if_neg (show ¬ b0 < 128 by omega), if_neg (show ¬ (b0 / 32 = 6 ∧ (1 < n ∧ b1 / 64 = 2)) by omega)]
 by_cases h1 : (1 < n ∧ b1 / 64 = 2) ∧ (2 < n ∧ b2 / 64 = 2)
 ·rw [if_pos ⟨h, h1⟩]
  by_cases h2 : okB (b0 % 16 * 4096 + b1 % 64 * 64 + b2 % 64)
  ·rw [if_pos h2, if_pos ⟨h1, h2⟩]
  ·rw [if_neg h2, if_neg (fun q => h2 q.2)]
 ·rw [if_neg (fun q => h1 q.2), if_neg (show ¬ (b0 / 8 = 30 ∧ (1 < n ∧ b1 / 64 = 2) ∧ (2 < n ∧ b2 / 64 = 2) ∧ (3 < n ∧ b3 / 64 = 2)) by omega), if_neg (fun q => h1 q.1)]
theorem decC {b0 : Nat} (h : b0 / 8 = 30) (n b1 b2 b3 : Nat) : decodeN n b0 b1 b2 b3 = if ((1 < n ∧ b1 / 64 = 2) ∧ (2 < n ∧ b2 / 64 = 2) ∧ (3 < n ∧ b3 / 64 = 2)) ∧ okC (b0 % 8 * 262144 + b1 % 64 * 4096 + b2 % 64 * 64 + b3 % 64) then (b0 % 8 * 262144 + b1 % 64 * 4096 + b2 % 64 * 64 + b3 % 64, 4) else (65533, 1) := by
 unfold decodeN
 rw [if_neg (show ¬ b0 < 128 by omega), if_neg (show ¬ (b0 / 32 = 6 ∧ (1 < n ∧ b1 / 64 = 2)) by omega), if_neg (show ¬ (b0 / 16 = 14 ∧ (1 < n ∧ b1 / 64 = 2) ∧ (2 < n ∧ b2 / 64 = 2)) by omega)]
 by_cases h1 : (1 < n ∧ b1 / 64 = 2) ∧ (2 < n ∧ b2 / 64 = 2) ∧ (3 < n ∧ b3 / 64 = 2)
 ·rw [if_pos ⟨h, h1⟩]
  by_cases h2 : okC (b0 % 8 * 262144 + b1 % 64 * 4096 + b2 % 64 * 64 + b3 % 64)
  ·rw [if_pos h2, if_pos ⟨h1, h2⟩]
  ·rw [if_neg h2, if_neg (fun q => h2 q.2)]
 ·rw [if_neg (fun q => h1 q.2), if_neg (fun q => h1 q.1)]
theorem decD {b0 : Nat} (h0 : ¬ b0 < 128) (hA : ¬ b0 / 32 = 6) (hB : ¬ b0 / 16 = 14) (hC : ¬ b0 / 8 = 30) (n b1 b2 b3 : Nat) : decodeN n b0 b1 b2 b3 = (65533, 1) := by
 unfold decodeN
 rw [if_neg h0, if_neg (fun q => hA q.1), if_neg (fun q => hB q.1), if_neg (fun q => hC q.1)]
theorem decodeN_any {n m b0 b1 b2 b3 c1 c2 c3 : Nat} (hm : 1 ≤ m) (h : decodeN n b0 b1 b2 b3 ≠ (65533, 1)) (h1 : 1 < n → 1 < m → c1 = b1) (h2 : 2 < n → 2 < m → c2 = b2) (h3 : 3 < n → 3 < m → c3 = b3) :
  decodeN m b0 c1 c2 c3 = if (decodeN n b0 b1 b2 b3).2 ≤ m then decodeN n b0 b1 b2 b3 else (65533, 1) := by
 by_cases k0 : b0 < 128
 ·rw [dec0 k0, dec0 k0, if_pos hm]
 by_cases kA : b0 / 32 = 6
 ·rw [decA kA] at h ⊢
  rw [decA kA]
  split at h
  ·rename_i q
   rw [if_pos q]
   by_cases hw : 2 ≤ m
   ·rw [if_pos hw, h1 q.1.1 (by omega), if_pos ⟨⟨by omega, q.1.2⟩, q.2⟩]
   ·rw [if_neg hw, if_neg (fun z => hw z.1.1)]
  ·exact absurd rfl h
 by_cases kB : b0 / 16 = 14
 ·rw [decB kB] at h ⊢
  rw [decB kB]
  split at h
  ·rename_i q
   rw [if_pos q]
   by_cases hw : 3 ≤ m
   ·rw [if_pos hw, h1 q.1.1.1 (by omega), h2 q.1.2.1 (by omega), if_pos ⟨⟨⟨by omega, q.1.1.2⟩, by omega, q.1.2.2⟩, q.2⟩]
   ·rw [if_neg hw, if_neg (fun z => hw z.1.2.1)]
  ·exact absurd rfl h
 by_cases kC : b0 / 8 = 30
 ·rw [decC kC] at h ⊢
  rw [decC kC]
  split at h
  ·rename_i q
   rw [if_pos q]
   by_cases hw : 4 ≤ m
   ·rw [if_pos hw, h1 q.1.1.1 (by omega), h2 q.1.2.1.1 (by omega), h3 q.1.2.2.1 (by omega), if_pos ⟨⟨⟨by omega, q.1.1.2⟩, ⟨by omega, q.1.2.1.2⟩, by omega, q.1.2.2.2⟩, q.2⟩]
   ·rw [if_neg hw, if_neg (fun z => hw z.1.2.2.1)]
  ·exact absurd rfl h
 ·exact absurd (decD k0 kA kB kC n b1 b2 b3) h
theorem decodeL_any {l m : List UInt8} (hl : l ≠ []) (hm : m ≠ []) (he : ∀ i, i < l.length → i < m.length → m.getD i 0 = l.getD i 0) (h : decodeL l ≠ (65533, 1)) :
  decodeL m = if (decodeL l).2 ≤ m.length then decodeL l else (65533, 1) := by
 have hl1 : 1 ≤ l.length := by cases l with | nil => exact absurd rfl hl | cons => simp
 have hm1 : 1 ≤ m.length := by cases m with | nil => exact absurd rfl hm | cons => simp
 rw [decodeL_N] at h
 rw [decodeL_N m, decodeL_N l, he 0 (by omega) (by omega)]
 exact decodeN_any hm1 h (fun a b => by rw [he 1 a b]) (fun a b => by rw [he 2 a b]) (fun a b => by rw [he 3 a b])
theorem dec_app {l m : List UInt8} (hl : l ≠ []) (h : decodeL l ≠ (65533, 1)) : decodeL (l ++ m) = decodeL l := by
 have hw := wid_in hl
 rw [decodeL_any hl (by simp [hl]) (fun i h1 _ => by simp [List.getD, List.getElem?_append_left h1]) h, if_pos (by rw [List.length_append]; omega)]
theorem take_ne {l : List UInt8} {i : Nat} (h : 1 ≤ l.length) (hi : 1 ≤ i) : l.take i ≠ [] := fun e => by
 have := congrArg List.length e
 rw [List.length_take, List.length_nil] at this
 omega
theorem dec_take {l : List UInt8} {i : Nat} (hl : l ≠ []) (hi : 1 ≤ i) (h : decodeL l ≠ (65533, 1)) : decodeL (l.take i) = if (decodeL l).2 ≤ i then decodeL l else (65533, 1) := by
 have hw := wid_in hl
 have hl1 : 1 ≤ l.length := by omega
 have hne : l.take i ≠ [] := take_ne (by omega) (by omega)
 rw [decodeL_any hl hne (fun j _ h2 => by rw [List.length_take] at h2; simp [List.getD, List.getElem?_take, show j < i by omega]) h]
 by_cases h1 : (decodeL l).2 ≤ i
 ·rw [if_pos h1, if_pos (by rw [List.length_take]; omega)]
 ·rw [if_neg h1, if_neg (by rw [List.length_take]; omega)]
theorem chk_first {l : List UInt8} (hl : l ≠ []) (h : chk l = true) : decodeL l ≠ (65533, 1) ∧ okR (decodeL l).1 = true ∧ chk (l.drop (decodeL l).2) = true := by
 rw [chk_step hl] at h
 split at h
 ·cases h
 ·rename_i hb
  rw [Bool.and_eq_true] at h
  exact ⟨hb, h.1, h.2⟩
theorem chk_app : ∀ (l : List UInt8), chk l = true → ∀ m, chk (l ++ m) = chk m ∧ runs (l ++ m) = runs l + runs m := by
 refine by_len fun l ih hl m => ?_
 by_cases h : l = []
 ·subst h; simp [runs_nil]
 ·obtain ⟨h1, h2, h3⟩ := chk_first h hl
  have hw := wid_in h
  have ha : l ++ m ≠ [] := by simp [h]
  obtain ⟨i1, i2⟩ := ih (l.drop (decodeL l).2) (by rw [List.length_drop]; omega) h3 m
  have hd : (l ++ m).drop (decodeL l).2 = l.drop (decodeL l).2 ++ m := by rw [List.drop_append_of_le_length hw.2]
  rw [chk_step ha, runs_step ha, runs_step h, dec_app h h1, if_neg h1, h2, hd, i1, i2]
  exact ⟨rfl, by omega⟩
def goods (l : List UInt8) : Nat → Nat → Nat
 | _, 0 => 0
 | i, f + 1 => (if chk (l.take i) = true then 1 else 0) + goods l (i + 1) f
theorem goods_add (l : List UInt8) : ∀ (p i q : Nat), goods l i (p + q) = goods l i p + goods l (i + p) q
 | 0, i, q => by simp [goods]
 | p + 1, i, q => by
  rw [show p + 1 + q = (p + q) + 1 by omega]
  simp only [goods]
  rw [goods_add l p (i + 1) q, show i + 1 + p = i + (p + 1) by omega]
  omega
theorem goods_none (l : List UInt8) : ∀ (f i : Nat), (∀ j, i ≤ j → j < i + f → chk (l.take j) = false) → goods l i f = 0
 | 0, _, _ => rfl
 | f + 1, i, h => by
  simp only [goods]
  rw [h i (by omega) (by omega), goods_none l f (i + 1) (fun j h1 h2 => h j (by omega) (by omega))]
  rfl
theorem goods_shift (l m : List UInt8) (w : Nat) : ∀ (f i : Nat), (∀ j, i ≤ j → chk (l.take (w + j)) = chk (m.take j)) → goods l (w + i) f = goods m i f
 | 0, _, _ => rfl
 | f + 1, i, h => by
  simp only [goods]
  rw [h i (Nat.le_refl _), Nat.add_assoc, goods_shift l m w f (i + 1) (fun j h1 => h j (by omega))]
theorem goods_eq : ∀ (l : List UInt8), chk l = true → goods l 0 (l.length + 1) = runs l + 1 := by
 refine by_len fun l ih hl => ?_
 by_cases h : l = []
 ·subst h; simp [goods, runs_nil, chk_nil]
 ·obtain ⟨h1, h2, h3⟩ := chk_first h hl
  have hw := wid_in h
  generalize hwid : (decodeL l).2 = w at *
  have e := ih (l.drop w) (by rw [List.length_drop]; omega) h3
  rw [List.length_drop] at e
  have hs : ∀ j, 0 ≤ j → chk (l.take (w + j)) = chk ((l.drop w).take j) := fun j _ => by
   have h4 : l.take (w + j) = l.take w ++ (l.drop w).take j := by rw [List.take_add]
   have hne : l.take w ≠ [] := take_ne (by omega) (by omega)
   have hc : chk (l.take w) = true := by
    rw [chk_step hne, dec_take h hw.1 h1, hwid, if_pos (Nat.le_refl _), if_neg h1, h2, hwid, List.drop_eq_nil_of_le (by rw [List.length_take]; omega)]
    rfl
   rw [h4, (chk_app _ hc _).1]
  rw [show l.length + 1 = 1 + ((w - 1) + (l.length - w + 1)) by omega, goods_add l 1, goods_add l (w - 1), goods_none l (w - 1) (0 + 1) (fun j j1 j2 => ?_)]
  ·rw [show 0 + 1 + (w - 1) = w + 0 by omega, goods_shift l (l.drop w) w _ 0 hs, e, runs_step h, hwid]
   simp [goods, chk_nil]
   omega
  ·have hne : l.take j ≠ [] := take_ne (by omega) (by omega)
   rw [chk_step hne, dec_take h (by omega) h1, hwid, if_neg (show ¬ w ≤ j by omega), if_pos rfl]
end Go.Proofs.YteiikkpajcggfaaGreatDoor
