/- Phones, mails: the program's and the document's, plain. -/
import Derived.Test.YteiikkpajcggfaaGreatDoorXT9
set_option linter.unusedVariables false
set_option linter.unusedSimpArgs false
namespace Go.Proofs.YteiikkpajcggfaaGreatDoor
open Go.Ev Go.Lib
theorem iadd_1 {n : Int} (h0 : 0 ≤ n) (h : n < 9223372036854775807) : iadd .i64 n 1 = n + 1 := by
 unfold iadd
 simp [IntKind.wrap, IntKind.bits, IntKind.signed]
 omega
theorem isub_1 {n : Int} (h0 : 0 ≤ n) (h : n < 9223372036854775807) : isub .i64 n 1 = n - 1 := by
 unfold isub
 simp [IntKind.wrap, IntKind.bits, IntKind.signed]
 omega
theorem dec_big {l : List UInt8} {k : Nat} (h : ¬ (l.getD k 0).toNat < 128) : 128 ≤ (decodeL (l.drop k)).1 := by
 rw [dec_at]
 generalize (l.getD k 0).toNat = a at *
 generalize (l.getD (k + 1) 0).toNat = b
 generalize (l.getD (k + 2) 0).toNat = c
 generalize (l.getD (k + 3) 0).toNat = d
 generalize l.length - k = n
 unfold decodeN
 rw [if_neg h]
 repeat' split
 all_goals (simp only; try omega)
theorem dec_small {l : List UInt8} {k : Nat} (h : (l.getD k 0).toNat < 128) : decodeL (l.drop k) = ((l.getD k 0).toNat, 1) := by
 rw [dec_at, decodeN_ascii _ _ _ _ _ h]
theorem drop_cons {l : List UInt8} {k : Nat} (h : k < l.length) : l.drop k = l.getD k 0 :: l.drop (k + 1) := by
 rw [List.drop_eq_getElem_cons h]
 simp [List.getD, h]
def phF (k : Nat) (d : Bool) : List UInt8 → Option Bool
 | [] => some d
 | b :: r => if 48 ≤ b.toNat ∧ b.toNat ≤ 57 then phF (k + 1) true r else if b.toNat = 43 ∧ k = 0 ∨ b.toNat = 32 ∨ b.toNat = 45 then phF (k + 1) d r else none
def phoneL (l : List UInt8) : Bool := (phF 0 false l == some true) && decide (l.length ≤ 20)
theorem phone_loop {l : List UInt8} (hl : l.length ≤ 1000) : ∀ (f k : Nat) (d : Bool), l.length ≤ k + f → k ≤ l.length →
  ∃ k', runL (text_Phone_L0_step (mkS l) (mkS l)) (d, k) = some (match phF k d (l.drop k) with | none => .inl () | some d' => .inr (d', k')) := by
 intro f
 induction f with
 | zero =>
  intro k d h1 h2
  have hk : k = l.length := by omega
  subst hk
  refine ⟨l.length, ?_⟩
  rw [List.drop_length]
  exact runL_done (by simp [text_Phone_L0_step, mkS_size, phF])
 | succ f ih =>
  intro k d h1 h2
  by_cases hk : k < l.length
  ·rw [drop_cons hk]
   by_cases hb : (l.getD k 0).toNat < 128
   ·have hd : Utf8.decode (mkS l) k = ((l.getD k 0).toNat, 1) := by rw [mkS_dec, dec_small hb]
    by_cases c1 : 48 ≤ (l.getD k 0).toNat ∧ (l.getD k 0).toNat ≤ 57
    ·obtain ⟨k', h3⟩ := ih (k + 1) true (by omega) (by omega)
     refine ⟨k', ?_⟩
     rw [phF, if_pos c1, ← h3]
     refine runL_next ?_
     simp only [text_Phone_L0_step, hd, mkS_size]
     simp only [decide_eq_true hk, cond_true, decide_eq_true (show (48 : Int) ≤ ((l.getD k 0).toNat : Int) by omega), decide_eq_true (show ((l.getD k 0).toNat : Int) ≤ 57 by omega)]
    ·rw [phF, if_neg c1]
     by_cases c2 : (l.getD k 0).toNat = 43 ∧ k = 0 ∨ (l.getD k 0).toNat = 32 ∨ (l.getD k 0).toNat = 45
     ·obtain ⟨k', h3⟩ := ih (k + 1) d (by omega) (by omega)
      refine ⟨k', ?_⟩
      rw [if_pos c2, ← h3]
      refine runL_next ?_
      simp only [text_Phone_L0_step, hd, mkS_size, decide_eq_true hk, cond_true]
      generalize (l.getD k 0).toNat = b at *
      rcases c2 with ⟨rfl, rfl⟩ | rfl | rfl <;> simp
     ·refine ⟨0, ?_⟩
      rw [if_neg c2]
      refine runL_done ?_
      simp only [text_Phone_L0_step, hd, mkS_size, decide_eq_true hk, cond_true]
      generalize (l.getD k 0).toNat = b at *
      simp only [not_or, not_and] at c2
      have e1 : decide ((b : Int) = 32) = false := decide_eq_false (by omega)
      have e2 : decide ((b : Int) = 45) = false := decide_eq_false (by omega)
      rw [e1, e2]
      by_cases c3 : (48 : Int) ≤ b
      ·rw [decide_eq_true c3, decide_eq_false (show ¬ (b : Int) ≤ 57 by omega), decide_eq_false (show ¬ (b : Int) = 43 by omega)]
       rfl
      ·rw [decide_eq_false c3]
       by_cases c4 : b = 43
       ·rw [decide_eq_true (show (b : Int) = 43 by omega), decide_eq_false (show ¬ ((k : Int) = 0) by have := c2.1 c4; omega)]
        rfl
       ·rw [decide_eq_false (show ¬ (b : Int) = 43 by omega)]
        rfl
   ·refine ⟨0, ?_⟩
    have hd : 128 ≤ (Utf8.decode (mkS l) k).1 := by rw [mkS_dec]; exact dec_big hb
    have hn : phF k d (l.getD k 0 :: l.drop (k + 1)) = none := by
     rw [phF, if_neg (by omega), if_neg (by omega)]
    rw [hn]
    refine runL_done ?_
    simp only [text_Phone_L0_step, mkS_size, decide_eq_true hk, cond_true]
    generalize (Utf8.decode (mkS l) k).1 = b at *
    rw [decide_eq_true (show (48 : Int) ≤ b by omega), decide_eq_false (show ¬ (b : Int) ≤ 57 by omega), decide_eq_false (show ¬ (b : Int) = 43 by omega), decide_eq_false (show ¬ (b : Int) = 32 by omega), decide_eq_false (show ¬ (b : Int) = 45 by omega)]
    rfl
  ·have hk : k = l.length := by omega
   subst hk
   refine ⟨l.length, ?_⟩
   rw [List.drop_length]
   exact runL_done (by simp [text_Phone_L0_step, mkS_size, phF])
theorem phone_go {l : List UInt8} (hl : l.length ≤ 1000) : text_Phone (mkS l) = some (phoneL l) := by
 obtain ⟨k', h⟩ := phone_loop hl l.length 0 false (by omega) (by omega)
 rw [List.drop_zero] at h
 unfold text_Phone phoneL
 rw [h]
 cases hp : phF 0 false l with
 | none => simp
 | some d =>
  have e : decide ((l.length : Int) ≤ 20) = decide (l.length ≤ 20) := by by_cases h : l.length ≤ 20 <;> simp [h] <;> omega
  cases d <;> simp [mkS_size, e]
def okM (b : UInt8) : Bool := decide (33 ≤ b.toNat) && decide (b.toNat ≤ 126)
def dotOk (w : List UInt8) : Bool := !(w.isEmpty) && !(decide ((w.getD 0 0).toNat = 46)) && !(decide ((w.getD (w.length - 1) 0).toNat = 46)) && w.any fun b => decide (b.toNat = 46)
def is64 (b : UInt8) : Bool := decide (b.toNat = 64)
def mailL (l : List UInt8) : Bool := if l.all okM = true then (if indexByte l 64 ≤ 0 then false else if (l.drop ((indexByte l 64).toNat + 1)).any is64 = true then false else dotOk (l.drop ((indexByte l 64).toNat + 1))) else false
theorem mail_loop {l : List UInt8} (hl : l.length ≤ 1000) : ∀ (f k : Nat), l.length ≤ k + f → k ≤ l.length →
  runL (text_Mail_L0_step (mkS l) ((mkS l).size : Int)) (k : Int) = some (if (l.drop k).all okM = true then .inr () else .inl ()) := by
 intro f
 induction f with
 | zero =>
  intro k h1 h2
  have hk : k = l.length := by omega
  subst hk
  rw [List.drop_length]
  exact runL_done (by simp [text_Mail_L0_step, mkS_size])
 | succ f ih =>
  intro k h1 h2
  by_cases hk : k < l.length
  ·rw [drop_cons hk, List.all_cons]
   have i1 : iadd .i64 (k : Int) 1 = ((k + 1 : Nat) : Int) := by rw [iadd_1 (by omega) (by omega)]; omega
   have hst : decide ((k : Int) < ((mkS l).size : Int)) = true := decide_eq_true (by rw [mkS_size]; omega)
   have hst0 : decide ((0 : Int) ≤ (k : Int)) = true := decide_eq_true (by omega)
   cases hb : okM (l.getD k 0) with
   | true =>
    unfold okM at hb
    simp only [Bool.and_eq_true, decide_eq_true_eq] at hb
    rw [Bool.true_and, ← ih (k + 1) (by omega) (by omega)]
    refine runL_next ?_
    simp only [text_Mail_L0_step, hst, hst0, Bool.true_and, cond_true, Int.toNat_natCast, mkS_get, i1]
    rw [decide_eq_false (show ¬ ((l.getD k 0).toNat : Int) ≤ 32 by omega), decide_eq_false (show ¬ (126 : Int) < ((l.getD k 0).toNat : Int) by omega)]
    rfl
   | false =>
    rw [Bool.false_and]
    refine runL_done ?_
    simp only [text_Mail_L0_step, hst, hst0, Bool.true_and, cond_true, Int.toNat_natCast, mkS_get, i1]
    unfold okM at hb
    by_cases c : (33 : Int) ≤ ((l.getD k 0).toNat : Int)
    ·have : ¬ (l.getD k 0).toNat ≤ 126 := by
      intro h
      rw [decide_eq_true (show 33 ≤ (l.getD k 0).toNat by omega), decide_eq_true h] at hb
      cases hb
     rw [decide_eq_false (show ¬ ((l.getD k 0).toNat : Int) ≤ 32 by omega), decide_eq_true (show (126 : Int) < ((l.getD k 0).toNat : Int) by omega)]
     rfl
    ·rw [decide_eq_true (show ((l.getD k 0).toNat : Int) ≤ 32 by omega)]
     rfl
  ·have hk : k = l.length := by omega
   subst hk
   rw [List.drop_length]
   exact runL_done (by simp [text_Mail_L0_step, mkS_size])
theorem index_any {l : List UInt8} (c : UInt8) : (0 ≤ indexByte l c) ↔ (l.any fun b => decide (b.toNat = c.toNat)) = true := by
 induction l with
 | nil => simp [indexByte]
 | cons b l ih =>
  have h0 := indexByte_ge l c
  rw [indexByte, List.any_cons]
  by_cases h : b = c
  ·subst h; simp
  ·have h2 : ¬ b.toNat = c.toNat := fun e => h (UInt8.toNat_inj.1 e)
   rw [if_neg (by simpa using h), decide_eq_false h2, Bool.false_or, ← ih]
   by_cases h3 : indexByte l c = -1
   ·simp [h3]
   ·simp [h3]; omega
theorem index_lt {l : List UInt8} {c : UInt8} {o : Nat} (h : indexByte l c = o) : o < l.length := by
 have := (indexByte_some h).1
 rcases Nat.lt_or_ge o l.length with h2 | h2
 ·exact h2
 ·rw [List.getElem?_eq_none h2] at this; cases this
theorem trimB_keep {w : List UInt8} {c : UInt8} (hne : w ≠ []) (h0 : ¬ w.getD 0 0 = c) (h1 : ¬ w.getD (w.length - 1) 0 = c) : trimB w c = w := by
 have hl : 0 < w.length := by cases w with | nil => exact absurd rfl hne | cons => simp
 unfold trimB
 rw [trimRightB_take w c w.length (Nat.le_refl _) (fun j b hj hb => by rw [List.getElem?_eq_none hj] at hb; cases hb) (fun b _ hb => by
  intro e
  apply h1
  simp [List.getD, hb, e])]
 rw [List.take_length, trimLeftB_drop w c 0 (by omega) (fun j b hj => by omega) (fun b hb => by
  intro e
  apply h0
  simp [List.getD, hb, e])]
 rfl
theorem mail_tail {w : List UInt8} (hw : w.length ≤ 1000) (s4 : ByteArray) (h4 : strings_Trim (mkS w) (⟨#[46]⟩ : ByteArray) = some s4) :
  ((strings_Contains s4 (⟨#[46]⟩ : ByteArray)).bind fun b3 =>
   bif b3 then
    bif decide ((0 : Int) ≤ 0) && decide ((0 : Int) < ((mkS w).size : Int)) then
    bif (decide (((((mkS w).data.getD 0 0).toNat : Int) : Int) = 46)) then
     some false
    else
     bif decide ((0 : Int) ≤ (isub .i64 ((mkS w).size : Int) 1)) && decide (((isub .i64 ((mkS w).size : Int) 1) : Int) < ((mkS w).size : Int)) then
     some (!(decide (((((mkS w).data.getD ((isub .i64 ((mkS w).size : Int) 1)).toNat 0).toNat : Int) : Int) = 46)))
     else none
    else none
   else
    some false) = some (dotOk w) := by
 have h46 : (46 : UInt8).toNat = 46 := rfl
 have hs4 : s4 = mkS (trimB w 46) := by
  unfold strings_Trim at h4
  have : (⟨#[46]⟩ : ByteArray).data.toList = [46] := rfl
  rw [this] at h4
  simp only [mkS_size, mkS_list] at h4
  rw [if_pos ⟨by decide, by omega⟩] at h4
  cases h4
  rfl
 have hc : ∀ v : List UInt8, strings_Contains (mkS v) (⟨#[46]⟩ : ByteArray) = some (v.any fun b => decide (b.toNat = 46)) := by
  intro v
  unfold strings_Contains
  have : (⟨#[46]⟩ : ByteArray).data.toList = [46] := rfl
  rw [this]
  simp only [mkS_list]
  congr 1
  have := index_any (l := v) 46
  rw [h46] at this
  cases hx : (v.any fun b => decide (b.toNat = 46)) with
  | true => exact decide_eq_true (this.2 hx)
  | false => exact decide_eq_false (fun h => by rw [this.1 h] at hx; cases hx)
 rw [hs4, hc]
 simp only [Option.bind_some]
 cases w with
 | nil => simp [trimB, trimLeftB, trimRightB, dotOk]
 | cons b0 w0 =>
  generalize hww : b0 :: w0 = w at *
  have hne : w ≠ [] := by rw [← hww]; simp
  have hl : 0 < w.length := by rw [← hww]; simp
  have is1 : isub .i64 ((mkS w).size : Int) 1 = ((w.length - 1 : Nat) : Int) := by rw [mkS_size, isub_1 (by omega) (by omega)]; omega
  have hd1 : (decide ((0 : Int) ≤ 0) && decide ((0 : Int) < ((mkS w).size : Int))) = true := by rw [mkS_size]; simp; omega
  have hd2 : (decide ((0 : Int) ≤ ((w.length - 1 : Nat) : Int)) && decide (((w.length - 1 : Nat) : Int) < ((mkS w).size : Int))) = true := by rw [mkS_size]; simp; omega
  rw [is1, hd1, hd2]
  simp only [cond_true, mkS_get, Int.toNat_natCast]
  have hem : w.isEmpty = false := by rw [← hww]; rfl
  unfold dotOk
  rw [hem]
  by_cases k0 : (w.getD 0 0).toNat = 46
  ·rw [decide_eq_true (show ((w.getD 0 0).toNat : Int) = 46 by omega), decide_eq_true k0]
   cases (List.any (trimB w 46) fun b => decide (b.toNat = 46)) <;> rfl
  ·rw [decide_eq_false (show ¬ ((w.getD 0 0).toNat : Int) = 46 by omega), decide_eq_false k0]
   by_cases k1 : (w.getD (w.length - 1) 0).toNat = 46
   ·rw [decide_eq_true (show ((w.getD (w.length - 1) 0).toNat : Int) = 46 by omega), decide_eq_true k1]
    cases (List.any (trimB w 46) fun b => decide (b.toNat = 46)) <;> rfl
   ·rw [decide_eq_false (show ¬ ((w.getD (w.length - 1) 0).toNat : Int) = 46 by omega), decide_eq_false k1]
    rw [trimB_keep hne (fun h => k0 (by rw [h]; rfl)) (fun h => k1 (by rw [h]; rfl))]
    cases (List.any w fun b => decide (b.toNat = 46)) <;> rfl
theorem cut_go {l : List UInt8} (hl : l.length ≤ 1000) : strings_Cut (mkS l) (⟨#[64]⟩ : ByteArray) = some (if 0 ≤ indexByte l 64 then (mkS (l.take (indexByte l 64).toNat), mkS (l.drop ((indexByte l 64).toNat + 1)), true) else (mkS l, (⟨#[]⟩ : ByteArray), false)) := by
 unfold strings_Cut stringslite_Cut stringslite_Index
 have : (⟨#[64]⟩ : ByteArray).data.toList = [64] := rfl
 rw [this]
 simp only [mkS_list, Option.bind_some]
 by_cases h : 0 ≤ indexByte l 64
 ·rw [if_pos h, decide_eq_true h]
  obtain ⟨o, ho⟩ : ∃ o : Nat, indexByte l 64 = o := ⟨(indexByte l 64).toNat, by omega⟩
  have hlt := index_lt ho
  rw [ho]
  have hs : ((⟨#[64]⟩ : ByteArray).size : Int) = 1 := rfl
  have i1 : iadd .i64 (o : Int) 1 = ((o + 1 : Nat) : Int) := by rw [iadd_1 (by omega) (by omega)]; omega
  rw [hs, i1, mkS_size]
  rw [decide_eq_true (show (o : Int) ≤ (l.length : Int) by omega), decide_eq_true (show (0 : Int) ≤ ((o + 1 : Nat) : Int) by omega), decide_eq_true (show ((o + 1 : Nat) : Int) ≤ (l.length : Int) by omega), decide_eq_true (show (l.length : Int) ≤ (l.length : Int) by omega)]
  simp only [cond_true, Bool.and_self, Int.toNat_natCast, mkS_ext, Option.bind_some]
  simp
 ·rw [if_neg h, decide_eq_false h]
  rfl
theorem mail_go {l : List UInt8} (hl : l.length ≤ 1000) : text_Mail (mkS l) = some (mailL l) := by
 have h := mail_loop hl l.length 0 (by omega) (by omega)
 rw [List.drop_zero] at h
 have e0 : ((0 : Nat) : Int) = 0 := rfl
 rw [e0] at h
 unfold text_Mail mailL
 rw [h]
 by_cases ha : l.all okM = true
 ·rw [if_pos ha, if_pos ha]
  simp only [Option.bind_some]
  rw [cut_go hl]
  simp only [Option.bind_some]
  by_cases hi : 0 ≤ indexByte l 64
  ·obtain ⟨o, ho⟩ : ∃ o : Nat, indexByte l 64 = o := ⟨(indexByte l 64).toNat, by omega⟩
   have hlt := index_lt ho
   rw [if_pos hi, ho]
   simp only [Int.toNat_natCast, cond_true]
   by_cases hz : o = 0
   ·subst hz
    have hd : decide (mkS (l.take 0) = (⟨#[]⟩ : ByteArray)) = true := decide_eq_true rfl
    rw [hd]
    simp
   ·have hne : ¬ mkS (l.take o) = (⟨#[]⟩ : ByteArray) := by
     intro e
     have : mkS (l.take o) = mkS [] := e
     rw [mkS_inj] at this
     have h2 := congrArg List.length this
     rw [List.length_take, List.length_nil] at h2
     omega
    rw [decide_eq_false hne, if_neg (show ¬ ((o : Int) ≤ 0) by omega)]
    simp only [cond_false]
    have hc : strings_Contains (mkS (l.drop (o + 1))) (⟨#[64]⟩ : ByteArray) = some ((l.drop (o + 1)).any is64) := by
     unfold strings_Contains
     have : (⟨#[64]⟩ : ByteArray).data.toList = [64] := rfl
     rw [this]
     simp only [mkS_list]
     congr 1
     have := index_any (l := l.drop (o + 1)) 64
     have h64 : (64 : UInt8).toNat = 64 := rfl
     rw [h64] at this
     unfold is64
     cases hx : ((l.drop (o + 1)).any fun b => decide (b.toNat = 64)) with
     | true => exact decide_eq_true (this.2 hx)
     | false => exact decide_eq_false (fun h => by rw [this.1 h] at hx; cases hx)
    rw [hc]
    simp only [Option.bind_some]
    cases hx : (l.drop (o + 1)).any is64 with
    | true => rfl
    | false =>
     simp only [cond_false]
     have hw : (l.drop (o + 1)).length ≤ 1000 := by rw [List.length_drop]; omega
     have ht : ∃ s4, strings_Trim (mkS (l.drop (o + 1))) (⟨#[46]⟩ : ByteArray) = some s4 := by
      unfold strings_Trim
      have : (⟨#[46]⟩ : ByteArray).data.toList = [46] := rfl
      rw [this]
      simp only [mkS_size]
      rw [if_pos ⟨by decide, by omega⟩]
      exact ⟨_, rfl⟩
     obtain ⟨s4, h4⟩ := ht
     rw [h4]
     simp only [Option.bind_some]
     rw [mail_tail hw s4 h4]
     simp
  ·rw [if_neg hi, if_pos (show indexByte l 64 ≤ 0 by omega)]
   rfl
 ·rw [if_neg ha, if_neg ha]
  rfl
end Go.Proofs.YteiikkpajcggfaaGreatDoor
