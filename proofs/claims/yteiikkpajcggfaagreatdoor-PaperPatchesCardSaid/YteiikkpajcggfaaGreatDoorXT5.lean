/- Blanks, folded on both sides. The third law. Plain. -/
import Derived.Test.YteiikkpajcggfaaGreatDoorXT4
set_option linter.unusedVariables false
set_option linter.unusedSimpArgs false
namespace Go.Proofs.YteiikkpajcggfaaGreatDoor
open Go.Ev Go.Lib
def sq : Bool → List UInt8 → List UInt8
 | _, [] => []
 | bl, b :: r => if b.toNat = 32 then (if bl = true then sq true r else b :: sq true r) else b :: sq false r
def trim1 (l : List UInt8) : List UInt8 := if l.length ≠ 0 ∧ (l.getD (l.length - 1) 0).toNat = 32 then l.take (l.length - 1) else l
def foldL (l : List UInt8) : List UInt8 := trim1 (sq true l)
theorem sq_len : ∀ (bl : Bool) (l : List UInt8), (sq bl l).length ≤ l.length
 | _, [] => by simp [sq]
 | bl, b :: r => by
  have h1 := sq_len true r
  have h2 := sq_len false r
  unfold sq
  split
  ·split <;> simp <;> omega
  ·simp; omega
theorem fstep {l t : List UInt8} {i : Nat} {bl : Bool} (hi : i < l.length) (hl : l.length ≤ 1000) (ht : t.length ≤ 10000) :
  text_Fold_L0_2_step l.length (l.length : Int) (bI l) (bl, (i : Int), bI t) = some (.inl (decide ((l.getD i 0).toNat = 32), ((i + 1 : Nat) : Int), bI (if (l.getD i 0).toNat = 32 ∧ bl = true then t else t ++ [l.getD i 0]))) := by
 have e1 : iadd .i64 (i : Int) 1 = ((i + 1 : Nat) : Int) := by rw [iadd64 (by omega) (by omega)]; omega
 unfold text_Fold_L0_2_step
 simp only [e1, Int.toNat_natCast, Nat.zero_add]
 rw [bI_get hi, dt (by omega : (i : Int) < (l.length : Int)), dt (by omega : (0 : Int) ≤ (i : Int))]
 simp only [Bool.and_self, cond_true]
 have hd : decide ((((l.getD i 0).toNat : Nat) : Int) = 32) = decide ((l.getD i 0).toNat = 32) := by simp only [decide_eq_decide]; omega
 have hf : fits ((bI t ++ [(((l.getD i 0).toNat : Nat) : Int)])).length = true := fits_ok (by simp [bI_len]; omega)
 rw [hd, hf]
 by_cases h : (l.getD i 0).toNat = 32
 ·rw [dt h]
  cases bl with
  | true => rw [if_pos ⟨h, rfl⟩]; rfl
  | false => rw [if_neg (by simp), bI_app]; rfl
 ·rw [df h, if_neg (fun q => h q.1), bI_app]; rfl
theorem sq_next {l : List UInt8} {i : Nat} (hi : i < l.length) (bl : Bool) (t : List UInt8) :
  t ++ sq bl (l.drop i) = (if (l.getD i 0).toNat = 32 ∧ bl = true then t else t ++ [l.getD i 0]) ++ sq (decide ((l.getD i 0).toNat = 32)) (l.drop (i + 1)) := by
 rw [drop_cons' hi, sq]
 by_cases h : (l.getD i 0).toNat = 32
 ·rw [if_pos h, dt h]
  cases bl with
  | true => rw [if_pos rfl, if_pos ⟨h, rfl⟩]
  | false => rw [if_neg (by simp), if_neg (by simp), List.append_assoc]; rfl
 ·rw [if_neg h, df h, if_neg (fun q => h q.1), List.append_assoc]; rfl
theorem floop {l : List UInt8} (hl : l.length ≤ 1000) : ∀ (f i : Nat) (bl : Bool) (t : List UInt8), l.length ≤ i + f → i ≤ l.length → t.length ≤ i →
  runL (text_Fold_L0_2_step l.length (l.length : Int) (bI l)) (bl, (i : Int), bI t) = some (bI (t ++ sq bl (l.drop i))) := by
 intro f
 induction f with
 | zero =>
  intro i bl t h1 h2 h3
  refine runL_done ?_
  unfold text_Fold_L0_2_step
  simp only
  rw [df (by omega), drop_nil' (by omega), sq, List.append_nil]
  rfl
 | succ f ih =>
  intro i bl t h1 h2 h3
  by_cases hi : i < l.length
  ·refine (runL_next (fstep hi hl (by omega))).trans ((ih (i + 1) _ _ (by omega) (by omega) (by split <;> (try rw [List.length_append, List.length_singleton]) <;> omega)).trans ?_)
   rw [sq_next hi]
  ·refine runL_done ?_
   unfold text_Fold_L0_2_step
   simp only
   rw [df (by omega), drop_nil' hi, sq, List.append_nil]
   rfl
theorem last_one {l : List UInt8} (h : l.length ≠ 0) : (l.take l.length).drop (l.length - 1) = [l.getD (l.length - 1) 0] := by
 rw [List.take_length, drop_cons' (by omega), List.drop_eq_nil_of_le (by omega)]
theorem l32 : (⟨#[32]⟩ : ByteArray) = mkS [32] := rfl
theorem trim_go {l : List UInt8} (hl : l.length ≤ 1000) : strings_TrimSuffix (mkS l) (⟨#[32]⟩ : ByteArray) = some (mkS (trim1 l)) := by
 unfold strings_TrimSuffix stringslite_TrimSuffix stringslite_HasSuffix trim1
 rw [l32]
 simp only [mkS_size, List.length_cons, List.length_nil]
 by_cases h0 : l.length = 0
 ·rw [df (by omega : ¬ ((0 + 1 : Nat) : Int) ≤ (l.length : Int)), if_neg (fun q => q.1 h0)]
  rfl
 ·have e1 : isub .i64 (l.length : Int) ((0 + 1 : Nat) : Int) = ((l.length - 1 : Nat) : Int) := by rw [isub64 (by omega) (by omega)]; omega
  rw [e1, dt (by omega : ((0 + 1 : Nat) : Int) ≤ (l.length : Int)), dt (by omega : (0 : Int) ≤ ((l.length - 1 : Nat) : Int)), dt (by omega : ((l.length - 1 : Nat) : Int) ≤ (l.length : Int)), dt (by omega : (l.length : Int) ≤ (l.length : Int)), dt (by omega : (0 : Int) ≤ 0)]
  simp only [Bool.and_self, cond_true, Int.toNat_natCast, Option.bind_some, mkS_ext, List.drop_zero, last_one h0]
  by_cases h : (l.getD (l.length - 1) 0).toNat = 32
  ·have e : l.getD (l.length - 1) 0 = 32 := by
    apply UInt8.toNat_inj.1
    rw [h]
    rfl
   rw [if_pos ⟨h0, h⟩, e, decide_eq_true (rfl : mkS [32] = mkS [32])]
   rfl
  ·rw [if_neg (fun q => h q.2), df (fun z => h (by have := mkS_inj.1 z; simp only [List.cons.injEq, and_true] at this; rw [this]; rfl))]
   rfl
theorem fold_go {l : List UInt8} (hl : l.length ≤ 1000) : text_Fold (mkS l) = some (mkS (foldL l)) := by
 have h := floop hl l.length 0 true [] (by omega) (by omega) (by simp)
 rw [List.drop_zero, List.nil_append] at h
 have h2 := sq_len true l
 unfold text_Fold foldL
 rw [mkS_size, dt (by omega), cond_true, bI_mk, bI_len, show ((true, (0 : Int), ([] : List Int)) : Bool × Int × List Int) = (true, ((0 : Nat) : Int), bI []) from rfl, h]
 simp only [Option.bind_some]
 rw [strOf_take, trim_go (by omega)]
 rfl
structure Clean (l : List UInt8) : Prop where
 lead : ∀ b r, l = b :: r → ¬ b.toNat = 32
 trail : ∀ m b, l = m ++ [b] → ¬ b.toNat = 32
 two : ∀ p b c q, l = p ++ b :: c :: q → ¬ (b.toNat = 32 ∧ c.toNat = 32)
end Go.Proofs.YteiikkpajcggfaaGreatDoor
