/- May it be written? How many signs? Both sides, sign by sign. Plain. -/
import Derived.Test.YteiikkpajcggfaaGreatDoorXT1
set_option linter.unusedVariables false
set_option linter.unusedSimpArgs false
namespace Go.Proofs.YteiikkpajcggfaaGreatDoor
open Go.Ev Go.Lib
theorem wid_in {l : List UInt8} (h : l ≠ []) : 1 ≤ (decodeL l).2 ∧ (decodeL l).2 ≤ l.length := by
 have hl : 1 ≤ l.length := by cases l with | nil => exact absurd rfl h | cons => simp
 rw [decodeL_N]
 generalize (l.getD 0 0).toNat = b0
 generalize (l.getD 1 0).toNat = b1
 generalize (l.getD 2 0).toNat = b2
 generalize (l.getD 3 0).toNat = b3
 unfold decodeN
 repeat' split
 all_goals (constructor <;> simp only <;> omega)
theorem drop_ne {l : List UInt8} {k : Nat} (h : k < l.length) : l.drop k ≠ [] := by
 intro e
 have := congrArg List.length e
 simp at this
 omega
theorem drop_nil' {l : List UInt8} {k : Nat} (h : ¬ k < l.length) : l.drop k = [] := List.drop_eq_nil_of_le (by omega)
def okR (r : Nat) : Bool := decide (32 ≤ r) && !(decide (r = 127))
def plainF : Nat → List UInt8 → Bool
 | 0, _ => true
 | f + 1, l => if l = [] then true else okR (decodeL l).1 && plainF f (l.drop (decodeL l).2)
def chkF : Nat → List UInt8 → Bool
 | 0, _ => true
 | f + 1, l => if l = [] then true else if decodeL l = (65533, 1) then false else okR (decodeL l).1 && chkF f (l.drop (decodeL l).2)
theorem chkF_fuel : ∀ (f g : Nat) (l : List UInt8), l.length ≤ f → l.length ≤ g → chkF f l = chkF g l
 | 0, 0, _, _, _ => rfl
 | 0, g + 1, l, h, _ => by rw [List.length_eq_zero_iff.1 (by omega : l.length = 0)]; rfl
 | f + 1, 0, l, _, h => by rw [List.length_eq_zero_iff.1 (by omega : l.length = 0)]; rfl
 | f + 1, g + 1, l, hf, hg => by
  by_cases h : l = []
  ·subst h; rfl
  ·have := wid_in h
   simp only [chkF, if_neg h]
   rw [chkF_fuel f g _ (by rw [List.length_drop]; omega) (by rw [List.length_drop]; omega)]
theorem plainF_fuel : ∀ (f g : Nat) (l : List UInt8), l.length ≤ f → l.length ≤ g → plainF f l = plainF g l
 | 0, 0, _, _, _ => rfl
 | 0, g + 1, l, h, _ => by rw [List.length_eq_zero_iff.1 (by omega : l.length = 0)]; rfl
 | f + 1, 0, l, _, h => by rw [List.length_eq_zero_iff.1 (by omega : l.length = 0)]; rfl
 | f + 1, g + 1, l, hf, hg => by
  by_cases h : l = []
  ·subst h; rfl
  ·have := wid_in h
   simp only [plainF, if_neg h]
   rw [plainF_fuel f g _ (by rw [List.length_drop]; omega) (by rw [List.length_drop]; omega)]
def chk (l : List UInt8) : Bool := chkF l.length l
def plains (l : List UInt8) : Bool := plainF l.length l
theorem chk_step {l : List UInt8} (h : l ≠ []) : chk l = if decodeL l = (65533, 1) then false else okR (decodeL l).1 && chk (l.drop (decodeL l).2) := by
 have hw := wid_in h
 unfold chk
 obtain ⟨n, hn⟩ : ∃ n, l.length = n + 1 := ⟨l.length - 1, by omega⟩
 rw [hn]
 simp only [chkF, if_neg h]
 rw [chkF_fuel n (l.drop (decodeL l).2).length _ (by rw [List.length_drop]; omega) (Nat.le_refl _)]
theorem plains_step {l : List UInt8} (h : l ≠ []) : plains l = (okR (decodeL l).1 && plains (l.drop (decodeL l).2)) := by
 have hw := wid_in h
 unfold plains
 obtain ⟨n, hn⟩ : ∃ n, l.length = n + 1 := ⟨l.length - 1, by omega⟩
 rw [hn]
 simp only [plainF, if_neg h]
 rw [plainF_fuel n (l.drop (decodeL l).2).length _ (by rw [List.length_drop]; omega) (Nat.le_refl _)]
theorem by_len {p : List UInt8 → Prop} (h : ∀ l, (∀ m : List UInt8, m.length < l.length → p m) → p l) : ∀ l, p l := by
 intro l
 exact (measure List.length).wf.induction (C := p) l h
theorem chk_and : ∀ l : List UInt8, chk l = (validD l && plains l) := by
 refine by_len fun l ih => ?_
 by_cases h : l = []
 ·subst h; rfl
 ·have hw := wid_in h
  have := ih (l.drop (decodeL l).2) (by rw [List.length_drop]; omega)
  rw [chk_step h, validD_step l h, plains_step h, this]
  by_cases hb : decodeL l = (65533, 1)
  ·rw [if_pos hb, hb]
   simp
  ·rw [if_neg hb, if_neg (fun hc => hb (Prod.ext hc.1 hc.2))]
   cases okR (decodeL l).1 <;> cases validD (l.drop (decodeL l).2) <;> rfl
theorem plain_go (r : Nat) : text_Check_1 (r : Int) = some (!okR r) := by
 unfold text_Check_1 text_plain okR
 by_cases h : 32 ≤ r
 ·rw [dt (by omega : (32 : Int) ≤ (r : Int))]
  simp only [cond_true, Option.bind_some, decide_eq_true h, Bool.true_and]
  by_cases h2 : r = 127
  ·rw [decide_eq_true h2, dt (by omega : (r : Int) = 127)]
  ·rw [decide_eq_false h2, df (by omega : ¬ (r : Int) = 127)]
 ·rw [df (by omega : ¬ (32 : Int) ≤ (r : Int))]
  simp only [cond_false, Option.bind_some, decide_eq_false h, Bool.false_and]
theorem index_go {l : List UInt8} : ∀ (f k : Nat), l.length ≤ k + f → k ≤ l.length →
  ∃ z, runL (strings_indexFunc_L0_step true (mkS l)) k = some z ∧ (match z with | .inl n => 0 ≤ n ∧ plains (l.drop k) = false | .inr _ => plains (l.drop k) = true) := by
 intro f
 induction f with
 | zero =>
  intro k h1 h2
  refine ⟨.inr k, runL_done ?_, ?_⟩
  ·unfold strings_indexFunc_L0_step
   simp only [mkS_size]
   rw [df (by omega)]
   rfl
  ·simp only [drop_nil' (by omega : ¬ k < l.length)]; rfl
 | succ f ih =>
  intro k h1 h2
  by_cases hk : k < l.length
  ·have hw := wid_in (drop_ne hk)
   rw [List.length_drop] at hw
   rw [plains_step (drop_ne hk)]
   have hs : strings_indexFunc_L0_step true (mkS l) k = bif ((!(okR (decodeL (l.drop k)).1)) == true) then some (.inr (.inl (k : Int))) else some (.inl (k + (decodeL (l.drop k)).2)) := by
    unfold strings_indexFunc_L0_step
    simp only [mkS_size, mkS_dec]
    rw [dt hk, cond_true, plain_go]
    rfl
   cases ho : okR (decodeL (l.drop k)).1 with
   | false =>
    rw [ho] at hs
    exact ⟨.inl (k : Int), runL_done hs, by omega, rfl⟩
   | true =>
    rw [ho] at hs
    obtain ⟨z, hz, hp⟩ := ih (k + (decodeL (l.drop k)).2) (by omega) (by omega)
    refine ⟨z, (runL_next hs).trans hz, ?_⟩
    rw [List.drop_drop, Bool.true_and]
    exact hp
  ·refine ⟨.inr k, runL_done ?_, ?_⟩
   ·unfold strings_indexFunc_L0_step
    simp only [mkS_size]
    rw [df hk]
    rfl
   ·simp only [drop_nil' hk]; rfl
theorem contains_go (l : List UInt8) : strings_ContainsFunc (mkS l) = some (!plains l) := by
 obtain ⟨z, hz, hp⟩ := index_go (l := l) l.length 0 (by omega) (by omega)
 unfold strings_ContainsFunc strings_IndexFunc strings_indexFunc
 rw [hz]
 cases z with
 | inl n =>
  simp only [List.drop_zero] at hp
  simp only [Option.bind_some]
  rw [dt hp.1, hp.2]
  rfl
 | inr n =>
  simp only [List.drop_zero] at hp
  simp only [Option.bind_some]
  rw [df (by omega), hp]
  rfl
theorem check_go {l : List UInt8} (most : Int) (hl : l.length ≤ 1000) : text_Check (mkS l) most = some (if most < (l.length : Int) then 9 else if chk l = true then 0 else 7) := by
 unfold text_Check
 rw [mkS_size, contains_go, chk_and]
 by_cases h : most < (l.length : Int)
 ·rw [dt h, if_pos h]; rfl
 ·rw [df h, if_neg h]
  unfold utf8_ValidString
  rw [mkS_size, if_pos (by omega), mkS_list]
  cases validD l <;> cases plains l <;> rfl
end Go.Proofs.YteiikkpajcggfaaGreatDoor
