/- Quoting on the document's side; told again, on both. The fourth law. Plain. -/
import Derived.Test.YtecblpgljmbpeaaDoorT3
set_option linter.unusedVariables false
set_option linter.unusedSimpArgs false
namespace Go.Proofs.YtecblpgljmbpeaaDoor
open Go.Ev Go.Lib

abbrev hexS : ByteArray := ⟨#[48, 49, 50, 51, 52, 53, 54, 55, 56, 57, 97, 98, 99, 100, 101, 102]⟩
/-! ### The document's quoting -/
theorem q1 : ∀ b : Fin 256, (decide ((0 : Int) ≤ (iquo .u8 (b.val : Int) 16)) && decide (((iquo .u8 (b.val : Int) 16) : Int) ≤ (iadd .u8 (iquo .u8 (b.val : Int) 16) 1)) && decide (((iadd .u8 (iquo .u8 (b.val : Int) 16) 1) : Int) ≤ (hexS.size : Int))) = true := by decide +kernel
theorem q2 : ∀ b : Fin 256, hexS.extract ((iquo .u8 (b.val : Int) 16)).toNat ((iadd .u8 (iquo .u8 (b.val : Int) 16) 1)).toNat = mkS [hexD (b.val / 16)] := by decide +kernel
theorem q3 : ∀ b : Fin 256, (decide ((0 : Int) ≤ (irem .u8 (b.val : Int) 16)) && decide (((irem .u8 (b.val : Int) 16) : Int) ≤ (iadd .u8 (irem .u8 (b.val : Int) 16) 1)) && decide (((iadd .u8 (irem .u8 (b.val : Int) 16) 1) : Int) ≤ (hexS.size : Int))) = true := by decide +kernel
theorem q4 : ∀ b : Fin 256, hexS.extract ((irem .u8 (b.val : Int) 16)).toNat ((iadd .u8 (irem .u8 (b.val : Int) 16) 1)).toNat = mkS [hexD (b.val % 16)] := by decide +kernel
theorem l92 : (⟨#[92]⟩ : ByteArray) = mkS [92] := rfl
theorem l9292 : (⟨#[92, 92]⟩ : ByteArray) = mkS [92, 92] := rfl
theorem l0 : (⟨#[]⟩ : ByteArray) = mkS [] := rfl
theorem l9245 : (⟨#[92, 45]⟩ : ByteArray) = mkS [92, 45] := rfl
theorem bare_not {b : Nat} : bareN b = if b = 92 then false else if b < 33 then false else if 126 < b then false else if b = 34 then false else if b = 59 then false else true := by
  unfold bareN
  by_cases h1 : b = 92
  · simp [h1]
  by_cases h2 : b < 33
  · simp [h1, h2, show ¬ 32 < b by omega]
  by_cases h3 : 126 < b
  · simp [h1, h2, h3, show ¬ b ≤ 126 by omega]
  by_cases h4 : b = 34
  · simp [h4]
  by_cases h5 : b = 59
  · simp [h5]
  · simp [h1, h2, h3, h4, h5, show 32 < b by omega, show b ≤ 126 by omega]
theorem take_one {l : List UInt8} {i : Nat} (hi : i < l.length) : (l.take (i + 1)).drop i = [l.getD i 0] := by
  rw [List.drop_take, show i + 1 - i = 1 by omega, drop_cons' hi]
  rfl
theorem rqstep {l m : List UInt8} {i : Nat} (hi : i < l.length) (hl : l.length ≤ 10000) (hm : m.length ≤ 100000) :
    kinfolkref08_Quote_L0_step (mkS l) (mkS m, (i : Int)) = some (.inl (mkS (m ++ qB (l.getD i 0)), ((i + 1 : Nat) : Int))) := by
  have hx : (mkS l).extract ((i : Int)).toNat (((i + 1 : Nat) : Int)).toNat = mkS [l.getD i 0] := by
    rw [Int.toNat_natCast, Int.toNat_natCast, mkS_ext, take_one hi]
  have ei : iadd .i64 (i : Int) 1 = ((i + 1 : Nat) : Int) := by rw [iadd64 (by omega) (by omega)]; omega
  unfold kinfolkref08_Quote_L0_step
  simp only [ei, hx]
  simp only [Int.toNat_natCast, mkS_get, mkS_size]
  rw [dt (by omega : (i : Int) < (l.length : Int)), dt (by omega : (0 : Int) ≤ (i : Int)), Bool.and_self, cond_true, cond_true]
  have hb := byte_lt (l.getD i 0)
  generalize l.getD i 0 = b at *
  have z1 := q1 ⟨b.toNat, hb⟩
  have z2 := q2 ⟨b.toNat, hb⟩
  have z3 := q3 ⟨b.toNat, hb⟩
  have z4 := q4 ⟨b.toNat, hb⟩
  simp only [hexS] at z1 z2 z3 z4
  rw [z1, z2, z3, z4]
  simp only [cond_true, l92, l9292, mkS_app, mkS_size]
  have e92 : (decide (((b.toNat : Nat) : Int) = 92)) = decide (b.toNat = 92) := by simp only [decide_eq_decide]; omega
  have e33 : (decide (((b.toNat : Nat) : Int) < 33)) = decide (b.toNat < 33) := by simp only [decide_eq_decide]; omega
  have e126 : (decide ((126 : Int) < ((b.toNat : Nat) : Int))) = decide (126 < b.toNat) := by simp only [decide_eq_decide]; omega
  have e34 : (decide (((b.toNat : Nat) : Int) = 34)) = decide (b.toNat = 34) := by simp only [decide_eq_decide]; omega
  have e59 : (decide (((b.toNat : Nat) : Int) = 59)) = decide (b.toNat = 59) := by simp only [decide_eq_decide]; omega
  rw [e92, e33, e126, e34, e59]
  unfold qB
  rw [bare_not]
  simp only [List.length_append, List.length_cons, List.length_nil, List.cons_append, List.nil_append]
  have d0 : decide (i ≤ i + 1) = true := dt (by omega)
  have r1 : decide (m.length + (0 + 1 + 1) ≤ 140737488355328) = true := dt (by omega)
  have r2 : decide (0 + 1 + (0 + 1) ≤ 140737488355328) = true := dt (by omega)
  have r3 : decide (0 + 1 + 1 + (0 + 1) ≤ 140737488355328) = true := dt (by omega)
  have r4 : decide (m.length + (0 + 1 + 1 + 1) ≤ 140737488355328) = true := dt (by omega)
  have r5 : decide (m.length + (0 + 1) ≤ 140737488355328) = true := dt (by omega)
  have r6 : (decide ((i : Int) ≤ ((i + 1 : Nat) : Int))) = true := dt (by omega)
  have r7 : (decide (((i + 1 : Nat) : Int) ≤ (l.length : Int))) = true := dt (by omega)
  simp only [r1, r2, r3, r4, r5, r6, r7, Bool.and_self, cond_true]
  by_cases h1 : b.toNat = 92
  · simp [h1]
  by_cases h2 : b.toNat < 33
  · simp [h1, h2]
  by_cases h3 : 126 < b.toNat
  · simp [h1, h2, h3]
  by_cases h4 : b.toNat = 34
  · simp [h4]
  by_cases h5 : b.toNat = 59
  · simp [h5]
  · simp [h1, h2, h3, h4, h5]
theorem rqloop {l : List UInt8} (hl : l.length ≤ 10000) : ∀ (f i : Nat) (m : List UInt8), l.length ≤ i + f → i ≤ l.length → m.length ≤ 3 * i →
    runL (kinfolkref08_Quote_L0_step (mkS l)) (mkS m, (i : Int)) = some (mkS (m ++ (l.drop i).flatMap qB)) := by
  intro f
  induction f with
  | zero =>
    intro i m h1 h2 hm
    refine runL_done ?_
    unfold kinfolkref08_Quote_L0_step
    simp only [mkS_size]
    rw [df (by omega), drop_nil' (by omega)]
    simp
  | succ f ih =>
    intro i m h1 h2 hm
    by_cases hi : i < l.length
    · have hq := qB_len (l.getD i 0)
      refine (runL_next (rqstep hi hl (by omega))).trans ((ih (i + 1) _ (by omega) (by omega) (by rw [List.length_append]; omega)).trans ?_)
      rw [drop_cons' hi, List.flatMap_cons, List.append_assoc]
    · refine runL_done ?_
      unfold kinfolkref08_Quote_L0_step
      simp only [mkS_size]
      rw [df (by omega), drop_nil' hi]
      simp
theorem rquote_go {l : List UInt8} (hl : l.length ≤ 10000) : kinfolkref08_Quote (mkS l) = some (mkS (quoteL l)) := by
  unfold kinfolkref08_Quote quoteL
  rw [mkS_size]
  by_cases h : l = []
  · subst h
    rw [if_pos rfl]
    rfl
  · have h1 : 1 ≤ l.length := by cases l with | nil => exact absurd rfl h | cons => simp
    rw [df (by omega), if_neg h]
    have := rqloop hl l.length 0 [] (by omega) (by omega) (by simp)
    rw [List.nil_append, List.drop_zero] at this
    rw [l0, show (0 : Int) = ((0 : Nat) : Int) from rfl, this]
    rfl
/-! ### A quoted word's signs -/
def goodB (b : UInt8) : Bool := decide (32 < b.toNat) && decide (b.toNat ≤ 126) && !decide (b.toNat = 59) && !decide (b.toNat = 34)
theorem hex_good : ∀ n : Fin 16, goodB (hexD n.val) = true := by decide +kernel
theorem qB_good (b : UInt8) : ∀ x ∈ qB b, goodB x = true := by
  intro x hx
  have hb := byte_lt b
  unfold qB at hx
  split at hx
  · rename_i h
    obtain rfl := List.mem_singleton.1 hx
    unfold bareN at h
    unfold goodB
    simp only [Bool.and_eq_true] at h ⊢
    exact ⟨⟨h.1.1.1, h.2⟩, h.1.2⟩
  · split at hx
    · simp only [List.mem_cons, List.not_mem_nil, or_false, or_self] at hx
      subst hx
      decide
    · simp only [List.mem_cons, List.not_mem_nil, or_false] at hx
      rcases hx with rfl | rfl | rfl
      · decide
      · exact hex_good ⟨b.toNat / 16, by omega⟩
      · exact hex_good ⟨b.toNat % 16, by omega⟩
theorem quote_good (l : List UInt8) : ∀ x ∈ quoteL l, goodB x = true := by
  intro x hx
  unfold quoteL at hx
  split at hx
  · simp only [List.mem_cons, List.not_mem_nil, or_false] at hx
    rcases hx with rfl | rfl <;> decide
  · obtain ⟨b, -, hb⟩ := List.mem_flatMap.1 hx
    exact qB_good b x hb
theorem good_scan {q : List UInt8} (hq : ∀ x ∈ q, goodB x = true) (hl : q.length ≤ 100000) (s w bk x y : ByteArray) (ok is_ may : Bool) : ∀ (f i : Nat), q.length ≤ i + f → i ≤ q.length →
    runL (kinfolklaw08_TextQuotes_L0_step s w (mkS q) bk ok x is_ y may (q.length : Int)) (i : Int) = some (.inr ()) := by
  intro f
  induction f with
  | zero =>
    intro i h1 h2
    refine runL_done ?_
    unfold kinfolklaw08_TextQuotes_L0_step
    simp only
    rw [df (by omega)]
    rfl
  | succ f ih =>
    intro i h1 h2
    by_cases hi : i < q.length
    · refine (runL_next ?_).trans (ih (i + 1) (by omega) (by omega))
      have hg := hq (q.getD i 0) (by simp [List.getD, hi])
      unfold goodB at hg
      simp only [Bool.and_eq_true, decide_eq_true_eq, Bool.not_eq_true', decide_eq_false_iff_not] at hg
      unfold kinfolklaw08_TextQuotes_L0_step
      simp only [Int.toNat_natCast, mkS_get, mkS_size]
      generalize (q.getD i 0).toNat = b at *
      rw [dt (by omega : (i : Int) < (q.length : Int)), dt (by omega : (0 : Int) ≤ (i : Int)), df (by omega : ¬ (b : Int) ≤ 32), df (by omega : ¬ (126 : Int) < (b : Int)), df (by omega : ¬ (b : Int) = 59), df (by omega : ¬ (b : Int) = 34), iadd64 (by omega) (by omega)]
      rfl
    · refine runL_done ?_
      unfold kinfolklaw08_TextQuotes_L0_step
      simp only
      rw [df (by omega)]
      rfl
end Go.Proofs.YtecblpgljmbpeaaDoor
