/- Fields and rows of them: what the library's functions on them come to. Plain. -/
import Derived.Test.YteiikkpajcggfaaGreatDoorCT1
import Derived.Test.YteiikkpajcggfaaGreatDoorSo
set_option linter.unusedVariables false
set_option linter.unusedSimpArgs false
namespace Go.Proofs.YteiikkpajcggfaaGreatDoor
open Go.Ev Go.Lib
abbrev Fd := E_card_Field
abbrev Gd := E_kinfolkref09_Field
def toR : Fd → Gd | .mk a b c => .mk a b c
instance : DecidableEq Fd := fun x y => decidable_of_iff (fkey x = fkey y) ⟨fkey_inj, fun h => by rw [h]⟩
theorem eqd (a : Int) (b c : ByteArray) (d : Int) (e f : ByteArray) : ((decide (a = d)) && ((decide ((b : ByteArray) = e)) && ((decide ((c : ByteArray) = f)) && true))) = decide (E_card_Field.mk a b c = .mk d e f) := by
 rw [Bool.eq_iff_iff]
 simp
theorem runL_iter {σ ρ : Type} {step : σ → Option (σ ⊕ ρ)} (h : Nat → σ) {z : ρ} : ∀ (n : Nat), (∀ k, k < n → step (h k) = some (.inl (h (k + 1)))) → step (h n) = some (.inr z) → runL step (h 0) = some z
 | 0, _, he => runL_done he
 | n + 1, hs, he => by
  rw [runL_next (hs 0 (by omega))]
  exact runL_iter (fun k => h (k + 1)) n (fun k hk => hs (k + 1) (by omega)) he
theorem firstI {α : Type} (p : α → Bool) : ∀ l : List α, (∃ i x, l[i]? = some x ∧ p x = true ∧ i < l.length ∧ ∀ j y, j < i → l[j]? = some y → p y = false) ∨ ∀ x ∈ l, p x = false
 | [] => .inr fun x hx => by cases hx
 | a :: l => by
  cases hp : p a with
  | true => exact .inl ⟨0, a, rfl, hp, by simp, fun j y hj => absurd hj (by omega)⟩
  | false =>
   rcases firstI p l with ⟨i, x, h1, h2, h3, h4⟩ | h
   ·refine .inl ⟨i + 1, x, by simpa using h1, h2, by simp; omega, fun j y hj hy => ?_⟩
    cases j with
    | zero => simp at hy; rw [← hy]; exact hp
    | succ j => exact h4 j y (by omega) (by simpa using hy)
   ·exact .inr fun x hx => by
     rcases List.mem_cons.1 hx with rfl | hx
     ·exact hp
     ·exact h x hx
theorem getS {α : Type} {l : List α} {k : Nat} (h : k < l.length) : ∃ x, l[k]? = some x := ⟨l[k], List.getElem?_eq_getElem h⟩
theorem take_s {α : Type} {l : List α} {k : Nat} {x : α} (h : l[k]? = some x) : l.take (k + 1) = l.take k ++ [x] := by rw [List.take_add_one, h]; rfl
theorem mem_of_get {α : Type} {l : List α} {k : Nat} {x : α} (h : l[k]? = some x) : x ∈ l := List.mem_of_getElem? h
theorem lt_of_get {α : Type} {l : List α} {k : Nat} {x : α} (h : l[k]? = some x) : k < l.length := by
 rcases Nat.lt_or_ge k l.length with h2 | h2
 ·exact h2
 ·rw [List.getElem?_eq_none h2] at h; cases h
theorem first_go {α A B : Type} {p : α → Bool} {s : List α} {a : Nat → α → A} {b : B} {step : Int → Option (Int ⊕ (A ⊕ B))}
  (hs : ∀ (k : Nat) (x : α), s[k]? = some x → step (k : Int) = some (if p x = true then .inr (.inl (a k x)) else .inl ((k + 1 : Nat) : Int)))
  (he : step (s.length : Int) = some (.inr (.inr b))) :
  (∃ i x, s[i]? = some x ∧ p x = true ∧ (∀ j y, j < i → s[j]? = some y → p y = false) ∧ runL step 0 = some (.inl (a i x))) ∨ ((∀ x ∈ s, p x = false) ∧ runL step 0 = some (.inr b)) := by
 have e0 : ((0 : Nat) : Int) = 0 := rfl
 rcases firstI p s with ⟨i, x, h1, h2, h3, h4⟩ | h
 ·refine .inl ⟨i, x, h1, h2, h4, ?_⟩
  rw [← e0]
  refine runL_iter (fun k : Nat => (k : Int)) i (fun k hk => ?_) ?_
  ·obtain ⟨y, hy⟩ := getS (l := s) (k := k) (by omega)
   rw [hs k y hy, if_neg (by rw [h4 k y hk hy]; simp)]
  ·rw [hs i x h1, if_pos h2]
 ·refine .inr ⟨h, ?_⟩
  rw [← e0]
  refine runL_iter (fun k : Nat => (k : Int)) s.length (fun k hk => ?_) he
  obtain ⟨y, hy⟩ := getS hk
  rw [hs k y hy, if_neg (by rw [h y (mem_of_get hy)]; simp)]
theorem iaddN {k : Nat} (h : k ≤ 9223372036854775806) : iadd .i64 (k : Int) 1 = ((k + 1 : Nat) : Int) := by rw [iadd_1 (by omega) (by omega)]; omega
theorem isubN {k : Nat} (h1 : 0 < k) (h : k ≤ 9223372036854775806) : isub .i64 (k : Int) 1 = ((k - 1 : Nat) : Int) := by rw [isub_1 (by omega) (by omega)]; omega
theorem ltT {a b : Nat} (h : a < b) : decide ((a : Int) < (b : Int)) = true := decide_eq_true (by omega)
theorem ltF_ {a b : Nat} (h : ¬ a < b) : decide ((a : Int) < (b : Int)) = false := decide_eq_false (by omega)
theorem leT {a b : Nat} (h : a ≤ b) : decide ((a : Int) ≤ (b : Int)) = true := decide_eq_true (by omega)
theorem le0 (a : Nat) : decide ((0 : Int) ≤ (a : Int)) = true := decide_eq_true (by omega)
theorem fits_of {n : Nat} (h : n ≤ 100000000) : fits n = true := by unfold fits; exact decide_eq_true (by omega)
theorem thin_snoc (x : Fd) : ∀ l : List Fd, thin (l ++ [x]) = if l.getLast? = some x then thin l else thin l ++ [x]
 | [] => rfl
 | [a] => by
  by_cases h : a = x
  ·subst h; simp [thin]
  ·simp [thin, h]
 | a :: b :: l => by
  have ih := thin_snoc x (b :: l)
  have e : (a :: b :: l).getLast? = (b :: l).getLast? := rfl
  rw [e]
  show thin (a :: b :: (l ++ [x])) = _
  rw [thin, thin]
  have e2 : b :: (l ++ [x]) = (b :: l) ++ [x] := rfl
  rw [e2, ih]
  by_cases h : a = b
  ·rw [if_pos h, if_pos h]
  ·rw [if_neg h, if_neg h]
   split <;> rfl
theorem last_take {l : List Fd} {k : Nat} {y : Fd} (hk : 0 < k) (h : l[k - 1]? = some y) : (l.take k).getLast? = some y := by
 have : l.take k = l.take (k - 1) ++ [y] := by
  have := take_s h
  rwa [Nat.sub_add_cancel hk] at this
 rw [this]; simp
theorem thin_take {l : List Fd} {k : Nat} {x y : Fd} (hk : 0 < k) (h : l[k]? = some x) (h2 : l[k - 1]? = some y) : thin (l.take (k + 1)) = if x = y then thin (l.take k) else thin (l.take k) ++ [x] := by
 rw [take_s h, thin_snoc, last_take hk h2]
 by_cases e : x = y
 ·rw [if_pos (by rw [e]), if_pos e]
 ·rw [if_neg (fun h => e (Option.some.inj h).symm), if_neg e]
theorem compact_tail {n : Nat} {r : List Fd} (hn : r.length = n) (hl : n ≤ 1000) {k0 : Nat} (h0 : 0 < k0) : ∀ (f j : Nat) (k : Nat) (r' : List Fd), n ≤ k0 + j + f → 1 ≤ j → k0 + j ≤ n → k < k0 + j → r'.length = n → (∀ i, k0 + j ≤ i + 1 → r'[i]? = r[i]?) → r'.take k = thin (r.take (k0 + j)) →
  ∃ (m : Nat) (r2 : List Fd), runL (slices_Compact_card_Field_L1_2_step 0 n k0 (n - k0)) ((k : Int), (j : Int), r') = some ((m : Int), r2) ∧ r2.length = n ∧ m ≤ n ∧ r2.take m = thin r := by
 intro f
 induction f with
 | zero =>
  intro j k r' h1 h2 h3 h4 h5 h6 h7
  have hj : k0 + j = n := by omega
  refine ⟨k, r', runL_done ?_, h5, by omega, ?_⟩
  ·simp only [slices_Compact_card_Field_L1_2_step, ltF_ (show ¬ j < n - k0 by omega)]; rfl
  ·rw [h7, hj, ← hn, List.take_length]
 | succ f ih =>
  intro j k r' h1 h2 h3 h4 h5 h6 h7
  by_cases hj : k0 + j = n
  ·refine ⟨k, r', runL_done ?_, h5, by omega, ?_⟩
   ·simp only [slices_Compact_card_Field_L1_2_step, ltF_ (show ¬ j < n - k0 by omega)]; rfl
   ·rw [h7, hj, ← hn, List.take_length]
  ·obtain ⟨x, hx⟩ := getS (l := r) (k := k0 + j) (by omega)
   obtain ⟨y, hy⟩ := getS (l := r) (k := k0 + j - 1) (by omega)
   have ht := thin_take (by omega) hx hy
   have hx' : r'[k0 + j]? = some x := by rw [h6 _ (by omega), hx]
   have hy' : r'[k0 + (j - 1)]? = some y := by rw [h6 _ (by omega), show k0 + (j - 1) = k0 + j - 1 by omega, hy]
   have i1 : isub .i64 (j : Int) 1 = ((j - 1 : Nat) : Int) := isubN (by omega) (by omega)
   have i2 : iadd .i64 (j : Int) 1 = ((j + 1 : Nat) : Int) := iaddN (by omega)
   have i3 : iadd .i64 (k : Int) 1 = ((k + 1 : Nat) : Int) := iaddN (by omega)
   by_cases e : x = y
   ·rw [if_pos e] at ht
    obtain ⟨m, r2, h8, h9⟩ := ih (j + 1) k r' (by omega) (by omega) (by omega) (by omega) h5 (fun i hi => h6 i (by omega)) (by rw [h7, ← ht]; rfl)
    refine ⟨m, r2, ?_, h9⟩
    rw [← h8]
    refine runL_next ?_
    simp only [slices_Compact_card_Field_L1_2_step, ltT (show j < n - k0 by omega), ltT (show j - 1 < n - k0 by omega), le0, i1, i2, Int.toNat_natCast, hx', hy', cond_true, Bool.and_self, Option.bind_some]
    cases x; cases y
    simp only [eqd, decide_eq_true e, cond_true]
   ·rw [if_neg e] at ht
    have hset : (r'.set k x).take (k + 1) = r'.take k ++ [x] := by
     rw [List.take_set, take_s (show r'[k]? = some (r'[k]'(by omega)) from List.getElem?_eq_getElem (by omega))]
     rw [List.set_append_right _ _ (by rw [List.length_take]; omega)]
     have : k - (r'.take k).length = 0 := by rw [List.length_take]; omega
     rw [this]; rfl
    obtain ⟨m, r2, h8, h9⟩ := ih (j + 1) (k + 1) (r'.set k x) (by omega) (by omega) (by omega) (by omega) (by rw [List.length_set, h5]) (fun i hi => by
     rw [List.getElem?_set_ne (by omega)]; exact h6 i (by omega)) (by rw [hset, h7, ← ht]; rfl)
    refine ⟨m, r2, ?_, h9⟩
    rw [← h8]
    refine runL_next ?_
    simp only [slices_Compact_card_Field_L1_2_step, ltT (show j < n - k0 by omega), ltT (show j - 1 < n - k0 by omega), ltT (show k < n by omega), le0, i1, i2, i3, Int.toNat_natCast, hx', hy', cond_true, Bool.and_self, Option.bind_some, Nat.zero_add]
    cases x; cases y
    simp only [eqd, decide_eq_false e, cond_false]
theorem compact_go {r : List Fd} (hl : r.length ≤ 1000) : ∃ (k k2 : Nat) (r3 : List Fd), slices_Compact_card_Field 0 r.length r = some (k, k2, r3) ∧ (r3.drop k).take k2 = thin r := by
 unfold slices_Compact_card_Field
 by_cases h2 : r.length < 2
 ·refine ⟨0, r.length, r, ?_, ?_⟩
  ·rw [decide_eq_true (show ((r.length : Nat) : Int) < 2 by omega)]; rfl
  ·rw [List.drop_zero, List.take_length]
   match r, h2 with
   | [], _ => rfl
   | [x], _ => rfl
   | _ :: _ :: _, h => simp at h; omega
 ·rw [decide_eq_false (show ¬ ((r.length : Nat) : Int) < 2 by omega)]
  simp only [cond_false]
  have key : ∀ (f k : Nat), r.length ≤ k + f → 1 ≤ k → k ≤ r.length → thin (r.take k) = r.take k →
    (∃ (k1 k2 : Nat) (r3 : List Fd), runL (slices_Compact_card_Field_L0_step 0 r.length r) (k : Int) = some (.inl (k1, k2, r3)) ∧ (r3.drop k1).take k2 = thin r) ∨ (runL (slices_Compact_card_Field_L0_step 0 r.length r) (k : Int) = some (.inr ()) ∧ thin r = r) := by
   intro f
   induction f with
   | zero =>
    intro k h1 h3 h4 h5
    have hk : k = r.length := by omega
    refine .inr ⟨runL_done ?_, ?_⟩
    ·simp only [slices_Compact_card_Field_L0_step, ltF_ (show ¬ k < r.length by omega)]; rfl
    ·rw [hk, List.take_length] at h5; exact h5
   | succ f ih =>
    intro k h1 h3 h4 h5
    by_cases hk : k = r.length
    ·refine .inr ⟨runL_done ?_, ?_⟩
     ·simp only [slices_Compact_card_Field_L0_step, ltF_ (show ¬ k < r.length by omega)]; rfl
     ·rw [hk, List.take_length] at h5; exact h5
    ·obtain ⟨x, hx⟩ := getS (l := r) (k := k) (by omega)
     obtain ⟨y, hy⟩ := getS (l := r) (k := k - 1) (by omega)
     have ht := thin_take (by omega) hx hy
     have i1 : isub .i64 (k : Int) 1 = ((k - 1 : Nat) : Int) := isubN (by omega) (by omega)
     have i2 : iadd .i64 (k : Int) 1 = ((k + 1 : Nat) : Int) := iaddN (by omega)
     by_cases e : x = y
     ·rw [if_pos e] at ht
      obtain ⟨m, r2, h8, h9, h10, h11⟩ := compact_tail (r := r) rfl hl (show 0 < k by omega) r.length 1 k r (by omega) (by omega) (by omega) (by omega) rfl (fun _ _ => rfl) (by rw [ht, h5])
      refine .inl ⟨0 + 0, ((m : Int) - 0).toNat, List.take (0 + ((m : Int)).toNat) r2 ++ (List.replicate ((r.length : Int) - (m : Int)).toNat (E_card_Field.mk 0 (⟨#[]⟩ : ByteArray) (⟨#[]⟩ : ByteArray)) ++ List.drop ((0 + ((m : Int)).toNat) + ((r.length : Int) - (m : Int)).toNat) r2), runL_done ?_, ?_⟩
      ·have e1 : ((r.length : Int) - (k : Int)).toNat = r.length - k := by omega
       have h8' : runL (slices_Compact_card_Field_L1_2_step 0 r.length k (r.length - k)) ((k : Int), (1 : Int), r) = some ((m : Int), r2) := h8
       simp only [slices_Compact_card_Field_L0_step, ltT (show k < r.length by omega), ltT (show k - 1 < r.length by omega), leT (show k ≤ r.length by omega), leT (Nat.le_refl r.length), le0, i1, i2, Int.toNat_natCast, Nat.zero_add, hx, hy, cond_true, Bool.and_self, Option.bind_some, decide_true]
       cases x; cases y
       simp only [eqd, decide_eq_true e, cond_true, e1, h8', Option.bind_some, le0, leT h10, Bool.and_self, decide_true]
       rfl
      ·rw [Nat.zero_add, List.drop_zero, Nat.zero_add]
       have e1 : ((m : Int) - 0).toNat = m := by omega
       rw [e1, Int.toNat_natCast, List.take_append_of_le_length (by rw [List.length_take]; omega), List.take_take, Nat.min_self, h11]
     ·rw [if_neg e, h5, ← take_s hx] at ht
      have := ih (k + 1) (by omega) (by omega) (by omega) ht
      have hn : runL (slices_Compact_card_Field_L0_step 0 r.length r) (k : Int) = runL (slices_Compact_card_Field_L0_step 0 r.length r) ((k + 1 : Nat) : Int) := by
       refine runL_next ?_
       simp only [slices_Compact_card_Field_L0_step, ltT (show k < r.length by omega), ltT (show k - 1 < r.length by omega), le0, i1, i2, Int.toNat_natCast, Nat.zero_add, hx, hy, cond_true, Bool.and_self, Option.bind_some]
       cases x; cases y
       simp only [eqd, decide_eq_false e, cond_false]
      rw [hn]
      exact this
  have h1 : thin (r.take 1) = r.take 1 := by
   cases r with
   | nil => rfl
   | cons a l => rfl
  have e1 : ((1 : Nat) : Int) = 1 := rfl
  rcases key r.length 1 (by omega) (by omega) (by omega) h1 with ⟨k1, k2, r3, h3, h4⟩ | ⟨h3, h4⟩
  ·rw [e1] at h3
   exact ⟨k1, k2, r3, by rw [h3]; rfl, h4⟩
  ·rw [e1] at h3
   exact ⟨0, r.length, r, by rw [h3]; rfl, by rw [List.drop_zero, List.take_length, h4]⟩
theorem sortF_len (l : List Fd) : (sortF l).length = l.length := by unfold sortF; exact List.length_mergeSort _
noncomputable def madeF (l : List Fd) : List Fd := thin (sortF l)
theorem made_go {l : List Fd} (hl : l.length ≤ 1000) : card_made l = some (madeF l) := by
 obtain ⟨k, k2, r3, h1, h2⟩ := compact_go (r := sortF l) (by rw [sortF_len]; exact hl)
 unfold card_made slices_Clone_card_Field slices_SortFunc
 rw [if_pos (fits_of (by omega)), if_pos (by omega)]
 rw [sortF_len] at h1
 simp only [Option.bind_some, List.length_map, h1, h2]
 rfl
theorem sortF_ls (l : List Fd) : LS ltF (sortF l) := by
 have h := List.pairwise_mergeSort (le := fun x y => !(ltF y x)) (fun a b c h1 h2 => by
  simp only [Bool.not_eq_true'] at h1 h2 ⊢
  rcases ltF_tot.tri c a with h | h | h
  ·rcases ltF_tot.tri b a with g | g | g
   ·rw [g] at h1; cases h1
   ·subst g; exact h2
   ·have := ltF_tot.trans _ _ _ h g; rw [this] at h2; cases h2
  ·subst h; exact ltF_tot.irr _
  ·exact ltF_tot.asym h) (fun a b => by
  simp only [Bool.or_eq_true, Bool.not_eq_true']
  cases h : ltF b a with
  | false => exact .inl rfl
  | true => exact .inr (ltF_tot.asym h)) l
 unfold sortF
 revert h
 generalize l.mergeSort (fun x y => !(ltF y x)) = m
 induction m with
 | nil => intro _; trivial
 | cons a m ih =>
  intro h
  rw [List.pairwise_cons] at h
  exact ⟨fun y hy => by simpa using h.1 y hy, ih h.2⟩
theorem mem_sortF {l : List Fd} {x : Fd} : x ∈ sortF l ↔ x ∈ l := by unfold sortF; exact List.mem_mergeSort
theorem madeF_ss (l : List Fd) : SS ltF (madeF l) := thin_SS ltF_tot (sortF_ls l)
theorem mem_madeF {l : List Fd} {x : Fd} : x ∈ madeF l ↔ x ∈ l := by unfold madeF; rw [mem_thin, mem_sortF]
theorem madeF_of {l m : List Fd} (h : SS ltF m) (hm : ∀ x, x ∈ l ↔ x ∈ m) : madeF l = m := SS.uniq ltF_tot (madeF_ss l) h fun x => by rw [mem_madeF]; exact hm x
theorem madeF_self {l : List Fd} (h : SS ltF l) : madeF l = l := madeF_of h fun _ => Iff.rfl
end Go.Proofs.YteiikkpajcggfaaGreatDoor
