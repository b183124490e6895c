/- Patches written; PaperTotal. Plain. -/
import Derived.Test.YteiikkpajcggfaaGreatDoorPQ1
set_option linter.unusedVariables false
set_option linter.unusedSimpArgs false
namespace Go.Proofs.YteiikkpajcggfaaGreatDoor
open Go.Ev Go.Lib
theorem concatF {a b : List Fd} (h : a.length + b.length ≤ 100000) : slices_Concat_card_Field [.mk a, .mk b] = some (.inr (a ++ b)) := by
 have ll : ∀ l : List E_L_card_Field, (((List.map E_L_card_Field.pv l).length : Nat) : Int) = (l.length : Int) := fun l => by rw [List.length_map]
 have c0 : runL (slices_Concat_card_Field_L0_step [.mk a, .mk b] [.mk a, .mk b] 2) (0, 0) = some ((a.length + b.length : Nat) : Int) := by
  have e1 : iadd .i64 0 (a.length : Int) = (a.length : Int) := by rw [iadd64 (by omega) (by omega)]; omega
  have e2 : iadd .i64 (a.length : Int) (b.length : Int) = ((a.length + b.length : Nat) : Int) := by rw [iadd64 (by omega) (by omega)]; omega
  have h1 : slices_Concat_card_Field_L0_step [.mk a, .mk b] [.mk a, .mk b] 2 (0, 0) = some (.inl ((a.length : Int), 1)) := by
   simp only [slices_Concat_card_Field_L0_step, List.length_map, List.length_cons, List.length_nil]
   rw [show ((0 : Int).toNat) = 0 from rfl, show ([E_L_card_Field.mk a, E_L_card_Field.mk b][0]?) = some (E_L_card_Field.mk a) from rfl]
   simp only [Option.bind_some, List.length_map, e1, df (show ¬ ((a.length : Nat) : Int) < 0 by omega)]
   rfl
  have h2 : slices_Concat_card_Field_L0_step [.mk a, .mk b] [.mk a, .mk b] 2 ((a.length : Int), 1) = some (.inl (((a.length + b.length : Nat) : Int), 2)) := by
   simp only [slices_Concat_card_Field_L0_step, List.length_map, List.length_cons, List.length_nil]
   rw [show ((1 : Int).toNat) = 1 from rfl, show ([E_L_card_Field.mk a, E_L_card_Field.mk b][1]?) = some (E_L_card_Field.mk b) from rfl]
   simp only [Option.bind_some, List.length_map, e2, df (show ¬ ((a.length + b.length : Nat) : Int) < 0 by omega)]
   rfl
  rw [runL_next h1, runL_next h2]
  exact runL_done rfl
 unfold slices_Concat_card_Field
 simp only [ll, List.length_cons, List.length_nil]
 rw [show (((0 + 1 + 1 : Nat)) : Int) = 2 from rfl, c0, Option.bind_some]
 have e0 : isub .i64 ((a.length + b.length : Nat) : Int) 0 = ((a.length + b.length : Nat) : Int) := by rw [isub64 (by omega) (by omega)]; omega
 by_cases hz : a.length + b.length = 0
 ·have ha : a = [] := List.length_eq_zero_iff.1 (by omega)
  have hb : b = [] := List.length_eq_zero_iff.1 (by omega)
  subst ha hb
  have hg : slices_Grow_card_Field (((([] : List Fd).length + ([] : List Fd).length : Nat)) : Int) = some (.inr ()) := by
   unfold slices_Grow_card_Field
   rw [e0]
   rfl
  rw [hg]
  simp only [Option.bind_some]
  rw [runL_next (s' := (1, [])), runL_next (s' := (2, [])), runL_done (r := [])]
  ·rfl
  ·rfl
  ·rfl
  ·rfl
 ·have hg : slices_Grow_card_Field ((a.length + b.length : Nat) : Int) = some (.inl (List.replicate (a.length + b.length) (E_card_Field.mk 0 (⟨#[]⟩ : ByteArray) (⟨#[]⟩ : ByteArray)))) := by
   unfold slices_Grow_card_Field
   rw [e0, df (by omega), cond_false, dt (by omega), cond_true, Int.toNat_natCast, fits_of (by omega), Bool.true_and, cond_true]
   simp only [List.length_replicate, dt (Int.le_refl 0), decide_true, Bool.and_self, dt (show (0 : Int) ≤ ((a.length + b.length : Nat) : Int) by omega), cond_true]
  rw [hg]
  simp only [Option.bind_some]
  have h1 : slices_Concat_card_Field_L1_step [.mk a, .mk b] 2 (List.replicate (a.length + b.length) (E_card_Field.mk 0 (⟨#[]⟩ : ByteArray) (⟨#[]⟩ : ByteArray))) (.inl ()) = some (.inl (.inr (1, a))) := by
   simp only [slices_Concat_card_Field_L1_step, List.length_map, List.length_cons, List.length_nil, List.take_zero, List.nil_append]
   rw [show ([E_L_card_Field.mk a, E_L_card_Field.mk b][0]?) = some (E_L_card_Field.mk a) from rfl]
   simp only [Option.bind_some, List.length_map, fits_of (show a.length ≤ 100000000 by omega)]
   rfl
  have h2 : slices_Concat_card_Field_L1_step [.mk a, .mk b] 2 (List.replicate (a.length + b.length) (E_card_Field.mk 0 (⟨#[]⟩ : ByteArray) (⟨#[]⟩ : ByteArray))) (.inr (1, a)) = some (.inl (.inr (2, a ++ b))) := by
   simp only [slices_Concat_card_Field_L1_step, List.length_map, List.length_cons, List.length_nil]
   rw [show ((1 : Int).toNat) = 1 from rfl, show ([E_L_card_Field.mk a, E_L_card_Field.mk b][1]?) = some (E_L_card_Field.mk b) from rfl]
   simp only [Option.bind_some, List.length_append, List.length_map, fits_of (show a.length + b.length ≤ 100000000 by omega)]
   rfl
  rw [runL_next h1, runL_next h2, runL_done (r := .inr (a ++ b)) rfl]
  rfl
def longF : Fd → Bool | .mk _ b c => decide (255 < b.size) || decide (255 < c.size)
def oddI (k : Int) : Bool := decide (k < 0) || decide (255 < k)
def kindF : Fd → Int | .mk a _ _ => a
theorem dnat (a b : Nat) : decide ((a : Int) < (b : Int)) = decide (a < b) := by
 by_cases h : a < b
 ·rw [dt h, dt (by omega)]
 ·rw [df h, df (by omega)]
theorem long_go (x : Fd) : (match x with | .mk a b c => paper_long a b c) = some (longF x) := by
 cases x with
 | mk a b c =>
  have e1 := dnat 255 b.size
  have e2 := dnat 255 c.size
  rw [show ((255 : Nat) : Int) = 255 from rfl] at e1 e2
  simp only [paper_long, longF, e1, e2]
  cases decide (255 < b.size) <;> rfl
theorem odd_go (k : Int) : paper_odd k = some (oddI k) := by
 unfold paper_odd oddI
 cases decide (k < 0) <;> rfl
theorem idxF {l : List Fd} (hl : l.length ≤ 100000) : ∀ {q : List Fd} {i : Nat}, l.drop i = q → i ≤ l.length →
  ∃ z, runL (slices_IndexFunc_card_Field_L0_step l (l.length : Int)) (i : Int) = some z ∧ (z = .inr () ∧ q.any longF = false ∨ ∃ j : Nat, z = .inl (j : Int) ∧ q.any longF = true)
 | [], i, hd, hi => by
  have : l.length ≤ i := List.drop_eq_nil_iff.1 hd
  refine ⟨.inr (), runL_done ?_, .inl ⟨rfl, rfl⟩⟩
  rw [slices_IndexFunc_card_Field_L0_step, df (by omega)]
  rfl
 | e :: q, i, hd, hi => by
  have hlt : i < l.length := by
   rcases Nat.lt_or_ge i l.length with h | h
   ·exact h
   ·rw [List.drop_eq_nil_of_le h] at hd; cases hd
  have hd2 : l.drop (i + 1) = q := by
   rw [← List.drop_drop, hd]; rfl
  have hk : l[i]? = some e := by
   have : (l.drop i)[0]? = some e := by rw [hd]; rfl
   rw [List.getElem?_drop] at this
   simpa using this
  have hlg := long_go e
  cases hb : longF e
  ·obtain ⟨z, h1, h2⟩ := idxF hl hd2 (by omega)
   refine ⟨z, ?_, ?_⟩
   ·rw [runL_next (s' := ((i + 1 : Nat) : Int)), h1]
    rw [slices_IndexFunc_card_Field_L0_step]
    simp only [len_eq, dt (show (i : Int) < (l.length : Int) by omega), dt (show (0 : Int) ≤ (i : Int) by omega), cond_true, Bool.and_self, Int.toNat_natCast, hk, Option.bind_some]
    cases e with
    | mk a b c =>
     simp only at hlg ⊢
     rw [hlg, hb, Option.bind_some, cond_false, iaddN (by omega)]
   ·rcases h2 with ⟨h2, h3⟩ | ⟨j, h2, h3⟩
    ·exact .inl ⟨h2, by rw [List.any_cons, hb, h3]; rfl⟩
    ·exact .inr ⟨j, h2, by rw [List.any_cons, hb, h3]; rfl⟩
  ·refine ⟨.inl (i : Int), runL_done ?_, .inr ⟨i, rfl, by rw [List.any_cons, hb]; rfl⟩⟩
   rw [slices_IndexFunc_card_Field_L0_step]
   simp only [len_eq, dt (show (i : Int) < (l.length : Int) by omega), dt (show (0 : Int) ≤ (i : Int) by omega), cond_true, Bool.and_self, Int.toNat_natCast, hk, Option.bind_some]
   cases e with
   | mk a b c =>
    simp only at hlg ⊢
    rw [hlg, hb, Option.bind_some, cond_true]
theorem containsF {l : List Fd} (hl : l.length ≤ 100000) : slices_ContainsFunc_card_Field l = some (l.any longF) := by
 unfold slices_ContainsFunc_card_Field slices_IndexFunc_card_Field
 obtain ⟨z, h1, h2⟩ := idxF hl (i := 0) rfl (Nat.zero_le _)
 rw [List.drop_zero] at h2
 simp only [Int.natCast_zero] at h1
 rw [len_eq, h1, Option.bind_some]
 rcases h2 with ⟨rfl, h3⟩ | ⟨j, rfl, h3⟩
 ·rw [h3]; rfl
 ·rw [h3, Option.bind_some, dt (by omega)]
theorem idxO {l : List Fd} (hl : l.length ≤ 100000) : ∀ {q : List Fd} {i : Nat}, l.drop i = q → i ≤ l.length →
  ∃ z, runL (slices_IndexFunc_card_Field_L0_2_step l (l.length : Int)) (i : Int) = some z ∧ (z = .inr () ∧ q.any (fun x => oddI (kindF x)) = false ∨ ∃ j : Nat, z = .inl (j : Int) ∧ q.any (fun x => oddI (kindF x)) = true)
 | [], i, hd, hi => by
  have : l.length ≤ i := List.drop_eq_nil_iff.1 hd
  refine ⟨.inr (), runL_done ?_, .inl ⟨rfl, rfl⟩⟩
  rw [slices_IndexFunc_card_Field_L0_2_step, df (by omega)]
  rfl
 | ⟨a, b, c⟩ :: q, i, hd, hi => by
  have hlt : i < l.length := by
   rcases Nat.lt_or_ge i l.length with h | h
   ·exact h
   ·rw [List.drop_eq_nil_of_le h] at hd; cases hd
  have hd2 : l.drop (i + 1) = q := by
   rw [← List.drop_drop, hd]; rfl
  have hk : l[i]? = some (E_card_Field.mk a b c) := by
   have : (l.drop i)[0]? = some (E_card_Field.mk a b c) := by rw [hd]; rfl
   rw [List.getElem?_drop] at this
   simpa using this
  cases hb : oddI a
  ·obtain ⟨z, h1, h2⟩ := idxO hl hd2 (by omega)
   refine ⟨z, ?_, ?_⟩
   ·rw [runL_next (s' := ((i + 1 : Nat) : Int)), h1]
    rw [slices_IndexFunc_card_Field_L0_2_step]
    simp only [len_eq, dt (show (i : Int) < (l.length : Int) by omega), dt (show (0 : Int) ≤ (i : Int) by omega), cond_true, Bool.and_self, Int.toNat_natCast, hk, Option.bind_some, paper_Patch_1, odd_go, hb, cond_false, iaddN (show i ≤ 9223372036854775806 by omega)]
   ·rcases h2 with ⟨h2, h3⟩ | ⟨j, h2, h3⟩
    ·exact .inl ⟨h2, by rw [List.any_cons, kindF, hb, h3]; rfl⟩
    ·exact .inr ⟨j, h2, by rw [List.any_cons, kindF, hb, h3]; rfl⟩
  ·refine ⟨.inl (i : Int), runL_done ?_, .inr ⟨i, rfl, by rw [List.any_cons, kindF, hb]; rfl⟩⟩
   rw [slices_IndexFunc_card_Field_L0_2_step]
   simp only [len_eq, dt (show (i : Int) < (l.length : Int) by omega), dt (show (0 : Int) ≤ (i : Int) by omega), cond_true, Bool.and_self, Int.toNat_natCast, hk, Option.bind_some, paper_Patch_1, odd_go, hb]
theorem containsO {l : List Fd} (hl : l.length ≤ 100000) : slices_ContainsFunc_card_Field_2 l = some (l.any (fun x => oddI (kindF x))) := by
 unfold slices_ContainsFunc_card_Field_2 slices_IndexFunc_card_Field_2
 obtain ⟨z, h1, h2⟩ := idxO hl (i := 0) rfl (Nat.zero_le _)
 rw [List.drop_zero] at h2
 simp only [Int.natCast_zero] at h1
 rw [len_eq, h1, Option.bind_some]
 rcases h2 with ⟨rfl, h3⟩ | ⟨j, rfl, h3⟩
 ·rw [h3]; rfl
 ·rw [h3, Option.bind_some, dt (by omega)]
theorem idxI {l : List Int} (hl : l.length ≤ 100000) : ∀ {q : List Int} {i : Nat}, l.drop i = q → i ≤ l.length →
  ∃ z, runL (slices_IndexFunc_int_L0_step l (l.length : Int)) (i : Int) = some z ∧ (z = .inr () ∧ q.any oddI = false ∨ ∃ j : Nat, z = .inl (j : Int) ∧ q.any oddI = true)
 | [], i, hd, hi => by
  have : l.length ≤ i := List.drop_eq_nil_iff.1 hd
  refine ⟨.inr (), runL_done ?_, .inl ⟨rfl, rfl⟩⟩
  rw [slices_IndexFunc_int_L0_step, df (by omega)]
  rfl
 | a :: q, i, hd, hi => by
  have hlt : i < l.length := by
   rcases Nat.lt_or_ge i l.length with h | h
   ·exact h
   ·rw [List.drop_eq_nil_of_le h] at hd; cases hd
  have hd2 : l.drop (i + 1) = q := by
   rw [← List.drop_drop, hd]; rfl
  have hk : l.getD i 0 = a := by
   have : (l.drop i)[0]? = some a := by rw [hd]; rfl
   rw [List.getElem?_drop] at this
   simp only [Nat.add_zero] at this
   rw [List.getD_eq_getElem?_getD, this]; rfl
  cases hb : oddI a
  ·obtain ⟨z, h1, h2⟩ := idxI hl hd2 (by omega)
   refine ⟨z, ?_, ?_⟩
   ·rw [runL_next (s' := ((i + 1 : Nat) : Int)), h1]
    rw [slices_IndexFunc_int_L0_step]
    simp only [dt (show (i : Int) < (l.length : Int) by omega), dt (show (0 : Int) ≤ (i : Int) by omega), cond_true, Bool.and_self, Int.toNat_natCast, hk, Option.bind_some, odd_go, hb, cond_false, iaddN (show i ≤ 9223372036854775806 by omega)]
   ·rcases h2 with ⟨h2, h3⟩ | ⟨j, h2, h3⟩
    ·exact .inl ⟨h2, by rw [List.any_cons, hb, h3]; rfl⟩
    ·exact .inr ⟨j, h2, by rw [List.any_cons, hb, h3]; rfl⟩
  ·refine ⟨.inl (i : Int), runL_done ?_, .inr ⟨i, rfl, by rw [List.any_cons, hb]; rfl⟩⟩
   rw [slices_IndexFunc_int_L0_step]
   simp only [dt (show (i : Int) < (l.length : Int) by omega), dt (show (0 : Int) ≤ (i : Int) by omega), cond_true, Bool.and_self, Int.toNat_natCast, hk, Option.bind_some, odd_go, hb]
theorem containsI {l : List Int} (hl : l.length ≤ 100000) : slices_ContainsFunc_int l = some (l.any oddI) := by
 unfold slices_ContainsFunc_int slices_IndexFunc_int
 obtain ⟨z, h1, h2⟩ := idxI hl (i := 0) rfl (Nat.zero_le _)
 rw [List.drop_zero] at h2
 simp only [Int.natCast_zero] at h1
 rw [h1, Option.bind_some]
 rcases h2 with ⟨rfl, h3⟩ | ⟨j, rfl, h3⟩
 ·rw [h3]; rfl
 ·rw [h3, Option.bind_some, dt (by omega)]
theorem put_ints {l : List Int} (hl : l.length ≤ 255) (hb : ∀ x ∈ l, 0 ≤ x ∧ x < 256) : ∀ {q : List Int} {i : Nat} {p : List Int}, l.drop i = q → i ≤ l.length → p.length ≤ 10000000 + i →
  runL (paper_Patch_L0_step l (l.length : Int)) ((i : Int), p) = some (p ++ q)
 | [], i, p, hd, hi, hp => by
  have : l.length ≤ i := List.drop_eq_nil_iff.1 hd
  refine runL_done ?_
  rw [paper_Patch_L0_step, df (by omega), List.append_nil]
  rfl
 | a :: q, i, p, hd, hi, hp => by
  have hlt : i < l.length := by
   rcases Nat.lt_or_ge i l.length with h | h
   ·exact h
   ·rw [List.drop_eq_nil_of_le h] at hd; cases hd
  have hd2 : l.drop (i + 1) = q := by
   rw [← List.drop_drop, hd]; rfl
  have hg : l[i]? = some a := by
   have : (l.drop i)[0]? = some a := by rw [hd]; rfl
   rw [List.getElem?_drop] at this
   simpa using this
  have hk : l.getD i 0 = a := by rw [List.getD_eq_getElem?_getD, hg]; rfl
  have ha : IntKind.u8.wrap a = a := byte_u8 (hb a (List.mem_of_getElem? hg))
  rw [runL_next (s' := (((i + 1 : Nat) : Int), p ++ [a]))]
  ·rw [put_ints hl hb hd2 (by omega) (by rw [List.length_append]; simp; omega), List.append_assoc]
   rfl
  ·rw [paper_Patch_L0_step]
   simp only [dt (show (i : Int) < (l.length : Int) by omega), dt (show (0 : Int) ≤ (i : Int) by omega), cond_true, Bool.and_self, Int.toNat_natCast, hk, ha, iaddN (show i ≤ 9223372036854775806 by omega), fits_of (show (p ++ [a]).length ≤ 100000000 by rw [List.length_append]; simp; omega)]
def patchV (a b : List Fd) (c : List Int) : List Int × Int :=
 if 255 < a.length ∨ 255 < b.length ∨ 255 < c.length then ([], 9) else if (a ++ b).any longF = true then ([], 9) else if (a ++ b).any (fun x => oddI (kindF x)) = true ∨ c.any oddI = true then ([], 1) else (encP a b c, 0)
theorem any_oddI {c : List Int} (h : ¬ c.any oddI = true) : ∀ x ∈ c, 0 ≤ x ∧ x < 256 := by
 intro x hx
 have h2 : c.any oddI = false := by simpa using h
 rw [List.any_eq_false] at h2
 have := h2 x hx
 simp only [oddI, Bool.or_eq_true, decide_eq_true_eq, not_or] at this
 omega
theorem patch_go {a b : List Fd} {c : List Int} (ha : a.length ≤ 1000) (hb : b.length ≤ 1000) (hc : c.length ≤ 1000) (sa : ∀ x ∈ a, Small x) (sb : ∀ x ∈ b, Small x) : paper_Patch a b c = some (patchV a b c) := by
 unfold paper_Patch patchV
 rw [concatF (by omega), Option.bind_some]
 simp only [len_eq]
 have hmax : decide ((255 : Int) < (if ((if (a.length : Int) < (b.length : Int) then (b.length : Int) else (a.length : Int)) : Int) < (c.length : Int) then (c.length : Int) else (if (a.length : Int) < (b.length : Int) then (b.length : Int) else (a.length : Int)))) = decide (255 < a.length ∨ 255 < b.length ∨ 255 < c.length) := by
  by_cases h : 255 < a.length ∨ 255 < b.length ∨ 255 < c.length
  ·rw [dt h]
   apply dt
   split <;> split at * <;> omega
  ·rw [df h]
   apply df
   split <;> split at * <;> omega
 rw [hmax]
 by_cases h1 : 255 < a.length ∨ 255 < b.length ∨ 255 < c.length
 ·rw [dt h1, if_pos h1]; rfl
 ·rw [df h1, if_neg h1, cond_false, take_len, containsF (by rw [List.length_append]; omega), Option.bind_some]
  by_cases h2 : (a ++ b).any longF = true
  ·rw [if_pos h2, h2]; rfl
  ·rw [if_neg h2, show (a ++ b).any longF = false by simpa using h2, cond_false, containsO (by rw [List.length_append]; omega), Option.bind_some]
   by_cases h3 : (a ++ b).any (fun x => oddI (kindF x)) = true
   ·rw [if_pos (.inl h3), h3]; rfl
   ·rw [show (a ++ b).any (fun x => oddI (kindF x)) = false by simpa using h3, cond_false, containsI (by omega), Option.bind_some]
    by_cases h4 : c.any oddI = true
    ·rw [if_pos (.inr h4), h4]; rfl
    ·rw [if_neg (fun h => h.elim (fun h => by cases h) h4), show c.any oddI = false by simpa using h4, cond_false]
     have hla := encFs_len sa
     have hlb := encFs_len sb
     have hva := W.varint_len (a.length : Int)
     have hvb := W.varint_len (b.length : Int)
     have hvc := W.varint_len (c.length : Int)
     rw [fields_w (by simp) ha sa, Option.bind_some, List.nil_append, fields_w (by rw [encC, List.length_append]; omega) hb sb, Option.bind_some, size_u64 (by omega), W.num_eq (by omega) (by omega) (by simp only [encC, List.length_append]; omega), Option.bind_some]
     have hp := put_ints (l := c) (by omega) (any_oddI h4) (i := 0) (p := encC a ++ encC b ++ W.varint (c.length : Int)) rfl (Nat.zero_le _) (by simp only [encC, List.length_append]; omega)
     simp only [Int.natCast_zero, List.drop_zero] at hp
     rw [hp, Option.bind_some, encP]
     simp only [List.append_assoc]
theorem eqI_loop {l : List Int} (hl : l.length ≤ 100000) : ∀ {d i : Nat}, l.length - i = d → i ≤ l.length → runL (slices_Equal_int_L0_step l l (l.length : Int)) (i : Int) = some (.inr ())
 | 0, i, hd, hi => by
  refine runL_done ?_
  rw [slices_Equal_int_L0_step, df (by omega)]
  rfl
 | d + 1, i, hd, hi => by
  rw [runL_next (s' := ((i + 1 : Nat) : Int)), eqI_loop hl (d := d) (by omega) (by omega)]
  rw [slices_Equal_int_L0_step]
  simp only [dt (show (i : Int) < (l.length : Int) by omega), dt (show (0 : Int) ≤ (i : Int) by omega), cond_true, Bool.and_self, decide_true, iaddN (show i ≤ 9223372036854775806 by omega)]
theorem eqI {l : List Int} (hl : l.length ≤ 100000) : slices_Equal_int l l = some true := by
 unfold slices_Equal_int
 have := eqI_loop hl (i := 0) rfl (Nat.zero_le _)
 simp only [Int.natCast_zero] at this
 rw [dt rfl, cond_true, this]
 rfl
theorem not_any {α : Type} {l : List α} {f : α → Bool} (h : ∀ x ∈ l, f x = false) : ¬ l.any f = true := by
 rw [List.any_eq_true]
 rintro ⟨x, hx, hf⟩
 rw [h x hx] at hf
 cases hf
theorem Byt.ok {x : Fd} (h : Byt x) : longF x = false ∧ oddI (kindF x) = false := by
 cases x with
 | mk a b c =>
  obtain ⟨h1, h2, h3⟩ := h
  refine ⟨?_, ?_⟩
  ·show (decide (255 < b.size) || decide (255 < c.size)) = false
   rw [df (by omega), df (by omega)]; rfl
  ·show (decide (a < 0) || decide (255 < a)) = false
   rw [df (by omega), df (by omega)]; rfl
theorem oddI_false {x : Int} (h : 0 ≤ x ∧ x < 256) : oddI x = false := by
 simp only [oddI, Bool.or_eq_false_iff, decide_eq_false_iff_not]
 omega
theorem patchV_byt {a b : List Fd} {c : List Int} (h : a.length ≤ 255 ∧ b.length ≤ 255 ∧ c.length ≤ 255) (ha : ∀ x ∈ a, Byt x) (hb : ∀ x ∈ b, Byt x) (hc : ∀ x ∈ c, 0 ≤ x ∧ x < 256) : patchV a b c = (encP a b c, 0) := by
 have hab : ∀ x ∈ a ++ b, Byt x := fun x hx => (List.mem_append.1 hx).elim (ha x) (hb x)
 unfold patchV
 rw [if_neg (by omega), if_neg (not_any fun x hx => (hab x hx).ok.1), if_neg]
 rintro (h | h)
 ·exact not_any (fun x hx => (hab x hx).ok.2) h
 ·exact not_any (fun x hx => oddI_false (hc x hx)) h
theorem total_tail {q : List Int} (hb : W.Bytes q) (hq : q.length ≤ 600) : ((paper_ReadPatch q).bind fun (r, r2, l_, n) =>
   (kinfolkref10_ReadPatch q).bind fun (r3, r4, l_2, n2) =>
   bif (decide ((n : Int) = n2)) then
    (kinfolklaw10_own r).bind fun r5 =>
    (kinfolkref09_Same (List.take ((List.map E_kinfolkref09_Field.pv r5)).length r5) r3).bind fun b3 =>
    bif b3 then
     (kinfolklaw10_own r2).bind fun r6 =>
     (kinfolkref09_Same (List.take ((List.map E_kinfolkref09_Field.pv r6)).length r6) r4).bind fun b4 =>
     bif b4 then
      (slices_Equal_int l_ l_2).bind fun b5 =>
      bif b5 then
       bif (decide ((n : Int) = 0)) then
        (paper_Patch r r2 l_).bind fun (l_3, n3) =>
        bif (decide ((n3 : Int) = 0)) then
         (kinfolkref06_Same l_3 q).bind fun b6 =>
         some b6
        else
         some false
       else
        some true
      else
       some false
     else
      some false
    else
     some false
   else
    some false) = some true := by
 obtain ⟨a, b, c, e, h1, h2, h3, h4, h5, h6, h7⟩ := patch_pair hb (by omega)
 rw [h1, Option.bind_some]
 simp only
 rw [h2, Option.bind_some]
 simp only
 rw [decide_true, cond_true, own_go (by omega), Option.bind_some, gtake_len, rsame_go (by rw [List.length_map]; omega), dt rfl, Option.bind_some, cond_true, own_go (by omega), Option.bind_some, gtake_len, rsame_go (by rw [List.length_map]; omega), dt rfl, Option.bind_some, cond_true, eqI (by omega), Option.bind_some, cond_true]
 by_cases he : e = 0
 ·rw [dt he, cond_true, patch_go (by omega) (by omega) (by omega) (fun x hx => (h4 x hx).small) (fun x hx => (h5 x hx).small), Option.bind_some, patchV_byt h3 h4 h5 h6]
  simp only
  have hl : (encP a b c).length ≤ 600 := by rw [← h7 he]; exact hq
  rw [decide_true, cond_true, W.same_eq (by omega), dt (h7 he).symm]
  rfl
 ·rw [df he]; rfl
theorem paperTotal_true {p : List Int} (hb : W.Bytes p) : kinfolklaw10_PaperTotal p = some true := by
 unfold kinfolklaw10_PaperTotal
 have hb1 : (0 : Int) ≤ (if 600 < (p.length : Int) then 600 else (p.length : Int)) ∧ (if 600 < (p.length : Int) then 600 else (p.length : Int)) ≤ (p.length : Int) ∧ (if 600 < (p.length : Int) then 600 else (p.length : Int)) ≤ 600 := by split <;> omega
 generalize (if 600 < (p.length : Int) then (600 : Int) else (p.length : Int)) = m at *
 have hq : (List.take (m - 0).toNat p).length ≤ 600 := by rw [List.length_take]; omega
 have hqb : W.Bytes (List.take (m - 0).toNat p) := hb.take _
 have z0 : decide ((0 : Int) ≤ 0) = true := decide_eq_true (by omega)
 rw [awake10_go, dt hb1.1, dt hb1.2.1, z0]
 rw [Option.bind_some, cond_true, dt rfl, show (true && true && true && true) = true from rfl, cond_true]
 generalize List.take (m - 0).toNat p = q at *
 rw [List.nil_append, fits_of (by omega), cond_true]
 cases hz : Nat.beq q.length 0
 ·rw [cond_false]
  exact total_tail hqb hq
 ·rw [cond_true]
  exact total_tail (q := []) (fun x hx => (by cases hx)) (by simp)
end Go.Proofs.YteiikkpajcggfaaGreatDoor
