/- What a patch takes out; cards less one another. Plain. -/
import Derived.Test.YteiikkpajcggfaaGreatDoorCT4
set_option linter.unusedVariables false
set_option linter.unusedSimpArgs false
namespace Go.Proofs.YteiikkpajcggfaaGreatDoor
open Go.Ev Go.Lib

theorem fcontains_go {s : List Fd} (hl : s.length ≤ 1000) (a : Int) (b c : ByteArray) : slices_Contains_card_Field s a b c = some (decide (E_card_Field.mk a b c ∈ s)) := by
  unfold slices_Contains_card_Field slices_Index_card_Field
  have h := first_go (p := fun y : Fd => decide (E_card_Field.mk a b c = y)) (s := s) (a := fun k _ => (k : Int)) (b := ()) (step := slices_Index_card_Field_L0_step s (((List.map E_card_Field.pv s)).length : Int) a b c) (fun k y hy => by
    have hk := lt_of_get hy
    cases y with
    | mk d e f =>
      simp only [slices_Index_card_Field_L0_step, len_eq, ltT hk, le0, Int.toNat_natCast, hy, cond_true, Bool.and_self, Option.bind_some, iaddN (show k ≤ 9223372036854775806 by omega), eqd]
      cases decide (E_card_Field.mk a b c = E_card_Field.mk d e f) <;> rfl) (by simp only [slices_Index_card_Field_L0_step, len_eq, ltF_ (Nat.lt_irrefl _)]; rfl)
  rcases h with ⟨i, y, h1, h2, h3, h4⟩ | ⟨h1, h2⟩
  · rw [h4]
    have : E_card_Field.mk a b c ∈ s := by
      have e := of_decide_eq_true h2
      rw [e]; exact mem_of_get h1
    rw [decide_eq_true this]
    simp [le0]
  · rw [h2]
    have : ¬ E_card_Field.mk a b c ∈ s := fun hm => absurd rfl (of_decide_eq_false (h1 _ hm))
    rw [decide_eq_false this]; rfl
theorem containsI_go {s : List Int} (hl : s.length ≤ 1000) (a : Int) : slices_Contains_int s a = some (decide (a ∈ s)) := by
  unfold slices_Contains_int slices_Index_int
  have h := first_go (p := fun y : Int => decide (a = y)) (s := s) (a := fun k _ => (k : Int)) (b := ()) (step := slices_Index_int_L0_step s a ((s.length : Nat) : Int)) (fun k y hy => by
    have hk := lt_of_get hy
    have hg : s.getD k 0 = y := by rw [List.getD, hy]; rfl
    simp only [slices_Index_int_L0_step, ltT hk, le0, Int.toNat_natCast, hg, cond_true, Bool.and_self, iaddN (show k ≤ 9223372036854775806 by omega)]
    cases decide (a = y) <;> rfl) (by simp only [slices_Index_int_L0_step, ltF_ (Nat.lt_irrefl _)]; rfl)
  rcases h with ⟨i, y, h1, h2, h3, h4⟩ | ⟨h1, h2⟩
  · rw [h4]
    have : a ∈ s := by
      have e := of_decide_eq_true h2
      rw [e]; exact mem_of_get h1
    rw [decide_eq_true this]
    simp [le0]
  · rw [h2]
    have : ¬ a ∈ s := fun hm => absurd rfl (of_decide_eq_false (h1 _ hm))
    rw [decide_eq_false this]; rfl
/-- Does a patch take it out? -/
def goneF (q : List Fd) (cl : List Int) (x : Fd) : Bool := decide (kindOf x ∈ cl) || decide (x ∈ q)
theorem patch1_go {q : List Fd} {cl : List Int} (hq : q.length ≤ 1000) (hc : cl.length ≤ 1000) (p : List Fd) (a : Int) (b c : ByteArray) : card_Card_Patch_1 a b c p q cl = some (goneF q cl (.mk a b c)) := by
  unfold card_Card_Patch_1
  rw [containsI_go hc, fcontains_go hq]
  show _ = some (decide (a ∈ cl) || decide (E_card_Field.mk a b c ∈ q))
  simp only [Option.bind_some]
  cases decide (a ∈ cl) <;> rfl
def inF (q : List Fd) (x : Fd) : Bool := decide (x ∈ q)
theorem less1_go {q : List Fd} (hq : q.length ≤ 1000) (a : Int) (b c : ByteArray) : card_less_1 a b c q = some (inF q (.mk a b c)) := by
  unfold card_less_1 inF
  rw [fcontains_go hq]; rfl
/-- Found: by a patch. -/
theorem xindex_go_2 {s : List Fd} {p q : List Fd} {cl : List Int} (hl : s.length ≤ 1000) (hq : q.length ≤ 1000) (hc : cl.length ≤ 1000) :
    (∃ (i : Nat) (x : Fd), s[i]? = some x ∧ (goneF q cl) x = true ∧ (∀ j y, j < i → s[j]? = some y → (goneF q cl) y = false) ∧ slices_IndexFunc_card_Field_2 s p q cl = some (i : Int)) ∨ ((∀ x ∈ s, (goneF q cl) x = false) ∧ slices_IndexFunc_card_Field_2 s p q cl = some (-1)) := by
  unfold slices_IndexFunc_card_Field_2
  have h := idx_go (p := (goneF q cl)) (s := s) (step := slices_IndexFunc_card_Field_L0_2_step s (((List.map E_card_Field.pv s)).length : Int) p q cl) (fun k x hx => by
    have hk := lt_of_get hx
    cases x with
    | mk a b c =>
      simp only [slices_IndexFunc_card_Field_L0_2_step, len_eq, ltT hk, le0, Int.toNat_natCast, hx, cond_true, Bool.and_self, Option.bind_some, patch1_go hq hc, iaddN (show k ≤ 9223372036854775806 by omega)]
      cases (goneF q cl) (.mk a b c) <;> rfl) (by simp only [slices_IndexFunc_card_Field_L0_2_step, len_eq, ltF_ (Nat.lt_irrefl _)]; rfl)
  rcases h with ⟨i, x, h1, h2, h3, h4⟩ | ⟨h1, h2⟩
  · exact .inl ⟨i, x, h1, h2, h3, by rw [h4]; rfl⟩
  · exact .inr ⟨h1, by rw [h2]; rfl⟩
theorem delete_go_2 {c : List Fd} {p q : List Fd} {cl : List Int} (hl : c.length ≤ 1000) (hq : q.length ≤ 1000) (hc : cl.length ≤ 1000) : ∃ z, slices_DeleteFunc_card_Field_2 p q cl c = some z ∧ (match z with | .inl _ => c.filter (fun x => !((goneF q cl) x)) = c | .inr (k, r) => k ≤ r.length ∧ r.take k = c.filter (fun x => !((goneF q cl) x))) := by
  unfold slices_DeleteFunc_card_Field_2
  rw [take_len]
  rcases xindex_go_2 hl (p := p) hq hc with ⟨i, x, h1, h2, h3, h4⟩ | ⟨h1, h2⟩
  · rw [h4]
    have hi := lt_of_get h1
    obtain ⟨m, r', h5, h6, h7, h8⟩ := del_from (p := (goneF q cl)) (c := c) (step := slices_DeleteFunc_card_Field_L0_2_step p q cl) (fun i j r x hr hij hx => by
      have hj := lt_of_get hx
      cases x with
      | mk a b d =>
        simp only [slices_DeleteFunc_card_Field_L0_2_step, len_eq, ltT hj, le0, Int.toNat_natCast, Nat.zero_add, hx, cond_true, Bool.and_self, Option.bind_some, patch1_go hq hc, iaddN (show j ≤ 9223372036854775806 by omega), iaddN (show i ≤ 9223372036854775806 by omega), ltT (show i < r.length by omega)]
        cases (goneF q cl) (.mk a b d) <;> rfl) (fun i r hr => by simp only [slices_DeleteFunc_card_Field_L0_2_step, len_eq, hr, ltF_ (Nat.lt_irrefl _)]; rfl) h1 h2 h3
    refine ⟨.inr (((m : Int) - 0).toNat, (List.take (0 + ((m : Int)).toNat) r' ++ (List.replicate ((((List.map E_card_Field.pv r')).length : Int) - (m : Int)).toNat (E_card_Field.mk 0 (⟨#[]⟩ : ByteArray) (⟨#[]⟩ : ByteArray)) ++ List.drop ((0 + ((m : Int)).toNat) + ((((List.map E_card_Field.pv r')).length : Int) - (m : Int)).toNat) r'))), ?_, ?_⟩
    · have z0 : decide ((0 : Int) ≤ 0) = true := rfl
      simp only [Option.bind_some, decide_eq_false (show ¬ (i : Int) = -1 by omega), cond_false, iaddN (show i ≤ 9223372036854775806 by omega), h5, len_eq, le0, leT (show m ≤ r'.length by omega), leT (Nat.le_refl r'.length), decide_true, Bool.and_self, cond_true, z0]
    · have e1 : ((m : Int) - 0).toNat = m := by omega
      simp only
      rw [e1, Int.toNat_natCast, Nat.zero_add]
      refine ⟨?_, ?_⟩
      · rw [List.length_append, List.length_take]; omega
      · rw [List.take_append_of_le_length (by rw [List.length_take]; omega), List.take_take, Nat.min_self, h8]
  · rw [h2]
    exact ⟨.inl (), rfl, filter_all fun x hx => by rw [h1 x hx]; rfl⟩
/-- Found: in a row. -/
theorem xindex_go_3 {s : List Fd} {q : List Fd} (hl : s.length ≤ 1000) (hq : q.length ≤ 1000) :
    (∃ (i : Nat) (x : Fd), s[i]? = some x ∧ (inF q) x = true ∧ (∀ j y, j < i → s[j]? = some y → (inF q) y = false) ∧ slices_IndexFunc_card_Field_3 s q = some (i : Int)) ∨ ((∀ x ∈ s, (inF q) x = false) ∧ slices_IndexFunc_card_Field_3 s q = some (-1)) := by
  unfold slices_IndexFunc_card_Field_3
  have h := idx_go (p := (inF q)) (s := s) (step := slices_IndexFunc_card_Field_L0_3_step s (((List.map E_card_Field.pv s)).length : Int) q) (fun k x hx => by
    have hk := lt_of_get hx
    cases x with
    | mk a b c =>
      simp only [slices_IndexFunc_card_Field_L0_3_step, len_eq, ltT hk, le0, Int.toNat_natCast, hx, cond_true, Bool.and_self, Option.bind_some, less1_go hq, iaddN (show k ≤ 9223372036854775806 by omega)]
      cases (inF q) (.mk a b c) <;> rfl) (by simp only [slices_IndexFunc_card_Field_L0_3_step, len_eq, ltF_ (Nat.lt_irrefl _)]; rfl)
  rcases h with ⟨i, x, h1, h2, h3, h4⟩ | ⟨h1, h2⟩
  · exact .inl ⟨i, x, h1, h2, h3, by rw [h4]; rfl⟩
  · exact .inr ⟨h1, by rw [h2]; rfl⟩
theorem delete_go_3 {c : List Fd} {q : List Fd} (hl : c.length ≤ 1000) (hq : q.length ≤ 1000) : ∃ z, slices_DeleteFunc_card_Field_3 q c = some z ∧ (match z with | .inl _ => c.filter (fun x => !((inF q) x)) = c | .inr (k, r) => k ≤ r.length ∧ r.take k = c.filter (fun x => !((inF q) x))) := by
  unfold slices_DeleteFunc_card_Field_3
  rw [take_len]
  rcases xindex_go_3 hl hq with ⟨i, x, h1, h2, h3, h4⟩ | ⟨h1, h2⟩
  · rw [h4]
    have hi := lt_of_get h1
    obtain ⟨m, r', h5, h6, h7, h8⟩ := del_from (p := (inF q)) (c := c) (step := slices_DeleteFunc_card_Field_L0_3_step q) (fun i j r x hr hij hx => by
      have hj := lt_of_get hx
      cases x with
      | mk a b d =>
        simp only [slices_DeleteFunc_card_Field_L0_3_step, len_eq, ltT hj, le0, Int.toNat_natCast, Nat.zero_add, hx, cond_true, Bool.and_self, Option.bind_some, less1_go hq, iaddN (show j ≤ 9223372036854775806 by omega), iaddN (show i ≤ 9223372036854775806 by omega), ltT (show i < r.length by omega)]
        cases (inF q) (.mk a b d) <;> rfl) (fun i r hr => by simp only [slices_DeleteFunc_card_Field_L0_3_step, len_eq, hr, ltF_ (Nat.lt_irrefl _)]; rfl) h1 h2 h3
    refine ⟨.inr (((m : Int) - 0).toNat, (List.take (0 + ((m : Int)).toNat) r' ++ (List.replicate ((((List.map E_card_Field.pv r')).length : Int) - (m : Int)).toNat (E_card_Field.mk 0 (⟨#[]⟩ : ByteArray) (⟨#[]⟩ : ByteArray)) ++ List.drop ((0 + ((m : Int)).toNat) + ((((List.map E_card_Field.pv r')).length : Int) - (m : Int)).toNat) r'))), ?_, ?_⟩
    · have z0 : decide ((0 : Int) ≤ 0) = true := rfl
      simp only [Option.bind_some, decide_eq_false (show ¬ (i : Int) = -1 by omega), cond_false, iaddN (show i ≤ 9223372036854775806 by omega), h5, len_eq, le0, leT (show m ≤ r'.length by omega), leT (Nat.le_refl r'.length), decide_true, Bool.and_self, cond_true, z0]
    · have e1 : ((m : Int) - 0).toNat = m := by omega
      simp only
      rw [e1, Int.toNat_natCast, Nat.zero_add]
      refine ⟨?_, ?_⟩
      · rw [List.length_append, List.length_take]; omega
      · rw [List.take_append_of_le_length (by rw [List.length_take]; omega), List.take_take, Nat.min_self, h8]
  · rw [h2]
    exact ⟨.inl (), rfl, filter_all fun x hx => by rw [h1 x hx]; rfl⟩
end Go.Proofs.YteiikkpajcggfaaGreatDoor
