/- A card by kind, its title; a card that is made. Plain. -/
import Derived.Test.YteiikkpajcggfaaDoorCT3
set_option linter.unusedVariables false
set_option linter.unusedSimpArgs false
namespace Go.Proofs.YteiikkpajcggfaaDoor
open Go.Ev Go.Lib

def kindOf : Fd → Int | .mk a _ _ => a
def valOf : Fd → ByteArray | .mk _ _ c => c
def notK (n : Int) (x : Fd) : Bool := !(decide (kindOf x = n))
/-- Found: by kind. -/
theorem xindex_go {s : List Fd} {n : Int} (hl : s.length ≤ 1000) :
    (∃ (i : Nat) (x : Fd), s[i]? = some x ∧ (notK n) x = true ∧ (∀ j y, j < i → s[j]? = some y → (notK n) y = false) ∧ slices_IndexFunc_card_Field s n = some (i : Int)) ∨ ((∀ x ∈ s, (notK n) x = false) ∧ slices_IndexFunc_card_Field s n = some (-1)) := by
  unfold slices_IndexFunc_card_Field
  have h := idx_go (p := (notK n)) (s := s) (step := slices_IndexFunc_card_Field_L0_step s (((List.map E_card_Field.pv s)).length : Int) n) (fun k x hx => by
    have hk := lt_of_get hx
    cases x with
    | mk a b c =>
      simp only [slices_IndexFunc_card_Field_L0_step, len_eq, ltT hk, le0, Int.toNat_natCast, hx, cond_true, Bool.and_self, Option.bind_some, card_Card_Of_1, iaddN (show k ≤ 9223372036854775806 by omega)]
      show (bif (notK n) (.mk a b c) then _ else _) = _
      cases (notK n) (.mk a b c) <;> rfl) (by simp only [slices_IndexFunc_card_Field_L0_step, len_eq, ltF_ (Nat.lt_irrefl _)]; rfl)
  rcases h with ⟨i, x, h1, h2, h3, h4⟩ | ⟨h1, h2⟩
  · exact .inl ⟨i, x, h1, h2, h3, by rw [h4]; rfl⟩
  · exact .inr ⟨h1, by rw [h2]; rfl⟩
theorem delete_go {c : List Fd} {n : Int} (hl : c.length ≤ 1000) : ∃ z, slices_DeleteFunc_card_Field n c = some z ∧ (match z with | .inl _ => c.filter (fun x => !((notK n) x)) = c | .inr (k, r) => k ≤ r.length ∧ r.take k = c.filter (fun x => !((notK n) x))) := by
  unfold slices_DeleteFunc_card_Field
  rw [take_len]
  rcases xindex_go hl with ⟨i, x, h1, h2, h3, h4⟩ | ⟨h1, h2⟩
  · rw [h4]
    have hi := lt_of_get h1
    obtain ⟨m, r', h5, h6, h7, h8⟩ := del_from (p := (notK n)) (c := c) (step := slices_DeleteFunc_card_Field_L0_step n) (fun i j r x hr hij hx => by
      have hj := lt_of_get hx
      cases x with
      | mk a b d =>
        simp only [slices_DeleteFunc_card_Field_L0_step, len_eq, ltT hj, le0, Int.toNat_natCast, Nat.zero_add, hx, cond_true, Bool.and_self, Option.bind_some, card_Card_Of_1, iaddN (show j ≤ 9223372036854775806 by omega), iaddN (show i ≤ 9223372036854775806 by omega), ltT (show i < r.length by omega)]
        show (bif (notK n) (.mk a b d) then _ else _) = _
        cases (notK n) (.mk a b d) <;> rfl) (fun i r hr => by simp only [slices_DeleteFunc_card_Field_L0_step, len_eq, hr, ltF_ (Nat.lt_irrefl _)]; rfl) h1 h2 h3
    refine ⟨.inr (((m : Int) - 0).toNat, (List.take (0 + ((m : Int)).toNat) r' ++ (List.replicate ((((List.map E_card_Field.pv r')).length : Int) - (m : Int)).toNat (E_card_Field.mk 0 (⟨#[]⟩ : ByteArray) (⟨#[]⟩ : ByteArray)) ++ List.drop ((0 + ((m : Int)).toNat) + ((((List.map E_card_Field.pv r')).length : Int) - (m : Int)).toNat) r'))), ?_, ?_⟩
    · have z0 : decide ((0 : Int) ≤ 0) = true := rfl
      simp only [Option.bind_some, decide_eq_false (show ¬ (i : Int) = -1 by omega), cond_false, iaddN (show i ≤ 9223372036854775806 by omega), h5, len_eq, le0, leT (show m ≤ r'.length by omega), leT (Nat.le_refl r'.length), decide_true, Bool.and_self, cond_true, z0]
    · have e1 : ((m : Int) - 0).toNat = m := by omega
      simp only
      rw [e1, Int.toNat_natCast, Nat.zero_add]
      refine ⟨?_, ?_⟩
      · rw [List.length_append, List.length_take]; omega
      · rw [List.take_append_of_le_length (by rw [List.length_take]; omega), List.take_take, Nat.min_self, h8]
  · rw [h2]
    exact ⟨.inl (), rfl, filter_all fun x hx => by rw [h1 x hx]; rfl⟩
def ofV (c : List Fd) (n : Int) : List Fd := c.filter fun x => decide (kindOf x = n)
theorem ofV_eq (c : List Fd) (n : Int) : c.filter (fun x => !(notK n x)) = ofV c n := by
  unfold ofV notK
  congr 1
  funext x
  rw [Bool.not_not]
theorem of_go {c : List Fd} (hl : c.length ≤ 1000) (n : Int) : card_Card_Of c n = some (ofV c n) := by
  unfold card_Card_Of
  obtain ⟨z, h1, h2⟩ := delete_go (c := c) (n := n) hl
  rw [fields_go hl, Option.bind_some, h1, Option.bind_some]
  cases z with
  | inl _ => simp only at h2; rw [ofV_eq] at h2; rw [h2]; simp only [take_len]
  | inr z =>
    obtain ⟨k, r⟩ := z
    simp only at h2
    rw [ofV_eq] at h2
    simp only [h2.2]
def headV : List Fd → Option ByteArray
  | [] => none
  | x :: _ => some (valOf x)
theorem t_in (n : Int) (l : List Fd) (r : List E_L_card_Field) : runL (card_Card_Title_L1_2_step n l (((List.map E_card_Field.pv l)).length : Int) r) () = some (match headV l with | some v => .inl v | none => .inr ()) := by
  cases l with
  | nil => exact runL_done (by simp only [card_Card_Title_L1_2_step]; rfl)
  | cons x l =>
    refine runL_done ?_
    have z0 : decide ((0 : Int) ≤ 0) = true := rfl
    have z1 : decide ((0 : Int) < ((x :: l).length : Int)) = true := decide_eq_true (by rw [List.length_cons]; omega)
    simp only [card_Card_Title_L1_2_step, len_eq, z0, z1, cond_true, Bool.and_self]
    cases x
    rfl
def titleV (c : List Fd) : ByteArray := ((headV (ofV c 1)).orElse fun _ => headV c).getD ⟨#[]⟩
theorem title_go {c : List Fd} (hl : c.length ≤ 1000) : card_Card_Title c = some (titleV c) := by
  unfold card_Card_Title titleV
  rw [of_go hl, Option.bind_some]
  generalize hr : [(E_L_card_Field.mk (ofV c 1)), (E_L_card_Field.mk c)] = r
  have r0 : r[0 + (0 : Int).toNat]? = some (.mk (ofV c 1)) := by rw [← hr]; rfl
  have r1 : r[0 + (1 : Int).toNat]? = some (.mk c) := by rw [← hr]; rfl
  have rl : ((List.map E_L_card_Field.pv r).length : Int) = 2 := by rw [← hr]; rfl
  have i0 : iadd .i64 (0 : Int) 1 = 1 := iaddN (k := 0) (by omega)
  have i1 : iadd .i64 (1 : Int) 1 = 2 := iaddN (k := 1) (by omega)
  have s0 : card_Card_Title_L0_step r 0 = some (match headV (ofV c 1) with | some v => .inr (.inl v) | none => .inl 1) := by
    simp only [card_Card_Title_L0_step, rl, r0, Option.bind_some, t_in, i0]
    cases headV (ofV c 1) <;> rfl
  have s1 : card_Card_Title_L0_step r 1 = some (match headV c with | some v => .inr (.inl v) | none => .inl 2) := by
    simp only [card_Card_Title_L0_step, rl, r1, Option.bind_some, t_in, i1]
    cases headV c <;> rfl
  have s2 : card_Card_Title_L0_step r 2 = some (.inr (.inr ())) := by
    simp only [card_Card_Title_L0_step]; rfl
  cases h1 : headV (ofV c 1) with
  | some v =>
    rw [h1] at s0
    rw [runL_done s0]; rfl
  | none =>
    rw [h1] at s0
    rw [runL_next s0]
    cases h2 : headV c with
    | some v =>
      rw [h2] at s1
      rw [runL_done s1]; rfl
    | none =>
      rw [h2] at s1
      rw [runL_next s1, runL_done s2]; rfl
def awA : Fd := E_card_Field.mk 2 (⟨#[]⟩ : ByteArray) (⟨#[49, 50]⟩ : ByteArray)
def awB : Fd := E_card_Field.mk 1 (⟨#[]⟩ : ByteArray) (⟨#[65, 110, 110]⟩ : ByteArray)
theorem okAwA : okF awA = true := by decide +kernel
theorem okAwB : okF awB = true := by decide +kernel
theorem awake_go : kinfolklaw09_awake = some true := by
  have hm : madeF [awA, awB] = [awB, awA] := madeF_of ⟨fun y hy => by
    have : y = awA := by simpa using hy
    rw [this]; decide +kernel, fun y hy => (by cases hy), trivial⟩ fun x => by simp only [List.mem_cons, List.not_mem_nil, or_false]; exact Or.comm
  have hb : badF [awA, awB] = none := badF_none.2 fun x hx => by
    simp only [List.mem_cons, List.not_mem_nil, or_false] at hx
    rcases hx with rfl | rfl
    · exact okAwA
    · exact okAwB
  have hs : ∀ x ∈ [awA, awB], Small x := fun x hx => by
    simp only [List.mem_cons, List.not_mem_nil, or_false] at hx
    rcases hx with rfl | rfl
    · exact ⟨by decide, by decide⟩
    · exact ⟨by decide, by decide⟩
  have hV : makeV [awA, awB] = ([awB, awA], 0) := by
    unfold makeV
    rw [hb, hm]; rfl
  unfold kinfolklaw09_awake
  have hmk : card_Make [(E_card_Field.mk 2 (⟨#[]⟩ : ByteArray) (⟨#[49, 50]⟩ : ByteArray)), (E_card_Field.mk 1 (⟨#[]⟩ : ByteArray) (⟨#[65, 110, 110]⟩ : ByteArray))] = some (makeV [awA, awB]) := make_go (l := [awA, awB]) (by simp) hs
  rw [hmk, hV]
  simp only [Option.bind_some, title_go (c := [awB, awA]) (by simp), clen_go]
  have ht : titleV [awB, awA] = (⟨#[65, 110, 110]⟩ : ByteArray) := rfl
  rw [ht]
  simp
end Go.Proofs.YteiikkpajcggfaaDoor
