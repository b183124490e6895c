/- The reader and the document's reader go alike; WireReads answers true. Plain. -/
import Derived.Test.YtecblpgljmbpeaaB5
set_option linter.unusedVariables false
set_option linter.unusedSimpArgs false
namespace Go.Proofs.Ytecblpgljmbpeaa
open Go.Ev

theorem getD_drop {p : List Int} (a b : Nat) : (p.drop a).getD b 0 = p.getD (a + b) 0 := by
  simp only [List.getD, List.getElem?_drop]
theorem lead_stop : ∀ {f : Nat} {l : List Int}, lead f l < f → lead f l < l.length → l.getD (lead f l) 0 ≤ 127
  | 0, l, h, h2 => by omega
  | f + 1, [], h, h2 => by simp at h2
  | f + 1, b :: l, h, h2 => by
    simp only [lead] at h h2 ⊢
    by_cases hb : 127 < b
    · rw [if_pos hb] at h h2 ⊢
      simp only [List.length_cons] at h2
      rw [List.getD_cons_succ]
      exact lead_stop (by omega) (by omega)
    · rw [if_neg hb, List.getD_cons_zero]
      omega
theorem number_eq {p : List Int} (hb : Bytes p) (hp : p.length ≤ 1000000) {at_ : Nat} (ha : at_ ≤ p.length) :
    kinfolkref06_number p at_ = some (match dec 0 (p.drop at_) with | none => (0, 0) | some (v, k) => (v, (k : Int))) := by
  unfold kinfolkref06_number
  have h1 := number_lead hp (at_ := at_) 9 0 rfl (by omega)
  rw [Nat.add_zero] at h1
  rw [h1, dec_lead (hb.drop at_) (by decide)]
  simp only [Option.bind_some, Nat.sub_zero]
  have hL := lead_le 9 (p.drop at_)
  have hS := @lead_stop 9 (p.drop at_)
  generalize lead 9 (p.drop at_) = L at *
  rw [List.length_drop] at *
  have e9 : iadd .i64 (at_ : Int) 9 = ((at_ + 9 : Nat) : Int) := by rw [iadd64 (by omega) (by omega)]; omega
  have es : iadd .i64 (isub .i64 ((at_ + L : Nat) : Int) (at_ : Int)) 1 = ((L + 1 : Nat) : Int) := by rw [isub64 (by omega) (by omega), iadd64 (by omega) (by omega)]; omega
  rw [getD_drop] at hS ⊢
  rw [e9, es]
  by_cases hl : p.length ≤ at_ + L
  · rw [if_pos (by omega)]
    simp only [show (p.length : Int) ≤ ((at_ + L : Nat) : Int) by omega, decide_true, cond_true]
  rw [if_neg (by omega)]
  have hx := hb.at (show at_ + L < p.length by omega)
  have c0 : ¬ ((p.length : Int) ≤ ((at_ + L : Nat) : Int)) := by omega
  have c1 : (0 : Int) ≤ ((at_ + L : Nat) : Int) := by omega
  have c2 : ((at_ + L : Nat) : Int) < p.length := by omega
  simp only [c0, c1, c2, decide_true, decide_false, cond_true, cond_false, Bool.and_self, Int.toNat_natCast]
  have f1 : decide (((at_ + L : Nat) : Int) = ((at_ + 9 : Nat) : Int)) = decide (L = 9) := decide_eq_decide.2 (by omega)
  have f2 : decide ((at_ : Int) < ((at_ + L : Nat) : Int)) = decide (0 < L) := decide_eq_decide.2 (by omega)
  simp only [f1, f2]
  by_cases hn : (L = 9 ∧ 1 < p.getD (at_ + L) 0) ∨ (0 < 0 + L ∧ p.getD (at_ + L) 0 = 0)
  · rw [if_pos hn]
    have g2 : decide (0 < L) = true := decide_eq_true (by omega)
    by_cases h9 : L = 9
    · by_cases h1 : 1 < p.getD (at_ + L) 0
      · simp only [decide_eq_true h9, decide_eq_true h1, cond_true]
      · have h0 : p.getD (at_ + L) 0 = 0 := by omega
        simp only [decide_eq_true h9, decide_eq_false h1, decide_eq_true h0, g2, cond_true, cond_false]
    · have h0 : p.getD (at_ + L) 0 = 0 := by omega
      simp only [decide_eq_false h9, decide_eq_true h0, g2, cond_true, cond_false]
  · rw [if_neg hn]
    have hv := number_val hb hp (at_ := at_) (k := at_ + L) (by omega) (by omega) (by omega) (by omega) (L + 1) (at_ + L + 1) (by omega) (by omega)
    simp only [Nat.sub_self, nval, show at_ + L + 1 - at_ = L + 1 by omega, show ((at_ + L + 1 : Nat) : Int) - 1 = ((at_ + L : Nat) : Int) by omega] at hv
    by_cases h9 : L = 9
    · have h1 : ¬ 1 < p.getD (at_ + L) 0 := by omega
      have h0 : ¬ p.getD (at_ + L) 0 = 0 := by omega
      simp only [decide_eq_true h9, decide_eq_false h1, decide_eq_false h0, show decide (0 < L) = true from decide_eq_true (by omega), cond_true, cond_false, hv, Option.bind_some]
    · by_cases h0 : 0 < L
      · have h0x : ¬ p.getD (at_ + L) 0 = 0 := by omega
        simp only [decide_eq_false h9, decide_eq_false h0x, decide_eq_true h0, cond_true, cond_false, hv, Option.bind_some]
      · simp only [decide_eq_false h9, decide_eq_false h0, cond_false, hv, Option.bind_some]

/-! ### both readers, step by step -/
theorem err_eq (l : List Int) (n : Int) : wire_In_Err l n = some () := by unfold wire_In_Err; rfl
theorem left_eq (l : List Int) (n : Int) : wire_In_Left l n = some (l.length : Int) := by unfold wire_In_Left; rfl
theorem fail_eq (e : Int) (l : List Int) (n : Int) : wire_In_Fail e l n = some (if n = 0 then e else n) := by
  unfold wire_In_Fail
  by_cases h : n = 0 <;> simp [h]
theorem rfail_eq (e : Int) (l : List Int) (m n : Int) : kinfolkref06_Fail e l m n = some (if n = 0 then e else n) := by
  unfold kinfolkref06_Fail
  by_cases h : n = 0 <;> simp [h]
theorem take_drop1 (l : List Int) (k : Nat) : List.take ((l.length : Int) - k).toNat (List.drop k l) = List.drop k l := List.take_of_length_le (by simp)
theorem byte_pair {p : List Int} (hp : p.length ≤ 1000000) {at_ : Nat} (ha : at_ ≤ p.length) (e : Int) :
    ∃ v, ∃ at2 : Nat, ∃ e2, wire_In_Byte (p.drop at_) e = some (v, p.drop at2, e2) ∧ kinfolkref06_Byte p at_ e = some (v, (at2 : Int), e2) ∧ at2 ≤ p.length := by
  unfold wire_In_Byte kinfolkref06_Byte
  simp only [err_eq, fail_eq, Option.bind_some]
  by_cases he : e = 0
  · by_cases hl : p.length ≤ at_
    · have hd : p.drop at_ = [] := List.drop_eq_nil_of_le hl
      refine ⟨0, at_, 6, ?_, ?_, ha⟩
      · simp [he, hd]
      · simp [he, hl]
    · have e1 : iadd .i64 (at_ : Int) 1 = ((at_ + 1 : Nat) : Int) := by rw [iadd64 (by omega) (by omega)]; omega
      have e2 : isub .i64 ((at_ + 1 : Nat) : Int) 1 = (at_ : Int) := by rw [isub64 (by omega) (by omega)]; omega
      refine ⟨p.getD at_ 0, at_ + 1, 0, ?_, ?_, by omega⟩
      · have ht := take_drop1 (p.drop at_) 1
        rw [List.drop_drop] at ht
        have g0 := getD_drop (p := p) at_ 0
        rw [Nat.add_zero] at g0
        have h0 : ¬ (((p.drop at_).length : Int) = 0) := by simp; omega
        have h1 : (1 : Int) ≤ ((p.drop at_).length : Int) := by simp; omega
        have h2 : (0 : Int) < ((p.drop at_).length : Int) := by omega
        simp only [he, decide_eq_false h0, decide_eq_true h1, decide_eq_true h2, decide_true, cond_true, cond_false, Bool.and_self, g0, List.drop_drop]
        rw [show ((p.drop at_).length : Int) - 1 = ((p.drop at_).length : Int) - ((1 : Nat) : Int) by rfl, ht]
        simp
      · have h1 : (at_ : Int) < p.length := by omega
        have h2 : ¬ ((p.length : Int) ≤ at_) := by omega
        have h3 : (0 : Int) ≤ at_ := by omega
        simp only [he, e1, e2, decide_true, decide_eq_false h2, decide_eq_true h1, decide_eq_true h3, cond_true, cond_false, Bool.and_self, Int.toNat_natCast]
  · exact ⟨0, at_, e, by simp [he], by simp [he], ha⟩
theorem num_pair {p : List Int} (hb : Bytes p) (hp : p.length ≤ 1000000) {at_ : Nat} (ha : at_ ≤ p.length) (e : Int) :
    ∃ v, ∃ at2 : Nat, ∃ e2, wire_In_Num (p.drop at_) e = some (v, p.drop at2, e2) ∧ kinfolkref06_GetNum p at_ e = some (v, (at2 : Int), e2) ∧ at2 ≤ p.length := by
  rw [in_num_eq (hb.drop at_) (by simp; omega)]
  unfold kinfolkref06_GetNum
  rw [number_eq hb hp ha]
  by_cases he : e = 0
  · cases hd : dec 0 (p.drop at_) with
    | none => exact ⟨0, at_, 6, by simp [he], by simp [he, iadd64 (show -1000000000000 ≤ (at_ : Int) + 0 by omega) (by omega)], ha⟩
    | some z =>
      obtain ⟨v, k⟩ := z
      have hk := dec_k hd
      rw [List.length_drop] at hk
      refine ⟨v, at_ + k, 0, by simp [he], ?_, by omega⟩
      have h0 : ¬ ((k : Int) = 0) := by omega
      simp only [he, Option.bind_some, decide_true, cond_true, decide_eq_false h0, cond_false, iadd64 (show -1000000000000 ≤ (at_ : Int) + (k : Int) by omega) (by omega)]
      simp
  · exact ⟨0, at_, e, by simp [he], by simp [he], ha⟩
theorem text_pair {p : List Int} (hb : Bytes p) (hp : p.length ≤ 1000000) {at_ : Nat} (ha : at_ ≤ p.length) (e most : Int) :
    ∃ s, ∃ at2 : Nat, ∃ e2, wire_In_Text most (p.drop at_) e = some (s, p.drop at2, e2) ∧ kinfolkref06_GetText most p at_ e = some (s, (at2 : Int), e2) ∧ at2 ≤ p.length := by
  unfold wire_In_Text kinfolkref06_GetText
  rw [in_num_eq (hb.drop at_) (by simp; omega), number_eq hb hp ha]
  simp only [err_eq, fail_eq, Option.bind_some]
  by_cases he : e = 0
  · subst he
    simp only [if_true, decide_true, cond_true]
    cases hd : dec 0 (p.drop at_) with
    | none => exact ⟨⟨#[]⟩, at_, 6, by simp, by simp, ha⟩
    | some z =>
      obtain ⟨v, k⟩ := z
      have hk := dec_k hd
      have hv := dec_range (hb.drop at_) (by decide) hd
      rw [List.length_drop] at hk
      have h0 : ¬ ((k : Int) = 0) := by omega
      have ew : IntKind.u64.wrap (((p.drop at_).drop k).length : Int) = ((p.length - at_ - k : Nat) : Int) := by
        rw [IntWalk.u64_in _ ⟨by omega, by simp; omega⟩]; simp; omega
      have es : IntKind.u64.wrap (isub .i64 (isub .i64 ((p.length : Int)) (at_ : Int)) (k : Int)) = ((p.length - at_ - k : Nat) : Int) := by
        rw [isub64 (a := (p.length : Int)) (by omega) (by omega), isub64 (by omega) (by omega), IntWalk.u64_in _ ⟨by omega, by omega⟩]; omega
      simp only [decide_true, decide_eq_false h0, cond_true, cond_false, ew, es, if_true]
      by_cases hm : most < 0
      · exact ⟨⟨#[]⟩, at_, 9, by simp [hm], by simp [hm], ha⟩
      by_cases hw : IntKind.u64.wrap most < v
      · exact ⟨⟨#[]⟩, at_, 9, by simp [hm, hw], by simp [hm, hw], ha⟩
      by_cases hr : ((p.length - at_ - k : Nat) : Int) < v
      · exact ⟨⟨#[]⟩, at_, 6, by simp [hm, hw, hr], by simp [hm, hw, hr], ha⟩
      obtain ⟨c, rfl⟩ : ∃ c : Nat, v = (c : Int) := ⟨v.toNat, by omega⟩
      have w1 : IntKind.i64.wrap (c : Int) = c := i64_in (by omega) (by omega)
      have w2 : iadd .i64 (k : Int) (c : Int) = ((k + c : Nat) : Int) := by rw [iadd64 (by omega) (by omega)]; omega
      have w3 : iadd .i64 (at_ : Int) ((k + c : Nat) : Int) = ((at_ + (k + c) : Nat) : Int) := by rw [iadd64 (by omega) (by omega)]; omega
      have w4 : isub .i64 ((at_ + (k + c) : Nat) : Int) (c : Int) = ((at_ + k : Nat) : Int) := by rw [isub64 (by omega) (by omega)]; omega
      have l1 : (((p.drop at_).drop k).length : Int) = ((p.length - at_ - k : Nat) : Int) := by simp; omega
      have t1 := take_drop1 ((p.drop at_).drop k) c
      rw [l1] at t1
      refine ⟨strOf (List.take c (List.drop (at_ + k) p)), at_ + (k + c), 0, ?_, ?_, by omega⟩
      · simp only [decide_eq_false hm, decide_eq_false hw, decide_eq_false hr, cond_false, l1, Int.toNat_natCast, t1]
        simp only [show (0 : Int) ≤ (c : Int) by omega, show (c : Int) ≤ ((p.length - at_ - k : Nat) : Int) by omega, Int.le_refl, decide_true, Bool.and_self, cond_true, List.drop_drop, Int.sub_zero, Int.toNat_natCast]
        rw [show at_ + k + c = at_ + (k + c) by omega]
      · simp only [decide_eq_false hm, decide_eq_false hw, decide_eq_false hr, cond_false, w1, w2, w3, w4, Int.toNat_natCast]
        simp only [show (0 : Int) ≤ ((at_ + k : Nat) : Int) by omega, show ((at_ + k : Nat) : Int) ≤ ((at_ + (k + c) : Nat) : Int) by omega, show ((at_ + (k + c) : Nat) : Int) ≤ (p.length : Int) by omega, decide_true, Bool.and_self, cond_true]
        rw [show ((at_ + (k + c) : Nat) : Int) - ((at_ + k : Nat) : Int) = ((c : Nat) : Int) by omega, Int.toNat_natCast]
  · exact ⟨⟨#[]⟩, at_, e, by simp [he], by simp [he], ha⟩
theorem end_pair {p : List Int} {at_ : Nat} (ha : at_ ≤ p.length) (e : Int) :
    ∃ e2, wire_In_End (p.drop at_) e = some (e2, e2) ∧ kinfolkref06_End p at_ e = some (e2, e2) := by
  unfold wire_In_End kinfolkref06_End
  simp only [left_eq, fail_eq, rfail_eq, err_eq, Option.bind_some]
  by_cases h : (at_ : Int) < p.length
  · have h2 : (0 : Int) < ((p.drop at_).length : Int) := by simp; omega
    refine ⟨if e = 0 then 6 else e, ?_, ?_⟩
    · simp only [decide_eq_true h2, cond_true]
    · simp only [decide_eq_true h, cond_true]
  · have h2 : ¬ ((0 : Int) < ((p.drop at_).length : Int)) := by simp; omega
    refine ⟨e, ?_, ?_⟩
    · simp only [decide_eq_false h2, cond_false]
    · simp only [decide_eq_false h, cond_false]
theorem left_same {p : List Int} (hp : p.length ≤ 1000000) {at_ : Nat} (ha : at_ ≤ p.length) : ((p.drop at_).length : Int) = isub .i64 (p.length : Int) (at_ : Int) := by
  rw [isub64 (by omega) (by omega)]; simp; omega
theorem reads_step {p : List Int} (hb : Bytes p) (hp : p.length ≤ 1000000) {r : List E_kinfolklaw06_Act} (i at_ : Nat) (e : Int) (ha : at_ ≤ p.length) (hi : i < r.length) (h30 : i < 30) :
    ∃ at2 : Nat, ∃ e2, at2 ≤ p.length ∧ kinfolklaw06_WireReads_L0_step p r r.length p ((i : Int), p.drop at_, e, (at_ : Int), e) = some (.inl (((i + 1 : Nat) : Int), p.drop at2, e2, (at2 : Int), e2)) := by
  have c1 : (i : Int) < r.length := by omega
  have c2 : (0 : Int) ≤ i := by omega
  have c3 : ¬ ((30 : Int) ≤ i) := by omega
  have ei : iadd .i64 (i : Int) 1 = ((i + 1 : Nat) : Int) := by rw [iadd64 (by omega) (by omega)]; omega
  have hg : r[i]? = some r[i] := List.getElem?_eq_getElem hi
  unfold kinfolklaw06_WireReads_L0_step
  simp only [List.length_map, Int.toNat_natCast, hg, Option.bind_some, decide_eq_true c1, decide_eq_true c2, decide_eq_false c3, Bool.and_self, cond_true, cond_false, ei]
  cases r[i] with
  | mk k a =>
    simp only
    by_cases k0 : irem .u8 k 5 = 0
    · obtain ⟨v, at2, e2, w1, w2, hl⟩ := byte_pair hp ha e
      refine ⟨at2, e2, hl, ?_⟩
      simp only [decide_eq_true k0, cond_true, w1, w2, Option.bind_some, err_eq, left_eq, ← left_same hp hl, decide_true]
    by_cases k1 : irem .u8 k 5 = 1
    · obtain ⟨v, at2, e2, w1, w2, hl⟩ := num_pair hb hp ha e
      refine ⟨at2, e2, hl, ?_⟩
      simp only [decide_eq_false k0, decide_eq_true k1, cond_true, cond_false, w1, w2, Option.bind_some, err_eq, left_eq, ← left_same hp hl, decide_true]
    by_cases k2 : irem .u8 k 5 = 2
    · obtain ⟨s, at2, e2, w1, w2, hl⟩ := text_pair hb hp ha e a
      refine ⟨at2, e2, hl, ?_⟩
      simp only [decide_eq_false k0, decide_eq_false k1, decide_eq_true k2, cond_true, cond_false, w1, w2, Option.bind_some, err_eq, left_eq, ← left_same hp hl, decide_true]
    by_cases k3 : irem .u8 k 5 = 3
    · refine ⟨at_, if e = 0 then (iadd .i64 1 (IntKind.i64.wrap (irem .u64 (IntKind.u64.wrap a) 14))) else e, ha, ?_⟩
      simp only [decide_eq_false k0, decide_eq_false k1, decide_eq_false k2, decide_eq_true k3, cond_true, cond_false, fail_eq, rfail_eq, Option.bind_some, err_eq, left_eq, ← left_same hp ha, decide_true]
    · obtain ⟨e2, w1, w2⟩ := end_pair ha e
      refine ⟨at_, e2, ha, ?_⟩
      simp only [decide_eq_false k0, decide_eq_false k1, decide_eq_false k2, decide_eq_false k3, cond_true, cond_false, w1, w2, Option.bind_some, err_eq, left_eq, ← left_same hp ha, decide_true]
theorem reads_go {p : List Int} (hb : Bytes p) (hp : p.length ≤ 1000000) {r : List E_kinfolklaw06_Act} : ∀ (m i at_ : Nat) (e : Int), i + m = 30 → at_ ≤ p.length → i ≤ r.length →
    ∃ z, runL (kinfolklaw06_WireReads_L0_step p r r.length p) ((i : Int), p.drop at_, e, (at_ : Int), e) = some z ∧ z ≠ .inr (.inl ())
  | m, i, at_, e, h, ha, hi => by
    by_cases hir : i < r.length
    · by_cases h30 : i < 30
      · obtain ⟨at2, e2, hl, hs⟩ := reads_step hb hp i at_ e ha hir h30
        obtain ⟨m', rfl⟩ : ∃ m', m = m' + 1 := ⟨m - 1, by omega⟩
        obtain ⟨z, hz, hne⟩ := reads_go hb hp (r := r) m' (i + 1) at2 e2 (by omega) hl (by omega)
        exact ⟨z, by rw [runL_next hs, hz], hne⟩
      · cases hg : r[i] with
        | mk k a =>
          refine ⟨.inl (p.drop at_, e, at_, e, k, a), runL_done ?_, fun h => by cases h⟩
          have hgq : r[i]? = some (.mk k a) := by rw [List.getElem?_eq_getElem hir, hg]
          have c1 : (i : Int) < r.length := by omega
          have c2 : (0 : Int) ≤ i := by omega
          have c3 : (30 : Int) ≤ i := by omega
          unfold kinfolklaw06_WireReads_L0_step
          simp only [List.length_map, Int.toNat_natCast, hgq, Option.bind_some, decide_eq_true c1, decide_eq_true c2, decide_eq_true c3, Bool.and_self, cond_true]
    · have c1 : ¬ ((i : Int) < r.length) := by omega
      refine ⟨.inr (.inr (p.drop at_, e, at_, e)), runL_done ?_, fun h => by cases h⟩
      unfold kinfolklaw06_WireReads_L0_step
      simp only [decide_eq_false c1, cond_false]
theorem wireReads_true {p : List Int} {acts : List E_kinfolklaw06_Act} (h : Bytes p) : kinfolklaw06_WireReads p acts = some true := by
  have hl : (List.take 200 p).length ≤ 200 := by simp; omega
  have hb := h.take 200
  unfold kinfolklaw06_WireReads wire_Of
  rw [awake_eq, cut_eq (by decide) (by decide)]
  simp only [Option.bind_some, cond_true, show (200 : Int).toNat = 200 from rfl, cut_eq (p := List.take 200 p) (n := 200) (by decide) (by decide), List.take_take, Nat.min_self, fits_ok (show (List.take 200 p).length ≤ 536870912 by omega), List.length_map]
  obtain ⟨z, hz, hne⟩ := reads_go hb (by omega) (r := acts) 30 0 0 0 rfl (by omega) (by omega)
  rw [List.drop_zero] at hz
  have hz' : runL (kinfolklaw06_WireReads_L0_step (List.take 200 p) acts acts.length (List.take 200 p)) (0, List.take 200 p, 0, 0, 0) = some z := hz
  rw [hz']
  match z, hne with
  | .inl (_, _, _, _, _, _), _ => rfl
  | .inr (.inl ()), hne => exact absurd rfl hne
  | .inr (.inr (_, _, _, _)), _ => rfl
end Go.Proofs.Ytecblpgljmbpeaa
