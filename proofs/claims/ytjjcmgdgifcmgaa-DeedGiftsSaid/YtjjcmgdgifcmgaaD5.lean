/- Chapter 15: numbers and gifts read: the program's and the document's. Plain. -/
import Derived.Test.YtjjcmgdgifcmgaaD2
import Derived.Test.YtjjcmgdgifcmgaaD4
set_option linter.unusedVariables false
set_option linter.unusedSimpArgs false
namespace Go.Proofs.Ytjjcmgdgifcmgaa
open Go.Ev Go.Lib

theorem number15 {p : List Int} (hb : Bytes p) (hp : p.length ≤ 1000000) {at_ : Nat} (ha : at_ ≤ p.length) (e : Int) :
    ∃ v, ∃ at2 : Nat, ∃ e2, deed_number (p.drop at_) e = some (v, p.drop at2, e2) ∧ kinfolkref15_number p at_ e = some (v, (at2 : Int), e2) ∧ at2 ≤ p.length ∧ 0 ≤ v ∧ v < 2147483648 ∧
      (e2 = 0 → e = 0 ∧ ∃ k, W.dec 0 (p.drop at_) = some (v, k) ∧ at2 = at_ + k) := by
  obtain ⟨v, at2, e2, h1, h2, h3, h4, h5, h6⟩ := W.num_spec hb hp ha e
  unfold deed_number kinfolkref15_number
  rw [h1, h2]
  simp only [Option.bind_some, W.fail_eq, kinfolkref06_Fail]
  by_cases hv : 2147483648 ≤ v
  · simp only [dt hv, cond_true]
    by_cases he : e2 = 0
    · exact ⟨0, at2, 6, by simp [he], by simp [he], h3, by omega, by omega, fun h => absurd h (by decide)⟩
    · exact ⟨0, at2, e2, by simp [he], by simp [he], h3, by omega, by omega, fun h => absurd h he⟩
  · have hw : IntKind.i64.wrap v = v := by
      have := W.i64_in (n := v) (by omega) (by omega)
      exact this
    simp only [df hv, cond_false, hw]
    exact ⟨v, at2, e2, rfl, rfl, h3, h4, by omega, h6⟩
/-- A gift out of bytes: both readers tell the same. -/
theorem gift15 {N : Nat} {p : List Int} (hN : 100 ≤ N) (hb : Bytes p) (hp : p.length ≤ 1000000) :
    ∃ no from_ to : Int, ∃ i : Bool, ∃ t : Idt, ∃ at2 : Nat, ∃ e : Int, deed_GetGift N p 0 = some (no, from_, to, i, t, p.drop at2, e) ∧ kinfolkref15_GetGift N p 0 0 = some (no, from_, to, fromI i t, (at2 : Int), e) := by
  obtain ⟨v1, a1, e1, p1, q1, l1, n1, m1, -⟩ := W.num_spec hb hp (at_ := 0) (by omega) 0
  obtain ⟨v2, a2, e2, p2, q2, l2, n2, m2, -⟩ := number15 hb hp l1 e1
  obtain ⟨v3, a3, e3, p3, q3, l3, n3, m3, -⟩ := number15 hb hp l2 e2
  obtain ⟨s, a4, e4, p4, q4, l4, n4, m4⟩ := W.text_spec hb hp l3 e3 (most := 4096) (by omega)
  have p4 : wire_In_Text 4096 (p.drop a3) e3 = _ := p4
  have q4 : kinfolkref06_GetText 4096 p a3 e3 = _ := q4
  rw [List.drop_zero] at p1
  have q1 : kinfolkref06_GetNum p 0 0 = _ := q1
  unfold deed_GetGift kinfolkref15_GetGift
  rw [p1, q1]
  simp only [Option.bind_some, p2, q2, p3, q3, p4, q4, W.err_eq]
  by_cases he : e4 = 0
  · obtain ⟨-, hs, -⟩ := m4 he
    have hsz : (bytesL s).length ≤ 10000 := by rw [W.bytesL_len]; omega
    have hs2 : decide (s.size ≤ 140737488355328) = true := by simp; omega
    simp only [dt he, cond_true, hs2, progID15 hN (W.bytesL_bytes s) hsz, rprogID15 hN (W.bytesL_bytes s) hsz, Option.bind_some, W.fail_eq]
    by_cases h9 : (readI15 (bytesL s)).2.2 = 0
    · simp only [dt h9, cond_true]
      exact ⟨_, _, _, _, _, a4, _, rfl, rfl⟩
    · simp only [df h9, cond_false, he, if_true]
      exact ⟨0, 0, 0, false, .nil, a4, _, rfl, rfl⟩
  · simp only [df he, cond_false]
    exact ⟨0, 0, 0, false, .nil, a4, _, rfl, rfl⟩
end Go.Proofs.Ytjjcmgdgifcmgaa
