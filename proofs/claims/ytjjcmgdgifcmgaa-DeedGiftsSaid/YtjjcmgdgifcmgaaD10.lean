/- Chapter 15: a gift read, its id as it is kept; the same; what is made. Plain. -/
import Derived.Test.YtjjcmgdgifcmgaaD9
set_option linter.unusedVariables false
set_option linter.unusedSimpArgs false
namespace Go.Proofs.Ytjjcmgdgifcmgaa
open Go.Ev Go.Lib

theorem readI15_ok (p : List Int) : nfI (readI15 p).1 (readI15 p).2.1 ∧ depthI (readI15 p).2.1 ≤ 16 := by
  unfold readI15
  cases hd : decI 16 (bitsOf p) with
  | inr e => exact ⟨trivial, Nat.zero_le _⟩
  | inl x =>
    obtain ⟨i, t, r⟩ := x
    obtain ⟨h1, h2, _⟩ := decI_ok hd
    by_cases hz : endR r = 0
    · simp only [if_pos hz]; exact ⟨h1, h2⟩
    · simp only [if_neg hz]; exact ⟨trivial, Nat.zero_le _⟩
/-- A gift out of bytes: both readers tell the same. -/
theorem gift15n {N : Nat} {p : List Int} (hN : 100 ≤ N) (hb : Bytes p) (hp : p.length ≤ 1000000) :
    ∃ no from_ to : Int, ∃ i : Bool, ∃ t : Idt, ∃ at2 : Nat, ∃ e : Int, deed_GetGift N p 0 = some (no, from_, to, i, t, p.drop at2, e) ∧ kinfolkref15_GetGift N p 0 0 = some (no, from_, to, fromI i t, (at2 : Int), e) ∧ nfI i t ∧ depthI t ≤ 16 := by
  obtain ⟨v1, a1, e1, p1, q1, l1, n1, m1, -⟩ := W.num_spec hb hp (at_ := 0) (by omega) 0
  obtain ⟨v2, a2, e2, p2, q2, l2, n2, m2, -⟩ := number15 hb hp l1 e1
  obtain ⟨v3, a3, e3, p3, q3, l3, n3, m3, -⟩ := number15 hb hp l2 e2
  obtain ⟨s, a4, e4, p4, q4, l4, n4, m4⟩ := W.text_spec hb hp l3 e3 (most := 4096) (by omega)
  have p4 : wire_In_Text 4096 (p.drop a3) e3 = _ := p4
  have q4 : kinfolkref06_GetText 4096 p a3 e3 = _ := q4
  rw [List.drop_zero] at p1
  have q1 : kinfolkref06_GetNum p 0 0 = _ := q1
  unfold deed_GetGift kinfolkref15_GetGift
  rw [p1, q1]
  simp only [Option.bind_some, p2, q2, p3, q3, p4, q4, W.err_eq]
  by_cases he : e4 = 0
  · obtain ⟨-, hs, -⟩ := m4 he
    have hsz : (bytesL s).length ≤ 10000 := by rw [W.bytesL_len]; omega
    have hs2 : decide (s.size ≤ 140737488355328) = true := by simp; omega
    simp only [dt he, cond_true, hs2, progID15 hN (W.bytesL_bytes s) hsz, rprogID15 hN (W.bytesL_bytes s) hsz, Option.bind_some, W.fail_eq]
    by_cases h9 : (readI15 (bytesL s)).2.2 = 0
    · simp only [dt h9, cond_true]
      exact ⟨_, _, _, _, _, a4, _, rfl, rfl, readI15_ok _⟩
    · simp only [df h9, cond_false, he, if_true]
      exact ⟨0, 0, 0, false, .nil, a4, _, rfl, rfl, trivial, Nat.zero_le _⟩
  · simp only [df he, cond_false]
    exact ⟨0, 0, 0, false, .nil, a4, _, rfl, rfl, trivial, Nat.zero_le _⟩
theorem same15 {N : Nat} (hN : 100 ≤ N) (no f to : Int) {i : Bool} {t : Idt} (hn : nfI i t) (hd : depthI t ≤ 16) : kinfolklaw15_same N no f to i t no f to (fromI i t) = some true := by
  unfold kinfolklaw15_same
  simp only [decide_true, cond_true, idText (N := N) (by omega) hn (by omega), rIText (N := N) (by omega) hn (by omega), Option.bind_some]
theorem made15 {N : Nat} (hN : 100 ≤ N) {p : List Int} (hb : Bytes p) : ∃ i t, kinfolklaw15_made N p = some (i, t, fromI i t) ∧ nfI i t ∧ depthI t ≤ 16 := by
  have key : ∀ q : List Int, Bytes q → ∃ i t, ((kinfolkref01_Make N q 5).bind fun (t, l_) => (kinfolklaw15_own N t).bind fun (b, t2) => some (b, t2, t)) = some (i, t, fromI i t) ∧ nfI i t ∧ depthI t ≤ 16 := by
    intro q hq
    obtain ⟨i, t, rest, h1, h2, h3, _⟩ := rmakeID (N := N) (most := 5) (p := q) (by omega) (by omega) hq
    have h1 : kinfolkref01_Make N q 5 = _ := h1
    have h4 := ownI_eq (N := N) h2 (by omega) (by omega)
    exact ⟨i, t, by rw [h1]; simp only [Option.bind_some, h4], h2, by omega⟩
  obtain ⟨i, t, h1, h2, h3⟩ := key (List.take ((if (30 : Int) < ((p).length : Int) then 30 else ((p).length : Int)) - 0).toNat p) (fun x hx => hb x (List.mem_of_mem_take hx))
  refine ⟨i, t, ?_, h2, h3⟩
  unfold kinfolklaw15_made
  have hc : ∀ {a b c d : Bool}, a = true → b = true → c = true → d = true → (a && b && c && d) = true := by intro a b c d h1 h2 h3 h4; rw [h1, h2, h3, h4]; rfl
  rw [hc (by simp) (by split <;> simp <;> omega) (by split <;> simp <;> omega) (by simp)]
  exact h1
end Go.Proofs.Ytjjcmgdgifcmgaa
