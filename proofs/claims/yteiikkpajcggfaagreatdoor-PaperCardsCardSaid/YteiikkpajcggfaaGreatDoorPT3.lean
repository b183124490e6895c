/- Cards read whole; PaperReads. Plain. -/
import Derived.Test.YteiikkpajcggfaaGreatDoorPT2
set_option linter.unusedVariables false
set_option linter.unusedSimpArgs false
namespace Go.Proofs.YteiikkpajcggfaaGreatDoor
open Go.Ev Go.Lib
theorem end_spec {p : List Int} {at_ : Nat} (ha : at_ ≤ p.length) (e : Int) :
  ∃ e2, wire_In_End (p.drop at_) e = some (e2, e2) ∧ kinfolkref06_End p at_ e = some (e2, e2) ∧ (e2 = 0 → e = 0 ∧ p.drop at_ = []) := by
 unfold wire_In_End kinfolkref06_End
 simp only [W.left_eq, W.fail_eq, W.rfail_eq, W.err_eq, Option.bind_some]
 by_cases h : (at_ : Int) < p.length
 ·have h2 : (0 : Int) < ((p.drop at_).length : Int) := by simp; omega
  refine ⟨if e = 0 then 6 else e, ?_, ?_, fun hh => ?_⟩
  ·simp only [decide_eq_true h2, cond_true]
  ·simp only [decide_eq_true h, cond_true]
  ·split at hh <;> omega
 ·have h2 : ¬ ((0 : Int) < ((p.drop at_).length : Int)) := by simp; omega
  refine ⟨e, ?_, ?_, fun hh => ⟨hh, List.drop_eq_nil_of_le (by omega)⟩⟩
  ·simp only [decide_eq_false h2, cond_false]
  ·simp only [decide_eq_false h, cond_false]
theorem get_pair {N : Nat} (hN : 1000 < N) {p : List Int} (hb : W.Bytes p) (hp : p.length ≤ 1000000) {at_ : Nat} (ha : at_ ≤ p.length) :
  ∃ (c : List Fd) (at2 : Nat) (e2 : Int), paper_GetCard (p.drop at_) 0 = some (c, p.drop at2, e2) ∧ kinfolkref10_GetCard N p (at_ : Int) 0 = some (c.map toR, (at2 : Int), e2) ∧ at2 ≤ p.length ∧ c.length ≤ 8 ∧ (∀ x ∈ c, Small x) ∧ (e2 = 0 → Fit c ∧ p.drop at_ = encC c ++ p.drop at2) := by
 obtain ⟨v, at1, e1, n1, n2, n3, n4, n5, n6⟩ := W.num_spec hb hp ha 0
 unfold paper_GetCard kinfolkref10_GetCard
 rw [n1, n2]
 simp only [Option.bind_some]
 by_cases h8 : 8 < v
 ·have he4 : ¬ (if e1 = 0 then (8 : Int) else e1) = 0 := by split <;> omega
  rw [decide_eq_true h8]
  simp only [cond_true, W.fail_eq, W.rfail_eq, Option.bind_some]
  generalize (if e1 = 0 then (8 : Int) else e1) = e4 at *
  have s1 : paper_GetCard_L0_2_step v (p.drop at1, e4, []) = some (.inr (.inr (p.drop at1, e4, []))) := by
   simp only [paper_GetCard_L0_2_step, W.err_eq, Option.bind_some, decide_eq_false he4]; rfl
  have s2 : kinfolkref10_GetCard_L0_2_step N v p (0, (at1 : Int), e4, []) = some (.inr ((at1 : Int), e4, [])) := by
   simp only [kinfolkref10_GetCard_L0_2_step, decide_eq_false he4]
   cases decide ((0 : Int) < v) <;> rfl
  rw [runL_done s1, runL_done s2]
  simp only [Option.bind_some, W.err_eq, decide_eq_false he4, cond_false]
  exact ⟨[], at1, e4, rfl, rfl, n3, by simp, fun x hx => (by cases hx), fun h => absurd h he4⟩
 ·obtain ⟨n, rfl⟩ : ∃ n : Nat, v = (n : Int) := ⟨v.toNat, by omega⟩
  rw [decide_eq_false h8]
  simp only [cond_false]
  obtain ⟨at2, e2, r2, ⟨z, z1, z2⟩, ⟨rr, z3, z4⟩, z5, z6⟩ := get_loop hN hb hp (n := n) (by omega) (hd := p.take at1) n at1 e1 [] (by simp) n3 (by simp) (fun x hx => (by cases hx)) (fun _ => ⟨⟨trivial, fun x hx => (by cases hx), fun x hx => (by cases hx)⟩, by
   show p = p.take at1 ++ ([] ++ p.drop at1)
   rw [List.nil_append, List.take_append_drop]⟩)
  have z3' : runL (kinfolkref10_GetCard_L0_2_step N (n : Int) p) (0, (at1 : Int), e1, []) = some ((at2 : Int), e2, rr) := z3
  rw [z1, z3']
  simp only [Option.bind_some]
  have hgood : e2 = 0 → Fit r2 ∧ p.drop at_ = encC r2 ++ p.drop at2 ∧ r2.length ≤ 8 := fun he => by
   obtain ⟨y1, y2, y3⟩ := z6 he
   have he1 : e1 = 0 := by
    rcases Classical.em (e1 = 0) with h | h
    ·exact h
    ·have s1 : paper_GetCard_L0_2_step (n : Int) (p.drop at1, e1, []) = some (.inr (.inr (p.drop at1, e1, []))) := by
      simp only [paper_GetCard_L0_2_step, W.err_eq, Option.bind_some, decide_eq_false h]; rfl
     rw [runL_done s1] at z1
     have := Option.some.inj z1
     subst this
     exact absurd (z2.2.1.trans he) h
   obtain ⟨_, k, k1, k2⟩ := n6 he1
   refine ⟨y1, ?_, by omega⟩
   have h1 := W.dec_var (hb.drop at_) k1
   rw [List.drop_drop, ← k2] at h1
   have h2 : p.drop at1 = encFs r2 ++ p.drop at2 := by
    have h3 : (p.take at1 ++ (encFs r2 ++ p.drop at2)).drop at1 = encFs r2 ++ p.drop at2 := by
     have hl : (p.take at1).length = at1 := by rw [List.length_take]; omega
     have := List.drop_left (l₁ := p.take at1) (l₂ := encFs r2 ++ p.drop at2)
     rwa [hl] at this
    rw [← h3, ← y3]
   rw [h1, h2, encC, y2, List.append_assoc]
  cases z with
  | inl z =>
   obtain ⟨l, e', a1, a2, a3, r'⟩ := z
   obtain ⟨rfl, rfl, q3⟩ := z2
   simp only [W.err_eq, Option.bind_some, decide_eq_false q3, cond_false]
   exact ⟨[], at2, e', rfl, rfl, z5, by simp, fun x hx => (by cases hx), fun h => absurd h q3⟩
  | inr z =>
   obtain ⟨l, e', r'⟩ := z
   obtain ⟨rfl, rfl, q3⟩ := z2
   simp only [W.err_eq, Option.bind_some]
   by_cases he : e' = 0
   ·obtain ⟨g1, g2, g3⟩ := hgood he
    have hr := q3 he
    have hrr := z4 he
    subst hr
    subst hrr
    rw [decide_eq_true he]
    simp only [cond_true, take_len, gtake_len]
    rw [make_fit g1 g3]
    exact ⟨r', at2, e', rfl, rfl, z5, g3, g1.small, fun _ => ⟨g1, g2⟩⟩
   ·rw [decide_eq_false he]
    simp only [cond_false]
    exact ⟨[], at2, e', rfl, rfl, z5, by simp, fun x hx => (by cases hx), fun h => absurd h he⟩
theorem read_pair {N : Nat} (hN : 1000 < N) {p : List Int} (hb : W.Bytes p) (hp : p.length ≤ 1000000) :
  ∃ (c : List Fd) (e : Int), paper_ReadCard p = some (c, e) ∧ kinfolkref10_ReadCard N p = some (c.map toR, e) ∧ c.length ≤ 8 ∧ (∀ x ∈ c, Small x) ∧ (e = 0 → Fit c ∧ p = encC c) := by
 obtain ⟨c, at2, e2, h1, h2, h3, h4, h5, h6⟩ := get_pair hN hb hp (at_ := 0) (by omega)
 obtain ⟨e3, g1, g2, g3⟩ := end_spec h3 e2
 have h2' : kinfolkref10_GetCard N p 0 0 = some (c.map toR, (at2 : Int), e2) := h2
 unfold paper_ReadCard kinfolkref10_ReadCard wire_Of
 rw [List.drop_zero] at h1 h6
 rw [fits_of (by omega), h1, h2']
 simp only [cond_true, Option.bind_some, g1, g2]
 by_cases he : e3 = 0
 ·obtain ⟨k1, k2⟩ := g3 he
  obtain ⟨k3, k4⟩ := h6 k1
  rw [k2, List.append_nil] at k4
  rw [decide_eq_true he]
  exact ⟨c, 0, rfl, rfl, h4, h5, fun _ => ⟨k3, k4⟩⟩
 ·rw [decide_eq_false he]
  exact ⟨[], e3, rfl, rfl, by simp, fun x hx => (by cases hx), fun h => absurd h he⟩
def ann : Fd := E_card_Field.mk 1 (⟨#[]⟩ : ByteArray) (⟨#[65, 110, 110]⟩ : ByteArray)
theorem ann_ok : okF ann = true := by decide +kernel
theorem ann_fit : Fit [ann] := ⟨⟨fun y hy => (by cases hy), trivial⟩, fun x hx => by
 have : x = ann := by simpa using hx
 rw [this]; exact ann_ok, fun x hx => by
 have : x = ann := by simpa using hx
 rw [this]; exact ⟨by decide, by decide⟩⟩
theorem ann_enc : encC [ann] = [1, 1, 0, 3, 65, 110, 110] := by decide +kernel
theorem awake10_go : kinfolklaw10_awake = some true := by
 unfold kinfolklaw10_awake
 have h1 : card_Make [(E_card_Field.mk 1 (⟨#[]⟩ : ByteArray) (⟨#[65, 110, 110]⟩ : ByteArray))] = some ([ann], 0) := make_fit ann_fit (by simp)
 rw [h1]
 simp only [Option.bind_some]
 rw [card_w (by simp) ann_fit.small, ann_enc]
 simp only [Option.bind_some]
 rw [W.same_eq (by simp)]
 simp
end Go.Proofs.YteiikkpajcggfaaGreatDoor
