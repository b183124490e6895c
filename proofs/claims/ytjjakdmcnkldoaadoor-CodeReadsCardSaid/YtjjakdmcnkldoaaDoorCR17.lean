/- A stamp read: both readers. Plain. -/
import Derived.Test.YtjjakdmcnkldoaaDoorCR16
set_option linter.unusedVariables false
set_option linter.unusedSimpArgs false
namespace Go.Proofs.YtjjakdmcnkldoaaDoor
open Go.Ev Go.Lib

def readS (L : List Bool) : (Bool × Idt × Int × Tr × List Bool) ⊕ Int :=
  match decI 16 L with
  | .inr e => .inr e
  | .inl (i, t, r) => match decE 16 r with
    | .inr e => .inr e
    | .inl (e, u, r2) => if endR r2 = 0 then .inl (i, t, e, u, r2) else .inr (endR r2)
def showS : (Bool × Idt × Int × Tr × List Bool) ⊕ Int → Bool × Idt × Int × Tr × Int
  | .inl (i, t, e, u, _) => (i, t, e, u, 0)
  | .inr e => (false, .nil, 0, .nil, e)
theorem progS {N : Nat} {p : List Int} (hN : 100 ≤ N) (hb : Bytes p) (hp : p.length ≤ 10000) : code_ReadStamp N p = some (showS (readS (bitsOf p))) := by
  have h := progI hb (by omega) (N := N) (k := 16) (d := 0) (n := 0) (by omega) (by omega) (rem_all p)
  unfold code_ReadStamp code_GetID readS bits_NewReader
  rw [fits_ok (by omega)]
  revert h
  cases hd : decI 16 (bitsOf p) with
  | inr e =>
    rintro ⟨he, i, t, m, er, h, -⟩
    have h' : code_source_id_2 N 0 0 p 0 0 = _ := h
    rw [h']
    simp only [Option.bind_some, cond_true, df he, cond_false, id_Zero]
    rfl
  | inl x =>
    obtain ⟨i, t, r⟩ := x
    rintro ⟨m, h, hr⟩
    have h' : code_source_id_2 N 0 0 p 0 0 = _ := h
    rw [h']
    simp only [Option.bind_some, cond_true, decide_true]
    have g := progE hb (by omega) (N := N) (k := 16) (d := 0) (n := m) (by omega) (by omega) hr
    unfold code_GetEvent
    revert g
    cases hd2 : decE 16 r with
    | inr e =>
      rintro ⟨he, i, t, m2, er, g⟩
      have g' : code_source_event_2 N 0 0 p (m : Int) 0 = _ := g
      rw [g']
      simp only [Option.bind_some, df he, cond_false, stamp_Stamp]
      rfl
    | inl y =>
      obtain ⟨e, u, r2⟩ := y
      rintro ⟨m2, g, hr2⟩
      have g' : code_source_event_2 N 0 0 p (m : Int) 0 = _ := g
      rw [g']
      obtain ⟨x, hx⟩ := endProg hb (by omega) hr2
      simp only [Option.bind_some, decide_true, cond_true, stamp_Stamp, hx]
      by_cases hz : endR r2 = 0
      · rw [dt hz, if_pos hz]; rfl
      · rw [df hz, if_neg hz]; rfl
theorem rprogS {N : Nat} {p : List Int} (hN : 100 ≤ N) (hb : Bytes p) (hp : p.length ≤ 10000) : kinfolkref07_ReadStamp N p =
    some (fromI (showS (readS (bitsOf p))).1 (showS (readS (bitsOf p))).2.1, fromEv (showS (readS (bitsOf p))).2.2.1 (showS (readS (bitsOf p))).2.2.2.1, (showS (readS (bitsOf p))).2.2.2.2) := by
  have hL : (bitsOf p).length ≤ 80000 := by rw [bitsOf_len]; omega
  have h := rprogI (N := N + 1) (k := 16) (d := 0) (L := bitsOf p) (by omega) (by omega) (by omega)
  unfold kinfolkref07_ReadStamp readS
  rw [rBits hb hp]
  simp only [Option.bind_some]
  rw [rGetID (by omega)]
  revert h
  cases hd : decI 16 (bitsOf p) with
  | inr e =>
    rintro ⟨he, l, er, h⟩
    have h' : kinfolkref07_GetID_4 (N + 1) 0 (bitsOf p) 0 = _ := h
    rw [h']
    simp only [Option.bind_some, df he, cond_false]
    rfl
  | inl x =>
    obtain ⟨i, t, r⟩ := x
    intro h
    have h' : kinfolkref07_GetID_4 (N + 1) 0 (bitsOf p) 0 = _ := h
    rw [h']
    have hr := (decI_ok hd).2.2
    have g := rprogE (N := N) (k := 16) (d := 0) (L := r) (by omega) (by omega) (by omega)
    simp only [Option.bind_some, cond_true, decide_true, kinfolkref02_Leaf]
    revert g
    cases hd2 : decE 16 r with
    | inr e =>
      rintro ⟨he, l, er, g⟩
      have g' : kinfolkref07_GetEvent_2 N 0 r 0 = _ := g
      rw [g']
      simp only [Option.bind_some, df he, cond_false]
      rfl
    | inl y =>
      obtain ⟨e, u, r2⟩ := y
      intro g
      have g' : kinfolkref07_GetEvent_2 N 0 r 0 = _ := g
      rw [g']
      have hr2 := (decE_ok hd2).2.2.2
      obtain ⟨x, hx⟩ := rEnd (r := r2) (by omega)
      simp only [Option.bind_some, decide_true, cond_true, hx]
      by_cases hz : endR r2 = 0
      · rw [dt hz, if_pos hz]; rfl
      · rw [df hz, if_neg hz]; rfl
theorem readS_ok (L : List Bool) : nfI (showS (readS L)).1 (showS (readS L)).2.1 ∧ depthI (showS (readS L)).2.1 ≤ 16 ∧ nf (showS (readS L)).2.2.1 (showS (readS L)).2.2.2.1 ∧ depthE (showS (readS L)).2.2.2.1 ≤ 16 ∧ maxE (showS (readS L)).2.2.1 (showS (readS L)).2.2.2.1 ≤ 1048576 := by
  have dflt : ∀ w, nfI (showS (.inr w)).1 (showS (.inr w)).2.1 ∧ depthI (showS (.inr w)).2.1 ≤ 16 ∧ nf (showS (.inr w)).2.2.1 (showS (.inr w)).2.2.2.1 ∧ depthE (showS (.inr w)).2.2.2.1 ≤ 16 ∧ maxE (showS (.inr w)).2.2.1 (showS (.inr w)).2.2.2.1 ≤ 1048576 := by
    intro w
    exact ⟨trivial, by simp [showS, depthI], by simp [showS, nf], by simp [showS, depthE], by simp [showS, maxE]⟩
  unfold readS
  cases hd : decI 16 L with
  | inr e => exact dflt e
  | inl x =>
    obtain ⟨i, t, r⟩ := x
    have h1 := decI_ok hd
    simp only
    cases hd2 : decE 16 r with
    | inr e => exact dflt e
    | inl y =>
      obtain ⟨e, u, r2⟩ := y
      have h2 := decE_ok hd2
      simp only
      split
      · exact ⟨h1.1, h1.2.1, h2.1, h2.2.1, h2.2.2.1⟩
      · exact dflt _
end Go.Proofs.YtjjakdmcnkldoaaDoor
