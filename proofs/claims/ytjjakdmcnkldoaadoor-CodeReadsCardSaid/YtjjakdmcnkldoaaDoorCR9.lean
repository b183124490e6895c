/- A tree of the bits that are left: the program's reader reads it. Plain. -/
import Derived.Test.YtjjakdmcnkldoaaDoorCR8
set_option linter.unusedVariables false
set_option linter.unusedSimpArgs false
namespace Go.Proofs.YtjjakdmcnkldoaaDoor
open Go.Ev Go.Lib

theorem goL_len : ∀ {f b base : Nat} {l : List Bool} {v : Nat} {r : List Bool}, goL f b base l = some (v, r) → r.length ≤ l.length
  | f, b, base, [], v, r, h => by cases f <;> cases h
  | 0, b, base, c :: l, v, r, h => by
    simp only [goL] at h
    split at h
    · cases h
    · cases h; simp only [List.length_drop, List.length_cons]; omega
  | f + 1, b, base, c :: l, v, r, h => by
    simp only [goL] at h
    split at h
    · have := goL_len h; simp only [List.length_cons]; omega
    · split at h
      · cases h
      · cases h; simp only [List.length_drop, List.length_cons]; omega
theorem baseL_ok {x y x' y' : Bool} {l r : List Bool} {b : Int} (h : baseL x y l = .inl (x', y', b, r)) : 0 ≤ b ∧ b ≤ 1048576 ∧ r.length ≤ l.length ∧ x = x' ∧ y = y' := by
  unfold baseL at h
  split at h
  · cases h
  · rename_i v r' hq
    have := goL_len hq
    split at h
    · cases h
    · split at h
      · cases h
      · cases h
        exact ⟨by omega, by omega, this, rfl, rfl⟩
theorem headE_ok {L r : List Bool} {x y : Bool} {b : Int} (h : headE L = .inl (x, y, b, r)) : 0 ≤ b ∧ b ≤ 1048576 ∧ r.length ≤ L.length ∧ (x = true ∨ y = true) := by
  match L, h with
  | false :: false :: l, h => cases h; exact ⟨by decide, by decide, by simp only [List.length_cons]; omega, .inr rfl⟩
  | false :: true :: l, h => cases h; exact ⟨by decide, by decide, by simp only [List.length_cons]; omega, .inl rfl⟩
  | true :: false :: l, h => cases h; exact ⟨by decide, by decide, by simp only [List.length_cons]; omega, .inl rfl⟩
  | true :: true :: true :: l, h =>
    obtain ⟨h1, h2, h3, rfl, rfl⟩ := baseL_ok (show baseL true true l = _ from h)
    exact ⟨h1, h2, by simp only [List.length_cons]; omega, .inl rfl⟩
  | true :: true :: false :: c :: l, h =>
    obtain ⟨h1, h2, h3, rfl, rfl⟩ := baseL_ok (show baseL c (!c) l = _ from h)
    exact ⟨h1, h2, by simp only [List.length_cons]; omega, by cases c <;> simp⟩
  | true :: true :: [false], h => cases h
  | [true, true], h => cases h
  | [a], h => cases a <;> cases h
  | [], h => cases h
theorem zeroEv_nil : zeroEv 0 T_event_halves.nil = true := rfl
theorem nodeD_ok {rec_ : List Bool → RE} {k : Nat} {x y : Bool} {base e : Int} {l r : List Bool} {t : Tr} (hb : 0 ≤ base ∧ base ≤ 1048576)
    (hrec : ∀ {l : List Bool} {e : Int} {t : Tr} {r : List Bool}, rec_ l = .inl (e, t, r) → nf e t ∧ depthE t ≤ k ∧ maxE e t ≤ 1048576 ∧ r.length ≤ l.length)
    (h : nodeD rec_ x y base l = .inl (e, t, r)) : nf e t ∧ depthE t ≤ k + 1 ∧ maxE e t ≤ 1048576 ∧ r.length ≤ l.length := by
  unfold nodeD at h
  have side : ∀ {x : Bool} {l : List Bool} {a : Int} {t : Tr} {r : List Bool}, (if x = false then .inl (0, .nil, l) else rec_ l : RE) = .inl (a, t, r) → nf a t ∧ depthE t ≤ k ∧ maxE a t ≤ 1048576 ∧ r.length ≤ l.length := by
    intro x l a t r h
    cases x with
    | false => simp only [if_true] at h; cases h; exact ⟨Int.le_refl 0, Nat.zero_le _, by simp [maxE], Nat.le_refl _⟩
    | true => simp only [Bool.true_eq_false, if_false] at h; exact hrec h
  split at h
  · cases h
  · rename_i a1 t1 l1 h1
    obtain ⟨p1, p2, p3, p4⟩ := side h1
    split at h
    · cases h
    · rename_i b1 u1 l2 h2
      obtain ⟨q1, q2, q3, q4⟩ := side h2
      split at h
      · cases h
      · rename_i hc
        split at h
        · cases h
        · rename_i hm
          cases h
          have g1 := p1.base
          have g2 := q1.base
          refine ⟨⟨hb.1, p1, q1, ?_, fun hx => hc (.inr (.inr (.inr hx)))⟩, by simp only [depthE]; omega, by omega, by omega⟩
          have : ¬ 0 < min a1 b1 := fun hx => hc (.inr (.inr (.inl hx)))
          omega
theorem leafD_ok {l r : List Bool} {e : Int} {t : Tr} (h : leafD l = .inl (e, t, r)) : nf e t ∧ depthE t = 0 ∧ maxE e t ≤ 1048576 ∧ r.length ≤ l.length := by
  unfold leafD at h
  split at h
  · cases h
  · rename_i v r' hq
    have := goL_len hq
    split at h
    · cases h
    · cases h
      exact ⟨by simp only [nf]; omega, rfl, by simp only [maxE]; omega, this⟩
theorem decE_ok : ∀ {k : Nat} {L : List Bool} {e : Int} {t : Tr} {r : List Bool}, decE k L = .inl (e, t, r) → nf e t ∧ depthE t ≤ k ∧ maxE e t ≤ 1048576 ∧ r.length ≤ L.length
  | k, [], e, t, r, h => by cases k <;> cases h
  | 0, c :: l, e, t, r, h => by
    simp only [decE] at h
    split at h
    · obtain ⟨a, b, c, d⟩ := leafD_ok h
      exact ⟨a, by omega, c, by simp only [List.length_cons]; omega⟩
    · cases h
  | k + 1, c :: l, e, t, r, h => by
    simp only [decE] at h
    split at h
    · obtain ⟨a, b, c, d⟩ := leafD_ok h
      exact ⟨a, by omega, c, by simp only [List.length_cons]; omega⟩
    · split at h
      · cases h
      · rename_i x y base l1 hh
        obtain ⟨b1, b2, b3, -⟩ := headE_ok hh
        obtain ⟨a, b, c, d⟩ := nodeD_ok (k := k) ⟨b1, b2⟩ (fun h => decE_ok h) h
        exact ⟨a, b, c, by simp only [List.length_cons]; omega⟩
def GoodE (p : List Int) : RE → Option (Int × Tr × Int × Int × Int) → Prop
  | .inl (e, t, r), x => ∃ m : Nat, x = some (e, t, 0, (m : Int), 0) ∧ Rem p m r
  | .inr er, x => er ≠ 0 ∧ ∃ (e : Int) (t : Tr) (m w : Int), x = some (e, t, er, m, w)
theorem node_prog {N : Nat} {p : List Int} {n er base a b : Int} {t u : Tr} (hN : 30 ≤ N) (hb : 0 ≤ base ∧ base ≤ 1048576) (h1 : nf a t) (h2 : nf b u) (d1 : depthE t < 16) (d2 : depthE u < 16) (m1 : maxE a t ≤ 1048576) (m2 : maxE b u ≤ 1048576) (h3 : ¬ 0 < min a b) (h4 : ¬ (t = .nil ∧ u = .nil ∧ a = b)) :
    code_source_node N base a t b u 0 p n er = some (if 1048576 < maxE base (.mk a t b u) then (0, .nil, 4) else (base, .mk a t b u, 0)) := by
  have g1 := h1.base
  have g2 := h2.base
  have hk : nodeE base a t b u = (base, .mk a t b u) := by rw [nodeE_mk h4, show min a b = 0 by omega, Int.add_zero, Int.sub_zero, Int.sub_zero]
  have hnf : nf base (.mk a t b u) := ⟨hb.1, h1, h2, by omega, h4⟩
  have g3 := maxE_ge h1
  have g4 := maxE_ge h2
  unfold code_source_node event_Node
  rw [if_neg (show ¬ (2097152 : Int) < base by omega), evnode (by omega) (by omega) (by omega), hk]
  have hd := evDepth (N := N) (e := base) (t := .mk a t b u) (by simp only [depthE]; omega) (by simp only [depthE]; omega)
  have hm := evMax (N := N) (e := base) (t := .mk a t b u) (by simp only [depthE]; omega) hnf (by simp only [maxE]; omega)
  have hr : event_Event_right N base (.mk a t b u) = some (if 1048576 < maxE base (.mk a t b u) then 4 else 0) := by
    unfold event_Event_right
    rw [hd, hm]
    simp only [Option.bind_some, df (show ¬ (16 : Int) < ((depthE (.mk a t b u) : Nat) : Int) by simp only [depthE]; omega), cond_false]
    by_cases hx : 1048576 < maxE base (.mk a t b u)
    · rw [if_pos hx, dt hx]; rfl
    · rw [if_neg hx, df hx]; rfl
  simp only [Option.bind_some, hr]
  by_cases hx : 1048576 < maxE base (.mk a t b u)
  · simp only [if_pos hx]; rfl
  · simp only [if_neg hx]; rfl
end Go.Proofs.YtjjakdmcnkldoaaDoor
