/- Trees: their form, their heights part by part. Plain. -/
import Derived.Test.YtjjakdmcnkldoaaDoorHCfg
import Derived.Test.YtjjakdmcnkldoaaDoorHQ3
set_option linter.unusedVariables false
set_option linter.unusedSimpArgs false
namespace Go.Proofs.YtjjakdmcnkldoaaDoor
open Go.Ev

abbrev Tr := T_event_halves
instance decNil (t : Tr) : Decidable (t = T_event_halves.nil) := match t with
  | .nil => isTrue rfl
  | .mk .. => isFalse (fun h => by cases h)
def depthE : Tr → Nat
  | .nil => 0
  | .mk _ t _ u => max (depthE t) (depthE u) + 1
def maxE : Int → Tr → Int
  | e, .nil => e
  | e, .mk a t b u => e + max (maxE a t) (maxE b u)
/-- In the one form. -/
def nf : Int → Tr → Prop
  | e, .nil => 0 ≤ e
  | e, .mk a t b u => 0 ≤ e ∧ nf a t ∧ nf b u ∧ (a = 0 ∨ b = 0) ∧ ¬ (t = .nil ∧ u = .nil ∧ a = b)
theorem nf.base : ∀ {t : Tr} {e : Int}, nf e t → 0 ≤ e
  | .nil, _, h => h
  | .mk .., _, h => h.1
theorem nf.up {t : Tr} {e k : Int} (h : nf e t) (hk : 0 ≤ k) : nf (k + e) t := by
  cases t with
  | nil => simp only [nf] at h ⊢; omega
  | mk a t b u => exact ⟨by have := h.1; omega, h.2⟩
theorem maxE_up : ∀ {t : Tr} {e k : Int}, maxE (k + e) t = k + maxE e t
  | .nil, e, k => by simp [maxE]
  | .mk a t b u, e, k => by simp only [maxE]; omega
theorem maxE_ge : ∀ {t : Tr} {e : Int}, nf e t → e ≤ maxE e t
  | .nil, e, h => by simp [maxE]
  | .mk a t b u, e, h => by
    have h1 := maxE_ge h.2.1
    have h2 := h.2.1.base
    simp only [maxE]; omega
def isNil : Tr → Bool
  | .nil => true
  | .mk .. => false
theorem isNil_iff {t : Tr} : isNil t = true ↔ t = .nil := by cases t <;> simp [isNil]
def nodeE (n a : Int) (t : Tr) (b : Int) (u : Tr) : Int × Tr :=
  if t = .nil ∧ u = .nil ∧ a = b then (n + a, .nil) else (n + min a b, .mk (a - min a b) t (b - min a b) u)
theorem nodeE_leaf {n a b : Int} (h : a = b) : nodeE n a .nil b .nil = (n + a, .nil) := if_pos ⟨rfl, rfl, h⟩
theorem nodeE_mk {n a b : Int} {t u : Tr} (h : ¬ (t = .nil ∧ u = .nil ∧ a = b)) : nodeE n a t b u = (n + min a b, .mk (a - min a b) t (b - min a b) u) := if_neg h
/-- The heights of the 2^d parts. -/
def hts : Nat → Int → Tr → List Int
  | 0, e, t => [maxE e t]
  | d + 1, e, .nil => hts d e .nil ++ hts d e .nil
  | d + 1, e, .mk a t b u => hts d (e + a) t ++ hts d (e + b) u
theorem hts_len : ∀ (d : Nat) (e : Int) (t : Tr), (hts d e t).length = 2 ^ d
  | 0, e, t => rfl
  | d + 1, e, .nil => by simp only [hts, List.length_append, hts_len d]; omega
  | d + 1, e, .mk a t b u => by simp only [hts, List.length_append, hts_len d]; omega
theorem sub_nf {a b : Int} {t : Tr} (h : nf a t) (hb : 0 ≤ b) (hba : b ≤ a) : nf (a - b) t := by
  cases t with
  | nil => simp only [nf] at h ⊢; omega
  | mk c v d w => exact ⟨by omega, h.2⟩
theorem node_nf {n a b : Int} {t u : Tr} (hn : 0 ≤ n) (ha : nf a t) (hb : nf b u) : nf (nodeE n a t b u).1 (nodeE n a t b u).2 := by
  have h1 := ha.base
  have h2 := hb.base
  unfold nodeE
  split
  · simp only [nf]; omega
  · rename_i h
    refine ⟨by omega, sub_nf ha (by omega) (by omega), sub_nf hb (by omega) (by omega), by omega, fun hc => h ⟨hc.1, hc.2.1, by omega⟩⟩
theorem node_depth (n a b : Int) (t u : Tr) : depthE (nodeE n a t b u).2 ≤ max (depthE t) (depthE u) + 1 := by
  unfold nodeE
  split
  · simp [depthE]
  · exact Nat.le_refl _
theorem maxE_sub {t : Tr} {a m : Int} : maxE (a - m) t = maxE a t - m := by
  have := maxE_up (t := t) (e := a - m) (k := m)
  rw [show m + (a - m) = a by omega] at this
  omega
theorem node_max (n a b : Int) (t u : Tr) : maxE (nodeE n a t b u).1 (nodeE n a t b u).2 = n + max (maxE a t) (maxE b u) := by
  unfold nodeE
  split
  · rename_i h
    obtain ⟨rfl, rfl, rfl⟩ := h
    simp only [maxE]; omega
  · simp only [maxE, maxE_sub]; omega
theorem hts_node (d : Nat) (n a b : Int) (t u : Tr) : hts (d + 1) (nodeE n a t b u).1 (nodeE n a t b u).2 = hts d (n + a) t ++ hts d (n + b) u := by
  unfold nodeE
  split
  · rename_i h
    obtain ⟨rfl, rfl, rfl⟩ := h
    rfl
  · simp only [hts]
    rw [show n + min a b + (a - min a b) = n + a by omega, show n + min a b + (b - min a b) = n + b by omega]
theorem app_inj {a b c d : List Int} (hl : a.length = c.length) (h : a ++ b = c ++ d) : a = c ∧ b = d := List.append_inj h hl
theorem hts_inj : ∀ {d : Nat} {e f : Int} {t u : Tr}, nf e t → nf f u → depthE t ≤ d → depthE u ≤ d → hts d e t = hts d f u → e = f ∧ t = u
  | 0, e, f, t, u, h1, h2, d1, d2, h => by
    cases t with
    | mk => simp [depthE] at d1
    | nil =>
      cases u with
      | mk => simp [depthE] at d2
      | nil => simp only [hts, maxE, List.cons.injEq] at h; exact ⟨h.1, rfl⟩
  | d + 1, e, f, .nil, .nil, h1, h2, d1, d2, h => by
    simp only [hts] at h
    obtain ⟨h3, h4⟩ := app_inj (by rw [hts_len, hts_len]) h
    exact hts_inj (d := d) h1 h2 (by simp [depthE]) (by simp [depthE]) h3
  | d + 1, e, f, .nil, .mk a v b w, h1, h2, d1, d2, h => by
    simp only [hts] at h
    simp only [depthE] at d2
    obtain ⟨h3, h4⟩ := app_inj (by rw [hts_len, hts_len]) h
    obtain ⟨g1, g2⟩ := hts_inj (d := d) h1 (h2.2.1.up h2.1) (by simp [depthE]) (by omega) h3
    obtain ⟨g3, g4⟩ := hts_inj (d := d) h1 (h2.2.2.1.up h2.1) (by simp [depthE]) (by omega) h4
    exact absurd ⟨g2.symm, g4.symm, by omega⟩ h2.2.2.2.2
  | d + 1, e, f, .mk a v b w, .nil, h1, h2, d1, d2, h => by
    simp only [hts] at h
    simp only [depthE] at d1
    obtain ⟨h3, h4⟩ := app_inj (by rw [hts_len, hts_len]) h
    obtain ⟨g1, g2⟩ := hts_inj (d := d) (h1.2.1.up h1.1) h2 (by omega) (by simp [depthE]) h3
    obtain ⟨g3, g4⟩ := hts_inj (d := d) (h1.2.2.1.up h1.1) h2 (by omega) (by simp [depthE]) h4
    exact absurd ⟨g2, g4, by omega⟩ h1.2.2.2.2
  | d + 1, e, f, .mk a v b w, .mk a' v' b' w', h1, h2, d1, d2, h => by
    simp only [hts] at h
    simp only [depthE] at d1 d2
    obtain ⟨h3, h4⟩ := app_inj (by rw [hts_len, hts_len]) h
    obtain ⟨g1, g2⟩ := hts_inj (d := d) (h1.2.1.up h1.1) (h2.2.1.up h2.1) (by omega) (by omega) h3
    obtain ⟨g3, g4⟩ := hts_inj (d := d) (h1.2.2.1.up h1.1) (h2.2.2.1.up h2.1) (by omega) (by omega) h4
    have p1 := h1.2.1.base
    have p2 := h1.2.2.1.base
    have p3 := h2.2.1.base
    have p4 := h2.2.2.1.base
    have p5 := h1.2.2.2.1
    have p6 := h2.2.2.2.1
    have he : e = f := by omega
    exact ⟨he, by rw [g2, g4, show a = a' by omega, show b = b' by omega]⟩
/-- The tree of heights. -/
def ofH : Nat → List Int → Int × Tr
  | 0, l => (l.getD 0 0, .nil)
  | d + 1, l => nodeE 0 (ofH d (l.take (2 ^ d))).1 (ofH d (l.take (2 ^ d))).2 (ofH d (l.drop (2 ^ d))).1 (ofH d (l.drop (2 ^ d))).2
theorem ofH_ok : ∀ {d : Nat} {l : List Int}, l.length = 2 ^ d → (∀ x ∈ l, 0 ≤ x) → nf (ofH d l).1 (ofH d l).2 ∧ depthE (ofH d l).2 ≤ d ∧ hts d (ofH d l).1 (ofH d l).2 = l
  | 0, l, hl, hp => by
    match l, hl with
    | [x], _ => exact ⟨hp x (by simp), Nat.le_refl _, rfl⟩
  | d + 1, l, hl, hp => by
    have h2 : 2 ^ (d + 1) = 2 ^ d + 2 ^ d := by rw [Nat.pow_succ]; omega
    obtain ⟨a1, a2, a3⟩ := ofH_ok (d := d) (l := l.take (2 ^ d)) (by rw [List.length_take]; omega) (fun x hx => hp x (List.mem_of_mem_take hx))
    obtain ⟨b1, b2, b3⟩ := ofH_ok (d := d) (l := l.drop (2 ^ d)) (by rw [List.length_drop]; omega) (fun x hx => hp x (List.mem_of_mem_drop hx))
    refine ⟨node_nf (Int.le_refl 0) a1 b1, ?_, ?_⟩
    · have := node_depth 0 (ofH d (l.take (2 ^ d))).1 (ofH d (l.drop (2 ^ d))).1 (ofH d (l.take (2 ^ d))).2 (ofH d (l.drop (2 ^ d))).2
      simp only [ofH]; omega
    · simp only [ofH]
      rw [hts_node, Int.zero_add, Int.zero_add, a3, b3, List.take_append_drop]
theorem hts_pos : ∀ {d : Nat} {e : Int} {t : Tr}, nf e t → ∀ x ∈ hts d e t, 0 ≤ x
  | 0, e, t, h, x, hx => by
    simp only [hts, List.mem_singleton] at hx
    have := maxE_ge h
    have := h.base
    omega
  | d + 1, e, .nil, h, x, hx => by
    simp only [hts, List.mem_append, or_self] at hx
    exact hts_pos h x hx
  | d + 1, e, .mk a t b u, h, x, hx => by
    simp only [hts, List.mem_append] at hx
    rcases hx with hx | hx
    · exact hts_pos (h.2.1.up h.1) x hx
    · exact hts_pos (h.2.2.1.up h.1) x hx
theorem ofH_hts {d : Nat} {e : Int} {t : Tr} (h : nf e t) (hd : depthE t ≤ d) : ofH d (hts d e t) = (e, t) := by
  obtain ⟨a1, a2, a3⟩ := ofH_ok (hts_len d e t) (hts_pos h)
  obtain ⟨h1, h2⟩ := hts_inj a1 h a2 hd a3
  exact Prod.ext h1 h2

/-! ### At most, part by part -/
def leL : List Int → List Int → Bool
  | [], [] => true
  | x :: l, y :: m => decide (x ≤ y) && leL l m
  | _, _ => false
theorem leL_app : ∀ {a c b d : List Int}, a.length = c.length → leL (a ++ b) (c ++ d) = (leL a c && leL b d)
  | [], [], b, d, h => by simp [leL]
  | [], _ :: _, b, d, h => by cases h
  | _ :: _, [], b, d, h => by cases h
  | x :: a, y :: c, b, d, h => by
    simp only [List.cons_append, leL, leL_app (show a.length = c.length by simpa using h), Bool.and_assoc]
theorem leL_refl : ∀ {a : List Int}, leL a a = true
  | [] => rfl
  | x :: a => by simp [leL, leL_refl]
theorem leL_trans : ∀ {a b c : List Int}, leL a b = true → leL b c = true → leL a c = true
  | [], [], [], _, _ => rfl
  | x :: a, y :: b, z :: c, h1, h2 => by
    simp only [leL, Bool.and_eq_true, decide_eq_true_eq] at h1 h2 ⊢
    exact ⟨by omega, leL_trans h1.2 h2.2⟩
theorem leL_anti : ∀ {a b : List Int}, leL a b = true → leL b a = true → a = b
  | [], [], _, _ => rfl
  | x :: a, y :: b, h1, h2 => by
    simp only [leL, Bool.and_eq_true, decide_eq_true_eq] at h1 h2
    rw [show x = y by omega, leL_anti h1.2 h2.2]
def maxL : List Int → List Int → List Int
  | x :: l, y :: m => max x y :: maxL l m
  | _, _ => []
theorem maxL_len : ∀ {a b : List Int}, a.length = b.length → (maxL a b).length = a.length
  | [], [], _ => rfl
  | x :: a, y :: b, h => by simp [maxL, maxL_len (show a.length = b.length by simpa using h)]
theorem maxL_app : ∀ {a c b d : List Int}, a.length = c.length → maxL (a ++ b) (c ++ d) = maxL a c ++ maxL b d
  | [], [], b, d, h => rfl
  | [], _ :: _, b, d, h => by cases h
  | _ :: _, [], b, d, h => by cases h
  | x :: a, y :: c, b, d, h => by simp only [List.cons_append, maxL, maxL_app (show a.length = c.length by simpa using h)]
theorem maxL_comm : ∀ {a b : List Int}, maxL a b = maxL b a
  | [], [] => rfl
  | [], _ :: _ => rfl
  | _ :: _, [] => rfl
  | x :: a, y :: b => by simp only [maxL, maxL_comm (a := a) (b := b)]; congr 1; omega
theorem maxL_assoc : ∀ {a b c : List Int}, maxL (maxL a b) c = maxL a (maxL b c)
  | [], b, c => by cases b <;> cases c <;> rfl
  | x :: a, [], c => by cases c <;> rfl
  | x :: a, y :: b, [] => rfl
  | x :: a, y :: b, z :: c => by simp only [maxL, maxL_assoc (a := a) (b := b) (c := c)]; congr 1; omega
theorem maxL_self : ∀ {a : List Int}, maxL a a = a
  | [] => rfl
  | x :: a => by simp only [maxL, maxL_self (a := a)]; congr 1; omega
theorem leL_max1 : ∀ {a b : List Int}, a.length = b.length → leL a (maxL a b) = true
  | [], [], _ => rfl
  | x :: a, y :: b, h => by
    simp only [maxL, leL, Bool.and_eq_true, decide_eq_true_eq]
    exact ⟨by omega, leL_max1 (by simpa using h)⟩
theorem leL_max2 {a b : List Int} (h : a.length = b.length) : leL b (maxL a b) = true := by rw [maxL_comm]; exact leL_max1 h.symm
theorem leL_lub : ∀ {a b c : List Int}, leL a c = true → leL b c = true → leL (maxL a b) c = true
  | [], [], [], _, _ => rfl
  | [], y :: b, c, h1, h2 => by cases c <;> simp_all [leL, maxL]
  | x :: a, [], c, h1, h2 => by cases c <;> simp_all [leL, maxL]
  | x :: a, y :: b, z :: c, h1, h2 => by
    simp only [leL, maxL, Bool.and_eq_true, decide_eq_true_eq] at h1 h2 ⊢
    exact ⟨by omega, leL_lub h1.2 h2.2⟩
theorem leL_max_eq {a b : List Int} (hl : a.length = b.length) (h : leL a b = true) : maxL a b = b := leL_anti (leL_lub h leL_refl) (leL_max2 hl)
theorem maxL_pos : ∀ {a b : List Int}, (∀ x ∈ a, (0 : Int) ≤ x) → ∀ x ∈ maxL a b, 0 ≤ x
  | [], b, _, x, hx => by cases b <;> simp [maxL] at hx
  | y :: a, [], _, x, hx => by simp [maxL] at hx
  | y :: a, z :: b, h, x, hx => by
    simp only [maxL, List.mem_cons] at hx
    rcases hx with rfl | hx
    · have := h y (by simp); omega
    · exact maxL_pos (fun x hx => h x (by simp [hx])) x hx
def leqE : Int → Tr → Int → Tr → Bool
  | A, .nil, B, _ => decide (A ≤ B)
  | A, .mk n t n2 t2, B, .nil => if B < A then false else leqE (A + n) t B .nil && leqE (A + n2) t2 B .nil
  | A, .mk n t n2 t2, B, .mk m u m2 u2 => leqE (A + n) t (B + m) u && leqE (A + n2) t2 (B + m2) u2
theorem le_base : ∀ {d : Nat} {A B : Int} {u : Tr}, nf B u → depthE u ≤ d → (leL (hts d A .nil) (hts d B u) = decide (A ≤ B))
  | 0, A, B, u, h, hd => by
    cases u with
    | mk => simp [depthE] at hd
    | nil => simp [hts, leL, maxE]
  | d + 1, A, B, .nil, h, hd => by
    simp only [hts]
    rw [leL_app (by rw [hts_len, hts_len]), le_base (d := d) h (by simp [depthE]), Bool.and_self]
  | d + 1, A, B, .mk a v b w, h, hd => by
    simp only [depthE] at hd
    simp only [hts]
    rw [leL_app (by rw [hts_len, hts_len]), le_base (d := d) (h.2.1.up h.1) (by omega), le_base (d := d) (h.2.2.1.up h.1) (by omega)]
    have p1 := h.2.1.base
    have p2 := h.2.2.1.base
    have p3 := h.2.2.2.1
    rw [← Bool.decide_and]
    apply decide_eq_decide.2
    omega
theorem leq_hts : ∀ {d : Nat} {A B : Int} {t u : Tr}, nf A t → nf B u → depthE t ≤ d → depthE u ≤ d → leqE A t B u = leL (hts d A t) (hts d B u)
  | d, A, B, .nil, u, h1, h2, d1, d2 => by rw [le_base h2 d2]; cases u <;> rfl
  | 0, A, B, .mk a v b w, u, h1, h2, d1, d2 => by simp [depthE] at d1
  | d + 1, A, B, .mk a v b w, .nil, h1, h2, d1, d2 => by
    simp only [depthE] at d1
    have p1 := h1.2.1.base
    have p2 := h1.2.2.1.base
    simp only [hts]
    rw [leL_app (by rw [hts_len, hts_len]), ← leq_hts (d := d) (h1.2.1.up h1.1) h2 (by omega) (by simp [depthE]), ← leq_hts (d := d) (h1.2.2.1.up h1.1) h2 (by omega) (by simp [depthE])]
    simp only [leqE]
    split
    · rename_i hlt
      have : leqE (A + a) v B .nil = false := by
        rw [leq_hts (d := d) (h1.2.1.up h1.1) h2 (by omega) (by simp [depthE])]
        cases hb : leL (hts d (A + a) v) (hts d B .nil) with
        | false => rfl
        | true =>
          exfalso
          have hlow : leL (hts d (A + a) .nil) (hts d (A + a) v) = true := by
            rw [le_base (h1.2.1.up h1.1) (by omega)]; simp
          have := leL_trans hlow hb
          rw [le_base h2 (by simp [depthE])] at this
          simp only [decide_eq_true_eq] at this
          omega
      rw [this]; rfl
    · rfl
  | d + 1, A, B, .mk a v b w, .mk a' v' b' w', h1, h2, d1, d2 => by
    simp only [depthE] at d1 d2
    simp only [hts, leqE]
    rw [leL_app (by rw [hts_len, hts_len]), leq_hts (d := d) (h1.2.1.up h1.1) (h2.2.1.up h2.1) (by omega) (by omega), leq_hts (d := d) (h1.2.2.1.up h1.1) (h2.2.2.1.up h2.1) (by omega) (by omega)]

/-! ### Joined -/
def leftE : Int → Tr → Int × Tr
  | e, .nil => (e, .nil)
  | e, .mk a t _ _ => (e + a, t)
def rightE : Int → Tr → Int × Tr
  | e, .nil => (e, .nil)
  | e, .mk _ _ b u => (e + b, u)
theorem hts_lr (d : Nat) (e : Int) (t : Tr) : hts (d + 1) e t = hts d (leftE e t).1 (leftE e t).2 ++ hts d (rightE e t).1 (rightE e t).2 := by cases t <;> rfl
theorem left_nf {e : Int} {t : Tr} (h : nf e t) : nf (leftE e t).1 (leftE e t).2 := by
  cases t with
  | nil => exact h
  | mk a t b u => exact h.2.1.up h.1
theorem right_nf {e : Int} {t : Tr} (h : nf e t) : nf (rightE e t).1 (rightE e t).2 := by
  cases t with
  | nil => exact h
  | mk a t b u => exact h.2.2.1.up h.1
theorem left_depth {e : Int} {t : Tr} {d : Nat} (h : depthE t ≤ d + 1) : depthE (leftE e t).2 ≤ d := by
  cases t <;> simp only [depthE, leftE] at h ⊢ <;> omega
theorem right_depth {e : Int} {t : Tr} {d : Nat} (h : depthE t ≤ d + 1) : depthE (rightE e t).2 ≤ d := by
  cases t <;> simp only [depthE, rightE] at h ⊢ <;> omega
theorem left_max {e : Int} {t : Tr} : maxE (leftE e t).1 (leftE e t).2 ≤ maxE e t := by
  cases t with
  | nil => exact Int.le_refl _
  | mk a t b u => simp only [leftE, maxE, maxE_up]; omega
theorem right_max {e : Int} {t : Tr} : maxE (rightE e t).1 (rightE e t).2 ≤ maxE e t := by
  cases t with
  | nil => exact Int.le_refl _
  | mk a t b u => simp only [rightE, maxE, maxE_up]; omega
def joinF : Nat → Int → Tr → Int → Tr → Int × Tr
  | 0, A, _, B, _ => (max A B, .nil)
  | d + 1, A, t, B, u =>
    if t = .nil ∧ u = .nil then (max A B, .nil) else
    nodeE 0 (joinF d (leftE A t).1 (leftE A t).2 (leftE B u).1 (leftE B u).2).1 (joinF d (leftE A t).1 (leftE A t).2 (leftE B u).1 (leftE B u).2).2
      (joinF d (rightE A t).1 (rightE A t).2 (rightE B u).1 (rightE B u).2).1 (joinF d (rightE A t).1 (rightE A t).2 (rightE B u).1 (rightE B u).2).2
theorem hts_nil_max : ∀ (d : Nat) (A B : Int), hts d (max A B) .nil = maxL (hts d A .nil) (hts d B .nil)
  | 0, A, B => rfl
  | d + 1, A, B => by simp only [hts]; rw [maxL_app (by rw [hts_len, hts_len]), hts_nil_max d]
theorem join_ok : ∀ {d : Nat} {A B : Int} {t u : Tr}, nf A t → nf B u → depthE t ≤ d → depthE u ≤ d →
    nf (joinF d A t B u).1 (joinF d A t B u).2 ∧ depthE (joinF d A t B u).2 ≤ d ∧ hts d (joinF d A t B u).1 (joinF d A t B u).2 = maxL (hts d A t) (hts d B u) ∧ maxE (joinF d A t B u).1 (joinF d A t B u).2 ≤ max (maxE A t) (maxE B u)
  | 0, A, B, t, u, h1, h2, d1, d2 => by
    cases t with
    | mk => simp [depthE] at d1
    | nil =>
      cases u with
      | mk => simp [depthE] at d2
      | nil => exact ⟨by simp only [joinF, nf] at h1 h2 ⊢; omega, Nat.le_refl _, rfl, Int.le_refl _⟩
  | d + 1, A, B, t, u, h1, h2, d1, d2 => by
    unfold joinF
    split
    · rename_i h
      obtain ⟨rfl, rfl⟩ := h
      exact ⟨by simp only [nf] at h1 h2 ⊢; omega, by simp [depthE], hts_nil_max (d + 1) A B, Int.le_refl _⟩
    · obtain ⟨a1, a2, a3, a4⟩ := join_ok (d := d) (left_nf h1) (left_nf h2) (left_depth d1) (left_depth d2)
      obtain ⟨b1, b2, b3, b4⟩ := join_ok (d := d) (right_nf h1) (right_nf h2) (right_depth d1) (right_depth d2)
      refine ⟨node_nf (Int.le_refl 0) a1 b1, ?_, ?_, ?_⟩
      · have := node_depth 0 (joinF d (leftE A t).1 (leftE A t).2 (leftE B u).1 (leftE B u).2).1 (joinF d (rightE A t).1 (rightE A t).2 (rightE B u).1 (rightE B u).2).1 (joinF d (leftE A t).1 (leftE A t).2 (leftE B u).1 (leftE B u).2).2 (joinF d (rightE A t).1 (rightE A t).2 (rightE B u).1 (rightE B u).2).2
        omega
      · rw [hts_node, Int.zero_add, Int.zero_add, a3, b3, hts_lr d A t, hts_lr d B u, maxL_app (by rw [hts_len, hts_len])]
      · rw [node_max]
        have := left_max (e := A) (t := t)
        have := left_max (e := B) (t := u)
        have := right_max (e := A) (t := t)
        have := right_max (e := B) (t := u)
        omega
theorem join_is {d : Nat} {A B C : Int} {t u v : Tr} (h1 : nf A t) (h2 : nf B u) (h3 : nf C v) (d1 : depthE t ≤ d) (d2 : depthE u ≤ d) (d3 : depthE v ≤ d) (h : hts d C v = maxL (hts d A t) (hts d B u)) : joinF d A t B u = (C, v) := by
  obtain ⟨a1, a2, a3, a4⟩ := join_ok h1 h2 d1 d2
  obtain ⟨g1, g2⟩ := hts_inj a1 h3 a2 d3 (a3.trans h.symm)
  exact Prod.ext g1 g2
end Go.Proofs.YtjjakdmcnkldoaaDoor
