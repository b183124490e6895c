/- A tree read: what both readers make of a text. Plain. -/
import Derived.Test.YtjjakdmcnkldoaaDoorHT4
set_option linter.unusedVariables false
set_option linter.unusedSimpArgs false
namespace Go.Proofs.YtjjakdmcnkldoaaDoor
open Go.Ev Go.Lib

def eat (c : UInt8) : List UInt8 → Option (List UInt8)
  | [] => none
  | d :: r => if d = c then some r else none
def refP : Nat → List UInt8 → Option (Int × Tr × List UInt8 × Bool)
  | 0, _ => none
  | n + 1, l =>
    if l.head? = some 40 then
      (numP l.tail).bind fun (e, l1, g1) =>
      (eat 44 l1).bind fun l2 =>
      (refP n l2).bind fun (a, t, l3, g2) =>
      (eat 44 l3).bind fun l4 =>
      (refP n l4).bind fun (b, u, l5, g3) =>
      (eat 41 l5).bind fun l6 =>
      if 0 < min a b ∨ (t = .nil ∧ u = .nil ∧ a = b) then none else some (e, .mk a t b u, l6, g1 || (g2 || g3))
    else (numP l).bind fun (e, r, g) => some (e, .nil, r, g)
theorem eat_some {c : UInt8} {l r : List UInt8} (h : eat c l = some r) : l = c :: r := by
  cases l with
  | nil => cases h
  | cons d l =>
    simp only [eat] at h
    split at h
    · rename_i hd; cases h; rw [hd]
    · cases h
theorem refP_node {n : Nat} {l : List UInt8} : refP (n + 1) (40 :: l) = (numP l).bind fun (e, l1, g1) => (eat 44 l1).bind fun l2 => (refP n l2).bind fun (a, t, l3, g2) => (eat 44 l3).bind fun l4 => (refP n l4).bind fun (b, u, l5, g3) => (eat 41 l5).bind fun l6 => if 0 < min a b ∨ (t = .nil ∧ u = .nil ∧ a = b) then none else some (e, .mk a t b u, l6, g1 || (g2 || g3)) := rfl
theorem refP_leaf {n : Nat} {l : List UInt8} (h : l.head? ≠ some 40) : refP (n + 1) l = (numP l).bind fun (e, r, g) => some (e, .nil, r, g) := by rw [refP, if_neg h]
/-- What a tree that was read is, and its text, where no number was cut. -/
theorem refP_ok : ∀ {n : Nat} {l : List UInt8} {e : Int} {t : Tr} {r : List UInt8} {g : Bool}, refP n l = some (e, t, r, g) → nf e t ∧ maxE e t ≤ 1048576 * (depthE t + 1) ∧ r.length + depthE t < l.length ∧ (g = false → l = textE e t ++ r)
  | 0, l, e, t, r, g, h => by cases h
  | n + 1, l, e, t, r, g, h => by
    by_cases h40 : l.head? = some 40
    · obtain ⟨l, rfl⟩ : ∃ m, l = 40 :: m := by
        cases l with
        | nil => cases h40
        | cons c m => simp only [List.head?_cons, Option.some.injEq] at h40; exact ⟨m, by rw [h40]⟩
      rw [refP_node] at h
      obtain ⟨⟨e0, l1, g1⟩, h1, hz⟩ := Option.bind_eq_some_iff.1 h
      clear h
      obtain ⟨l2, h2, hy⟩ := Option.bind_eq_some_iff.1 hz
      clear hz
      obtain ⟨⟨a, t1, l3, g2⟩, h3, hx⟩ := Option.bind_eq_some_iff.1 hy
      clear hy
      obtain ⟨l4, h4, hw⟩ := Option.bind_eq_some_iff.1 hx
      clear hx
      obtain ⟨⟨b, u1, l5, g3⟩, h5, hv⟩ := Option.bind_eq_some_iff.1 hw
      clear hw
      obtain ⟨l6, h6, h⟩ := Option.bind_eq_some_iff.1 hv
      clear hv
      have q1 := numP_ok h1
      have q2 := eat_some h2
      have q3 := refP_ok h3
      have q4 := eat_some h4
      have q5 := refP_ok h5
      have q6 := eat_some h6
      subst q2 q4 q6
      split at h
      · cases h
      · rename_i hc
        cases h
        have b1 := q3.1.base
        have b2 := q5.1.base
        have c1 : ¬ 0 < min a b := fun h => hc (.inl h)
        have c2 : ¬ (t1 = .nil ∧ u1 = .nil ∧ a = b) := fun h => hc (.inr h)
        obtain ⟨-, q32, q33, q34⟩ := q3
        obtain ⟨-, q52, q53, q54⟩ := q5
        refine ⟨⟨q1.1, (refP_ok h3).1, (refP_ok h5).1, by omega, c2⟩, ?_, ?_, ?_⟩
        · simp only [maxE, depthE]; omega
        · have := q1.2.2.1
          simp only [List.length_cons] at this q33 q53 ⊢
          simp only [depthE]; omega
        · intro hg
          simp only [Bool.or_eq_false_iff] at hg
          have z1 := q1.2.2.2.2 hg.1
          have z2 := q34 hg.2.1
          have z3 := q54 hg.2.2
          rw [z1, z2, z3]
          simp only [textE, List.append_assoc, List.cons_append, List.nil_append]
    · rw [refP_leaf h40] at h
      obtain ⟨⟨e0, l1, g1⟩, h1, h⟩ := Option.bind_eq_some_iff.1 h
      cases h
      have q1 := numP_ok h1
      refine ⟨q1.1, by simp only [maxE, depthE]; omega, by simp only [depthE]; omega, q1.2.2.2.2⟩

/-! ### The program's reader -/
theorem ub_eq {c d : UInt8} : decide ((c.toNat : Int) = (d.toNat : Int)) = decide (c = d) := by
  apply decide_eq_decide.2
  constructor
  · intro h; apply UInt8.toNat_inj.1; omega
  · rintro rfl; rfl
theorem mkS_nil {l : List UInt8} : (mkS l = (⟨#[]⟩ : ByteArray)) ↔ l = [] := by rw [s0, mkS_inj]
theorem mkS_tail (c : UInt8) (l : List UInt8) : (mkS (c :: l)).extract 1 (l.length + 1) = mkS l := by
  rw [mkS_ext, ← List.length_cons (a := c), List.take_length]; rfl
theorem evTake_ok {c : UInt8} {l r : List UInt8} {b f : Bool} (h : eat c l = some r) : event_reader_take (c.toNat : Int) (mkS l) b f = some (mkS r, b) := by
  rw [eat_some h]
  unfold event_reader_take
  rw [df (show ¬ mkS (c :: r) = ⟨#[]⟩ by rw [mkS_nil]; simp), cond_false, mkS_get]
  simp only [mkS_size, List.length_cons, List.getD_cons_zero, dt (Nat.le_refl 0), dt (Int.le_refl 0), dt (show (0 : Int) ≤ 1 by decide), dt (show (0 : Int) < ((r.length + 1 : Nat) : Int) by omega), Bool.and_self, cond_true, decide_true, dt (show (1 : Int) ≤ ((r.length + 1 : Nat) : Int) by omega), dt (Int.le_refl ((r.length + 1 : Nat) : Int)), Int.toNat_natCast, mkS_tail, dt (show (0 : Nat) ≤ 1 by omega)]
def Bad (c : UInt8) (b : Bool) (s : List UInt8) : Prop := b = true ∨ eat c s = none
theorem evTake_bad {c : UInt8} {l : List UInt8} {b f : Bool} (h : Bad c b l) : ∃ s, event_reader_take (c.toNat : Int) (mkS l) b f = some (mkS s, true) ∧ s.length ≤ l.length := by
  cases he : eat c l with
  | some r =>
    rcases h with rfl | h
    · refine ⟨r, evTake_ok he, ?_⟩
      rw [eat_some he]; simp
    · rw [he] at h; cases h
  | none =>
    unfold event_reader_take
    cases l with
    | nil => exact ⟨[], rfl, Nat.le_refl _⟩
    | cons d l =>
      refine ⟨d :: l, ?_, Nat.le_refl _⟩
      have hd : ¬ d = c := fun h => by simp only [eat, if_pos h] at he; cases he
      rw [df (show ¬ mkS (d :: l) = ⟨#[]⟩ by rw [mkS_nil]; simp), cond_false, mkS_get]
      simp only [mkS_size, List.length_cons, List.getD_cons_zero, dt (Nat.le_refl 0), dt (Int.le_refl 0), dt (show (0 : Int) ≤ 1 by decide), dt (show (0 : Int) < ((l.length + 1 : Nat) : Int) by omega), Bool.and_self, cond_true, ub_eq, df hd, cond_false]
theorem badR.bad {b : Bool} {s : List UInt8} (h : badR b s) {c : UInt8} (hc : digB c = false) : Bad c b s := by
  rcases h with h | ⟨d, r, rfl, hd⟩
  · exact .inl h
  · refine .inr ?_
    rw [eat, if_neg]
    rintro rfl
    rw [hc] at hd; cases hd

def evFin (n n2 : Int) (t : Tr) (n3 : Int) (t2 : Tr) (s8 : ByteArray) (b12 b11 : Bool) : Option (Int × Tr × ByteArray × Bool × Bool) :=
  bif (decide (0 < (if n3 < n2 then n3 else n2))) then
    some (0, T_event_halves.nil, s8, true, b11)
  else
    match t with
    | .nil =>
      match t2 with
      | .nil =>
        bif (decide (n2 = n3)) then
          some (0, T_event_halves.nil, s8, true, b11)
        else
          some (n, (T_event_halves.mk n2 t n3 t2), s8, b12, b11)
      | .mk n4 t3 n5 t4 =>
        some (n, (T_event_halves.mk n2 t n3 t2), s8, b12, b11)
    | .mk n4 t3 n5 t4 =>
      some (n, (T_event_halves.mk n2 t n3 t2), s8, b12, b11)
noncomputable def st3 (n n2 : Int) (t : Tr) (n3 : Int) (t2 : Tr) (s7 : ByteArray) (b10 b11 : Bool) : Option (Int × Tr × ByteArray × Bool × Bool) :=
  (event_reader_take 41 s7 b10 b11).bind fun (s8, b12) => evFin n n2 t n3 t2 s8 b12 b11
noncomputable def st2 (rec : ByteArray → Bool → Bool → Option (Int × Tr × ByteArray × Bool × Bool)) (n n2 : Int) (t : Tr) (s5 : ByteArray) (b7 b8 : Bool) : Option (Int × Tr × ByteArray × Bool × Bool) :=
  (event_reader_take 44 s5 b7 b8).bind fun (s6, b9) => (rec s6 b9 b8).bind fun (n3, t2, s7, b10, b11) => st3 n n2 t n3 t2 s7 b10 b11
noncomputable def st1 (rec : ByteArray → Bool → Bool → Option (Int × Tr × ByteArray × Bool × Bool)) (n : Int) (s3 : ByteArray) (b4 b5 : Bool) : Option (Int × Tr × ByteArray × Bool × Bool) :=
  (event_reader_take 44 s3 b4 b5).bind fun (s4, b6) => (rec s4 b6 b5).bind fun (n2, t, s5, b7, b8) => st2 rec n n2 t s5 b7 b8
theorem evFin_no {n a b : Int} {t u : Tr} {s : ByteArray} {x g : Bool} (h : 0 < min a b ∨ (t = .nil ∧ u = .nil ∧ a = b)) : evFin n a t b u s x g = some (0, .nil, s, true, g) := by
  unfold evFin
  by_cases h1 : 0 < (if b < a then b else a)
  · rw [dt h1, cond_true]
  · rw [df h1, cond_false]
    rcases h with h | ⟨rfl, rfl, rfl⟩
    · exfalso; apply h1; split <;> omega
    · simp only [decide_true, cond_true]
theorem evFin_ok {n a b : Int} {t u : Tr} {s : ByteArray} {x g : Bool} (h : ¬ (0 < min a b ∨ (t = .nil ∧ u = .nil ∧ a = b))) : evFin n a t b u s x g = some (n, .mk a t b u, s, x, g) := by
  unfold evFin
  have h1 : ¬ 0 < (if b < a then b else a) := fun hc => h (.inl (by split at hc <;> omega))
  rw [df h1, cond_false]
  cases t with
  | mk => rfl
  | nil =>
    cases u with
    | mk => rfl
    | nil =>
      have h2 : ¬ a = b := fun hc => h (.inr ⟨rfl, rfl, hc⟩)
      simp only [df h2, cond_false]
theorem st3_bad {n a b : Int} {t u : Tr} {s : List UInt8} {x g : Bool} (h : Bad 41 x s) : ∃ e v r, st3 n a t b u (mkS s) x g = some (e, v, mkS r, true, g) ∧ r.length ≤ s.length ∧ depthE v ≤ max (depthE t) (depthE u) + 1 := by
  obtain ⟨r, h1, h2⟩ := evTake_bad (f := g) h
  have h1' : event_reader_take 41 (mkS s) x g = _ := h1
  unfold st3
  rw [h1', Option.bind_some]
  by_cases hc : 0 < min a b ∨ (t = .nil ∧ u = .nil ∧ a = b)
  · exact ⟨0, .nil, r, evFin_no hc, h2, by simp [depthE]⟩
  · exact ⟨n, _, r, evFin_ok hc, h2, Nat.le_refl _⟩
theorem st2_bad {rec : ByteArray → Bool → Bool → Option (Int × Tr × ByteArray × Bool × Bool)} (hrec : ∀ s g, rec s true g = some (0, .nil, s, true, g)) {n a : Int} {t : Tr} {s : List UInt8} {x g : Bool} (h : Bad 44 x s) : ∃ e v r, st2 rec n a t (mkS s) x g = some (e, v, mkS r, true, g) ∧ r.length ≤ s.length ∧ depthE v ≤ depthE t + 1 := by
  obtain ⟨r, h1, h2⟩ := evTake_bad (f := g) h
  have h1' : event_reader_take 44 (mkS s) x g = _ := h1
  obtain ⟨e, v, r2, h3, h4, h5⟩ := st3_bad (n := n) (a := a) (t := t) (b := 0) (u := .nil) (s := r) (x := true) (g := g) (.inl rfl)
  unfold st2
  rw [h1', Option.bind_some]
  simp only [hrec, Option.bind_some]
  exact ⟨e, v, r2, h3, by omega, by simpa [depthE] using h5⟩
theorem st1_bad {rec : ByteArray → Bool → Bool → Option (Int × Tr × ByteArray × Bool × Bool)} (hrec : ∀ s g, rec s true g = some (0, .nil, s, true, g)) {n : Int} {s : List UInt8} {x g : Bool} (h : Bad 44 x s) : ∃ e v r, st1 rec n (mkS s) x g = some (e, v, mkS r, true, g) ∧ r.length ≤ s.length ∧ depthE v ≤ 1 := by
  obtain ⟨r, h1, h2⟩ := evTake_bad (f := g) h
  have h1' : event_reader_take 44 (mkS s) x g = _ := h1
  obtain ⟨e, v, r2, h3, h4, h5⟩ := st2_bad hrec (n := n) (a := 0) (t := .nil) (s := r) (x := true) (g := g) (.inl rfl)
  unfold st1
  rw [h1', Option.bind_some]
  simp only [hrec, Option.bind_some]
  exact ⟨e, v, r2, h3, by omega, by simpa [depthE] using h5⟩
theorem ev_open {rec : ByteArray → Bool → Bool → Option (Int × Tr × ByteArray × Bool × Bool)} {l : List UInt8} {f : Bool} : event_reader_event_b rec (mkS (40 :: l)) false f = (event_reader_number (mkS l) false f).bind fun (n, s3, b4, b5) => st1 rec n s3 b4 b5 := by
  have ht : event_reader_take 40 (mkS (40 :: l)) false f = some (mkS l, false) := evTake_ok (c := 40) (l := 40 :: l) (r := l) rfl
  unfold event_reader_event_b
  simp only [cond_false, df (show ¬ mkS (40 :: l) = ⟨#[]⟩ by rw [mkS_nil]; simp), mkS_get, mkS_size, List.length_cons, List.getD_cons_zero, dt (Nat.le_refl 0), dt (Int.le_refl 0), dt (show (0 : Int) ≤ 1 by decide), dt (show (0 : Int) < ((l.length + 1 : Nat) : Int) by omega), Bool.and_self, cond_true, dt (show (((40 : UInt8).toNat : Nat) : Int) = 40 from rfl), ht, Option.bind_some]
  rfl
theorem ev_single {rec : ByteArray → Bool → Bool → Option (Int × Tr × ByteArray × Bool × Bool)} {l : List UInt8} {f : Bool} (h : l.head? ≠ some 40) : event_reader_event_b rec (mkS l) false f = (event_reader_number (mkS l) false f).bind fun (n, s2, b3, b4) => some (n, T_event_halves.nil, s2, b3, b4) := by
  unfold event_reader_event_b
  cases l with
  | nil => rfl
  | cons c l =>
    have hc : ¬ c = 40 := fun hc => h (by rw [hc]; rfl)
    have hc' : decide ((c.toNat : Int) = 40) = decide (c = 40) := ub_eq (d := 40)
    rw [df (show ¬ mkS (c :: l) = ⟨#[]⟩ by rw [mkS_nil]; simp), mkS_get]
    simp only [cond_false, mkS_size, List.length_cons, List.getD_cons_zero, dt (Nat.le_refl 0), dt (Int.le_refl 0), dt (show (0 : Int) ≤ 1 by decide), dt (show (0 : Int) < ((l.length + 1 : Nat) : Int) by omega), Bool.and_self, cond_true, hc', df hc]
def Good (len : Nat) (f : Bool) : Option (Int × Tr × List UInt8 × Bool) → Option (Int × Tr × ByteArray × Bool × Bool) → Prop
  | some (e, t, r, g), x => x = some (e, t, mkS r, false, f || g)
  | none, x => ∃ e t s b g, x = some (e, t, mkS s, b, g) ∧ s.length ≤ len ∧ depthE t ≤ len ∧ badR b s
theorem evRead : ∀ {N : Nat} {l : List UInt8} {f : Bool}, l.length < N → l.length ≤ 1000000 → Good l.length f (refP N l) (event_reader_event N (mkS l) false f)
  | 0, l, f, h, hl => by omega
  | N + 1, l, f, h, hl => by
    show Good l.length f (refP (N + 1) l) (event_reader_event_b (event_reader_event N) (mkS l) false f)
    by_cases h40 : l.head? = some 40
    · obtain ⟨l, rfl⟩ : ∃ m, l = 40 :: m := by
        cases l with
        | nil => cases h40
        | cons c m => simp only [List.head?_cons, Option.some.injEq] at h40; exact ⟨m, by rw [h40]⟩
      rw [refP_node, ev_open]
      simp only [List.length_cons] at h hl ⊢
      have hrec : ∀ s g, event_reader_event N s true g = some (0, .nil, s, true, g) := by
        intro s g
        cases N with
        | zero => omega
        | succ N => rfl
      have i44 : ∀ {b s}, badR b s → Bad 44 b s := fun h => h.bad rfl
      have i41 : ∀ {b s}, badR b s → Bad 41 b s := fun h => h.bad rfl
      cases h1 : numP l with
      | none =>
        obtain ⟨v, s, b, g, e1, e2, e3⟩ := evNum_none (f := f) (by omega) h1
        rw [e1, Option.bind_some]
        obtain ⟨e, w, r, k1, k2, k3⟩ := st1_bad hrec (n := v) (g := g) (i44 e3)
        exact ⟨e, w, r, true, g, k1, by omega, by omega, .inl rfl⟩
      | some q =>
        obtain ⟨e, l1, g1⟩ := q
        have q1 := (numP_ok h1).2.2.1
        rw [evNum_some (f := f) (by omega) h1, Option.bind_some]
        simp only [Option.bind_some]
        cases h2 : eat 44 l1 with
        | none =>
          obtain ⟨e, w, r, k1, k2, k3⟩ := st1_bad hrec (n := e) (x := false) (g := f || g1) (.inr h2)
          exact ⟨e, w, r, true, _, k1, by omega, by omega, .inl rfl⟩
        | some l2 =>
          have q2 := eat_some h2
          subst q2
          simp only [List.length_cons] at q1
          have t1 : event_reader_take 44 (mkS (44 :: l2)) false (f || g1) = some (mkS l2, false) := evTake_ok h2
          unfold st1
          simp only [t1, Option.bind_some]
          have r1 := evRead (N := N) (l := l2) (f := f || g1) (by omega) (by omega)
          cases h3 : refP N l2 with
          | none =>
            rw [h3] at r1
            obtain ⟨e1, w1, s1, b1, g2, p1, p2, p3, p4⟩ := r1
            rw [p1]
            simp only [Option.bind_some, Option.bind_none]
            obtain ⟨e, w, r, k1, k2, k3⟩ := st2_bad hrec (n := e) (a := e1) (t := w1) (g := g2) (i44 p4)
            exact ⟨e, w, r, true, _, k1, by omega, by omega, .inl rfl⟩
          | some q =>
            obtain ⟨a, t, l3, g2⟩ := q
            rw [h3] at r1
            have r1' : event_reader_event N (mkS l2) false (f || g1) = some (a, t, mkS l3, false, (f || g1) || g2) := r1
            obtain ⟨-, -, q3, -⟩ := refP_ok h3
            rw [r1']
            simp only [Option.bind_some]
            cases h4 : eat 44 l3 with
            | none =>
              obtain ⟨e, w, r, k1, k2, k3⟩ := st2_bad hrec (n := e) (a := a) (t := t) (x := false) (g := (f || g1) || g2) (.inr h4)
              exact ⟨e, w, r, true, _, k1, by omega, by omega, .inl rfl⟩
            | some l4 =>
              have q4 := eat_some h4
              subst q4
              simp only [List.length_cons] at q3
              have t2 : event_reader_take 44 (mkS (44 :: l4)) false ((f || g1) || g2) = some (mkS l4, false) := evTake_ok h4
              unfold st2
              simp only [t2, Option.bind_some]
              have r2 := evRead (N := N) (l := l4) (f := (f || g1) || g2) (by omega) (by omega)
              cases h5 : refP N l4 with
              | none =>
                rw [h5] at r2
                obtain ⟨e1, w1, s1, b1, g3, p1, p2, p3, p4⟩ := r2
                rw [p1]
                simp only [Option.bind_some, Option.bind_none]
                obtain ⟨e, w, r, k1, k2, k3⟩ := st3_bad (n := e) (a := a) (t := t) (b := e1) (u := w1) (g := g3) (i41 p4)
                exact ⟨e, w, r, true, _, k1, by omega, by omega, .inl rfl⟩
              | some q =>
                obtain ⟨b, u, l5, g3⟩ := q
                rw [h5] at r2
                have r2' : event_reader_event N (mkS l4) false ((f || g1) || g2) = some (b, u, mkS l5, false, ((f || g1) || g2) || g3) := r2
                obtain ⟨-, -, q5, -⟩ := refP_ok h5
                rw [r2']
                simp only [Option.bind_some]
                cases h6 : eat 41 l5 with
                | none =>
                  obtain ⟨e, w, r, k1, k2, k3⟩ := st3_bad (n := e) (a := a) (t := t) (b := b) (u := u) (x := false) (g := ((f || g1) || g2) || g3) (.inr h6)
                  exact ⟨e, w, r, true, _, k1, by omega, by omega, .inl rfl⟩
                | some l6 =>
                  have q6 := eat_some h6
                  subst q6
                  simp only [List.length_cons] at q5
                  have t3 : event_reader_take 41 (mkS (41 :: l6)) false (((f || g1) || g2) || g3) = some (mkS l6, false) := evTake_ok h6
                  unfold st3
                  simp only [t3, Option.bind_some]
                  by_cases hc : 0 < min a b ∨ (t = .nil ∧ u = .nil ∧ a = b)
                  · rw [if_pos hc]
                    exact ⟨0, .nil, l6, true, _, evFin_no hc, by omega, Nat.zero_le _, .inl rfl⟩
                  · rw [if_neg hc]
                    show evFin e a t b u (mkS l6) false (((f || g1) || g2) || g3) = some (e, .mk a t b u, mkS l6, false, f || (g1 || (g2 || g3)))
                    rw [evFin_ok hc, Bool.or_assoc, Bool.or_assoc]
    · rw [refP_leaf h40, ev_single h40]
      cases h1 : numP l with
      | none =>
        obtain ⟨v, s, b, g, e1, e2, e3⟩ := evNum_none (f := f) hl h1
        rw [e1]
        exact ⟨v, .nil, s, b, g, rfl, e2, Nat.zero_le _, e3⟩
      | some q =>
        obtain ⟨e, l1, g1⟩ := q
        rw [evNum_some (f := f) hl h1]
        rfl
end Go.Proofs.YtjjakdmcnkldoaaDoor
