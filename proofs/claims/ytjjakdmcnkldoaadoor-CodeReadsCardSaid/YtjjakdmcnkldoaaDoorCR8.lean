/- A tree of the bits that are left: what it is; the program's reader, up to the halves. Plain. -/
import Derived.Test.YtjjakdmcnkldoaaDoorCR7
set_option linter.unusedVariables false
set_option linter.unusedSimpArgs false
namespace Go.Proofs.YtjjakdmcnkldoaaDoor
open Go.Ev Go.Lib

abbrev RE := (Int × Tr × List Bool) ⊕ Int
/-- A base that isn't nought. -/
def baseL (x y : Bool) (l : List Bool) : (Bool × Bool × Int × List Bool) ⊕ Int :=
  match numL l with
  | none => .inr 6
  | some (v, r) => if 1048576 < v then .inr 4 else if v = 0 then .inr 6 else .inl (x, y, (v : Int), r)
/-- Which halves there are, and the base. -/
def headE : List Bool → (Bool × Bool × Int × List Bool) ⊕ Int
  | false :: false :: l => .inl (false, true, 0, l)
  | false :: true :: l => .inl (true, false, 0, l)
  | true :: false :: l => .inl (true, true, 0, l)
  | true :: true :: true :: l => baseL true true l
  | true :: true :: false :: c :: l => baseL c (!c) l
  | _ => .inr 6
def nodeD (rec_ : List Bool → RE) (x y : Bool) (base : Int) (l : List Bool) : RE :=
  match (if x = false then .inl (0, .nil, l) else rec_ l : RE) with
  | .inr e => .inr e
  | .inl (a, t, l1) =>
    match (if y = false then .inl (0, .nil, l1) else rec_ l1 : RE) with
    | .inr e => .inr e
    | .inl (b, u, l2) =>
      if zeroEv a t = x ∨ zeroEv b u = y ∨ 0 < min a b ∨ (t = .nil ∧ u = .nil ∧ a = b) then .inr 6
      else if 1048576 < maxE base (.mk a t b u) then .inr 4 else .inl (base, .mk a t b u, l2)
def leafD (l : List Bool) : RE :=
  match numL l with
  | none => .inr 6
  | some (v, r) => if 1048576 < v then .inr 4 else .inl ((v : Int), .nil, r)
def decE : Nat → List Bool → RE
  | _, [] => .inr 6
  | 0, c :: l => if c = true then leafD l else .inr 3
  | k + 1, c :: l => if c = true then leafD l else
    match headE l with
    | .inr e => .inr e
    | .inl (x, y, base, l1) => nodeD (decE k) x y base l1
theorem num_prog {p : List Int} {n : Nat} {L : List Bool} (hb : Bytes p) (hp : p.length ≤ 100000) (h : Rem p n L) :
    match numL L with
    | some (v, r) => ∃ m : Nat, code_source_number 0 p (n : Int) 0 = some ((v : Int), (if 1048576 < v then 4 else 0), (m : Int), 0) ∧ Rem p m r
    | none => code_source_number 0 p (n : Int) 0 = some (0, 6, (n : Int), 6) := by
  have hr := readNum_rem hb hp h
  unfold code_source_number
  cases hq : numL L with
  | none =>
    rw [hq] at hr
    have hr' : bits_Reader_Num p (n : Int) 0 = some (0, (n : Int), 6) := hr
    show _ = _
    rw [ok_good]
    simp only [Option.bind_some, cond_true, hr']
    rfl
  | some z =>
    obtain ⟨v, r⟩ := z
    rw [hq] at hr
    obtain ⟨m, h1, h2⟩ := hr
    refine ⟨m, ?_, h2⟩
    rw [ok_good]
    simp only [Option.bind_some, cond_true, h1, ok_good]
    by_cases hv : 1048576 < v
    · rw [if_pos hv, dt (show (1048576 : Int) < (v : Int) by omega), cond_true]
      rfl
    · rw [if_neg hv, df (show ¬ (1048576 : Int) < (v : Int) by omega), cond_false]
theorem bit1 {p : List Int} {n : Nat} {c : Bool} {l : List Bool} (hb : Bytes p) (hp : p.length ≤ 100000) (h : Rem p n (c :: l)) : code_source_bit 1 0 p (n : Int) 0 = some (((if c = true then 1 else 0 : Nat) : Int), 0, ((n + 1 : Nat) : Int), 0) ∧ Rem p (n + 1) l := by
  have := bit_rem (k := 1) hb hp (by decide) h (by simp)
  simp only [List.take_succ_cons, List.take_zero, valB, List.length_nil, Nat.pow_zero, Nat.add_zero] at this
  exact ⟨this, h.cut (k := 1) (by simp)⟩
theorem bit1_none {p : List Int} {n : Nat} (hp : p.length ≤ 100000) (h : Rem p n []) : code_source_bit 1 0 p (n : Int) 0 = some (0, 6, (n : Int), 6) := bit_none (k := 1) hp (by decide) h (by simp)
def GoodH (p : List Int) : (Bool × Bool × Int × List Bool) ⊕ Int → Option (Int × Bool × Bool × Int × Int × Int) → Prop
  | .inl (x, y, base, r), z => ∃ m : Nat, z = some (base, x, y, 0, (m : Int), 0) ∧ Rem p m r
  | .inr e, z => e ≠ 0 ∧ ∃ (base : Int) (x y : Bool) (m er : Int), z = some (base, x, y, e, m, er)
/-- The base, read. -/
theorem base_prog {p : List Int} {n : Nat} {l : List Bool} {x y : Bool} (hb : Bytes p) (hp : p.length ≤ 100000) (h : Rem p n l) :
    GoodH p (baseL x y l) ((code_source_number 0 p (n : Int) 0).bind fun (n11, n12, n13, n14) => (code_source_must (decide (0 < n11)) n12 p n13 n14).bind fun n15 => some (n11, x, y, n15, n13, n14)) := by
  have hr := num_prog hb hp h
  unfold baseL
  cases hq : numL l with
  | none =>
    rw [hq] at hr
    have hr' : code_source_number 0 p (n : Int) 0 = some (0, 6, (n : Int), 6) := hr
    rw [hr']
    exact ⟨by decide, 0, x, y, (n : Int), 6, by simp only [Option.bind_some, must_bad (show (6 : Int) ≠ 0 by decide)]⟩
  | some z =>
    obtain ⟨v, r⟩ := z
    rw [hq] at hr
    obtain ⟨m, h1, h2⟩ := hr
    rw [h1]
    by_cases hv : 1048576 < v
    · simp only [if_pos hv]
      exact ⟨by decide, (v : Int), x, y, (m : Int), 0, by simp only [Option.bind_some, must_bad (show (4 : Int) ≠ 0 by decide)]⟩
    · simp only [if_neg hv]
      by_cases hv0 : v = 0
      · subst hv0
        simp only [if_true]
        exact ⟨by decide, 0, x, y, (m : Int), 0, rfl⟩
      · simp only [if_neg hv0]
        refine ⟨m, ?_, h2⟩
        simp only [Option.bind_some, must_is, dt (show (0 : Int) < (v : Int) by omega), if_true]
theorem head_prog {p : List Int} {n : Nat} {d : Int} {L : List Bool} (hb : Bytes p) (hp : p.length ≤ 100000) (h : Rem p n L) :
    GoodH p (headE L) ((code_source_bit 2 0 p (n : Int) 0).bind fun (n9, n10, n11, n12) => code_source_event_C34 d (!(decide (n9 = 0))) (!(decide (n9 = 1))) (decide (n9 = 3)) n10 p n11 n12) := by
  have short : L.length < 2 → headE L = .inr 6 → GoodH p (headE L) ((code_source_bit 2 0 p (n : Int) 0).bind fun (n9, n10, n11, n12) => code_source_event_C34 d (!(decide (n9 = 0))) (!(decide (n9 = 1))) (decide (n9 = 3)) n10 p n11 n12) := by
    intro hl he
    rw [he]
    have g1 : code_source_bit 2 0 p (n : Int) 0 = some (0, 6, (n : Int), 6) := bit_none (k := 2) hp (by decide) h hl
    rw [g1]
    exact ⟨by decide, 0, false, true, (n : Int), 6, rfl⟩
  match L, h, short with
  | [], h, short => exact short (by simp) rfl
  | [a], h, short => exact short (by simp) (by cases a <;> rfl)
  | a :: b :: l, h, short =>
    have hc2 : Rem p (n + 2) l := h.cut (k := 2) (by simp)
    have g1 : code_source_bit 2 0 p (n : Int) 0 = some ((valB [a, b] : Int), 0, ((n + 2 : Nat) : Int), 0) := bit_rem (k := 2) hb hp (by decide) h (by simp)
    rw [g1]
    cases a with
    | false =>
      cases b with
      | false => exact ⟨n + 2, rfl, hc2⟩
      | true => exact ⟨n + 2, rfl, hc2⟩
    | true =>
      cases b with
      | false => exact ⟨n + 2, rfl, hc2⟩
      | true =>
        show GoodH p (headE (true :: true :: l)) (code_source_event_C34 d true true true 0 p ((n + 2 : Nat) : Int) 0)
        unfold code_source_event_C34 code_source_event_C37
        cases l with
        | nil =>
          rw [bit1_none hp hc2]
          exact ⟨by decide, 0, !(decide ((0 : Int) = 0)), decide ((0 : Int) = 0), ((n + 2 : Nat) : Int), 6, by simp only [cond_true, Option.bind_some, decide_true, bit_bad (show (6 : Int) ≠ 0 by decide), num_bad (show (6 : Int) ≠ 0 by decide), must_bad (show (6 : Int) ≠ 0 by decide)]⟩
        | cons c l =>
          obtain ⟨g2, hc3⟩ := bit1 hb hp hc2
          rw [g2]
          cases c with
          | true =>
            have := base_prog (x := true) (y := true) hb hp hc3
            exact this
          | false =>
            cases l with
            | nil =>
              show GoodH p (.inr 6) _
              refine ⟨by decide, 0, !(decide ((0 : Int) = 0)), decide ((0 : Int) = 0), ((n + 2 + 1 : Nat) : Int), 6, ?_⟩
              simp only [cond_true, Option.bind_some, Bool.false_eq_true, if_false, dt (show ((0 : Nat) : Int) = 0 from rfl), bit1_none hp hc3, num_bad (show (6 : Int) ≠ 0 by decide), must_bad (show (6 : Int) ≠ 0 by decide)]
            | cons c l =>
              obtain ⟨g3, hc4⟩ := bit1 hb hp hc3
              have := base_prog (x := c) (y := !c) hb hp hc4
              simp only [cond_true, Option.bind_some, Bool.false_eq_true, if_false, dt (show ((0 : Nat) : Int) = 0 from rfl), g3]
              cases c with
              | true => exact this
              | false => exact this
end Go.Proofs.YtjjakdmcnkldoaaDoor
