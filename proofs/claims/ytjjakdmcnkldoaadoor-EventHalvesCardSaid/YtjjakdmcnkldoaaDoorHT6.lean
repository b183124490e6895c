/- A tree read: the document's reader; both at a text; the law's own trees. Plain. -/
import Derived.Test.YtjjakdmcnkldoaaDoorHT5
set_option linter.unusedVariables false
set_option linter.unusedSimpArgs false
namespace Go.Proofs.YtjjakdmcnkldoaaDoor
open Go.Ev Go.Lib

/-! ### The document's reader -/
def RGood : Option (Int × Tr × List UInt8 × Bool) → Option (T_kinfolkref02_Event × ByteArray × Bool × Bool) → Prop
  | some (e, t, r, g), x => x = some (fromEv e t, mkS r, true, g)
  | none, x => ∃ t s g, x = some (t, s, false, g)
theorem ub40 {c : UInt8} : decide ((c.toNat : Int) = 40) = decide (c = 40) := ub_eq (d := 40)
theorem ub41 {c : UInt8} : decide ((c.toNat : Int) = 41) = decide (c = 41) := ub_eq (d := 41)
theorem ub44 {c : UInt8} : decide ((c.toNat : Int) = 44) = decide (c = 44) := ub_eq (d := 44)
/-! ### A text, by both -/
def checkE (e : Int) (t : Tr) : Int := if 16 < depthE t then 3 else if 1048576 < maxE e t then 4 else 0
def parseV : Option (Int × Tr × List UInt8 × Bool) → Int × Tr × Int
  | some (e, t, r, g) => if r = [] then (if checkE e t = 0 then (if g = true then (0, .nil, 4) else (e, t, 0)) else (0, .nil, checkE e t)) else (0, .nil, 6)
  | none => (0, .nil, 6)
theorem evMaxTot : ∀ {N : Nat} {e : Int} {t : Tr}, depthE t < N → ∃ m, event_Event_Max N e t = some m
  | 0, e, t, h => by omega
  | N + 1, e, .nil, h => ⟨e, rfl⟩
  | N + 1, e, .mk a t b u, h => by
    simp only [depthE] at h
    obtain ⟨m1, h1⟩ := evMaxTot (N := N) (e := a) (t := t) (by omega)
    obtain ⟨m2, h2⟩ := evMaxTot (N := N) (e := b) (t := u) (by omega)
    unfold event_Event_Max event_Event_Max_b
    simp only [h1, h2, Option.bind_some]
    exact ⟨_, rfl⟩
theorem evRightTot {N : Nat} {e : Int} {t : Tr} (h : depthE t < N) (hd : depthE t ≤ 100000) : ∃ m, event_Event_right N e t = some m := by
  obtain ⟨m1, h1⟩ := evMaxTot (e := e) h
  unfold event_Event_right
  rw [evDepth h hd, h1]
  simp only [Option.bind_some]
  cases decide ((16 : Int) < (depthE t : Int))
  · cases decide (1048576 < m1)
    · exact ⟨_, rfl⟩
    · exact ⟨_, rfl⟩
  · exact ⟨_, rfl⟩
theorem evRightIs {N : Nat} {e : Int} {t : Tr} (h : depthE t < N) (hd : depthE t ≤ 100000) (hn : nf e t) (hm : maxE e t ≤ 1099511627776) : event_Event_right N e t = some (checkE e t) := by
  unfold event_Event_right checkE
  rw [evDepth h hd, evMax h hn hm]
  simp only [Option.bind_some]
  by_cases h1 : 16 < depthE t
  · rw [dt (show (16 : Int) < (depthE t : Int) by omega), if_pos h1]; rfl
  · rw [df (show ¬ (16 : Int) < (depthE t : Int) by omega), if_neg h1, cond_false]
    by_cases h2 : 1048576 < maxE e t
    · rw [dt h2, if_pos h2]; rfl
    · rw [df h2, if_neg h2]; rfl
theorem evParse {N : Nat} {l : List UInt8} (h : l.length < N) (hl : l.length ≤ 100000) : event_Parse N (mkS l) = some (parseV (refP N l)) := by
  have hr := evRead (f := false) h (by omega)
  unfold event_Parse
  cases hq : refP N l with
  | none =>
    rw [hq] at hr
    obtain ⟨e, t, s, b, g, h1, h2, h3, h4⟩ := hr
    obtain ⟨m, h5⟩ := evRightTot (N := N) (e := e) (t := t) (by omega) (by omega)
    rw [h1]
    simp only [Option.bind_some, h5]
    cases b with
    | true => rfl
    | false =>
      rcases h4 with h4 | ⟨c, r, rfl, -⟩
      · cases h4
      · rw [cond_false, df (show ¬ mkS (c :: r) = ⟨#[]⟩ by rw [mkS_nil]; simp), cond_false]; rfl
  | some q =>
    obtain ⟨e, t, r, g⟩ := q
    rw [hq] at hr
    have hr' : event_reader_event N (mkS l) false false = some (e, t, mkS r, false, false || g) := hr
    obtain ⟨h1, h2, h3, -⟩ := refP_ok hq
    rw [hr', Bool.false_or]
    simp only [Option.bind_some, evRightIs (N := N) (by omega) (by omega) h1 (by omega), cond_false, parseV]
    by_cases hr0 : r = []
    · rw [if_pos hr0, dt (show mkS r = ⟨#[]⟩ by rw [mkS_nil]; exact hr0), cond_true]
      by_cases hk : checkE e t = 0
      · rw [if_pos hk, dt hk, cond_true]; cases g <;> rfl
      · rw [if_neg hk, df hk, cond_false]
    · rw [if_neg hr0, df (show ¬ mkS r = ⟨#[]⟩ by rw [mkS_nil]; exact hr0), cond_false]
theorem parseV_ok {n : Nat} {l : List UInt8} (hl : l.length ≤ 100000) : nf (parseV (refP n l)).1 (parseV (refP n l)).2.1 ∧ depthE (parseV (refP n l)).2.1 ≤ 16 ∧ maxE (parseV (refP n l)).1 (parseV (refP n l)).2.1 ≤ 1048576 ∧ ((parseV (refP n l)).2.2 = 0 → l = textE (parseV (refP n l)).1 (parseV (refP n l)).2.1) := by
  have z : ∀ k : Int, k ≠ 0 → nf ((0 : Int), T_event_halves.nil, k).1 ((0 : Int), T_event_halves.nil, k).2.1 ∧ depthE ((0 : Int), T_event_halves.nil, k).2.1 ≤ 16 ∧ maxE ((0 : Int), T_event_halves.nil, k).1 ((0 : Int), T_event_halves.nil, k).2.1 ≤ 1048576 ∧ (((0 : Int), T_event_halves.nil, k).2.2 = 0 → l = textE ((0 : Int), T_event_halves.nil, k).1 ((0 : Int), T_event_halves.nil, k).2.1) := fun k hk => ⟨Int.le_refl _, by simp [depthE], by simp [maxE], fun h => absurd h hk⟩
  cases hq : refP n l with
  | none => exact z 6 (by decide)
  | some q =>
    obtain ⟨e, t, r, g⟩ := q
    obtain ⟨h1, h2, h3, h4⟩ := refP_ok hq
    simp only [parseV]
    split
    · rename_i hr0
      split
      · rename_i hk
        cases g with
        | true => exact z 4 (by decide)
        | false =>
          have h5 := h4 rfl
          rw [hr0, List.append_nil] at h5
          simp only [checkE] at hk
          simp only [Bool.false_eq_true, if_false]
          refine ⟨h1, ?_, ?_, fun _ => h5⟩
          · split at hk
            · cases hk
            · omega
          · split at hk
            · cases hk
            · split at hk
              · cases hk
              · omega
      · rename_i hk
        exact z _ hk
    · exact z 6 (by decide)
end Go.Proofs.YtjjakdmcnkldoaaDoor
