/- A tree read: the document's reader; both at a text; the law's own trees. Plain. -/
import Derived.Test.YtjjakdmcnkldoaaDoorT5
set_option linter.unusedVariables false
set_option linter.unusedSimpArgs false
namespace Go.Proofs.YtjjakdmcnkldoaaDoor
open Go.Ev Go.Lib

/-! ### The document's reader -/
def RGood : Option (Int × Tr × List UInt8 × Bool) → Option (T_kinfolkref02_Event × ByteArray × Bool × Bool) → Prop
  | some (e, t, r, g), x => x = some (fromEv e t, mkS r, true, g)
  | none, x => ∃ t s g, x = some (t, s, false, g)
theorem ub40 {c : UInt8} : decide ((c.toNat : Int) = 40) = decide (c = 40) := ub_eq (d := 40)
theorem ub41 {c : UInt8} : decide ((c.toNat : Int) = 41) = decide (c = 41) := ub_eq (d := 41)
theorem ub44 {c : UInt8} : decide ((c.toNat : Int) = 44) = decide (c = 44) := ub_eq (d := 44)
theorem rRead : ∀ {N : Nat} {l : List UInt8}, l.length < N → l.length ≤ 1000000 → RGood (refP N l) (kinfolkref02_parse_2 N (mkS l))
  | 0, l, h, hl => by omega
  | N + 1, l, h, hl => by
    unfold kinfolkref02_parse_2 kinfolkref02_parse_2_b kinfolkref02_Leaf
    have z0 : decide (((0 : Nat) : Int) = 0) = true := rfl
    have zs : ∀ n : Nat, decide (((n + 1 : Nat) : Int) = 0) = false := fun n => df (by omega)
    have zp : ∀ n : Nat, decide ((0 : Int) < ((n + 1 : Nat) : Int)) = true := fun n => dt (by omega)
    have z1 : ∀ n : Nat, decide ((1 : Int) ≤ ((n + 1 : Nat) : Int)) = true := fun n => dt (by omega)
    have zr : ∀ n : Nat, decide (((n + 1 : Nat) : Int) ≤ ((n + 1 : Nat) : Int)) = true := fun n => dt (Int.le_refl _)
    have y0 : decide ((0 : Int) ≤ 0) = true := rfl
    have y1 : decide ((0 : Int) ≤ 1) = true := rfl
    have y2 : decide ((0 : Nat) ≤ 0) = true := rfl
    have y3 : decide ((0 : Nat) ≤ 1) = true := rfl
    cases l with
    | nil =>
      rw [refP_leaf (by simp)]
      have h1 : numP [] = none := rfl
      obtain ⟨v, s, g, e1⟩ := rNum_none (l := []) (by simp) h1
      simp only [mkS_size, List.length_nil, z0, cond_true, e1, h1, Option.bind_none, Option.bind_some]
      exact ⟨_, _, _, rfl⟩
    | cons c l =>
      by_cases hc : c = 40
      · subst hc
        rw [refP_node]
        simp only [mkS_size, List.length_cons, zs, zp, z1, zr, y0, y1, y2, y3, Bool.and_self, cond_true, cond_false, mkS_get, List.getD_cons_zero, ub40, decide_true, Int.toNat_natCast, mkS_tail]
        simp only [List.length_cons] at h hl
        cases h1 : numP l with
        | none =>
          obtain ⟨v, s, g, e1⟩ := rNum_none (by omega) h1
          simp only [e1, Option.bind_some, Option.bind_none, cond_false]
          exact ⟨_, _, _, rfl⟩
        | some q =>
          obtain ⟨e, l1, g1⟩ := q
          have q1 := (numP_ok h1).2.2.1
          simp only [rNum_some (by omega) h1, Option.bind_some, cond_true]
          cases l1 with
          | nil =>
            simp only [eat, mkS_size, List.length_nil, z0, cond_true, Option.bind_none]
            exact ⟨_, _, _, rfl⟩
          | cons d l2 =>
            simp only [List.length_cons] at q1
            simp only [mkS_size, List.length_cons, zs, zp, z1, zr, y0, y1, y2, y3, Bool.and_self, cond_true, cond_false, mkS_get, List.getD_cons_zero, ub44, Int.toNat_natCast, mkS_tail]
            by_cases hd : d = 44
            · subst hd
              simp only [eat, if_pos, decide_true, cond_true, Option.bind_some]
              have r1 := rRead (N := N) (l := l2) (by omega) (by omega)
              cases h3 : refP N l2 with
              | none =>
                rw [h3] at r1
                obtain ⟨t, s, g, p1⟩ := r1
                simp only [p1, Option.bind_some, Option.bind_none, cond_false]
                exact ⟨_, _, _, rfl⟩
              | some q =>
                obtain ⟨a, t, l3, g2⟩ := q
                rw [h3] at r1
                have r1' : kinfolkref02_parse_2 N (mkS l2) = some (fromEv a t, mkS l3, true, g2) := r1
                obtain ⟨n1, m1, q3, -⟩ := refP_ok h3
                simp only [r1', Option.bind_some, cond_true]
                cases l3 with
                | nil =>
                  simp only [eat, mkS_size, List.length_nil, z0, cond_true, Option.bind_none]
                  exact ⟨_, _, _, rfl⟩
                | cons d l4 =>
                  simp only [List.length_cons] at q3
                  simp only [mkS_size, List.length_cons, zs, zp, z1, zr, y0, y1, y2, y3, Bool.and_self, cond_true, cond_false, mkS_get, List.getD_cons_zero, ub44, Int.toNat_natCast, mkS_tail]
                  by_cases hd : d = 44
                  · subst hd
                    simp only [eat, if_pos, decide_true, cond_true, Option.bind_some]
                    have r2 := rRead (N := N) (l := l4) (by omega) (by omega)
                    cases h5 : refP N l4 with
                    | none =>
                      rw [h5] at r2
                      obtain ⟨t, s, g, p1⟩ := r2
                      simp only [p1, Option.bind_some, Option.bind_none, cond_false]
                      exact ⟨_, _, _, rfl⟩
                    | some q =>
                      obtain ⟨b, u, l5, g3⟩ := q
                      rw [h5] at r2
                      have r2' : kinfolkref02_parse_2 N (mkS l4) = some (fromEv b u, mkS l5, true, g3) := r2
                      obtain ⟨n2, m2, q5, -⟩ := refP_ok h5
                      simp only [r2', Option.bind_some, cond_true]
                      cases l5 with
                      | nil =>
                        simp only [eat, mkS_size, List.length_nil, z0, cond_true, Option.bind_none]
                        exact ⟨_, _, _, rfl⟩
                      | cons d l6 =>
                        simp only [List.length_cons] at q5
                        simp only [mkS_size, List.length_cons, zs, zp, z1, zr, y0, y1, y2, y3, Bool.and_self, cond_true, cond_false, mkS_get, List.getD_cons_zero, ub41, Int.toNat_natCast, mkS_tail]
                        by_cases hd : d = 41
                        · subst hd
                          have p1 := rMin (N := N) (by omega) n1 (by omega)
                          have p2 := rMin (N := N) (by omega) n2 (by omega)
                          simp only [eat, if_pos, decide_true, cond_true, Option.bind_some, p1, p2]
                          by_cases hm : 0 < min a b
                          · rw [if_pos (.inl hm), dt (show 0 < a by omega), cond_true, dt (show 0 < b by omega), cond_true]
                            exact ⟨_, _, _, rfl⟩
                          · have fin : ∀ X : Option (T_kinfolkref02_Event × ByteArray × Bool × Bool), RGood (if 0 < min a b ∨ (t = .nil ∧ u = .nil ∧ a = b) then none else some (e, .mk a t b u, l6, g1 || (g2 || g3))) X → RGood (if 0 < min a b ∨ (t = .nil ∧ u = .nil ∧ a = b) then none else some (e, .mk a t b u, l6, g1 || (g2 || g3))) (bif decide (0 < a) then bif decide (0 < b) then (some (T_kinfolkref02_Event.mk 0 T_kinfolkref02_Event.nil T_kinfolkref02_Event.nil, mkS (41 :: l6), false, false)) else X else X) := by
                              intro X hX
                              by_cases h1 : 0 < a
                              · rw [dt h1, cond_true, df (show ¬ 0 < b by omega), cond_false]; exact hX
                              · rw [df h1, cond_false]; exact hX
                            refine fin _ ?_
                            have flags : ∀ y : T_kinfolkref02_Event, (bif g2 then some (y, mkS l6, true, true) else bif g3 then some (y, mkS l6, true, true) else some (y, mkS l6, true, g1)) = some (y, mkS l6, true, g1 || (g2 || g3)) := by
                              intro y; cases g1 <;> cases g2 <;> cases g3 <;> rfl
                            cases t with
                            | nil =>
                              cases u with
                              | nil =>
                                simp only [fromEv]
                                by_cases hab : a = b
                                · rw [if_pos (.inr ⟨trivial, trivial, hab⟩), dt hab]
                                  exact ⟨_, _, _, rfl⟩
                                · rw [if_neg (fun hx => hx.elim hm (fun hx => hab hx.2.2)), df hab, cond_false, flags]
                                  rfl
                              | mk x v y w =>
                                obtain ⟨x1, y1, hx⟩ := fromEv_mk x v
                                rw [if_neg (fun hx => hx.elim hm (fun hx => by cases hx.2.1))]
                                simp only [fromEv, hx, flags]
                                show _ = some (fromEv e (.mk a .nil b (.mk x v y w)), _, _, _)
                                simp only [fromEv, hx]
                            | mk x v y w =>
                              obtain ⟨x1, y1, hx⟩ := fromEv_mk x v
                              rw [if_neg (fun hx => hx.elim hm (fun hx => by cases hx.1))]
                              simp only [fromEv, hx, flags]
                              show _ = some (fromEv e (.mk a (.mk x v y w) b u), _, _, _)
                              simp only [fromEv, hx]
                        · simp only [eat, if_neg hd, df hd, cond_false, Option.bind_none]
                          exact ⟨_, _, _, rfl⟩
                  · simp only [eat, if_neg hd, df hd, cond_false, Option.bind_none]
                    exact ⟨_, _, _, rfl⟩
            · simp only [eat, if_neg hd, df hd, cond_false, Option.bind_none]
              exact ⟨_, _, _, rfl⟩
      · rw [refP_leaf (by simpa using hc)]
        simp only [mkS_size, List.length_cons, zs, zp, z1, zr, y0, y1, y2, y3, Bool.and_self, cond_true, cond_false, mkS_get, List.getD_cons_zero, ub40, df hc, Option.bind_some]
        cases h1 : numP (c :: l) with
        | none =>
          obtain ⟨v, s, g, e1⟩ := rNum_none hl h1
          simp only [e1, Option.bind_some, Option.bind_none]
          exact ⟨_, _, _, rfl⟩
        | some q =>
          obtain ⟨e, l1, g1⟩ := q
          simp only [rNum_some hl h1, Option.bind_some]
          rfl

/-! ### A text, by both -/
def checkE (e : Int) (t : Tr) : Int := if 16 < depthE t then 3 else if 1048576 < maxE e t then 4 else 0
def parseV : Option (Int × Tr × List UInt8 × Bool) → Int × Tr × Int
  | some (e, t, r, g) => if r = [] then (if checkE e t = 0 then (if g = true then (0, .nil, 4) else (e, t, 0)) else (0, .nil, checkE e t)) else (0, .nil, 6)
  | none => (0, .nil, 6)
theorem evMaxTot : ∀ {N : Nat} {e : Int} {t : Tr}, depthE t < N → ∃ m, event_Event_Max N e t = some m
  | 0, e, t, h => by omega
  | N + 1, e, .nil, h => ⟨e, rfl⟩
  | N + 1, e, .mk a t b u, h => by
    simp only [depthE] at h
    obtain ⟨m1, h1⟩ := evMaxTot (N := N) (e := a) (t := t) (by omega)
    obtain ⟨m2, h2⟩ := evMaxTot (N := N) (e := b) (t := u) (by omega)
    unfold event_Event_Max event_Event_Max_b
    simp only [h1, h2, Option.bind_some]
    exact ⟨_, rfl⟩
theorem evRightTot {N : Nat} {e : Int} {t : Tr} (h : depthE t < N) (hd : depthE t ≤ 100000) : ∃ m, event_Event_right N e t = some m := by
  obtain ⟨m1, h1⟩ := evMaxTot (e := e) h
  unfold event_Event_right
  rw [evDepth h hd, h1]
  simp only [Option.bind_some]
  cases decide ((16 : Int) < (depthE t : Int))
  · cases decide (1048576 < m1)
    · exact ⟨_, rfl⟩
    · exact ⟨_, rfl⟩
  · exact ⟨_, rfl⟩
theorem evRightIs {N : Nat} {e : Int} {t : Tr} (h : depthE t < N) (hd : depthE t ≤ 100000) (hn : nf e t) (hm : maxE e t ≤ 1099511627776) : event_Event_right N e t = some (checkE e t) := by
  unfold event_Event_right checkE
  rw [evDepth h hd, evMax h hn hm]
  simp only [Option.bind_some]
  by_cases h1 : 16 < depthE t
  · rw [dt (show (16 : Int) < (depthE t : Int) by omega), if_pos h1]; rfl
  · rw [df (show ¬ (16 : Int) < (depthE t : Int) by omega), if_neg h1, cond_false]
    by_cases h2 : 1048576 < maxE e t
    · rw [dt h2, if_pos h2]; rfl
    · rw [df h2, if_neg h2]; rfl
theorem rCheckIs {N : Nat} {e : Int} {t : Tr} (h : depthE t < N) (hd : depthE t ≤ 100000) (hn : nf e t) (hm : maxE e t ≤ 1099511627776) : kinfolkref02_Check N (fromEv e t) = some (checkE e t) := by
  unfold kinfolkref02_Check checkE
  rw [rDepth h hd, rMax h hn hm]
  simp only [Option.bind_some]
  by_cases h1 : 16 < depthE t
  · rw [dt (show (16 : Int) < (depthE t : Int) by omega), if_pos h1]; rfl
  · rw [df (show ¬ (16 : Int) < (depthE t : Int) by omega), if_neg h1, cond_false]
    by_cases h2 : 1048576 < maxE e t
    · rw [dt h2, if_pos h2]; rfl
    · rw [df h2, if_neg h2]; rfl
theorem evParse {N : Nat} {l : List UInt8} (h : l.length < N) (hl : l.length ≤ 100000) : event_Parse N (mkS l) = some (parseV (refP N l)) := by
  have hr := evRead (f := false) h (by omega)
  unfold event_Parse
  cases hq : refP N l with
  | none =>
    rw [hq] at hr
    obtain ⟨e, t, s, b, g, h1, h2, h3, h4⟩ := hr
    obtain ⟨m, h5⟩ := evRightTot (N := N) (e := e) (t := t) (by omega) (by omega)
    rw [h1]
    simp only [Option.bind_some, h5]
    cases b with
    | true => rfl
    | false =>
      rcases h4 with h4 | ⟨c, r, rfl, -⟩
      · cases h4
      · rw [cond_false, df (show ¬ mkS (c :: r) = ⟨#[]⟩ by rw [mkS_nil]; simp), cond_false]; rfl
  | some q =>
    obtain ⟨e, t, r, g⟩ := q
    rw [hq] at hr
    have hr' : event_reader_event N (mkS l) false false = some (e, t, mkS r, false, false || g) := hr
    obtain ⟨h1, h2, h3, -⟩ := refP_ok hq
    rw [hr', Bool.false_or]
    simp only [Option.bind_some, evRightIs (N := N) (by omega) (by omega) h1 (by omega), cond_false, parseV]
    by_cases hr0 : r = []
    · rw [if_pos hr0, dt (show mkS r = ⟨#[]⟩ by rw [mkS_nil]; exact hr0), cond_true]
      by_cases hk : checkE e t = 0
      · rw [if_pos hk, dt hk, cond_true]; cases g <;> rfl
      · rw [if_neg hk, df hk, cond_false]
    · rw [if_neg hr0, df (show ¬ mkS r = ⟨#[]⟩ by rw [mkS_nil]; exact hr0), cond_false]
theorem rParse {N : Nat} {l : List UInt8} (h : l.length < N) (hl : l.length ≤ 100000) : kinfolkref02_Parse N (mkS l) = some (fromEv (parseV (refP N l)).1 (parseV (refP N l)).2.1, (parseV (refP N l)).2.2) := by
  have hr := rRead h (by omega)
  unfold kinfolkref02_Parse kinfolkref02_Leaf
  cases hq : refP N l with
  | none =>
    rw [hq] at hr
    obtain ⟨t, s, g, h1⟩ := hr
    rw [h1]
    rfl
  | some q =>
    obtain ⟨e, t, r, g⟩ := q
    rw [hq] at hr
    have hr' : kinfolkref02_parse_2 N (mkS l) = some (fromEv e t, mkS r, true, g) := hr
    obtain ⟨h1, h2, h3, -⟩ := refP_ok hq
    rw [hr']
    simp only [Option.bind_some, cond_true, mkS_size, rCheckIs (N := N) (by omega) (by omega) h1 (by omega), parseV]
    by_cases hr0 : r = []
    · subst hr0
      rw [if_pos rfl]
      simp only [List.length_nil]
      rw [df (show ¬ (0 : Int) < ((0 : Nat) : Int) by decide), cond_false]
      by_cases hk : checkE e t = 0
      · rw [if_pos hk, dt hk, cond_true]; cases g <;> rfl
      · rw [if_neg hk, df hk, cond_false]; rfl
    · rw [if_neg hr0]
      have : 0 < r.length := List.length_pos_iff.2 hr0
      rw [dt (show (0 : Int) < (r.length : Int) by omega), cond_true]
      rfl
theorem parseV_ok {n : Nat} {l : List UInt8} (hl : l.length ≤ 100000) : nf (parseV (refP n l)).1 (parseV (refP n l)).2.1 ∧ depthE (parseV (refP n l)).2.1 ≤ 16 ∧ maxE (parseV (refP n l)).1 (parseV (refP n l)).2.1 ≤ 1048576 ∧ ((parseV (refP n l)).2.2 = 0 → l = textE (parseV (refP n l)).1 (parseV (refP n l)).2.1) := by
  have z : ∀ k : Int, k ≠ 0 → nf ((0 : Int), T_event_halves.nil, k).1 ((0 : Int), T_event_halves.nil, k).2.1 ∧ depthE ((0 : Int), T_event_halves.nil, k).2.1 ≤ 16 ∧ maxE ((0 : Int), T_event_halves.nil, k).1 ((0 : Int), T_event_halves.nil, k).2.1 ≤ 1048576 ∧ (((0 : Int), T_event_halves.nil, k).2.2 = 0 → l = textE ((0 : Int), T_event_halves.nil, k).1 ((0 : Int), T_event_halves.nil, k).2.1) := fun k hk => ⟨Int.le_refl _, by simp [depthE], by simp [maxE], fun h => absurd h hk⟩
  cases hq : refP n l with
  | none => exact z 6 (by decide)
  | some q =>
    obtain ⟨e, t, r, g⟩ := q
    obtain ⟨h1, h2, h3, h4⟩ := refP_ok hq
    simp only [parseV]
    split
    · rename_i hr0
      split
      · rename_i hk
        cases g with
        | true => exact z 4 (by decide)
        | false =>
          have h5 := h4 rfl
          rw [hr0, List.append_nil] at h5
          simp only [checkE] at hk
          simp only [Bool.false_eq_true, if_false]
          refine ⟨h1, ?_, ?_, fun _ => h5⟩
          · split at hk
            · cases hk
            · omega
          · split at hk
            · cases hk
            · split at hk
              · cases hk
              · omega
      · rename_i hk
        exact z _ hk
    · exact z 6 (by decide)
end Go.Proofs.YtjjakdmcnkldoaaDoor
