/- What is written: trees, stamps. Plain. -/
import Derived.Test.YtjjakdmcnkldoaaDoorCB2
set_option linter.unusedVariables false
set_option linter.unusedSimpArgs false
namespace Go.Proofs.YtjjakdmcnkldoaaDoor
open Go.Ev

/-- The writer stands behind these bits. -/
def Wr (x : Option (Int × List Int)) (B : List Bool) : Prop := ∃ l', x = some ((B.length : Int), l') ∧ Pk l' B
theorem Wr.bind {x : Option (Int × List Int)} {k : Int × List Int → Option (Int × List Int)} {B B' : List Bool} (h : Wr x B) (hk : ∀ l', Pk l' B → Wr (k ((B.length : Int), l')) B') : Wr (x.bind k) B' := by
  obtain ⟨l', h1, h2⟩ := h
  rw [h1]
  exact hk l' h2
theorem wr_put {v k : Nat} (hv : v < 2 ^ 64) (hk : k ≤ 64) {l : List Int} {B : List Bool} (hB : (B ++ bitsN k v).length ≤ 1000000) (h : Pk l B) : Wr (bits_Writer_Put_2 (v : Int) (k : Int) (B.length : Int) l) (B ++ bitsN k v) := by
  rw [List.length_append, bitsN_len] at hB
  obtain ⟨l', h1, h2⟩ := put_eq hv hk hB h
  exact ⟨l', by rw [h1, List.length_append, bitsN_len], h2⟩
theorem wr_num {n : Nat} {l : List Int} {B : List Bool} (hn : n < 2 ^ 64) (hB : B.length ≤ 800000) (h : Pk l B) : Wr (bits_Writer_Num (n : Int) (B.length : Int) l) (B ++ encNum n) := num_eq hn hB h
theorem wr_some {l : List Int} {B : List Bool} (h : Pk l B) : Wr (some ((B.length : Int), l)) B := ⟨l, rfl, h⟩

def zeroEv (e : Int) (t : T_event_halves) : Bool := match t with
  | .nil => decide (e = 0)
  | .mk .. => false
theorem zero_eq (e : Int) (t : T_event_halves) : code_zero e t = some (zeroEv e t) := by
  cases t <;> rfl
def encEv : Int → T_event_halves → List Bool
  | e, .nil => bitsN 1 1 ++ encNum e.toNat
  | e, .mk a t b u => bitsN 1 0 ++ ((if e = 0 then (if zeroEv a t then bitsN 2 0 else if zeroEv b u then bitsN 2 1 else bitsN 2 2) else (if zeroEv a t then bitsN 2 3 ++ bitsN 2 0 else if zeroEv b u then bitsN 2 3 ++ bitsN 2 1 else bitsN 2 3 ++ bitsN 1 1)) ++
      ((if 0 < e then encNum e.toNat else []) ++ ((if zeroEv a t then [] else encEv a t) ++ (if zeroEv b u then [] else encEv b u))))
def okE : Int → T_event_halves → Prop
  | e, .nil => 0 ≤ e ∧ e < 18446744073709551616
  | e, .mk a t b u => (0 ≤ e ∧ e < 18446744073709551616) ∧ okE a t ∧ okE b u
theorem okE.base {e : Int} {t : T_event_halves} (h : okE e t) : 0 ≤ e ∧ e < 18446744073709551616 := by
  cases t
  · exact h
  · exact h.1
theorem wr_loop {rec_ : Int → T_event_halves → Int → List Int → Option (Int × List Int)} {a b : Int} {t u : T_event_halves} {B : List Bool} {l : List Int} (h : Pk l B)
    (h1 : zeroEv a t = false → (B ++ encEv a t).length ≤ 700000 → ∀ l, Pk l B → Wr (rec_ a t (B.length : Int) l) (B ++ encEv a t))
    (h2 : zeroEv b u = false → ∀ B l, (B ++ encEv b u).length ≤ 700000 → Pk l B → Wr (rec_ b u (B.length : Int) l) (B ++ encEv b u)) (hB : (B ++ ((if zeroEv a t then [] else encEv a t) ++ (if zeroEv b u then [] else encEv b u))).length ≤ 700000) :
    Wr (runL (code_PutEvent_L0_step rec_ [E_event_Event.mk a t, E_event_Event.mk b u]) (0, (B.length : Int), l)) (B ++ ((if zeroEv a t then [] else encEv a t) ++ (if zeroEv b u then [] else encEv b u))) := by
  have second : ∀ {C : List Bool} {l : List Int}, (C ++ (if zeroEv b u then [] else encEv b u)).length ≤ 700000 → Pk l C → Wr (runL (code_PutEvent_L0_step rec_ [E_event_Event.mk a t, E_event_Event.mk b u]) (1, (C.length : Int), l)) (C ++ (if zeroEv b u then [] else encEv b u)) := by
    intro C l hC hP
    have fin : ∀ {D : List Bool} {l : List Int}, Pk l D → Wr (runL (code_PutEvent_L0_step rec_ [E_event_Event.mk a t, E_event_Event.mk b u]) (2, (D.length : Int), l)) D := by
      intro D l hD
      exact ⟨l, runL_done (by simp [code_PutEvent_L0_step]), hD⟩
    cases hz : zeroEv b u with
    | true =>
      rw [runL_next (s' := (2, (C.length : Int), l))]
      · simpa using fin hP
      · simp [code_PutEvent_L0_step, zero_eq, hz]; rfl
    | false =>
      obtain ⟨l2, q1, q2⟩ := h2 hz C l (by simpa [hz] using hC) hP
      rw [runL_next (s' := (2, ((C ++ encEv b u).length : Int), l2))]
      · simpa using fin q2
      · simp only [code_PutEvent_L0_step]
        simp [zero_eq, hz, q1]; rfl
  cases hz : zeroEv a t with
  | true =>
    rw [runL_next (s' := (1, (B.length : Int), l))]
    · simpa using second (by simpa [hz] using hB) h
    · simp [code_PutEvent_L0_step, zero_eq, hz]; rfl
  | false =>
    obtain ⟨l2, q1, q2⟩ := h1 hz (by simp only [hz, List.length_append, Bool.false_eq_true, if_false] at hB ⊢; omega) l h
    rw [runL_next (s' := (1, ((B ++ encEv a t).length : Int), l2))]
    · simpa using second (by simpa [hz] using hB) q2
    · simp only [code_PutEvent_L0_step]
      simp [zero_eq, hz, q1]; rfl
theorem putEv_go : ∀ {N : Nat} {e : Int} {t : T_event_halves} {l : List Int} {B : List Bool}, depthE t < N → okE e t → (B ++ encEv e t).length ≤ 700000 → Pk l B → Wr (code_PutEvent N e t (B.length : Int) l) (B ++ encEv e t)
  | 0, e, t, l, B, hN, ho, hB, h => by omega
  | N + 1, e, t, l, B, hN, ho, hB, h => by
    unfold code_PutEvent code_PutEvent_b event_Event_Base
    have hb := ho.base
    obtain ⟨n, rfl⟩ : ∃ n : Nat, e = (n : Int) := ⟨e.toNat, by omega⟩
    have hn : n < 2 ^ 64 := by omega
    cases t with
    | nil =>
      simp only [encEv, List.length_append, bitsN_len, Int.toNat_natCast] at hB ⊢
      simp only [event_Event_Left, event_Event_Right, event_Event_IsLeaf, Option.bind_some, cond_true]
      rw [← List.append_assoc]
      refine (wr_put (v := 1) (k := 1) (by decide) (by decide) (by simp [bitsN_len]; omega) h).bind fun l1 p1 => ?_
      exact (wr_num hn (by simp [bitsN_len]; omega) p1).bind fun l2 p2 => wr_some p2
    | mk a t b u =>
      obtain ⟨-, ha, hu⟩ := ho
      simp only [depthE] at hN
      simp only [event_Event_Left, event_Event_Right, event_Event_IsLeaf, Option.bind_some, cond_false, zero_eq]
      -- what is behind the tag
      have tail : ∀ {C : List Bool} {l : List Int}, (C ++ ((if 0 < (n : Int) then encNum n else []) ++ ((if zeroEv a t then [] else encEv a t) ++ (if zeroEv b u then [] else encEv b u)))).length ≤ 700000 → Pk l C →
          Wr (bif decide ((0 : Int) < (n : Int)) then (bits_Writer_Num (n : Int) (C.length : Int) l).bind fun z => (runL (code_PutEvent_L0_step (code_PutEvent N) [E_event_Event.mk a t, E_event_Event.mk b u]) (0, z.1, z.2)).bind fun z => some (z.1, z.2)
            else (runL (code_PutEvent_L0_step (code_PutEvent N) [E_event_Event.mk a t, E_event_Event.mk b u]) (0, (C.length : Int), l)).bind fun z => some (z.1, z.2)) (C ++ ((if 0 < (n : Int) then encNum n else []) ++ ((if zeroEv a t then [] else encEv a t) ++ (if zeroEv b u then [] else encEv b u)))) := by
        intro C l hC hP
        have lp : ∀ {D : List Bool} {l : List Int}, (D ++ ((if zeroEv a t then [] else encEv a t) ++ (if zeroEv b u then [] else encEv b u))).length ≤ 700000 → Pk l D → Wr ((runL (code_PutEvent_L0_step (code_PutEvent N) [E_event_Event.mk a t, E_event_Event.mk b u]) (0, (D.length : Int), l)).bind fun z => some (z.1, z.2)) (D ++ ((if zeroEv a t then [] else encEv a t) ++ (if zeroEv b u then [] else encEv b u))) := by
          intro D l hD hP
          exact Wr.bind (wr_loop hP (fun hz hs l hP => putEv_go (by omega) ha hs hP) (fun hz B l hs hP => putEv_go (by omega) hu hs hP) hD) fun l2 p2 => wr_some p2
        by_cases h0 : 0 < (n : Int)
        · rw [dt h0, cond_true, if_pos h0] at *
          rw [← List.append_assoc] at *
          refine (wr_num hn (by simp only [List.length_append] at hC; omega) hP).bind fun l1 p1 => ?_
          exact lp hC p1
        · rw [df h0, cond_false, if_neg h0] at *
          rw [List.nil_append] at *
          exact lp hC hP
      simp only [encEv, Int.toNat_natCast] at hB ⊢
      rw [← List.append_assoc] at hB ⊢
      refine (wr_put (v := 0) (k := 1) (by decide) (by decide) (by simp only [List.length_append] at hB ⊢; omega) h).bind fun l1 p1 => ?_
      simp only
      by_cases h0 : (n : Int) = 0
      · rw [dt h0, cond_true, if_pos h0] at *
        cases hz : zeroEv a t with
        | true =>
          simp only [hz, cond_true, if_true, Option.bind_some] at hB ⊢ tail
          rw [← List.append_assoc] at hB ⊢
          refine (wr_put (v := 0) (k := 2) (by decide) (by decide) (by simp only [List.length_append] at hB ⊢; omega) p1).bind fun l2 p2 => ?_
          exact tail hB p2
        | false =>
          cases hz2 : zeroEv b u with
          | true =>
            simp only [hz, hz2, cond_true, cond_false, if_true, if_false, Bool.false_eq_true, Option.bind_some] at hB ⊢ tail
            rw [← List.append_assoc] at hB ⊢
            refine (wr_put (v := 1) (k := 2) (by decide) (by decide) (by simp only [List.length_append] at hB ⊢; omega) p1).bind fun l2 p2 => ?_
            exact tail hB p2
          | false =>
            simp only [hz, hz2, cond_false, if_false, Bool.false_eq_true, Option.bind_some] at hB ⊢ tail
            rw [← List.append_assoc] at hB ⊢
            refine (wr_put (v := 2) (k := 2) (by decide) (by decide) (by simp only [List.length_append] at hB ⊢; omega) p1).bind fun l2 p2 => ?_
            exact tail hB p2
      · rw [df h0, cond_false, if_neg h0] at *
        cases hz : zeroEv a t with
        | true =>
          simp only [hz, cond_true, if_true, Option.bind_some] at hB ⊢ tail
          rw [List.append_assoc (bitsN 2 3), ← List.append_assoc, ← List.append_assoc] at hB
          rw [List.append_assoc (bitsN 2 3), ← List.append_assoc, ← List.append_assoc]
          refine (wr_put (v := 3) (k := 2) (by decide) (by decide) (by simp only [List.length_append] at hB ⊢; omega) p1).bind fun l2 p2 => ?_
          refine (wr_put (v := 0) (k := 2) (by decide) (by decide) (by simp only [List.length_append] at hB ⊢; omega) p2).bind fun l3 p3 => ?_
          exact tail hB p3
        | false =>
          cases hz2 : zeroEv b u with
          | true =>
            simp only [hz, hz2, cond_true, cond_false, if_true, if_false, Bool.false_eq_true, Option.bind_some] at hB ⊢ tail
            rw [List.append_assoc (bitsN 2 3), ← List.append_assoc, ← List.append_assoc] at hB
            rw [List.append_assoc (bitsN 2 3), ← List.append_assoc, ← List.append_assoc]
            refine (wr_put (v := 3) (k := 2) (by decide) (by decide) (by simp only [List.length_append] at hB ⊢; omega) p1).bind fun l2 p2 => ?_
            refine (wr_put (v := 1) (k := 2) (by decide) (by decide) (by simp only [List.length_append] at hB ⊢; omega) p2).bind fun l3 p3 => ?_
            exact tail hB p3
          | false =>
            simp only [hz, hz2, cond_false, if_false, Bool.false_eq_true, Option.bind_some] at hB ⊢ tail
            rw [List.append_assoc (bitsN 2 3), ← List.append_assoc, ← List.append_assoc] at hB
            rw [List.append_assoc (bitsN 2 3), ← List.append_assoc, ← List.append_assoc]
            refine (wr_put (v := 3) (k := 2) (by decide) (by decide) (by simp only [List.length_append] at hB ⊢; omega) p1).bind fun l2 p2 => ?_
            refine (wr_put (v := 1) (k := 1) (by decide) (by decide) (by simp only [List.length_append] at hB ⊢; omega) p2).bind fun l3 p3 => ?_
            exact tail hB p3
end Go.Proofs.YtjjakdmcnkldoaaDoor
