/- PaperCards. Plain. -/
import Derived.Test.YteiikkpajcggfaaGreatDoorPT5
set_option linter.unusedVariables false
set_option linter.unusedSimpArgs false
namespace Go.Proofs.YteiikkpajcggfaaGreatDoor
open Go.Ev Go.Lib
theorem read_fwd {c : List Fd} (hf : Fit c) (h8 : c.length ≤ 8) : paper_ReadCard (encC c) = some (c, 0) := by
 have hl := encC_len hf h8
 have hg := get_fwd hf h8 (rest := []) (fun x hx => (by cases hx)) (by simp)
 rw [List.append_nil] at hg
 unfold paper_ReadCard wire_Of
 rw [fits_of (by omega), cond_true, hg]
 simp only [Option.bind_some]
 unfold wire_In_End
 simp only [W.left_eq, W.err_eq, Option.bind_some]
 rfl
theorem end_nil : wire_In_End [] 0 = some (0, 0) := by
 unfold wire_In_End
 simp only [W.left_eq, W.err_eq, Option.bind_some]
 rfl
theorem paperCards_true {N : Nat} (hN : 1000 < N) {l m : List Fd} (h1 : l.length ≤ 9223372036854775807) (h2 : m.length ≤ 9223372036854775807) (front : List Int) : kinfolklaw10_PaperCards_2 N l m front = some true := by
 unfold kinfolklaw10_PaperCards_2
 have hb1 : (0 : Int) ≤ (if 20 < (front.length : Int) then 20 else (front.length : Int)) ∧ (if 20 < (front.length : Int) then 20 else (front.length : Int)) ≤ (front.length : Int) ∧ (if 20 < (front.length : Int) then 20 else (front.length : Int)) ≤ 20 := by split <;> omega
 generalize (if 20 < (front.length : Int) then (20 : Int) else (front.length : Int)) = mm at *
 have hq : (List.take (mm - 0).toNat front).length ≤ 20 := by rw [List.length_take]; omega
 generalize List.take (mm - 0).toNat front = q at *
 have z0 : decide ((0 : Int) ≤ 0) = true := decide_eq_true (by omega)
 rw [awake10_go, made2_go hN h1, made2_go hN h2, decide_eq_true hb1.1, decide_eq_true hb1.2.1, z0]
 have hfa := card_fit l
 have ha8 := (cardV_is l).few
 have hfb := card_fit m
 have hb8 := (cardV_is m).few
 generalize cardV l = r at *
 generalize cardV m = r3 at *
 have hla := encC_len hfa ha8
 have hlb := encC_len hfb hb8
 have fa : paper_Card r = some (encC r) := card_w (by omega) hfa.small
 have fb : paper_Card r3 = some (encC r3) := card_w (by omega) hfb.small
 have hR := read_fwd hfa ha8
 have hg1 := get_fwd hfa ha8 (rest := encC r3) (encC_bytes (by omega) hfb.small) (by omega)
 have hg2 := get_fwd hfb hb8 (rest := []) (fun x hx => (by cases hx)) (by simp)
 rw [List.append_nil] at hg2
 have rA := rcard_go hN (l := r) (by omega) hfa.small
 have rB := rcard_go hN (l := r3) (by omega) hfb.small
 have sAA : kinfolkref06_Same (encC r) (encC r) = some true := by rw [W.same_eq (by omega)]; simp
 have sAB : kinfolkref06_Same (encC r) (encC r3) = some (decide (r = r3)) := by
  rw [W.same_eq (by omega)]
  congr 1
  exact decide_eq_decide.2 ⟨fun h => encC_inj hfa ha8 hfb hb8 h, fun h => by rw [h]⟩
 have cAB : card_Same r r3 = some (decide (r = r3)) := csame_go (by omega)
 have cAA : card_Same r r = some true := by rw [csame_go (by omega)]; simp
 have cBB : card_Same r3 r3 = some true := by rw [csame_go (by omega)]; simp
 have pl := less10_go hfa ha8 hfb hb8
 have rl := rless10_go (a := encC r) (b := encC r3) (by omega) (by omega)
 have putq := put_w (p := q) (c := r) (by omega) (by omega) hfa.small
 have jn : kinfolkref06_Join [(E_L_uint8.mk q), (E_L_uint8.mk (encC r))] = some (q ++ encC r) := by
  rw [join_go (by simp) (by simp only [List.flatMap_cons, List.flatMap_nil, jl, List.length_append, List.length_nil]; omega)]
  simp only [List.flatMap_cons, List.flatMap_nil, jl, List.append_nil]
 have sq : kinfolkref06_Same (q ++ encC r) (q ++ encC r) = some true := by rw [W.same_eq (by rw [List.length_append]; omega)]; simp
 have wo : wire_Of (encC r ++ encC r3) = some () := by unfold wire_Of; rw [fits_of (by rw [List.length_append]; omega)]; rfl
 have f1 : fits (encC r).length = true := fits_of (by omega)
 have f2 : fits (encC r ++ encC r3).length = true := fits_of (by rw [List.length_append]; omega)
 have b1 : ∀ b : Bool, (b == b) = true := fun b => by cases b <;> rfl
 simp only [Option.bind_some, cond_true, decide_true, Bool.and_self]
 by_cases hz : q.length = 0
 ·have hnil : q = [] := List.length_eq_zero_iff.1 hz
  subst hnil
  have hbq : Nat.beq ([] : List Int).length 0 = true := rfl
  rw [hbq, cond_true, fa, fb]
  simp only [Option.bind_some]
  rw [hR]
  simp only [Option.bind_some, List.nil_append, List.take_length]
  rw [encC_ne, cond_false, f1, cond_true, f2, cond_true, wo]
  simp only [Option.bind_some]
  rw [hg1]
  simp only [Option.bind_some]
  rw [hg2]
  simp only [Option.bind_some]
  rw [rA]
  simp only [Option.bind_some]
  rw [sAA]
  simp only [Option.bind_some, cond_true]
  rw [List.nil_append] at putq jn sq
  rw [putq]
  simp only [Option.bind_some]
  rw [jn]
  simp only [Option.bind_some]
  rw [sAA]
  simp only [Option.bind_some, cond_true, decide_true]
  rw [cAA]
  simp only [Option.bind_some, cond_true]
  rw [sAB, cAB]
  simp only [Option.bind_some, b1, cond_true]
  rw [pl, rB]
  simp only [Option.bind_some]
  rw [rl]
  simp only [Option.bind_some, b1, cond_true]
  rw [cBB, end_nil]
  simp only [Option.bind_some, cond_true, decide_true]
 ·have hbq : Nat.beq q.length 0 = false := Bool.eq_false_iff.2 fun h => hz (Nat.eq_of_beq_eq_true h)
  have fq : fits q.length = true := fits_of (by omega)
  have fq2 : fits (q ++ [90]).length = true := fits_of (by simp; omega)
  have g90 : (q ++ [90]).getD (0 + ((q.length : Nat) : Int).toNat) 0 = (90 : Int) := by
   rw [Nat.zero_add, Int.toNat_natCast, List.getD, List.getElem?_append_right (Nat.le_refl _), Nat.sub_self]; rfl
  have t90 : List.take (((q.length : Nat) : Int) - 0).toNat (q ++ [90]) = q := by
   rw [Int.sub_zero, Int.toNat_natCast, List.take_left]
  have l90 : decide (((q.length : Nat) : Int) ≤ (((q ++ [90]).length : Nat) : Int)) = true := decide_eq_true (by simp; omega)
  have m90 : decide (((q.length : Nat) : Int) < (((q ++ [90]).length : Nat) : Int)) = true := decide_eq_true (by simp; omega)
  rw [hbq, cond_false]
  simp only [List.nil_append, List.take_length]
  rw [fq, cond_true, hbq, cond_false, fq2, cond_true, fa, fb]
  simp only [Option.bind_some]
  rw [hR]
  simp only [Option.bind_some, List.take_length]
  rw [encC_ne, cond_false, f1, cond_true, f2, cond_true, wo]
  simp only [Option.bind_some]
  rw [hg1]
  simp only [Option.bind_some]
  rw [hg2]
  simp only [Option.bind_some]
  rw [rA]
  simp only [Option.bind_some]
  rw [sAA]
  simp only [Option.bind_some, cond_true, l90, m90, g90, t90, le0, decide_true, Bool.and_self]
  rw [putq]
  simp only [Option.bind_some]
  rw [jn]
  simp only [Option.bind_some]
  rw [sq]
  simp only [Option.bind_some, cond_true, decide_true]
  rw [cAA]
  simp only [Option.bind_some, cond_true]
  rw [sAB, cAB]
  simp only [Option.bind_some, b1, cond_true]
  rw [pl, rB]
  simp only [Option.bind_some]
  rw [rl]
  simp only [Option.bind_some, b1, cond_true]
  rw [cBB, end_nil]
  simp only [Option.bind_some, cond_true, decide_true]
end Go.Proofs.YteiikkpajcggfaaGreatDoor
