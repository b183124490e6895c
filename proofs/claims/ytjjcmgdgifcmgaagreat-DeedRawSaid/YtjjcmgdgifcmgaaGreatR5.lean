/- Chapter 15: are parts somebody's deeds? The document's test. Plain. -/
import Derived.Test.YtjjcmgdgifcmgaaGreatR4
set_option linter.unusedVariables false
set_option linter.unusedSimpArgs false
namespace Go.Proofs.YtjjcmgdgifcmgaaGreat
open Go.Ev Go.Lib
theorem zuC (no f to : Int) (i : Bool) (t : Idt) : zij no f to (zjg i t) = some (rb no f to i t) := by
 have e : decide ((1 : Int) ≤ no) = decide ((0 : Int) < no) := by
  simp only [decide_eq_decide]; omega
 unfold rb zbV zij zfu
 rw [e]
 by_cases h1 : (0 : Int) < no
 case neg => simp only [df h1, cond_false]; rfl
 by_cases h2 : no < 4611686018427387904
 case neg => simp only [dt h1, df h2, cond_false, cond_true]; rfl
 by_cases h3 : 0 ≤ f
 case neg => simp only [dt h1, dt h2, df h3, cond_false, cond_true, Option.bind_some]; rfl
 by_cases h4 : f < 12
 case neg => simp only [dt h1, dt h2, dt h3, df h4, cond_false, cond_true, Option.bind_some]; rfl
 by_cases h5 : 0 ≤ to
 case neg => simp only [dt h1, dt h2, dt h3, dt h4, df h5, cond_false, cond_true, Option.bind_some]; rfl
 by_cases h6 : to < 12
 case neg => simp only [dt h1, dt h2, dt h3, dt h4, dt h5, df h6, cond_false, cond_true, Option.bind_some]; rfl
 by_cases h7 : f = to
 case pos => simp only [dt h1, dt h2, dt h3, dt h4, dt h5, dt h6, dt h7, cond_false, cond_true, Option.bind_some]; rfl
 simp only [dt h1, dt h2, dt h3, dt h4, dt h5, dt h6, df h7, cond_false, cond_true, Option.bind_some]
 cases i with
 | true => simp only [zjg]; rfl
 | false => cases t with
  | nil => rfl
  | mk a b c d => rfl
def toRR : zae → Int | .mk _ _ to _ => to
theorem zwS (g : zaa) : toRR (toR g) = toG g := by cases g; rfl
theorem zvZ {α β : Type} {f : α → β} {q : β → Bool} : ∀ {l : List α} {k : Nat}, fi q (l.map f) k = (fi (fun a => q (f a)) l k).map fun z => (z.1, f z.2)
 | [], k => rfl
 | a :: l, k => by
  simp only [List.map_cons, fi]
  by_cases h : q (f a) = true
  ·simp [h]
  ·simp only [h, if_false]; exact zvZ
theorem zxx {r : List zae} (h : r.length ≤ 1000) (to n n2 : Int) (l : List Int) (r2 : List zag) :
  zkZ to n n2 r l r2 = some (match fi (fun g => decide (toRR g = to)) r 0 with | some z => (z.1 : Int) | none => -1) := by
 have hs := scan (step := zdQ to r (((List.map zae.pv r)).length : Int) n n2 r l r2) (l := r) (p := fun g => decide (toRR g = to)) (ex := fun j _ => (j : Int)) (y := ()) (fun j a hj => by
  have hlt := (List.getElem?_eq_some_iff.1 hj).1
  cases a with
  | mk n4 n5 n6 t =>
   simp only [zdQ, List.length_map, dt (show (j : Int) < (r.length : Int) by omega), dt (show (0 : Int) ≤ (j : Int) by omega), cond_true, Bool.and_self, Int.toNat_natCast, hj, Option.bind_some, zdU (j : Int) (by omega) (by omega), toRR]
   by_cases hd : n6 = to <;> simp [hd, toG, toRR]) (by
  simp only [zdQ, List.length_map, df (show ¬ (r.length : Int) < (r.length : Int) by omega), cond_false])
 unfold zkZ
 rw [hs]
 cases fi (fun g => decide (toRR g = to)) r 0 <;> rfl
theorem zvI {l : List Int} (h : l.length ≤ 1000) (to n n2 : Int) (r : List zae) (r2 : List zag) : zjF to n n2 r l r2 = some (decide (to ∈ l)) := by
 have hs := scan (step := zc1 to l ((l).length : Int) n n2 r l r2) (l := l) (p := fun g => decide (g = to)) (ex := fun _ _ => ()) (y := ()) (fun j a hj => by
  have hlt := (List.getElem?_eq_some_iff.1 hj).1
  have hg : l.getD j 0 = a := by rw [List.getD_eq_getElem?_getD, hj]; rfl
  simp only [zc1, dt (show (j : Int) < (l.length : Int) by omega), dt (show (0 : Int) ≤ (j : Int) by omega), cond_true, Bool.and_self, Int.toNat_natCast, hg, zdU (j : Int) (by omega) (by omega)]
  by_cases hd : a = to <;> simp [hd]) (by
  simp only [zc1, df (show ¬ (l.length : Int) < (l.length : Int) by omega), cond_false])
 unfold zjF
 rw [hs]
 cases hf : fi (fun g => decide (g = to)) l 0 with
 | none =>
  have := zp2.1 hf
  simp only [Option.bind_some, Option.some.injEq]
  rw [df (show ¬ to ∈ l from fun hm => by have := this to hm; simp at this)]
 | some z =>
  obtain ⟨j, a⟩ := z
  obtain ⟨i, _, h2, h3, _⟩ := zl2 hf
  simp only [Option.bind_some, Option.some.injEq]
  rw [dt (by rw [← of_decide_eq_true h3]; exact List.mem_of_getElem? h2)]
theorem ztL (a b c d : Int) : zhh a b c d = some (decide (a < c ∨ a = c ∧ b < d)) := by
 unfold zhh
 by_cases h : a < c
 ·simp [h]
 ·by_cases h2 : a = c <;> simp [h, h2]
def zkT (pend : List zaa) (to : Int) : Int := match fi (fun g => decide (toG g = to)) pend 0 with | some z => (z.1 : Int) | none => -1
theorem zxR {pend : List zaa} (h : pend.length ≤ 1000) (to n n2 : Int) (l : List Int) (r2 : List zag) : zkZ to n n2 (pend.map toR) l r2 = some (zkT pend to) := by
 rw [zxx (by rw [List.length_map]; exact h), zvZ]
 simp only [zwS]
 unfold zkT
 cases fi (fun g => decide (toG g = to)) pend 0 <;> rfl
def after {α : Type} (lt : α → α → Bool) (l : List α) (k : Nat) (x : α) : Bool := match k with | 0 => true | k + 1 => match l[k]? with | some y => lt y x | none => false
theorem zhP {α : Type} {lt : α → α → Bool} {l : List α} : (∀ k x, l[k]? = some x → after lt l k x = true) ↔ Adj lt l := by
 constructor
 ·intro h i a b ha hb
  have := h (i + 1) b hb
  simp only [after, ha] at this
  exact this
 ·intro h k x hx
  cases k with
  | zero => rfl
  | succ k =>
   have hlt := (List.getElem?_eq_some_iff.1 hx).1
   unfold after
   simp only
   rw [List.getElem?_eq_getElem (show k < l.length by omega)]
   exact h k _ _ (List.getElem?_eq_getElem _) hx
section
variable {N : Nat} {self last : Int} {pend : List zaa} {gave : List Int} {took : List zac}
theorem zxG (hp : pend.length ≤ 1000) (hg : gave.length ≤ 1000) (b : Bool) :
  ∃ x, runL (zbF (pend.map toR) (pend.length : Int) self last (pend.map toR) gave (took.map toM)) (b, 0) = some x ∧
   (x = true ↔ b = true ∧ ∀ k g, pend[k]? = some g → (gt15 self last gave g && (after (fun g h => decide (noG g < noG h)) pend k g && decide (zkT pend (toG g) = (k : Int)))) = true) := by
 refine zlR (l := pend) (st := zbF (pend.map toR) (pend.length : Int) self last (pend.map toR) gave (took.map toM)) (fun k g => gt15 self last gave g && (after (fun g h => decide (noG g < noG h)) pend k g && decide (zkT pend (toG g) = (k : Int)))) (fun b k x hx => ?_) (fun b => ?_) b
 ·have hlt := (List.getElem?_eq_some_iff.1 hx).1
  have hx2 : (pend.map toR)[k]? = some (toR x) := by rw [List.getElem?_map, hx]; rfl
  cases x with | mk no f to i t =>
   simp only [toR] at hx2
   simp only [zbF, List.length_map, len1 hlt, dt (show (0 : Int) ≤ (k : Int) by omega), cond_true, Bool.and_self, Int.toNat_natCast, hx2, Option.bind_some, zdU (k : Int) (by omega) (by omega), zuC, zvI hg, zxR hp, gt15, toG]
   cases b with
   | false => rfl
   | true =>
    cases rb no f to i t with
    | false => rfl
    | true =>
     simp only [cond_true, Bool.true_and]
     by_cases q1 : f = self
     case neg => simp only [df q1, cond_false, Bool.false_and]
     by_cases q2 : no ≤ last
     case neg => simp only [dt q1, df q2, cond_true, cond_false, Bool.true_and, Bool.false_and]
     by_cases q3 : to ∈ gave
     case neg => simp only [dt q1, dt q2, df q3, cond_true, cond_false, Bool.true_and, Bool.false_and]
     simp only [dt q1, dt q2, dt q3, cond_true, Bool.true_and]
     cases k with
     | zero => simp only [Int.natCast_zero, decide_true, cond_true, after, Bool.true_and]; rfl
     | succ k =>
      have e1 : isub .i64 ((k + 1 : Nat) : Int) 1 = (k : Int) := by rw [zpm _ (by omega) (by omega)]; omega
      have hy : pend[k]? = some pend[k] := List.getElem?_eq_getElem (by omega)
      have hy2 : (pend.map toR)[k]? = some (toR pend[k]) := by rw [List.getElem?_map, hy]; rfl
      simp only [df (show ¬ ((k + 1 : Nat) : Int) = 0 by omega), cond_false, e1, dt (show (0 : Int) ≤ (k : Int) by omega), dt (show (k : Int) < (pend.length : Int) by omega), Bool.and_self, cond_true, Int.toNat_natCast, hy2, Option.bind_some, after, hy]
      cases hz : pend[k] with | mk n8 n9 n10 b2 t2 =>
       simp only [toR, noG]
       by_cases q4 : n8 < no <;> first | (simp [q4]; done) | (simp [q4]; rfl) | (simp [q4]; congr)
 ·simp only [zbF, df (show ¬ (pend.length : Int) < (pend.length : Int) by omega), cond_false]
theorem zxH (hg : gave.length ≤ 1000) (b : Bool) :
  ∃ x, runL (zbG gave (gave.length : Int) self last (pend.map toR) gave (took.map toM)) (b, 0) = some x ∧
   (x = true ↔ b = true ∧ ∀ k g, gave[k]? = some g → (nt15 self g && after (fun a b : Int => decide (a < b)) gave k g) = true) := by
 refine zlR (l := gave) (st := zbG gave (gave.length : Int) self last (pend.map toR) gave (took.map toM)) (fun k g => nt15 self g && after (fun a b : Int => decide (a < b)) gave k g) (fun b k x hx => ?_) (fun b => ?_) b
 ·have hlt := (List.getElem?_eq_some_iff.1 hx).1
  have hgx : gave.getD k 0 = x := by rw [List.getD_eq_getElem?_getD, hx]; rfl
  simp only [zbG, len1 hlt, dt (show (0 : Int) ≤ (k : Int) by omega), cond_true, Bool.and_self, Int.toNat_natCast, hgx, Option.bind_some, zdU (k : Int) (by omega) (by omega), nt15]
  cases b with
  | false => rfl
  | true =>
   simp only [cond_true, Bool.true_and]
   by_cases q1 : x < 12
   case neg => simp only [df q1, cond_false, Bool.false_and]
   by_cases q2 : x = self
   case pos => simp only [dt q1, dt q2, cond_true, Bool.not_true, Bool.true_and, Bool.false_and]
   simp only [dt q1, df q2, cond_true, cond_false, Bool.not_false, Bool.true_and]
   cases k with
   | zero => simp only [Int.natCast_zero, decide_true, cond_true, after]
   | succ k =>
    have e1 : isub .i64 ((k + 1 : Nat) : Int) 1 = (k : Int) := by rw [zpm _ (by omega) (by omega)]; omega
    have hy : gave[k]? = some gave[k] := List.getElem?_eq_getElem (by omega)
    have hy2 : gave.getD k 0 = gave[k] := by rw [List.getD_eq_getElem?_getD, hy]; rfl
    simp only [df (show ¬ ((k + 1 : Nat) : Int) = 0 by omega), cond_false, e1, dt (show (0 : Int) ≤ (k : Int) by omega), dt (show (k : Int) < (gave.length : Int) by omega), Bool.and_self, cond_true, Int.toNat_natCast, hy2, after, hy]
 ·simp only [zbG, df (show ¬ (gave.length : Int) < (gave.length : Int) by omega), cond_false]
theorem zxI (ht : took.length ≤ 1000) (b : Bool) :
  ∃ x, runL (zbH (took.map toM) (took.length : Int) self last (pend.map toR) gave (took.map toM)) (b, 0) = some x ∧
   (x = true ↔ b = true ∧ ∀ k m, took[k]? = some m → (mt15 self m && after ltM took k m) = true) := by
 refine zlR (l := took) (st := zbH (took.map toM) (took.length : Int) self last (pend.map toR) gave (took.map toM)) (fun k m => mt15 self m && after ltM took k m) (fun b k x hx => ?_) (fun b => ?_) b
 ·have hlt := (List.getElem?_eq_some_iff.1 hx).1
  have hx2 : (took.map toM)[k]? = some (toM x) := by rw [List.getElem?_map, hx]; rfl
  cases x with | mk a c =>
   simp only [toM] at hx2
   simp only [zbH, List.length_map, len1 hlt, dt (show (0 : Int) ≤ (k : Int) by omega), cond_true, Bool.and_self, Int.toNat_natCast, hx2, Option.bind_some, zdU (k : Int) (by omega) (by omega), mt15, nt15]
   cases b with
   | false => rfl
   | true =>
    simp only [cond_true, Bool.true_and]
    by_cases q1 : a < 12
    case neg => simp only [df q1, cond_false, Bool.false_and]
    by_cases q2 : a = self
    case pos => simp only [dt q1, dt q2, cond_true, Bool.not_true, Bool.true_and, Bool.false_and]
    simp only [dt q1, df q2, cond_true, cond_false, Bool.not_false, Bool.true_and]
    by_cases q3 : (0 : Int) < c
    case neg => simp only [df q3, df (show ¬ 1 ≤ c by omega), cond_false, Bool.false_and]
    by_cases q4 : c < 4611686018427387904
    case neg => simp only [dt q3, dt (show 1 ≤ c by omega), df q4, cond_true, cond_false, Bool.true_and, Bool.false_and]
    simp only [dt q3, dt (show 1 ≤ c by omega), dt q4, cond_true, Bool.true_and]
    cases k with
    | zero => simp only [Int.natCast_zero, decide_true, cond_true, after]
    | succ k =>
     have e1 : isub .i64 ((k + 1 : Nat) : Int) 1 = (k : Int) := by rw [zpm _ (by omega) (by omega)]; omega
     have hy : took[k]? = some took[k] := List.getElem?_eq_getElem (by omega)
     have hy2 : (took.map toM)[k]? = some (toM took[k]) := by rw [List.getElem?_map, hy]; rfl
     simp only [df (show ¬ ((k + 1 : Nat) : Int) = 0 by omega), cond_false, e1, dt (show (0 : Int) ≤ (k : Int) by omega), dt (show (k : Int) < (took.length : Int) by omega), Bool.and_self, cond_true, Int.toNat_natCast, hy2, Option.bind_some, after, hy]
     cases hz : took[k] with | mk n8 n9 =>
      simp only [toM, ztL, Option.bind_some, ltM]
 ·simp only [zbH, df (show ¬ (took.length : Int) < (took.length : Int) by omega), cond_false]
theorem zxs (hp : pend.length ≤ 1000) (hg : gave.length ≤ 1000) (ht : took.length ≤ 1000) (h12 : self < 12) :
  ∃ x1 x2 x3, runL (zbF (pend.map toR) (pend.length : Int) self last (pend.map toR) gave (took.map toM)) (decide (last < 4611686018427387904), 0) = some x1 ∧
   runL (zbG gave (gave.length : Int) self last (pend.map toR) gave (took.map toM)) (x1, 0) = some x2 ∧
   runL (zbH (took.map toM) (took.length : Int) self last (pend.map toR) gave (took.map toM)) (x2, 0) = some x3 ∧ (x3 = true ↔ Fine self last pend gave took) := by
 obtain ⟨x1, a1, a2⟩ := zxG (self := self) (last := last) (took := took) hp hg (decide (last < 4611686018427387904))
 obtain ⟨x2, b1, b2⟩ := zxH (self := self) (last := last) (pend := pend) (took := took) hg x1
 obtain ⟨x3, c1, c2⟩ := zxI (self := self) (last := last) (pend := pend) (gave := gave) ht x2
 refine ⟨x1, x2, x3, a1, b1, c1, ?_⟩
 rw [c2, b2, a2]
 simp only [Bool.and_eq_true, decide_eq_true_eq]
 have hto : (∀ (k : Nat) g, pend[k]? = some g → zkT pend (toG g) = (k : Int)) ↔ (pend.map toG).Nodup := by
  rw [← zw6 toG pend]
  constructor
  ·intro h k x hx
   have := h k x hx
   unfold zkT at this
   cases hf : fi (fun g => decide (toG g = toG x)) pend 0 with
   | none => rw [hf] at this; simp only at this; omega
   | some z =>
    rw [hf] at this
    simp only at this
    obtain ⟨j, y⟩ := z
    simp only at this
    have e : j = k := by omega
    exact ⟨y, by rw [e]⟩
  ·intro h k x hx
   obtain ⟨y, hy⟩ := h k x hx
   unfold zkT
   rw [hy]
 constructor
 ·rintro ⟨⟨⟨h1, h2⟩, h3⟩, h4⟩
  refine ⟨h12, h1, hto.1 fun k g hg => (h2 k g hg).2.2, zhP.1 fun k g hg => (h2 k g hg).2.1, zhP.1 fun k g hg => (h3 k g hg).2, zhP.1 fun k g hg => (h4 k g hg).2, fun g hg => ?_, fun n hn => ?_, fun m hm => ?_⟩
  ·obtain ⟨k, hk⟩ := List.mem_iff_getElem?.1 hg; exact (h2 k g hk).1
  ·obtain ⟨k, hk⟩ := List.mem_iff_getElem?.1 hn; exact (h3 k n hk).1
  ·obtain ⟨k, hk⟩ := List.mem_iff_getElem?.1 hm; exact (h4 k m hk).1
 ·intro h
  exact ⟨⟨⟨h.l, fun k g hg => ⟨h.pg g (List.mem_of_getElem? hg), zhP.2 h.no k g hg, hto.2 h.to k g hg⟩⟩, fun k n hn => ⟨h.gg n (List.mem_of_getElem? hn), zhP.2 h.ga k n hn⟩⟩, fun k m hm => ⟨h.tt m (List.mem_of_getElem? hm), zhP.2 h.tk k m hm⟩⟩
end
end Go.Proofs.YtjjcmgdgifcmgaaGreat
