/- Chapter 15: lists that are looked zqz; gifts and marks in both forms. Plain. -/
import Derived.Test.YtjjcmgdgifcmgaaGreatG10
set_option linter.unusedVariables false
set_option linter.unusedSimpArgs false
namespace Go.Proofs.YtjjcmgdgifcmgaaGreat
open Go.Ev Go.Lib
def fi {α : Type} (p : α → Bool) : List α → Nat → Option (Nat × α)
 | [], _ => none
 | a :: l, k => if p a = true then some (k, a) else fi p l (k + 1)
theorem zl5 {α : Type} {p : α → Bool} : ∀ {l : List α} {k : Nat}, fi p l k = none ↔ ∀ a ∈ l, p a = false
 | [], k => by simp [fi]
 | a :: l, k => by
  unfold fi
  cases h : p a with
  | true => simp [h]
  | false => simp [h, zl5]
theorem zkO {α : Type} {p : α → Bool} : ∀ {l : List α} {k j : Nat} {a : α}, fi p l k = some (j, a) → ∃ i, j = k + i ∧ l[i]? = some a ∧ p a = true
 | [], k, j, a, h => by simp [fi] at h
 | b :: l, k, j, a, h => by
  unfold fi at h
  cases hb : p b with
  | true =>
   rw [hb] at h
   simp only [if_true, Option.some.injEq, Prod.mk.injEq] at h
   obtain ⟨rfl, rfl⟩ := h
   exact ⟨0, rfl, rfl, hb⟩
  | false =>
   rw [hb] at h
   simp only [Bool.false_eq_true, if_false] at h
   obtain ⟨i, h1, h2, h3⟩ := zkO h
   exact ⟨i + 1, by omega, by simpa using h2, h3⟩
theorem zqR {α β : Type} {f : α → β} {q : β → Bool} : ∀ {l : List α} {k : Nat}, fi q (l.map f) k = (fi (fun a => q (f a)) l k).map fun z => (z.1, f z.2)
 | [], k => rfl
 | a :: l, k => by
  simp only [List.map_cons, fi]
  by_cases h : q (f a) = true
  ·simp [h]
  ·simp only [h, if_false]; exact zqR
theorem scan {α X Y : Type} {step : Int → Option (Int ⊕ (X ⊕ Y))} {l : List α} {p : α → Bool} {ex : Nat → α → X} {y : Y}
  (hs : ∀ (j : Nat) (a : α), l[j]? = some a → step (j : Int) = some (if p a = true then .inr (.inl (ex j a)) else .inl ((j : Int) + 1))) (he : step (l.length : Int) = some (.inr (.inr y))) :
  runL step 0 = some (match fi p l 0 with | some z => .inl (ex z.1 z.2) | none => .inr y) := by
 have key : ∀ (d k : Nat), k + d = l.length → runL step (k : Int) = some (match fi p (l.drop k) k with | some z => .inl (ex z.1 z.2) | none => .inr y) := by
  intro d
  induction d with
  | zero =>
   intro k hk
   rw [List.drop_of_length_le (by omega)]
   have : k = l.length := by omega
   subst this
   exact zbi he
  | succ d ih =>
   intro k hk
   have hlt : k < l.length := by omega
   have hd : l.drop k = l[k] :: l.drop (k + 1) := List.drop_eq_getElem_cons hlt
   have h1 := hs k l[k] (List.getElem?_eq_getElem hlt)
   rw [hd]
   unfold fi
   cases hp : p l[k] with
   | true =>
    rw [hp] at h1
    simp only [if_true] at h1 ⊢
    exact zbi h1
   | false =>
    rw [hp] at h1
    simp only [Bool.false_eq_true, if_false] at h1 ⊢
    rw [zbw h1]
    have := ih (k + 1) (by omega)
    simpa using this
 have := key l.length 0 (by omega)
 simpa using this
theorem zqz {α Y : Type} {step : Int → Option (Int ⊕ (Unit ⊕ Y))} {l : List α} {y : Y}
  (hs : ∀ (j : Nat) (a : α), l[j]? = some a → step (j : Int) = some (.inl ((j : Int) + 1))) (he : step (l.length : Int) = some (.inr (.inr y))) : runL step 0 = some (.inr y) := by
 have h := scan (step := step) (l := l) (p := fun _ => false) (ex := fun _ _ => ()) (y := y) (fun j a h => by simpa using hs j a h) he
 have h0 : fi (fun _ : α => false) l 0 = none := zl5.2 fun _ _ => rfl
 rw [h0] at h
 exact h
theorem zep (n : Int) (h0 : -1000 ≤ n) (h : n < 100000) : iadd .i64 n 1 = n + 1 := by
 unfold iadd
 simp [IntKind.wrap, IntKind.bits, IntKind.signed]
 omega
theorem zu4 (n : Int) (h0 : 0 ≤ n) (h : n < 100000) : iadd .u64 n 1 = n + 1 := by
 unfold iadd
 simp [IntKind.wrap, IntKind.bits, IntKind.signed]
 omega
theorem zoD (no f t : Int) (i : Bool) (u : Idt) : ∃ b, zbC no f t i u = some b ∧ zff no f t (zeh i u) = some b ∧ (b = true → 1 ≤ no ∧ no < 4611686018427387904 ∧ 0 ≤ f ∧ f < 12 ∧ 0 ≤ t ∧ t < 12 ∧ f ≠ t) := by
 have e : decide ((1 : Int) ≤ no) = decide ((0 : Int) < no) := by
  simp only [decide_eq_decide]; omega
 unfold zbC zff zf2
 rw [e]
 by_cases h1 : (0 : Int) < no
 case neg => exact ⟨false, by simp only [df h1, cond_false], by simp only [df h1, cond_false], fun h => by cases h⟩
 by_cases h2 : no < 4611686018427387904
 case neg => exact ⟨false, by simp only [dt h1, df h2, cond_false, cond_true], by simp only [dt h1, df h2, cond_false, cond_true], fun h => by cases h⟩
 by_cases h3 : 0 ≤ f
 case neg => exact ⟨false, by simp only [dt h1, dt h2, df h3, cond_false, cond_true, Option.bind_some], by simp only [dt h1, dt h2, df h3, cond_false, cond_true], fun h => by cases h⟩
 by_cases h4 : f < 12
 case neg => exact ⟨false, by simp only [dt h1, dt h2, dt h3, df h4, cond_false, cond_true, Option.bind_some], by simp only [dt h1, dt h2, dt h3, df h4, cond_false, cond_true], fun h => by cases h⟩
 by_cases h5 : 0 ≤ t
 case neg => exact ⟨false, by simp only [dt h1, dt h2, dt h3, dt h4, df h5, cond_false, cond_true, Option.bind_some], by simp only [dt h1, dt h2, dt h3, dt h4, df h5, cond_false, cond_true], fun h => by cases h⟩
 by_cases h6 : t < 12
 case neg => exact ⟨false, by simp only [dt h1, dt h2, dt h3, dt h4, dt h5, df h6, cond_false, cond_true, Option.bind_some], by simp only [dt h1, dt h2, dt h3, dt h4, dt h5, df h6, cond_false, cond_true], fun h => by cases h⟩
 by_cases h7 : f = t
 case pos => exact ⟨false, by simp only [dt h1, dt h2, dt h3, dt h4, dt h5, dt h6, dt h7, cond_false, cond_true, Option.bind_some], by simp only [dt h1, dt h2, dt h3, dt h4, dt h5, dt h6, dt h7, cond_false, cond_true], fun h => by cases h⟩
 simp only [dt h1, dt h2, dt h3, dt h4, dt h5, dt h6, df h7, cond_false, cond_true, Option.bind_some]
 have hk : 1 ≤ no ∧ no < 4611686018427387904 ∧ 0 ≤ f ∧ f < 12 ∧ 0 ≤ t ∧ t < 12 ∧ f ≠ t := ⟨by omega, h2, h3, h4, h5, h6, h7⟩
 cases i with
 | true => exact ⟨true, rfl, by simp only [zeh]; rfl, fun _ => hk⟩
 | false => cases u with
  | nil => exact ⟨false, rfl, rfl, fun _ => hk⟩
  | mk a b c d => exact ⟨true, rfl, rfl, fun _ => hk⟩
def noG : zaa → Int | .mk no _ _ _ _ => no
def toG : zaa → Int | .mk _ _ to _ _ => to
def toR : zaa → zab | .mk no f to i t => .mk no f to (zeh i t)
def noR : zab → Int | .mk no _ _ _ => no
def toRR : zab → Int | .mk _ _ to _ => to
theorem zvi (g : zaa) : noR (toR g) = noG g := by cases g; rfl
theorem ztc (g : zaa) : toRR (toR g) = toG g := by cases g; rfl
def okG : zaa → Prop | .mk no f to i t => nfI i t ∧ zbv t ≤ 16 ∧ 1 ≤ no ∧ no < 4611686018427387904 ∧ 0 ≤ f ∧ f < 12 ∧ 0 ≤ to ∧ to < 12
theorem zn7 {l : List zaa} (h : l.length ≤ 1000) : zbr l = some () := by
 unfold zbr
 rw [if_pos (zdg (by omega))]
theorem zgn {r : List zaa} (h : r.length ≤ 1000) (n n2 : Int) (m : List (Int × Int)) (m2 : List ((Int × Int) × Int)) : za4 n n2 r m m2 = some () := by
 unfold za4
 rw [zn7 h]
 rfl
theorem zqV {r : List zaa} (h : r.length ≤ 1000) (no : Int) : zbj r no = some (match fi (fun g => decide (noG g = no)) r 0 with | some z => (z.1 : Int) | none => -1) := by
 have hs := scan (step := za6 r (((List.map zaa.pv r)).length : Int) no) (l := r) (p := fun g => decide (noG g = no)) (ex := fun j _ => (j : Int)) (y := ()) (fun j a hj => by
  have hlt := (List.getElem?_eq_some_iff.1 hj).1
  cases a with
  | mk n4 n5 n6 b t =>
   simp only [za6, List.length_map, dt (show (j : Int) < (r.length : Int) by omega), dt (show (0 : Int) ≤ (j : Int) by omega), cond_true, Bool.and_self, Int.toNat_natCast, hj, Option.bind_some, zee, zep (j : Int) (by omega) (by omega), noG]
   by_cases hd : n4 = no <;> simp [hd, noG]) (by
  simp only [za6, List.length_map, df (show ¬ (r.length : Int) < (r.length : Int) by omega), cond_false])
 unfold zbj
 rw [hs]
 cases fi (fun g => decide (noG g = no)) r 0 <;> rfl
theorem zrZ {r : List zaa} (h : r.length ≤ 1000) (no n n2 : Int) (m : List (Int × Int)) (m2 : List ((Int × Int) × Int)) :
  zbV no n n2 r m m2 = some (match fi (fun g => decide (noG g = no)) r 0 with | some z => (0, r.eraseIdx z.1) | none => (2, r)) := by
 unfold zbV
 rw [zgn h, List.length_map, List.take_length, zqV h]
 cases hf : fi (fun g => decide (noG g = no)) r 0 with
 | none => rfl
 | some z =>
  obtain ⟨j, a⟩ := z
  obtain ⟨i, h1, h2, _⟩ := zkO hf
  have hlt := (List.getElem?_eq_some_iff.1 h2).1
  have hj : j = i := by omega
  subst hj
  simp only [Option.bind_some, df (show ¬ (j : Int) < 0 by omega), cond_false, zep (j : Int) (by omega) (by omega), zb8]
  rw [if_pos ⟨by omega, by omega, by omega, by omega⟩]
  simp only [Option.bind_some, Option.some.injEq, Prod.mk.injEq, true_and, Int.toNat_natCast]
  have e1 : ((j : Int) + 1).toNat = j + 1 := by omega
  rw [e1, List.eraseIdx_eq_take_drop_succ, show j + 1 - j = 1 by omega]
  rw [← List.append_assoc]
  exact List.take_left' (by simp; omega)
theorem zvm {r : List zaa} (h : r.length ≤ 1000) (to n n2 : Int) (m : List (Int × Int)) (m2 : List ((Int × Int) × Int)) :
  zcR to n n2 r m m2 = some (match fi (fun g => decide (toG g = to)) r 0 with | some z => (match z.2 with | .mk a b c d e => (a, b, c, d, e, true)) | none => (0, 0, 0, false, .nil, false)) := by
 have hs := scan (step := zbk to (((List.map zaa.pv r)).length : Int) n n2 r m m2 r) (l := r) (p := fun g => decide (toG g = to)) (ex := fun _ g => match g with | .mk a b c d e => (a, b, c, d, e)) (y := ()) (fun j a hj => by
  have hlt := (List.getElem?_eq_some_iff.1 hj).1
  cases a with
  | mk n4 n5 n6 b t =>
   simp only [zbk, List.length_map, dt (show (j : Int) < (r.length : Int) by omega), dt (show (0 : Int) ≤ (j : Int) by omega), cond_true, Bool.and_self, Int.toNat_natCast, Nat.zero_add, hj, Option.bind_some, zep (j : Int) (by omega) (by omega), toG]
   by_cases hd : n6 = to <;> simp [hd, toG, toRR]) (by
  simp only [zbk, List.length_map, df (show ¬ (r.length : Int) < (r.length : Int) by omega), cond_false])
 unfold zcR
 rw [zgn h, hs]
 cases fi (fun g => decide (toG g = to)) r 0 with
 | none => rfl
 | some z => obtain ⟨j, a⟩ := z; cases a; rfl
theorem zuh {r : List zab} (h : r.length ≤ 1000) (to n n2 : Int) (l : List Int) (r2 : List zac) :
  zg4 to n n2 r l r2 = some (match fi (fun g => decide (toRR g = to)) r 0 with | some z => (z.1 : Int) | none => -1) := by
 have hs := scan (step := zcQ to r (((List.map zab.pv r)).length : Int) n n2 r l r2) (l := r) (p := fun g => decide (toRR g = to)) (ex := fun j _ => (j : Int)) (y := ()) (fun j a hj => by
  have hlt := (List.getElem?_eq_some_iff.1 hj).1
  cases a with
  | mk n4 n5 n6 t =>
   simp only [zcQ, List.length_map, dt (show (j : Int) < (r.length : Int) by omega), dt (show (0 : Int) ≤ (j : Int) by omega), cond_true, Bool.and_self, Int.toNat_natCast, hj, Option.bind_some, zep (j : Int) (by omega) (by omega), toRR]
   by_cases hd : n6 = to <;> simp [hd, toG, toRR]) (by
  simp only [zcQ, List.length_map, df (show ¬ (r.length : Int) < (r.length : Int) by omega), cond_false])
 unfold zg4
 rw [hs]
 cases fi (fun g => decide (toRR g = to)) r 0 <;> rfl
theorem ztR {r : List zab} (h : r.length ≤ 1000) (no n n2 : Int) (l : List Int) (r2 : List zac) :
  zeG no n n2 r l r2 = some (match fi (fun g => decide (noR g = no)) r 0 with | some z => (0, r.eraseIdx z.1) | none => (2, r)) := by
 have hs := scan (step := zci no r (((List.map zab.pv r)).length : Int) n n2 r l r2) (l := r) (p := fun g => decide (noR g = no)) (ex := fun j _ => r.eraseIdx j) (y := ()) (fun j a hj => by
  have hlt := (List.getElem?_eq_some_iff.1 hj).1
  cases a with
  | mk n4 n5 n6 t =>
   simp only [zci, List.length_map, dt (show (j : Int) < (r.length : Int) by omega), dt (show (0 : Int) ≤ (j : Int) by omega), cond_true, Bool.and_self, Int.toNat_natCast, hj, Option.bind_some, zep (j : Int) (by omega) (by omega), noR]
   by_cases hd : n4 = no
   case neg =>
    simp only [df hd, cond_false]
    simp [hd]
   case pos =>
    have e1 : ((j : Int) + 1).toNat = j + 1 := by omega
    have e2 : ((r.length : Int) - ((j : Int) + 1)).toNat = r.length - (j + 1) := by omega
    have e3 : ((j : Int) - 0).toNat = j := by omega
    have e4 : List.take (r.length - (j + 1)) (List.drop (j + 1) r) = List.drop (j + 1) r := List.take_of_length_le (by simp)
    simp only [dt hd, cond_true, if_true, dt (show (0 : Int) ≤ (j : Int) + 1 by omega), dt (show (j : Int) + 1 ≤ (r.length : Int) by omega), dt (show (r.length : Int) ≤ (r.length : Int) by omega), decide_true, Bool.and_self, dt (show (0 : Int) ≤ 0 by omega), dt (show (j : Int) ≤ (r.length : Int) by omega), e1, e2, e3, e4, List.nil_append, List.length_take, List.length_map, List.length_append, List.length_drop]
    rw [List.eraseIdx_eq_take_drop_succ]
    by_cases hj0 : j = 0
    ·subst hj0
     rw [zdg (by omega)]
     simp [Nat.beq, hd]
    ·have hb : Nat.beq (min j r.length) 0 = false := by
      rw [Nat.min_eq_left (by omega)]
      cases j with
      | zero => exact absurd rfl hj0
      | succ j => rfl
     have f1 : fits (min j r.length) = true := zdg (by omega)
     have f2 : fits (min j r.length + (r.length - (j + 1))) = true := zdg (by omega)
     simp only [Nat.min_self, hb, f1, f2, cond_false, cond_true]
     simp [hd]) (by
  simp only [zci, List.length_map, df (show ¬ (r.length : Int) < (r.length : Int) by omega), cond_false])
 unfold zeG
 rw [hs]
 cases fi (fun g => decide (noR g = no)) r 0 with
 | none => rfl
 | some z => simp only [Option.bind_some, List.length_map, List.take_length]
theorem zoC {l : List Int} (h : l.length ≤ 1000) (to n n2 : Int) (r : List zac) (r2 : List zab) : zeH to n n2 l r r2 = some (decide (to ∈ l)) := by
 have hs := scan (step := zcj to l ((l).length : Int) n n2 l r r2) (l := l) (p := fun g => decide (g = to)) (ex := fun _ _ => ()) (y := ()) (fun j a hj => by
  have hlt := (List.getElem?_eq_some_iff.1 hj).1
  have hg : l.getD j 0 = a := by rw [List.getD_eq_getElem?_getD, hj]; rfl
  simp only [zcj, dt (show (j : Int) < (l.length : Int) by omega), dt (show (0 : Int) ≤ (j : Int) by omega), cond_true, Bool.and_self, Int.toNat_natCast, hg, zep (j : Int) (by omega) (by omega)]
  by_cases hd : a = to <;> simp [hd]) (by
  simp only [zcj, df (show ¬ (l.length : Int) < (l.length : Int) by omega), cond_false])
 unfold zeH
 rw [hs]
 cases hf : fi (fun g => decide (g = to)) l 0 with
 | none =>
  have := zl5.1 hf
  simp only [Option.bind_some, Option.some.injEq]
  rw [df (fun hm => by have := this to hm; simp at this)]
 | some z =>
  obtain ⟨j, a⟩ := z
  obtain ⟨i, _, h2, h3⟩ := zkO hf
  simp only [Option.bind_some, Option.some.injEq]
  rw [dt (by rw [← of_decide_eq_true h3]; exact List.mem_of_getElem? h2)]
theorem zpu {l : List Int} (h : l.length ≤ 1000) (to n n2 : Int) (r : List zab) (r2 : List zac) : zgd to n n2 r l r2 = some (decide (to ∈ l)) := by
 have hs := scan (step := zck to l ((l).length : Int) n n2 r l r2) (l := l) (p := fun g => decide (g = to)) (ex := fun _ _ => ()) (y := ()) (fun j a hj => by
  have hlt := (List.getElem?_eq_some_iff.1 hj).1
  have hg : l.getD j 0 = a := by rw [List.getD_eq_getElem?_getD, hj]; rfl
  simp only [zck, dt (show (j : Int) < (l.length : Int) by omega), dt (show (0 : Int) ≤ (j : Int) by omega), cond_true, Bool.and_self, Int.toNat_natCast, hg, zep (j : Int) (by omega) (by omega)]
  by_cases hd : a = to <;> simp [hd]) (by
  simp only [zck, df (show ¬ (l.length : Int) < (l.length : Int) by omega), cond_false])
 unfold zgd
 rw [hs]
 cases hf : fi (fun g => decide (g = to)) l 0 with
 | none =>
  have := zl5.1 hf
  simp only [Option.bind_some, Option.some.injEq]
  rw [df (fun hm => by have := this to hm; simp at this)]
 | some z =>
  obtain ⟨j, a⟩ := z
  obtain ⟨i, _, h2, h3⟩ := zkO hf
  simp only [Option.bind_some, Option.some.injEq]
  rw [dt (by rw [← of_decide_eq_true h3]; exact List.mem_of_getElem? h2)]
def mkR : zac → Int × Int | .mk a b => (a, b)
theorem zrf {r2 : List zac} (h : r2.length ≤ 1000) (f no n n2 : Int) (r : List zab) (l : List Int) : zgi f no n n2 r l r2 = some (decide ((f, no) ∈ r2.map mkR)) := by
 have hs := scan (step := zcl r2 (((List.map zac.pv r2)).length : Int) n n2 r l r2 f no) (l := r2) (p := fun g => decide (mkR g = (f, no))) (ex := fun _ _ => ()) (y := ()) (fun j a hj => by
  have hlt := (List.getElem?_eq_some_iff.1 hj).1
  cases a with
  | mk x y =>
   simp only [zcl, List.length_map, dt (show (j : Int) < (r2.length : Int) by omega), dt (show (0 : Int) ≤ (j : Int) by omega), cond_true, Bool.and_self, Int.toNat_natCast, hj, Option.bind_some, zep (j : Int) (by omega) (by omega), mkR, Prod.mk.injEq, Bool.and_true]
   by_cases h1 : x = f <;> by_cases h2 : y = no <;> simp [h1, h2]) (by
  simp only [zcl, List.length_map, df (show ¬ (r2.length : Int) < (r2.length : Int) by omega), cond_false])
 unfold zgi
 rw [hs]
 cases hf : fi (fun g => decide (mkR g = (f, no))) r2 0 with
 | none =>
  have := zl5.1 hf
  simp only [Option.bind_some, Option.some.injEq]
  rw [df (fun hm => by obtain ⟨g, hg, he⟩ := List.mem_map.1 hm; have := this g hg; simp [he] at this)]
 | some z =>
  obtain ⟨j, a⟩ := z
  obtain ⟨i, _, h2, h3⟩ := zkO hf
  simp only [Option.bind_some, Option.some.injEq]
  rw [dt (List.mem_map.2 ⟨a, List.mem_of_getElem? h2, of_decide_eq_true h3⟩)]
end Go.Proofs.YtjjcmgdgifcmgaaGreat
