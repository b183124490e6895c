/- Chapter 15: deeds read, part by part, by the program and by the document. Plain. -/
import Derived.Test.YtjjcmgdgifcmgaaGreatR1
set_option linter.unusedVariables false
set_option linter.unusedSimpArgs false
namespace Go.Proofs.YtjjcmgdgifcmgaaGreat
open Go.Ev Go.Lib
def toM : zac → zag | .mk a b => .mk a b
def okI (x : Int) : Prop := 0 ≤ x ∧ x < 2147483648
def okM0 : zac → Prop | .mk a b => 0 ≤ a ∧ a < 2147483648 ∧ 0 ≤ b ∧ b < 18446744073709551616
noncomputable def zjh : zac → List Int | .mk a b => W.varint a ++ W.varint b
theorem zrR {n : Nat} (h : n ≤ 2000) : fits n = true := zfX (by omega)
theorem zxO {N : Nat} {p : List Int} (hN : 100 ≤ N) (hb : Bytes p) (hp : p.length ≤ 1000) {at_ : Nat} (ha : at_ ≤ p.length) (e n2 n3 m2 m3 : Int) :
  ∃ new : List zaa, ∃ at2 : Nat, ∃ e2 : Int, zh7 N (p.drop at_) e n2 n3 = some (p.drop at2, e2, new) ∧
   ((zcc p at_ e).bind fun (n7, n8, n9) => runL (zbC N p m2 m3) (n7, n8, n9, [])) = some ((at2 : Int), e2, new.map toR) ∧ at2 ≤ p.length ∧
   (e2 = 0 → e = 0 ∧ (∀ x ∈ new, okR N x) ∧ (new.length : Int) < 18446744073709551616 ∧ p.drop at_ = W.varint (new.length : Int) ++ (new.flatMap (zg7 N) ++ p.drop at2)) := by
 obtain ⟨v1, a1, e1, p1, q1, l1, n1, m1, c1⟩ := W.num_spec hb (by omega) ha e
 obtain ⟨new, at2, e2, t1, t2, t3, t4⟩ := both (p := p) (A := zaa) (B := zae) (by omega) toR (zg7 N) (okR N) (stP := zb9 N n2 n3) (stR := zbC N p m2 m3)
  (fun n l e r h => by simp only [zb9, df h, cond_false]) (fun n a e r h => by simp only [zbC, df h, cond_false])
  (fun n l e r h he => by simp only [zb9, dt h, cond_true, W.err_eq, Option.bind_some, df he, cond_false]) (fun n a e r h he => by simp only [zbC, dt h, cond_true, df he, cond_false])
  (fun n at_ r h ha hr => by
   obtain ⟨no, f, to, i, t, at2, e2, g1, g2, g3, g4⟩ := zxC (N := N) hN hb (by omega) ha 0
   refine ⟨.mk no f to i t, at2, e2, ?_, ?_, g3, fun h0 => ?_⟩
   ·simp only [zb9, dt h, cond_true, W.err_eq, Option.bind_some, decide_true, ziD, g1]
    rw [zrR (by simp only [List.length_append, List.length_map, List.length_cons, List.length_nil]; omega)]
    simp only [cond_true, Option.bind_some]
   ·simp only [zbC, dt h, cond_true, decide_true, Option.bind_some, g2]
    rw [zrR (by simp only [List.length_append, List.length_map, List.length_cons, List.length_nil]; omega)]
    simp only [cond_true, toR]
   ·obtain ⟨-, k1, k2⟩ := g4 h0
    refine ⟨?_, k1, k2⟩
    have := congrArg List.length k2
    have v := zeg no
    simp only [List.length_append, zg7, List.length_drop] at this
    omega)
  (p.length + 1) v1 a1 e1 [] n1 m1 l1 (fun h => ⟨by simp, by omega⟩)
 have t2 : runL (zbC N p m2 m3) (v1, (a1 : Int), e1, []) = _ := t2
 rw [List.nil_append] at t1 t2
 refine ⟨new, at2, e2, ?_, ?_, t3, fun h => ?_⟩
 ·unfold zh7
  rw [p1]
  simp only [Option.bind_some, t1]
 ·rw [q1]
  simp only [Option.bind_some, t2]
 ·obtain ⟨u1, u2, u3, u4⟩ := t4 h
  obtain ⟨z0, k1, d1, x1⟩ := c1 u1
  have y1 := W.dec_var (hb.drop at_) d1
  rw [List.drop_drop, ← x1] at y1
  exact ⟨z0, u3, by omega, by rw [y1, u4, u2]⟩
theorem zxP {p : List Int} (hb : Bytes p) (hp : p.length ≤ 1000) {at_ : Nat} (ha : at_ ≤ p.length) (e n2 n3 m2 m3 : Int) (r : List zaa) (r' : List zae) :
  ∃ new : List Int, ∃ at2 : Nat, ∃ e2 : Int, zgw (p.drop at_) e n2 n3 r [] [] = some (p.drop at2, e2, new) ∧
   ((zcc p at_ e).bind fun (n7, n8, n9) => runL (zbD p m2 m3 r') (n7, n8, n9, [])) = some ((at2 : Int), e2, new) ∧ at2 ≤ p.length ∧
   (e2 = 0 → e = 0 ∧ (∀ x ∈ new, okI x) ∧ (new.length : Int) < 18446744073709551616 ∧ p.drop at_ = W.varint (new.length : Int) ++ (new.flatMap W.varint ++ p.drop at2)) := by
 obtain ⟨v1, a1, e1, p1, q1, l1, n1, m1, c1⟩ := W.num_spec hb (by omega) ha e
 obtain ⟨new, at2, e2, t1, t2, t3, t4⟩ := both (p := p) (A := Int) (B := Int) (by omega) (fun x => x) W.varint okI (stP := zbP n2 n3 r []) (stR := zbD p m2 m3 r')
  (fun n l e r h => by simp only [zbP, df h, cond_false]) (fun n a e r h => by simp only [zbD, df h, cond_false])
  (fun n l e r h he => by simp only [zbP, dt h, cond_true, W.err_eq, Option.bind_some, df he, cond_false]) (fun n a e r h he => by simp only [zbD, dt h, cond_true, df he, cond_false])
  (fun n at_ l h ha hr => by
   obtain ⟨x, at2, e2, g1, g2, g3, g4, g5, g6⟩ := zly hb (by omega) ha 0
   refine ⟨x, at2, e2, ?_, ?_, g3, fun h0 => ?_⟩
   ·simp only [zbP, dt h, cond_true, W.err_eq, Option.bind_some, decide_true, ziE, g1]
    rw [zrR (by simp only [List.length_append, List.length_cons, List.length_nil]; omega)]
    simp only [cond_true, Option.bind_some]
   ·simp only [zbD, dt h, cond_true, decide_true, Option.bind_some, g2, List.map_id']
    rw [zrR (by simp only [List.length_append, List.length_cons, List.length_nil]; omega)]
    simp only [cond_true]
   ·obtain ⟨-, k1, d1, x1⟩ := g6 h0
    have y1 := W.dec_var (hb.drop at_) d1
    rw [List.drop_drop, ← x1] at y1
    have := (W.dec_k d1).1
    exact ⟨by omega, ⟨g4, g5⟩, y1⟩)
  (p.length + 1) v1 a1 e1 [] n1 m1 l1 (fun h => ⟨by simp, by omega⟩)
 have t2 : runL (zbD p m2 m3 r') (v1, (a1 : Int), e1, []) = _ := t2
 rw [List.nil_append] at t1 t2
 rw [List.map_id'] at t2
 refine ⟨new, at2, e2, ?_, ?_, t3, fun h => ?_⟩
 ·unfold zgw
  rw [p1]
  simp only [Option.bind_some, t1]
 ·rw [q1]
  simp only [Option.bind_some, t2]
 ·obtain ⟨u1, u2, u3, u4⟩ := t4 h
  obtain ⟨z0, k1, d1, x1⟩ := c1 u1
  have y1 := W.dec_var (hb.drop at_) d1
  rw [List.drop_drop, ← x1] at y1
  exact ⟨z0, u3, by omega, by rw [y1, u4, u2]⟩
theorem zxQ {p : List Int} (hb : Bytes p) (hp : p.length ≤ 1000) {at_ : Nat} (ha : at_ ≤ p.length) (e n2 n3 m2 m3 : Int) (r : List zaa) (l : List Int) (r' : List zae) (l' : List Int) :
  ∃ new : List zac, ∃ at2 : Nat, ∃ e2 : Int, zgx (p.drop at_) e n2 n3 r l [] = some (p.drop at2, e2, new) ∧
   ((zcc p at_ e).bind fun (n7, n8, n9) => runL (zbE p m2 m3 r' l') (n7, n8, n9, [])) = some ((at2 : Int), e2, new.map toM) ∧ at2 ≤ p.length ∧
   (e2 = 0 → e = 0 ∧ (∀ x ∈ new, okM0 x) ∧ (new.length : Int) < 18446744073709551616 ∧ p.drop at_ = W.varint (new.length : Int) ++ (new.flatMap zjh ++ p.drop at2)) := by
 obtain ⟨v1, a1, e1, p1, q1, l1, n1, m1, c1⟩ := W.num_spec hb (by omega) ha e
 obtain ⟨new, at2, e2, t1, t2, t3, t4⟩ := both (p := p) (A := zac) (B := zag) (by omega) toM zjh okM0 (stP := zbQ n2 n3 r l) (stR := zbE p m2 m3 r' l')
  (fun n l e r h => by simp only [zbQ, df h, cond_false]) (fun n a e r h => by simp only [zbE, df h, cond_false])
  (fun n l e r h he => by simp only [zbQ, dt h, cond_true, W.err_eq, Option.bind_some, df he, cond_false]) (fun n a e r h he => by simp only [zbE, dt h, cond_true, df he, cond_false])
  (fun n at_ r h ha hr => by
   obtain ⟨x, at1, e1, g1, g2, g3, g4, g5, g6⟩ := zly hb (by omega) ha 0
   obtain ⟨y, at2, e2, f1, f2, f3, f4, f5, f6⟩ := W.num_spec hb (by omega) g3 e1
   refine ⟨.mk x y, at2, e2, ?_, ?_, f3, fun h0 => ?_⟩
   ·simp only [zbQ, dt h, cond_true, W.err_eq, Option.bind_some, decide_true, ziF, g1, f1]
    rw [zrR (by simp only [List.length_append, List.length_map, List.length_cons, List.length_nil]; omega)]
    simp only [cond_true, Option.bind_some]
   ·simp only [zbE, dt h, cond_true, decide_true, Option.bind_some, g2, f2]
    rw [zrR (by simp only [List.length_append, List.length_map, List.length_cons, List.length_nil]; omega)]
    simp only [cond_true, toM]
   ·obtain ⟨h1, k2, d2, x2⟩ := f6 h0
    obtain ⟨-, k1, d1, x1⟩ := g6 h1
    have y1 := W.dec_var (hb.drop at_) d1
    rw [List.drop_drop, ← x1] at y1
    have y2 := W.dec_var (hb.drop at1) d2
    rw [List.drop_drop, ← x2] at y2
    have := (W.dec_k d1).1
    exact ⟨by omega, ⟨g4, g5, f4, f5⟩, by simp only [zjh]; rw [y1, y2, List.append_assoc]⟩)
  (p.length + 1) v1 a1 e1 [] n1 m1 l1 (fun h => ⟨by simp, by omega⟩)
 have t2 : runL (zbE p m2 m3 r' l') (v1, (a1 : Int), e1, []) = _ := t2
 rw [List.nil_append] at t1 t2
 refine ⟨new, at2, e2, ?_, ?_, t3, fun h => ?_⟩
 ·unfold zgx
  rw [p1]
  simp only [Option.bind_some, t1]
 ·rw [q1]
  simp only [Option.bind_some, t2]
 ·obtain ⟨u1, u2, u3, u4⟩ := t4 h
  obtain ⟨z0, k1, d1, x1⟩ := c1 u1
  have y1 := W.dec_var (hb.drop at_) d1
  rw [List.drop_drop, ← x1] at y1
  exact ⟨z0, u3, by omega, by rw [y1, u4, u2]⟩
end Go.Proofs.YtjjcmgdgifcmgaaGreat
