/- Chapter 15: any bytes are the document's deeds, or have its error. Plain. -/
import Derived.Test.YtjjcmgdgifcmgaaGreatR6
set_option linter.unusedVariables false
set_option linter.unusedSimpArgs false
namespace Go.Proofs.YtjjcmgdgifcmgaaGreat
open Go.Ev Go.Lib
theorem zsw {l : List zaa} (h : l.length ≤ 1000) : zbm l = some () := by
 unfold zbm
 rw [if_pos (zfX (by omega))]
theorem zuq {r : List zaa} (h : r.length ≤ 1000) (n n2 : Int) (m : List (Int × Int)) (m2 : List ((Int × Int) × Int)) : zch n n2 r m m2 = some () := by
 unfold zch
 rw [zsw h]
 rfl
theorem zvp {r : List zaa} (h : r.length ≤ 1000) (no : Int) : zbO r no = some (match fi (fun g => decide (noG g = no)) r 0 with | some z => (z.1 : Int) | none => -1) := by
 have hs := scan (step := zaN r (((List.map zaa.pv r)).length : Int) no) (l := r) (p := fun g => decide (noG g = no)) (ex := fun j _ => (j : Int)) (y := ()) (fun j a hj => by
  have hlt := (List.getElem?_eq_some_iff.1 hj).1
  cases a with
  | mk n4 n5 n6 b t =>
   simp only [zaN, List.length_map, dt (show (j : Int) < (r.length : Int) by omega), dt (show (0 : Int) ≤ (j : Int) by omega), cond_true, Bool.and_self, Int.toNat_natCast, hj, Option.bind_some, zeK, zdU (j : Int) (by omega) (by omega), noG]
   by_cases hd : n4 = no <;> simp [hd, noG]) (by
  simp only [zaN, List.length_map, df (show ¬ (r.length : Int) < (r.length : Int) by omega), cond_false])
 unfold zbO
 rw [hs]
 cases fi (fun g => decide (noG g = no)) r 0 <;> rfl
theorem zwk {r : List zaa} (h : r.length ≤ 1000) (no n n2 : Int) (m : List (Int × Int)) (m2 : List ((Int × Int) × Int)) :
  zdK no n n2 r m m2 = some (match fi (fun g => decide (noG g = no)) r 0 with | some z => (0, r.eraseIdx z.1) | none => (2, r)) := by
 unfold zdK
 rw [zuq h, List.length_map, List.take_length, zvp h]
 cases hf : fi (fun g => decide (noG g = no)) r 0 with
 | none => rfl
 | some z =>
  obtain ⟨j, a⟩ := z
  obtain ⟨i, h1, h2, _⟩ := zl2 hf
  have hlt := (List.getElem?_eq_some_iff.1 h2).1
  have hj : j = i := by omega
  subst hj
  simp only [Option.bind_some, df (show ¬ (j : Int) < 0 by omega), cond_false, zdU (j : Int) (by omega) (by omega), zcY]
  rw [if_pos ⟨by omega, by omega, by omega, by omega⟩]
  simp only [Option.bind_some, Option.some.injEq, Prod.mk.injEq, true_and, Int.toNat_natCast]
  have e1 : ((j : Int) + 1).toNat = j + 1 := by omega
  rw [e1, List.eraseIdx_eq_take_drop_succ, show j + 1 - j = 1 by omega]
  rw [← List.append_assoc]
  exact List.take_left' (by simp; omega)
theorem zw2 : zbm [] = some () := zsw (by simp)
theorem zxo (n n2 : Int) (m : List (Int × Int)) (m2 : List ((Int × Int) × Int)) : zcC n n2 m m2 = some () := by simp [zcC, zw2]
theorem zwT (to n n2 : Int) (m : List (Int × Int)) (m2 : List ((Int × Int) × Int)) : zfr to n n2 m m2 = some (0, 0, 0, false, zab.nil, false) := by
 have h : runL (zcB to (((List.map zaa.pv [])).length : Int) n n2 m m2) 0 = some (.inr ()) := zaA (by simp [zcB])
 unfold zfr
 rw [h, zxo]
 rfl
theorem zwc : zib = some true := by
 have g : zeB 2 true zab.nil 0 0 [] [] = some (.inr (1, 1, [.mk 1 0 2 true .nil], [(2, 1)])) := by
  unfold zeB
  have h1 : iadd .u64 0 1 = 1 := rfl
  have hr : zbV 1 0 2 true zab.nil = some true := rfl
  simp only [zfp, zfq, Option.bind_some, zwT, h1, hr, cond_true, cond_false, zxo]
  rfl
 have d : zdK 1 0 1 [.mk 1 0 2 true .nil] [(2, 1)] [] = some (0, []) := by
  rw [zwk (by simp)]
  rfl
 have v : zeA 2 0 1 [] [(2, 1)] [] = some true := by
  simp [zeA, mget]
 simp only [zib, zjV, zkr, g, Option.bind_some, decide_true, cond_true, d, v, zuq (show ([] : List zaa).length ≤ 1000 by simp)]
 rfl
theorem i64w {x : Int} (h0 : 0 ≤ x) (h : x < 2147483648) : IntKind.i64.wrap x = x := by
 simp [IntKind.wrap, IntKind.bits, IntKind.signed]; omega
theorem triR {pend : List zae} {gave : List Int} {took : List zag} {self last : Int} {α : Type} (hp : pend.length ≤ 1000) (hg : gave.length ≤ 1000) (ht : took.length ≤ 1000) (x : Option α) :
  ((runL (zcr pend (pend.length : Int) self last pend gave took) 0).bind fun _ =>
   (runL (zcs gave ((gave).length : Int) self last pend gave took) 0).bind fun _ =>
   (runL (zct took (took.length : Int) self last pend gave took) 0).bind fun _ => x) = x := by
 rw [thru (l := pend) (fun j a ha => by
   have hlt := (List.getElem?_eq_some_iff.1 ha).1
   cases a
   simp only [zcr, List.length_map, len1 hlt, dt (show (0 : Int) ≤ (j : Int) by omega), cond_true, Bool.and_self, Int.toNat_natCast, ha, Option.bind_some, zdU (j : Int) (by omega) (by omega)])
  (by simp only [zcr, df (show ¬ (pend.length : Int) < (pend.length : Int) by omega), cond_false]),
  thru (l := gave) (fun j a ha => by
   have hlt := (List.getElem?_eq_some_iff.1 ha).1
   simp only [zcs, len1 hlt, dt (show (0 : Int) ≤ (j : Int) by omega), cond_true, Bool.and_self, zdU (j : Int) (by omega) (by omega)])
  (by simp only [zcs, df (show ¬ (gave.length : Int) < (gave.length : Int) by omega), cond_false]),
  thru (l := took) (fun j a ha => by
   have hlt := (List.getElem?_eq_some_iff.1 ha).1
   cases a
   simp only [zct, List.length_map, len1 hlt, dt (show (0 : Int) ≤ (j : Int) by omega), cond_true, Bool.and_self, Int.toNat_natCast, ha, Option.bind_some, zdU (j : Int) (by omega) (by omega)])
  (by simp only [zct, df (show ¬ (took.length : Int) < (took.length : Int) by omega), cond_false])]
 rfl
theorem zgP {α : Type} {f : α → List Int} {l : List α} (h : ∀ x ∈ l, 1 ≤ (f x).length) : l.length ≤ (l.flatMap f).length := by
 induction l with
 | nil => simp
 | cons x l ih =>
  have h1 := h x (by simp)
  have h2 := ih fun y hy => h y (by simp [hy])
  simp only [List.flatMap_cons, List.length_append, List.length_cons]
  omega
theorem zwY {N : Nat} (hN : 100 ≤ N) {self last : Int} {pend : List zaa} {gave : List Int} {took : List zac} {q : List Int} (hl : q.length ≤ 1000) (s0 : 0 ≤ self) (s1 : self < 2147483648) (l0 : 0 ≤ last) (F : Fine self last pend gave took)
  (op : ∀ g ∈ pend, okR N g) (og : ∀ x ∈ gave, okI x) (ot : ∀ m ∈ took, okM0 m)
  (hq : q = W.varint self ++ (W.varint last ++ (W.varint (pend.length : Int) ++ (pend.flatMap (zg7 N) ++ (W.varint (gave.length : Int) ++ (gave.flatMap W.varint ++ (W.varint (took.length : Int) ++ took.flatMap zjh))))))) :
  zdl N self last pend (gave.map fun x => (x, (1 : Int))) (took.map fun m => (mkP m, (1 : Int))) = some q := by
 have hlen := congrArg List.length hq
 simp only [List.length_append] at hlen
 have fp : pend.length ≤ (pend.flatMap (zg7 N)).length := zgP fun x _ => by
  cases x with | mk no f to i t => simp only [zg7, List.length_append]; have := zeg no; omega
 have fg : gave.length ≤ (gave.flatMap W.varint).length := zgP fun x _ => zeg x
 have ft : took.length ≤ (took.flatMap zjh).length := zgP fun x _ => by
  cases x with | mk a b => simp only [zjh, List.length_append]; have := zeg a; omega
 have hs1 : gave.Pairwise (· < ·) := (F.ga.pairwise fun a b c h1 h2 => by simp only [decide_eq_true_eq] at *; omega).imp fun {a b} h => of_decide_eq_true h
 have hi := zxc hs1 (by omega) og
 have hm := zwC (F.tk.pairwise zq3) (by omega) (fun m hm => ⟨ot m hm, by
  have := F.tt m hm
  cases m with | mk a b => simp only [mt15, Bool.and_eq_true, decide_eq_true_eq] at this; exact this.2.2⟩)
 have w : ∀ {n : Nat}, n ≤ 1000 → IntKind.u64.wrap (n : Int) = (n : Int) := fun h => zso (by omega) (by omega)
 have e1 := W.num_eq (p := []) (n := self) s0 (by omega) (by simp)
 have e2 := W.num_eq (p := [] ++ W.varint self) (n := last) l0 (by have := F.l; omega) (by simp only [List.length_append, List.length_nil]; omega)
 have e3 := W.num_eq (p := [] ++ W.varint self ++ W.varint last) (n := (pend.length : Int)) (by omega) (by omega) (by simp only [List.length_append, List.length_nil]; omega)
 have e4 := out1 hN op (by omega) self last (gave.map fun x => (x, (1 : Int))) (took.map fun m => (mkP m, (1 : Int))) ([] ++ W.varint self ++ W.varint last ++ W.varint (pend.length : Int)) (by simp only [List.length_append, List.length_nil]; omega)
 have e5 := W.num_eq (p := [] ++ W.varint self ++ W.varint last ++ W.varint (pend.length : Int) ++ pend.flatMap (zg7 N)) (n := (gave.length : Int)) (by omega) (by omega) (by simp only [List.length_append, List.length_nil]; omega)
 have e6 := out2 og (by omega) self last pend (gave.map fun x => (x, (1 : Int))) (took.map fun m => (mkP m, (1 : Int))) ([] ++ W.varint self ++ W.varint last ++ W.varint (pend.length : Int) ++ pend.flatMap (zg7 N) ++ W.varint (gave.length : Int)) (by simp only [List.length_append, List.length_nil]; omega)
 have e7 := W.num_eq (p := [] ++ W.varint self ++ W.varint last ++ W.varint (pend.length : Int) ++ pend.flatMap (zg7 N) ++ W.varint (gave.length : Int) ++ gave.flatMap W.varint) (n := (took.length : Int)) (by omega) (by omega) (by simp only [List.length_append, List.length_nil]; omega)
 have e8 := out3 ot (by omega) self last pend (gave.map fun x => (x, (1 : Int))) (took.map fun m => (mkP m, (1 : Int))) ([] ++ W.varint self ++ W.varint last ++ W.varint (pend.length : Int) ++ pend.flatMap (zg7 N) ++ W.varint (gave.length : Int) ++ gave.flatMap W.varint ++ W.varint (took.length : Int)) (by simp only [List.length_append, List.length_nil]; omega)
 unfold zdl
 simp only [List.length_map, zso s0 s1, w (show pend.length ≤ 1000 by omega), w (show gave.length ≤ 1000 by omega), w (show took.length ≤ 1000 by omega), e1, e2, e3, Option.bind_some, e4, e5, zgS, hi, e6, e7, ze4, zfI, hm, e8, Option.some.injEq]
 rw [hq]
 simp only [List.nil_append, List.append_assoc]
theorem zwM {N : Nat} (hN : 100 ≤ N) {q : List Int} (hb : Bytes q) (hl : q.length ≤ 1000) :
  (∃ e, e ≠ 0 ∧ zg2 N q = some (.inr e) ∧ zgD N q = some (.inr e)) ∨
  (∃ self last pend gave took rp, zg2 N q = some (.inl (self, last, pend, gave, took)) ∧ zgD N q = some (.inl rp) ∧ zdl N self last pend gave took = some q) := by
 obtain ⟨v1, a1, e1, p1, q1, l1, n1, m1, c1⟩ := zly hb (by omega) (at_ := 0) (by omega) 0
 rw [List.drop_zero] at p1 c1
 have q1 : zdD q 0 0 = _ := q1
 obtain ⟨v2, a2, e2, p2, q2, l2, n2, m2, c2⟩ := W.num_spec hb (by omega) l1 e1
 have wu := zso n1 m1
 have wi := i64w n1 m1
 obtain ⟨pend, a3, e3, p3, q3, l3, c3⟩ := zxO hN hb hl l2 e2 v1 v2 v1 v2
 obtain ⟨gave, a4, e4, p4, q4, l4, c4⟩ := zxP hb hl l3 e3 v1 v2 v1 v2 pend (pend.map toR)
 obtain ⟨took, a5, e5, p5, q5, l5, c5⟩ := zxQ hb hl l4 e4 v1 v2 v1 v2 pend gave (pend.map toR) gave
 obtain ⟨z3, h3, q3⟩ := zaf q3
 obtain ⟨z31, z32, z33⟩ := z3
 obtain ⟨z4, h4, q4⟩ := zaf q4
 obtain ⟨z41, z42, z43⟩ := z4
 obtain ⟨z5, h5, q5⟩ := zaf q5
 obtain ⟨z51, z52, z53⟩ := z5
 obtain ⟨er, r1, r2, r3⟩ : ∃ er, zhm (q.drop a5) e5 = some (er, er) ∧ zls q a5 e5 = some (er, er) ∧ (er = 0 → e5 = 0 ∧ a5 = q.length) := by
  unfold zhm zhA zls
  rw [List.length_drop]
  simp only [Option.bind_some, W.fail_eq, zic, W.err_eq]
  by_cases hh : a5 < q.length
  ·simp only [dt (show (0 : Int) < ((q.length - a5 : Nat) : Int) by omega), dt (show (a5 : Int) < (q.length : Int) by omega), cond_true]
   by_cases he : e5 = 0
   ·exact ⟨6, by simp [he], by simp [he], fun h => by cases h⟩
   ·exact ⟨e5, by simp [he], by simp [he], fun h => absurd h he⟩
  ·simp only [df (show ¬ (0 : Int) < ((q.length - a5 : Nat) : Int) by omega), df (show ¬ (a5 : Int) < (q.length : Int) by omega), cond_false]
   exact ⟨e5, rfl, rfl, fun h => ⟨h, by omega⟩⟩
 have hof : zoQ q = some () := by
  unfold zoQ
  rw [zrR (by omega)]
  rfl
 have hP : zg2 N q = (bif decide (er = 0) then (zdn v1 v2 pend gave took).bind fun b2 => bif b2 then
   (runL (zbz gave (gave.length : Int) v1 v2 pend gave took v1 v2 pend) (0, [])).bind fun m_ =>
   (runL (zbA took (took.length : Int) v1 v2 pend m_) (0, [])).bind fun m_2 => some (.inl (v1, v2, pend, m_, m_2)) else some (.inr 6) else some (.inr er)) := by
  unfold zg2
  simp only [hof, Option.bind_some, p1, p2, wu, wi, p3, p4, p5, r1, List.length_map, List.take_length, zjV]
 have hR : zgD N q = (bif decide (er = 0) then (bif decide (v1 < 12) then
   (runL (zbF (pend.map toR) (pend.length : Int) v1 v2 (pend.map toR) gave (took.map toM)) (decide (v2 < 4611686018427387904), 0)).bind fun b =>
   (runL (zbG gave (gave.length : Int) v1 v2 (pend.map toR) gave (took.map toM)) (b, 0)).bind fun b2 =>
   (runL (zbH (took.map toM) (took.length : Int) v1 v2 (pend.map toR) gave (took.map toM)) (b2, 0)).bind fun b3 =>
   bif b3 then some (.inl (v1, v2, pend.map toR, gave, took.map toM)) else some (.inr 6)
   else some (.inr 6)) else some (.inr er)) := by
  unfold zgD
  simp only [q1, q2, Option.bind_some, h3, q3, h4, q4, h5, q5, r2, List.length_map, List.take_length]
  cases hd : decide (er = 0) with
  | false => rfl
  | true =>
   simp only [cond_true]
   cases hd2 : decide (v1 < 12) with
   | true => rfl
   | false =>
    simp only [cond_false]
    have he := of_decide_eq_true hd
    obtain ⟨h50, h5l⟩ := r3 he
    obtain ⟨h40, ot, _, d5⟩ := c5 h50
    obtain ⟨h30, og, _, d4⟩ := c4 h40
    obtain ⟨h20, op, _, d3⟩ := c3 h30
    have x3 := congrArg List.length d3
    have x4 := congrArg List.length d4
    have x5 := congrArg List.length d5
    simp only [List.length_append, List.length_drop] at x3 x4 x5
    have fp : pend.length ≤ (pend.flatMap (zg7 N)).length := zgP fun x _ => by
     cases x with | mk no f to i t => simp only [zg7, List.length_append]; have := zeg no; omega
    have fg : gave.length ≤ (gave.flatMap W.varint).length := zgP fun x _ => zeg x
    have ft : took.length ≤ (took.flatMap zjh).length := zgP fun x _ => by
     cases x with | mk a b => simp only [zjh, List.length_append]; have := zeg a; omega
    have := triR (pend := pend.map toR) (gave := gave) (took := took.map toM) (self := v1) (last := v2) (by rw [List.length_map]; omega) (by omega) (by rw [List.length_map]; omega) (some (Sum.inr 6 : (Int × Int × List zae × List Int × List zag) ⊕ Int))
    simp only [List.length_map] at this
    exact this
 by_cases he : er = 0
 case neg => exact .inl ⟨er, he, by rw [hP, df he]; rfl, by rw [hR, df he]; rfl⟩
 obtain ⟨h50, h5l⟩ := r3 he
 obtain ⟨h40, ot, _, d5⟩ := c5 h50
 obtain ⟨h30, og, _, d4⟩ := c4 h40
 obtain ⟨h20, op, _, d3⟩ := c3 h30
 obtain ⟨h10, k2, d2, x2⟩ := c2 h20
 obtain ⟨_, k1, d1, x1⟩ := c1 h10
 have y1 := W.dec_var hb d1
 have y2 := W.dec_var (hb.drop a1) d2
 rw [List.drop_drop, ← x2] at y2
 rw [show k1 = a1 by omega] at y1
 rw [h5l, List.drop_length, List.append_nil] at d5
 have hq : q = W.varint v1 ++ (W.varint v2 ++ (W.varint (pend.length : Int) ++ (pend.flatMap (zg7 N) ++ (W.varint (gave.length : Int) ++ (gave.flatMap W.varint ++ (W.varint (took.length : Int) ++ took.flatMap zjh)))))) := by
  rw [← d5, ← d4, ← d3, ← y2, ← y1]
 have hlen := congrArg List.length hq
 simp only [List.length_append] at hlen
 have fp : pend.length ≤ (pend.flatMap (zg7 N)).length := zgP fun x _ => by
  cases x with | mk no f to i t => simp only [zg7, List.length_append]; have := zeg no; omega
 have fg : gave.length ≤ (gave.flatMap W.varint).length := zgP fun x _ => zeg x
 have ft : took.length ≤ (took.flatMap zjh).length := zgP fun x _ => by
  cases x with | mk a b => simp only [zjh, List.length_append]; have := zeg a; omega
 obtain ⟨b, b1, b2⟩ := zxr (self := v1) (last := v2) (by omega) (by omega) (by omega) op og ot
 rw [dt he] at hP hR
 simp only [cond_true] at hP hR
 rw [b1] at hP
 simp only [Option.bind_some] at hP
 by_cases h12 : v1 < 12
 case neg =>
  have : b = false := by
   cases b with
   | false => rfl
   | true => exact absurd (b2.1 rfl).s h12
  subst this
  exact .inl ⟨6, by decide, hP, by rw [hR, df h12]; rfl⟩
 obtain ⟨x1, x2, x3, t1, t2, t3, t4⟩ := zxs (self := v1) (last := v2) (pend := pend) (gave := gave) (took := took) (by omega) (by omega) (by omega) h12
 rw [dt h12] at hR
 simp only [cond_true, t1, t2, t3, Option.bind_some] at hR
 cases b with
 | false =>
  have : x3 = false := by
   cases x3 with
   | false => rfl
   | true => have := b2.2 (t4.1 rfl); cases this
  subst this
  exact .inl ⟨6, by decide, hP, hR⟩
 | true =>
  have F := b2.1 rfl
  have : x3 = true := t4.2 F
  subst this
  simp only [cond_true] at hP hR
  have hn1 : gave.Nodup := (F.ga.pairwise fun a b c h1 h2 => by simp only [decide_eq_true_eq] at *; omega).imp fun {a b} h => by have := of_decide_eq_true h; omega
  have hn2 : (took.map mkP).Nodup := by
   unfold List.Nodup
   rw [List.pairwise_map]
   refine (F.tk.pairwise zq3).imp fun {a b} h e => ?_
   rw [zqg, e] at h
   omega
  have g1 := zw3 hn1 (by omega) v1 v2 v1 v2 pend pend gave took
  have g2 := zw4 hn2 (by omega) v1 v2 pend (gave.map fun x => (x, (1 : Int)))
  rw [List.length_map] at g2
  rw [g1] at hP
  simp only [Option.bind_some] at hP
  rw [g2] at hP
  exact .inr ⟨v1, v2, pend, _, _, _, hP, hR, zwY hN hl n1 m1 n2 F op og ot hq⟩
theorem zwg {l : List Int} (h : l.length ≤ 1000) : zdS l = some () := by
 unfold zdS
 rw [if_pos (zfX (by omega))]
theorem zxN {N : Nat} (hN : 100 ≤ N) {p : List Int} (hb : Bytes p) : zgz N p = some true := by
 unfold zgz
 rw [zwc]
 generalize hq : List.take ((if (100 : Int) < ((p).length : Int) then 100 else ((p).length : Int)) - 0).toNat p = q
 have hlq : q.length ≤ 1000 := by
  rw [← hq, List.length_take]
  split <;> omega
 have hbq : Bytes q := by rw [← hq]; exact fun x hx => hb x (List.mem_of_mem_take hx)
 have key : ∀ c : Bool, c = true → ∀ x y : Option Bool, (bif c then x else y) = x := fun c h x y => by rw [h]; rfl
 simp only [Option.bind_some, cond_true]
 refine (key _ ?_ _ _).trans ?_
 ·simp only [Bool.and_eq_true, decide_eq_true_eq]
  refine ⟨⟨⟨by omega, ?_⟩, ?_⟩, trivial⟩ <;> split <;> omega
 rw [zwg hlq]
 simp only [Option.bind_some]
 rcases zwM hN hbq hlq with ⟨e, he, h1, h2⟩ | ⟨self, last, pend, gave, took, rp, h1, h2, h3⟩
 ·rw [h1, h2]
  simp only [Option.bind_some, decide_true, cond_true]
 ·obtain ⟨r1, r2, r3, r4, r5⟩ := rp
  rw [h1, h2]
  simp only [Option.bind_some, h3, W.same_eq (a := q) (b := q) (by omega), decide_true]
end Go.Proofs.YtjjcmgdgifcmgaaGreat
