/- Chapter 15: are parts somebody's deeds? The program's test. Plain. -/
import Derived.Test.YtjjcmgdgifcmgaaGreatR3
set_option linter.unusedVariables false
set_option linter.unusedSimpArgs false
namespace Go.Proofs.YtjjcmgdgifcmgaaGreat
open Go.Ev Go.Lib
def noG : zaa → Int | .mk no _ _ _ _ => no
def toG : zaa → Int | .mk _ _ to _ _ => to
noncomputable def rb (no f to : Int) (i : Bool) (t : Idt) : Bool := (zbV no f to i t).getD false
noncomputable def gt15 (self last : Int) (gave : List Int) : zaa → Bool
 | .mk no f to i t => rb no f to i t && (decide (f = self) && (decide (no ≤ last) && decide (to ∈ gave)))
def ltM : zac → zac → Bool | .mk a b, .mk c d => decide (a < c ∨ a = c ∧ b < d)
def nt15 (self x : Int) : Bool := decide (x < 12) && !decide (x = self)
def mt15 (self : Int) : zac → Bool | .mk a b => nt15 self a && (decide (1 ≤ b) && decide (b < 4611686018427387904))
structure Fine (me last : Int) (pend : List zaa) (gave : List Int) (took : List zac) : Prop where
 s : me < 12
 l : last < 4611686018427387904
 to : (pend.map toG).Nodup
 no : Adj (fun g h => decide (noG g < noG h)) pend
 ga : Adj (fun a b : Int => decide (a < b)) gave
 tk : Adj ltM took
 pg : ∀ g ∈ pend, gt15 me last gave g = true
 gg : ∀ n ∈ gave, nt15 me n = true
 tt : ∀ m ∈ took, mt15 me m = true
theorem zvJ (no f to : Int) (i : Bool) (t : Idt) : zbV no f to i t = some (rb no f to i t) := by
 have : ∃ b, zbV no f to i t = some b := by
  unfold zbV zfu
  by_cases h1 : 1 ≤ no
  case neg => exact ⟨false, by simp only [df h1, cond_false]⟩
  by_cases h2 : no < 4611686018427387904
  case neg => exact ⟨false, by simp only [dt h1, df h2, cond_false, cond_true]⟩
  simp only [dt h1, dt h2, cond_true]
  by_cases h3 : 0 ≤ f
  case neg => exact ⟨false, by simp only [df h3, cond_false, Option.bind_some]⟩
  by_cases h4 : f < 12
  case neg => exact ⟨false, by simp only [dt h3, df h4, cond_false, cond_true, Option.bind_some]⟩
  simp only [dt h3, dt h4, cond_true, Option.bind_some]
  by_cases h5 : 0 ≤ to
  case neg => exact ⟨false, by simp only [df h5, cond_false, Option.bind_some]⟩
  by_cases h6 : to < 12
  case neg => exact ⟨false, by simp only [dt h5, df h6, cond_false, cond_true, Option.bind_some]⟩
  simp only [dt h5, dt h6, cond_true, Option.bind_some]
  by_cases h7 : f = to
  case pos => exact ⟨false, by simp only [dt h7, cond_true]⟩
  simp only [df h7, cond_false, zqN, Option.bind_some]
  exact ⟨_, rfl⟩
 obtain ⟨b, h⟩ := this
 unfold rb
 rw [h]
 rfl
theorem cmpU (x y : Int) : zbR x y = some (if x < y then -1 else if y < x then 1 else 0) := by
 unfold zbR zcI
 by_cases h1 : x < y
 ·simp [h1]
 ·by_cases h2 : y < x <;> simp [h1, h2]
theorem cmpI (x y : Int) : zcA x y = some (if x < y then -1 else if y < x then 1 else 0) := by
 unfold zcA zdV
 by_cases h1 : x < y
 ·simp [h1]
 ·by_cases h2 : y < x <;> simp [h1, h2]
theorem zwH (a b c d : Int) : ∃ n, zfU a b c d = some n ∧ (0 ≤ n ↔ ¬ (a < c ∨ a = c ∧ b < d)) := by
 unfold zfU
 rw [cmpI, cmpU]
 simp only [Option.bind_some, or2]
 refine ⟨_, rfl, ?_⟩
 by_cases h1 : a < c
 ·simp [h1]
 ·by_cases h2 : c < a
  ·simp [h1, h2]; omega
  ·have : a = c := by omega
   subst this
   by_cases h3 : b < d
   ·simp [h3]
   ·by_cases h4 : d < b <;> simp [h3, h4]
theorem zso {x : Int} (h0 : 0 ≤ x) (h : x < 2147483648) : IntKind.u64.wrap x = x := by
 simp [IntKind.wrap, IntKind.bits, IntKind.signed]; omega
theorem len1 {k n : Nat} (h : k < n) : decide ((k : Int) < (n : Int)) = true := dt (by omega)
theorem zrJ {l : List Int} (hl : l.length ≤ 1000) (v : Int) : zc5 l v = some (decide (v ∈ l)) := by
 have hs := scan (step := zbs l v (l.length : Int)) (l := l) (p := fun g => decide (v = g)) (ex := fun j _ => (j : Int)) (y := ()) (fun j a hj => by
  have hlt := (List.getElem?_eq_some_iff.1 hj).1
  have hg : l.getD j 0 = a := by rw [List.getD_eq_getElem?_getD, hj]; rfl
  simp only [zbs, len1 hlt, dt (show (0 : Int) ≤ (j : Int) by omega), cond_true, Bool.and_self, Int.toNat_natCast, hg, zdU (j : Int) (by omega) (by omega)]
  by_cases hd : v = a <;> simp [hd]) (by
  simp only [zbs, df (show ¬ (l.length : Int) < (l.length : Int) by omega), cond_false])
 unfold zc5 zfc
 rw [hs]
 cases hf : fi (fun g => decide (v = g)) l 0 with
 | none =>
  have := zp2.1 hf
  simp only [Option.bind_some, Option.some.injEq]
  rw [df (show ¬ v ∈ l from fun hm => by have := this v hm; simp at this)]
  rfl
 | some z =>
  obtain ⟨j, a⟩ := z
  obtain ⟨i, _, h2, h3, _⟩ := zl2 hf
  have h3 : v = a := of_decide_eq_true h3
  simp only [Option.bind_some, Option.some.injEq]
  rw [dt (show (0 : Int) ≤ (j : Int) by omega), dt (show v ∈ l by rw [h3]; exact List.mem_of_getElem? h2)]
theorem zxt {l : List zaa} (hl : l.length ≤ 1000) : ∃ b, zcR l = some b ∧ (b = true ↔ Adj (fun g h => decide (noG g < noG h)) l) := by
 obtain ⟨z, h1, h2⟩ := zuz (l := l) (lt := fun g h => decide (noG g < noG h)) (st := za5 l) (fun i a b ha hb => by
  have hlt := (List.getElem?_eq_some_iff.1 hb).1
  have e1 : isub .i64 ((i : Int) + 1) 1 = (i : Int) := by rw [zpm _ (by omega) (by omega)]; omega
  have e2 : iadd .i64 ((i : Int) + 1) 1 = (i : Int) + 2 := by rw [zdU _ (by omega) (by omega)]; omega
  have e3 : ((i : Int) + 1).toNat = i + 1 := by omega
  cases a with | mk n n2 n3 b1 t => cases b with | mk n4 n5 n6 b2 t2 =>
   simp only [za5, List.length_map, dt (show (i : Int) + 1 < (l.length : Int) by omega), cond_true, e1, dt (show (0 : Int) ≤ (i : Int) by omega), dt (show (i : Int) < (l.length : Int) by omega), dt (show (0 : Int) ≤ (i : Int) + 1 by omega), Bool.and_self, Int.toNat_natCast, e3, ha, hb, Option.bind_some, zen, cmpU, e2, noG, decide_eq_true_eq]
   by_cases h : n < n4
   ·simp [h]
   ·by_cases h' : n4 < n <;> simp [h, h'])
  (fun k hk => by simp only [za5, List.length_map, df (show ¬ k < (l.length : Int) by omega), cond_false])
 unfold zcR
 rw [h1]
 cases z with
 | inl u => exact ⟨false, rfl, ⟨fun h => (by cases h), fun h => (by obtain ⟨u, hu⟩ := h2.2 h; cases hu)⟩⟩
 | inr u => exact ⟨true, rfl, ⟨fun _ => h2.1 ⟨u, rfl⟩, fun _ => rfl⟩⟩
theorem zxu {l : List Int} (hl : l.length ≤ 1000) : ∃ b, ze1 l = some b ∧ (b = true ↔ Adj (fun a b : Int => decide (a < b)) l) := by
 obtain ⟨z, h1, h2⟩ := zuz (l := l) (lt := fun a b : Int => decide (a < b)) (st := zbU l) (fun i a b ha hb => by
  have hlt := (List.getElem?_eq_some_iff.1 hb).1
  have e1 : isub .i64 ((i : Int) + 1) 1 = (i : Int) := by rw [zpm _ (by omega) (by omega)]; omega
  have e2 : iadd .i64 ((i : Int) + 1) 1 = (i : Int) + 2 := by rw [zdU _ (by omega) (by omega)]; omega
  have e3 : ((i : Int) + 1).toNat = i + 1 := by omega
  have ga : l.getD i 0 = a := by rw [List.getD_eq_getElem?_getD, ha]; rfl
  have gb : l.getD (i + 1) 0 = b := by rw [List.getD_eq_getElem?_getD, hb]; rfl
  simp only [zbU, dt (show (i : Int) + 1 < (l.length : Int) by omega), cond_true, e1, dt (show (0 : Int) ≤ (i : Int) by omega), dt (show (i : Int) < (l.length : Int) by omega), dt (show (0 : Int) ≤ (i : Int) + 1 by omega), Bool.and_self, Int.toNat_natCast, e3, ga, gb, Option.bind_some, cmpI, e2, decide_eq_true_eq]
  by_cases h : a < b
  ·simp [h]
  ·by_cases h' : b < a <;> simp [h, h'])
  (fun k hk => by simp only [zbU, df (show ¬ k < (l.length : Int) by omega), cond_false])
 unfold ze1
 rw [h1]
 cases z with
 | inl u => exact ⟨false, rfl, ⟨fun h => (by cases h), fun h => (by obtain ⟨u, hu⟩ := h2.2 h; cases hu)⟩⟩
 | inr u => exact ⟨true, rfl, ⟨fun _ => h2.1 ⟨u, rfl⟩, fun _ => rfl⟩⟩
theorem zxv {l : List zac} (hl : l.length ≤ 1000) : ∃ b, zcS l = some b ∧ (b = true ↔ Adj ltM l) := by
 obtain ⟨z, h1, h2⟩ := zuz (l := l) (lt := ltM) (st := za6 l) (fun i a b ha hb => by
  have hlt := (List.getElem?_eq_some_iff.1 hb).1
  have e1 : isub .i64 ((i : Int) + 1) 1 = (i : Int) := by rw [zpm _ (by omega) (by omega)]; omega
  have e2 : iadd .i64 ((i : Int) + 1) 1 = (i : Int) + 2 := by rw [zdU _ (by omega) (by omega)]; omega
  have e3 : ((i : Int) + 1).toNat = i + 1 := by omega
  cases a with | mk n n2 => cases b with | mk n3 n4 =>
   obtain ⟨m, hm, hm2⟩ := zwH n n2 n3 n4
   simp only [za6, List.length_map, dt (show (i : Int) + 1 < (l.length : Int) by omega), cond_true, e1, dt (show (0 : Int) ≤ (i : Int) by omega), dt (show (i : Int) < (l.length : Int) by omega), dt (show (0 : Int) ≤ (i : Int) + 1 by omega), Bool.and_self, Int.toNat_natCast, e3, ha, hb, Option.bind_some, hm, e2, ltM, decide_eq_true_eq]
   by_cases h : n < n3 ∨ n = n3 ∧ n2 < n4
   ·rw [df (fun hc => hm2.1 hc h), if_pos h]; rfl
   ·rw [dt (hm2.2 h), if_neg h]; rfl)
  (fun k hk => by simp only [za6, List.length_map, df (show ¬ k < (l.length : Int) by omega), cond_false])
 unfold zcS
 rw [h1]
 cases z with
 | inl u => exact ⟨false, rfl, ⟨fun h => (by cases h), fun h => (by obtain ⟨u, hu⟩ := h2.2 h; cases hu)⟩⟩
 | inr u => exact ⟨true, rfl, ⟨fun _ => h2.1 ⟨u, rfl⟩, fun _ => rfl⟩⟩
section
variable {N : Nat} {self last : Int} {pend : List zaa} {gave : List Int} {took : List zac}
theorem zxf (hl : pend.length ≤ 1000) : ∃ m, runL (zaZ pend (((List.map zaa.pv pend)).length : Int) self last pend gave took) (0, []) = some m ∧ m.map (·.1) = znR [] (pend.map toG) := by
 have key : ∀ (d k : Nat) (m : List (Int × Int)), k + d = pend.length → ∃ m', runL (zaZ pend (((List.map zaa.pv pend)).length : Int) self last pend gave took) ((k : Int), m) = some m' ∧ m'.map (·.1) = znR (m.map (·.1)) ((pend.drop k).map toG) := by
  intro d
  induction d with
  | zero =>
   intro k m hk
   rw [List.drop_of_length_le (by omega)]
   refine ⟨m, zaA ?_, rfl⟩
   simp only [zaZ, List.length_map, df (show ¬ (k : Int) < (pend.length : Int) by omega), cond_false]
  | succ d ih =>
   intro k m hk
   have hlt : k < pend.length := by omega
   have hd : pend.drop k = pend[k] :: pend.drop (k + 1) := List.drop_eq_getElem_cons hlt
   have hg := List.getElem?_eq_getElem hlt
   rw [hd]
   cases hx : pend[k] with
   | mk no f to i t =>
    rw [hx] at hg
    have hc : (k : Int) + 1 = ((k + 1 : Nat) : Int) := by simp
    have hst : ∃ v, zaZ pend (((List.map zaa.pv pend)).length : Int) self last pend gave took ((k : Int), m) = some (.inl (((k + 1 : Nat) : Int), mset to v m)) := by
     simp only [zaZ, List.length_map, len1 hlt, dt (show (0 : Int) ≤ (k : Int) by omega), cond_true, Bool.and_self, Int.toNat_natCast, hg, Option.bind_some, zdU (k : Int) (by omega) (by omega), hc]
     cases mget to m with
     | some n8 => exact ⟨_, rfl⟩
     | none => exact ⟨_, rfl⟩
    obtain ⟨v, hst⟩ := hst
    obtain ⟨m', h1, h2⟩ := ih (k + 1) (mset to v m) (by omega)
    refine ⟨m', by rw [za8 hst]; exact h1, ?_⟩
    rw [h2, zq4]
    rfl
 exact key pend.length 0 [] (by omega)
theorem tri (hp : pend.length ≤ 1000) (hg : gave.length ≤ 1000) (ht : took.length ≤ 1000) (x : Option Bool) :
  ((runL (zaG pend (((List.map zaa.pv pend)).length : Int) self last pend gave took) 0).bind fun _ =>
   (runL (zaH gave ((gave).length : Int) self last pend gave took) 0).bind fun _ =>
   (runL (zaI took (((List.map zac.pv took)).length : Int) self last pend gave took) 0).bind fun _ => x) = x := by
 rw [thru (l := pend) (fun j a ha => by
   have hlt := (List.getElem?_eq_some_iff.1 ha).1
   cases a
   simp only [zaG, List.length_map, len1 hlt, dt (show (0 : Int) ≤ (j : Int) by omega), cond_true, Bool.and_self, Int.toNat_natCast, ha, Option.bind_some, zdU (j : Int) (by omega) (by omega)])
  (by simp only [zaG, List.length_map, df (show ¬ (pend.length : Int) < (pend.length : Int) by omega), cond_false]),
  thru (l := gave) (fun j a ha => by
   have hlt := (List.getElem?_eq_some_iff.1 ha).1
   simp only [zaH, len1 hlt, dt (show (0 : Int) ≤ (j : Int) by omega), cond_true, Bool.and_self, zdU (j : Int) (by omega) (by omega)])
  (by simp only [zaH, df (show ¬ (gave.length : Int) < (gave.length : Int) by omega), cond_false]),
  thru (l := took) (fun j a ha => by
   have hlt := (List.getElem?_eq_some_iff.1 ha).1
   cases a
   simp only [zaI, List.length_map, len1 hlt, dt (show (0 : Int) ≤ (j : Int) by omega), cond_true, Bool.and_self, Int.toNat_natCast, ha, Option.bind_some, zdU (j : Int) (by omega) (by omega)])
  (by simp only [zaI, List.length_map, df (show ¬ (took.length : Int) < (took.length : Int) by omega), cond_false])]
 rfl
theorem zxm {x : Int} (h : 0 ≤ x) : zfu x = some (decide (x < 12)) := by
 unfold zfu
 simp only [dt h, cond_true]
theorem zuo {x : Int} (h0 : 0 ≤ x) (h : x < 2147483648) : zdm self last pend gave took x = some (nt15 self x) := by
 unfold zdm nt15
 rw [zxm h0, zso h0 h]
 by_cases hx : x < 12
 ·simp only [dt hx, Option.bind_some, cond_true, Bool.true_and]
 ·simp only [df hx, Option.bind_some, cond_false, Bool.false_and]
theorem zxr (hp : pend.length ≤ 1000) (hg : gave.length ≤ 1000) (ht : took.length ≤ 1000) (op : ∀ g ∈ pend, okR N g) (og : ∀ x ∈ gave, okI x) (ot : ∀ m ∈ took, okM0 m) :
  ∃ b, zdn self last pend gave took = some b ∧ (b = true ↔ Fine self last pend gave took) := by
 obtain ⟨m, hm, hk⟩ := zxf (self := self) (last := last) (gave := gave) (took := took) hp
 have hkl := congrArg List.length hk
 rw [List.length_map] at hkl
 obtain ⟨k1, k2⟩ := zl5 (pend.map toG) [] (by simp)
 simp only [List.length_nil, Nat.zero_add, List.length_map, List.nil_append] at k1 k2
 unfold zdn
 rw [hm]
 simp only [Option.bind_some, tri hp hg ht]
 by_cases h1 : self < 12
 case neg => exact ⟨false, by simp only [df h1, cond_false], ⟨fun h => (by cases h), fun h => absurd h.s h1⟩⟩
 by_cases h2 : last < 4611686018427387904
 case neg => exact ⟨false, by simp only [dt h1, df h2, cond_false, cond_true], ⟨fun h => (by cases h), fun h => absurd h.l h2⟩⟩
 simp only [dt h1, dt h2, cond_true, List.length_map]
 by_cases h3 : (pend.map toG).Nodup
 case neg => exact ⟨false, by rw [df (show ¬ (m.length : Int) = (pend.length : Int) from fun e => h3 (k2.1 (by omega)))]; rfl, ⟨fun h => (by cases h), fun h => absurd h.to h3⟩⟩
 rw [dt (show (m.length : Int) = (pend.length : Int) by have := k2.2 h3; omega)]
 simp only [cond_true]
 obtain ⟨r1, a1, a2⟩ := zxt hp
 rw [a1]
 simp only [Option.bind_some]
 cases r1 with
 | false => exact ⟨false, rfl, ⟨fun h => (by cases h), fun h => (by have := a2.2 h.no; cases this)⟩⟩
 | true =>
 simp only [cond_true]
 obtain ⟨r2, b1, b2⟩ := zxu hg
 rw [b1]
 simp only [Option.bind_some]
 cases r2 with
 | false => exact ⟨false, rfl, ⟨fun h => (by cases h), fun h => (by have := b2.2 h.ga; cases this)⟩⟩
 | true =>
 simp only [cond_true]
 obtain ⟨r3, c1, c2⟩ := zxv ht
 rw [c1]
 simp only [Option.bind_some]
 obtain ⟨x1, d1, d2⟩ := zlR (l := pend) (st := zbp pend (pend.length : Int) self last pend gave took) (fun _ => gt15 self last gave) (fun b k x hx => by
   have hlt := (List.getElem?_eq_some_iff.1 hx).1
   have ho := op x (List.mem_of_getElem? hx)
   cases x with | mk no f to i t =>
    obtain ⟨o1, o2, o3, o4, _⟩ := ho
    simp only [zbp, List.length_map, len1 hlt, dt (show (0 : Int) ≤ (k : Int) by omega), cond_true, Bool.and_self, Int.toNat_natCast, hx, Option.bind_some, zdU (k : Int) (by omega) (by omega), zfv, zvJ, zso o3 o4, zrJ hg, gt15]
    cases b with
    | false => rfl
    | true =>
     cases rb no f to i t with
     | false => rfl
     | true =>
      by_cases q1 : f = self
      ·by_cases q2 : no ≤ last
       ·simp only [dt q1, dt q2, cond_true, Option.bind_some, Bool.true_and]
       ·simp only [dt q1, df q2, cond_true, cond_false, Option.bind_some, Bool.true_and, Bool.false_and]
      ·simp only [df q1, cond_true, cond_false, Option.bind_some, Bool.true_and, Bool.false_and])
  (fun b => by simp only [zbp, df (show ¬ (pend.length : Int) < (pend.length : Int) by omega), cond_false]) r3
 obtain ⟨x2, e1, e2⟩ := zlR (l := gave) (st := zbq gave (gave.length : Int) self last pend gave took) (fun _ => nt15 self) (fun b k x hx => by
   have hlt := (List.getElem?_eq_some_iff.1 hx).1
   have ho := og x (List.mem_of_getElem? hx)
   have hgx : gave.getD k 0 = x := by rw [List.getD_eq_getElem?_getD, hx]; rfl
   simp only [zbq, len1 hlt, dt (show (0 : Int) ≤ (k : Int) by omega), cond_true, Bool.and_self, Int.toNat_natCast, hgx, Option.bind_some, zdU (k : Int) (by omega) (by omega), zuo ho.1 ho.2]
   cases b <;> rfl)
  (fun b => by simp only [zbq, df (show ¬ (gave.length : Int) < (gave.length : Int) by omega), cond_false]) x1
 obtain ⟨x3, f1, f2⟩ := zlR (l := took) (st := zbr took (took.length : Int) self last pend gave took) (fun _ => mt15 self) (fun b k x hx => by
   have hlt := (List.getElem?_eq_some_iff.1 hx).1
   have ho := ot x (List.mem_of_getElem? hx)
   cases x with | mk a c =>
    obtain ⟨o1, o2, o3, o4⟩ := ho
    simp only [zbr, List.length_map, len1 hlt, dt (show (0 : Int) ≤ (k : Int) by omega), cond_true, Bool.and_self, Int.toNat_natCast, hx, Option.bind_some, zdU (k : Int) (by omega) (by omega), zuo o1 o2, mt15]
    cases b with
    | false => rfl
    | true =>
     cases nt15 self a with
     | false => rfl
     | true =>
      by_cases q1 : 1 ≤ c
      ·simp only [dt q1, cond_true, Bool.true_and]
      ·simp only [df q1, cond_true, cond_false, Bool.true_and, Bool.false_and])
  (fun b => by simp only [zbr, List.length_map, df (show ¬ (took.length : Int) < (took.length : Int) by omega), cond_false]) x2
 rw [d1]
 simp only [Option.bind_some]
 rw [e1]
 simp only [Option.bind_some]
 rw [f1]
 refine ⟨x3, rfl, ?_⟩
 rw [f2, e2, d2, c2]
 constructor
 ·rintro ⟨⟨⟨g1, g2⟩, g3⟩, g4⟩
  refine ⟨h1, h2, h3, a2.1 rfl, b2.1 rfl, g1, fun g hg => ?_, fun n hn => ?_, fun m hm => ?_⟩
  ·obtain ⟨k, hk⟩ := List.mem_iff_getElem?.1 hg; exact g2 k g hk
  ·obtain ⟨k, hk⟩ := List.mem_iff_getElem?.1 hn; exact g3 k n hk
  ·obtain ⟨k, hk⟩ := List.mem_iff_getElem?.1 hm; exact g4 k m hk
 ·intro h
  exact ⟨⟨⟨h.tk, fun k x hx => h.pg x (List.mem_of_getElem? hx)⟩, fun k x hx => h.gg x (List.mem_of_getElem? hx)⟩, fun k x hx => h.tt x (List.mem_of_getElem? hx)⟩
end
end Go.Proofs.YtjjcmgdgifcmgaaGreat
