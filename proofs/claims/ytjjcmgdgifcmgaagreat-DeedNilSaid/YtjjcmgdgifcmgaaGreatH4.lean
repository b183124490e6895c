/- Chapter 15: deeds are the document's, byte by byte. Plain. -/
import Derived.Test.YtjjcmgdgifcmgaaGreatH3
set_option linter.unusedVariables false
set_option linter.unusedSimpArgs false
namespace Go.Proofs.YtjjcmgdgifcmgaaGreat
open Go.Ev Go.Lib Go.Sort
def mkE : zac → zal | .mk a b => .mk a b
def mkOf (k : Int × Int) : Mk := ⟨k.1, k.2⟩
theorem wfI {x : Int} (h0 : 0 ≤ x) (h : x < 4611686018427387904) : (Lit.int .i64 x).wf = true ∧ (Lit.int .u64 x).wf = true := by
 constructor <;> simp [Lit.wf, IntKind.min, IntKind.max, IntKind.bits, IntKind.signed] <;> omega
theorem zeN {x : Int} (h0 : 0 ≤ x) (h : x < 4611686018427387904) : IntKind.u64.wrap x = x := by
 simp [IntKind.wrap, IntKind.bits, IntKind.signed]; omega
section
variable {B : Nat} {last : Int} {pend : List zaa} {gave : List (Int × Int)} {took : List ((Int × Int) × Int)} {rpend : List zab} {rgave : List Int} {rtook : List zac}
theorem Rel.marks (h : Rel B last pend gave took rpend rgave rtook) (hB : B ≤ 900) (n : Int) : zcA n last pend gave took = some (rtook.map mkE) := by
 have hok : okM took := by
  refine ⟨h.tnd, fun e he => ?_, by have := h.tlen; omega⟩
  have := h.tok e he
  exact ⟨(wfI (by omega) (by omega)).1, (wfI (by omega) (by omega)).2⟩
 have hL : zjd cM (zfM took) = (rtook.map mkR).map mkOf := by
  have hk : zfM took = (took.map (·.1)).map mkOf := by simp [zfM, mkOf, Function.comp_def]
  have tr : ∀ a b c : Mk, (!(ltOf cM) b a) = true → (!(ltOf cM) c b) = true → (!(ltOf cM) c a) = true := by
   intro a b c h1 h2
   simp only [Bool.not_eq_true'] at h1 h2 ⊢
   exact swoM.ntrans _ _ _ h2 h1
  have to : ∀ a b : Mk, ((!(ltOf cM) b a) || (!(ltOf cM) a b)) = true := by
   intro a b
   cases h1 : ltOf cM b a with
   | false => rfl
   | true =>
    cases h2 : ltOf cM a b with
    | false => rfl
    | true => have := swoM.trans _ _ _ h1 h2; rw [swoM.irrefl] at this; cases this
  refine List.Perm.eq_of_pairwise (le := fun x y => (!(ltOf cM) y x) = true) (fun a b _ _ h1 h2 => ?_) (List.pairwise_mergeSort tr to (zfM took)) ?_ ((List.mergeSort_perm _ _).trans ?_)
  ·simp only [Bool.not_eq_true'] at h1 h2
   exact totM a b h2 h1
  ·rw [List.pairwise_map]
   refine h.ts.imp fun {a b} hab => ?_
   simp only [Bool.not_eq_true']
   rw [zqH]
   unfold ltP at hab
   simp only [mkOf]
   omega
  ·rw [hk]
   exact (h.tp.map mkOf).symm
 unfold zcA zfQ zcO
 rw [if_pos hok, hL]
 simp only [Option.bind_some, List.map_map, Option.some.injEq]
 refine List.map_congr_left fun g _ => ?_
 cases g; rfl
theorem Rel.ints (h : Rel B last pend gave took rpend rgave rtook) (hB : B ≤ 900) : zde gave = some rgave ∧ gave.length = rgave.length := by
 have hok : okK gave := ⟨h.gnd, fun e he => by have := h.gok e he; omega, by have := h.glen; omega⟩
 have hs : rgave.Pairwise (· < ·) := by rw [h.hg]; exact zrH _
 have hp : rgave.Perm (gave.map (·.1)) := (List.perm_ext_iff_of_nodup (hs.imp fun {a b} hab e => by omega) h.gnd).2 fun x => h.gave_mem
 have hL : zjU (gave.map (·.1)) = rgave := by
  unfold zjU
  refine List.Perm.eq_of_pairwise (le := fun x y => decide (x ≤ y) = true) (fun a b _ _ h1 h2 => ?_) (List.pairwise_mergeSort (fun a b c h1 h2 => ?_) (fun a b => ?_) (gave.map (·.1))) ?_ ((List.mergeSort_perm _ _).trans hp.symm)
  ·have := of_decide_eq_true h1; have := of_decide_eq_true h2; omega
  ·have := of_decide_eq_true h1; have := of_decide_eq_true h2; exact decide_eq_true (by omega)
  ·simp only [Bool.or_eq_true, decide_eq_true_eq]; omega
  ·exact hs.imp fun {a b} hab => decide_eq_true (by omega)
 refine ⟨?_, by have := hp.length_eq; simpa using this.symm⟩
 unfold zde
 rw [if_pos hok, hL]
theorem ztE {a b : List Int} (h : a.length + b.length ≤ 9000000) : zdx [zaq.mk a, zaq.mk b] = some (a ++ b) := by
 have := zsj (r := [zaq.mk a, zaq.mk b]) (by simp) (by simp only [List.flatMap_cons, List.flatMap_nil, jl15, List.length_append, List.length_nil]; omega)
 simpa [jl15] using this
theorem zva {a b c : List Int} (h : a.length + b.length + c.length ≤ 9000000) : zdx [zaq.mk a, zaq.mk b, zaq.mk c] = some (a ++ (b ++ c)) := by
 have := zsj (r := [zaq.mk a, zaq.mk b, zaq.mk c]) (by simp) (by simp only [List.flatMap_cons, List.flatMap_nil, jl15, List.length_append, List.length_nil]; omega)
 simpa [jl15] using this
theorem znB {N : Nat} (hN : 100 ≤ N) (n n2 n2' : Int) (m : List (Int × Int)) (m2 : List ((Int × Int) × Int)) (l : List Int) (r3 : List zac) (hok : ∀ g ∈ pend, okG g) (hl : pend.length ≤ 60) :
  ∀ (d k : Nat) (p : List Int), k + d = pend.length → p.length + d * 100000 ≤ 8000000 → ∃ q, runL (zbs N pend (pend.length : Int) n n2 pend m m2) ((k : Int), p) = some q ∧
   runL (zb4 N (pend.map toR) (pend.length : Int) n n2' (pend.map toR) l r3) ((k : Int), p) = some q ∧ q.length ≤ p.length + d * 100000
 | 0, k, p, hk, hp => by
  refine ⟨p, zbi ?_, zbi ?_, by omega⟩
  ·simp only [zbs, df (show ¬ (k : Int) < (pend.length : Int) by omega), cond_false]
  ·simp only [zb4, df (show ¬ (k : Int) < (pend.length : Int) by omega), cond_false]
 | d + 1, k, p, hk, hp => by
  have hlt : k < pend.length := by omega
  have hg := List.getElem?_eq_getElem hlt
  have hokg := hok _ (List.getElem_mem hlt)
  cases hx : pend[k] with
  | mk no f to i t =>
   rw [hx] at hg hokg
   obtain ⟨o1, o2, o3, o4, _⟩ := hokg
   obtain ⟨lg, p1, p2, p3, _⟩ := zsE (N := N) (p := p) (no := no) (from_ := f) (to := to) hN (by omega) (by omega) (by omega) o1 o2
   obtain ⟨q, h1, h2, h3⟩ := znB hN n n2 n2' m m2 l r3 hok hl d (k + 1) (p ++ lg) (by omega) (by rw [List.length_append]; omega)
   have hc : (k : Int) + 1 = ((k + 1 : Nat) : Int) := by simp
   refine ⟨q, ?_, ?_, by rw [List.length_append] at h3; omega⟩
   ·rw [← h1]
    refine zbw ?_
    simp only [zbs, List.length_map, dt (show (k : Int) < (pend.length : Int) by omega), dt (show (0 : Int) ≤ (k : Int) by omega), cond_true, Bool.and_self, Int.toNat_natCast, hg, Option.bind_some, p2, zep (k : Int) (by omega) (by omega), hc]
   ·rw [← h2]
    refine zbw ?_
    have hg2 : (pend.map toR)[k]? = some (.mk no f to (zeh i t)) := by rw [List.getElem?_map, hg]; rfl
    simp only [zb4, List.length_map, dt (show (k : Int) < (pend.length : Int) by omega), dt (show (0 : Int) ≤ (k : Int) by omega), cond_true, Bool.and_self, Int.toNat_natCast, hg2, Option.bind_some, p1, ztE (show p.length + lg.length ≤ 9000000 by omega), zep (k : Int) (by omega) (by omega), hc]
theorem zo8 {N : Nat} (hN : 100 ≤ N) {g : List Int} (hg12 : ∀ x ∈ g, 0 ≤ x ∧ x < 12) (hgl : g.length ≤ 1000) (n n2 n2' : Int) (r : List zaa) (r2 : List zab) (m : List (Int × Int)) (m2 : List ((Int × Int) × Int)) (r3 : List zac) :
  ∀ (d k : Nat) (p : List Int), k + d = g.length → p.length + d * 100 ≤ 8500000 → ∃ q, runL (zbt (g.length : Int) n n2 r m m2 g) ((k : Int), p) = some q ∧
   runL (zb5 N g (g.length : Int) n n2' r2 g r3) ((k : Int), p) = some q ∧ q.length ≤ p.length + d * 100
 | 0, k, p, hk, hp => by
  refine ⟨p, zbi ?_, zbi ?_, by omega⟩
  ·simp only [zbt, df (show ¬ (k : Int) < (g.length : Int) by omega), cond_false]
  ·simp only [zb5, df (show ¬ (k : Int) < (g.length : Int) by omega), cond_false]
 | d + 1, k, p, hk, hp => by
  have hlt : k < g.length := by omega
  have hgd : g.getD k 0 = g[k] := by rw [List.getD_eq_getElem?_getD, List.getElem?_eq_getElem hlt]; rfl
  have hx := hg12 _ (List.getElem_mem hlt)
  generalize g[k] = x at hgd hx
  have v1 := W.varint_len x
  obtain ⟨q, h1, h2, h3⟩ := zo8 hN hg12 hgl n n2 n2' r r2 m m2 r3 d (k + 1) (p ++ W.varint x) (by omega) (by rw [List.length_append]; omega)
  have hc : (k : Int) + 1 = ((k + 1 : Nat) : Int) := by simp
  refine ⟨q, ?_, ?_, by rw [List.length_append] at h3; omega⟩
  ·rw [← h1]
   refine zbw ?_
   simp only [zbt, dt (show (k : Int) < (g.length : Int) by omega), dt (show (0 : Int) ≤ (k : Int) by omega), cond_true, Bool.and_self, Int.toNat_natCast, Nat.zero_add, hgd, zeN (show 0 ≤ x by omega) (by omega), W.num_eq (p := p) (n := x) (by omega) (by omega) (by omega), Option.bind_some, zep (k : Int) (by omega) (by omega), hc]
  ·rw [← h2]
   refine zbw ?_
   simp only [zb5, dt (show (k : Int) < (g.length : Int) by omega), dt (show (0 : Int) ≤ (k : Int) by omega), cond_true, Bool.and_self, Int.toNat_natCast, hgd, zeN (show 0 ≤ x by omega) (by omega), zhL hN (n := x) (by omega) (by omega), ztE (show p.length + (W.varint x).length ≤ 9000000 by omega), Option.bind_some, zep (k : Int) (by omega) (by omega), hc]
theorem znF {N : Nat} (hN : 100 ≤ N) {g : List zac} (hg12 : ∀ x ∈ g.map mkR, 0 ≤ x.1 ∧ x.1 < 12 ∧ 1 ≤ x.2 ∧ x.2 < 4611686018427387904) (hgl : g.length ≤ 1000) (n n2 n2' : Int) (r : List zaa) (r2 : List zab) (m : List (Int × Int)) (m2 : List ((Int × Int) × Int)) (l : List Int) :
  ∀ (d k : Nat) (p : List Int), k + d = g.length → p.length + d * 100 ≤ 8800000 → ∃ q, runL (zbu (g.length : Int) n n2 r m m2 (g.map mkE)) ((k : Int), p) = some q ∧
   runL (zb6 N g (g.length : Int) n n2' r2 l g) ((k : Int), p) = some q ∧ q.length ≤ p.length + d * 100
 | 0, k, p, hk, hp => by
  refine ⟨p, zbi ?_, zbi ?_, by omega⟩
  ·simp only [zbu, df (show ¬ (k : Int) < (g.length : Int) by omega), cond_false]
  ·simp only [zb6, df (show ¬ (k : Int) < (g.length : Int) by omega), cond_false]
 | d + 1, k, p, hk, hp => by
  have hlt : k < g.length := by omega
  have hg := List.getElem?_eq_getElem hlt
  have hx := hg12 _ (List.mem_map.2 ⟨_, List.getElem_mem hlt, rfl⟩)
  cases hgk : g[k] with
  | mk a b =>
   rw [hgk] at hg hx
   simp only [mkR] at hx
   have hg2 : (g.map mkE)[k]? = some (.mk a b) := by rw [List.getElem?_map, hg]; rfl
   have v1 := W.varint_len a
   have v2 := W.varint_len b
   obtain ⟨q, h1, h2, h3⟩ := znF hN hg12 hgl n n2 n2' r r2 m m2 l d (k + 1) (p ++ (W.varint a ++ W.varint b)) (by omega) (by simp only [List.length_append]; omega)
   have hc : (k : Int) + 1 = ((k + 1 : Nat) : Int) := by simp
   refine ⟨q, ?_, ?_, by simp only [List.length_append] at h3; omega⟩
   ·rw [← h1]
    refine zbw ?_
    simp only [zbu, List.length_map, dt (show (k : Int) < (g.length : Int) by omega), dt (show (0 : Int) ≤ (k : Int) by omega), cond_true, Bool.and_self, Int.toNat_natCast, Nat.zero_add, hg2, zeN (show 0 ≤ a by omega) (by omega), W.num_eq (p := p) (n := a) (by omega) (by omega) (by omega), W.num_eq (p := p ++ W.varint a) (n := b) (by omega) (by omega) (by rw [List.length_append]; omega), Option.bind_some, zep (k : Int) (by omega) (by omega), hc, List.append_assoc]
   ·rw [← h2]
    refine zbw ?_
    simp only [zb6, List.length_map, dt (show (k : Int) < (g.length : Int) by omega), dt (show (0 : Int) ≤ (k : Int) by omega), cond_true, Bool.and_self, Int.toNat_natCast, hg, zeN (show 0 ≤ a by omega) (by omega), zhL hN (n := a) (by omega) (by omega), zhL hN (n := b) (by omega) (by omega), zva (show p.length + (W.varint a).length + (W.varint b).length ≤ 9000000 by omega), Option.bind_some, zep (k : Int) (by omega) (by omega), hc]
theorem Rel.rt12 (h : Rel B last pend gave took rpend rgave rtook) : ∀ x ∈ rtook.map mkR, 0 ≤ x.1 ∧ x.1 < 12 ∧ 1 ≤ x.2 ∧ x.2 < 4611686018427387904 := by
 intro x hx
 obtain ⟨e, he, rfl⟩ := List.mem_map.1 (h.tp.mem_iff.1 hx)
 have := h.tok e he
 exact ⟨this.2.1, this.2.2.1, this.2.2.2.1, this.2.2.2.2⟩
theorem Rel.bytes {N : Nat} (hN : 100 ≤ N) (h : Rel B last pend gave took rpend rgave rtook) (hB : B ≤ 60) {n : Int} (n0 : 0 ≤ n) (n1 : n < 12) :
  ∃ q, zc5 N n last pend gave took = some q ∧ zfZ N n last rpend rgave rtook = some q ∧ q.length ≤ 9000000 := by
 have hl := h.plen
 have l0 := h.last0
 have lB := h.lastB
 have hrl := h.rtl
 have htl := h.tlen
 have hgl := h.glen
 obtain ⟨hi1, hi2⟩ := h.ints (by omega)
 have hm := h.marks (by omega) n
 have v1 := W.varint_len n
 have v2 := W.varint_len last
 have v3 := W.varint_len (pend.length : Int)
 have v4 := W.varint_len (rgave.length : Int)
 have v5 := W.varint_len (rtook.length : Int)
 have w1 : IntKind.u64.wrap n = n := zeN n0 (by omega)
 have w3 : IntKind.u64.wrap (pend.length : Int) = (pend.length : Int) := zeN (by omega) (by omega)
 have w4 : IntKind.u64.wrap (rgave.length : Int) = (rgave.length : Int) := zeN (by omega) (by omega)
 have w5 : IntKind.u64.wrap (rtook.length : Int) = (rtook.length : Int) := zeN (by omega) (by omega)
 have g12 : ∀ x ∈ rgave, 0 ≤ x ∧ x < 12 := fun x hx => by rw [h.hg, zsH] at hx; exact ⟨hx.1, hx.2.1⟩
 obtain ⟨q1, a1, a2, a3⟩ := znB (pend := pend) hN n last last gave took rgave rtook h.okp (by omega) pend.length 0 (W.varint n ++ (W.varint last ++ W.varint (pend.length : Int))) (by omega) (by simp only [List.length_append]; omega)
 have a1 : runL (zbs N pend (pend.length : Int) n last pend gave took) (0, W.varint n ++ (W.varint last ++ W.varint (pend.length : Int))) = some q1 := a1
 have a2 : runL (zb4 N (pend.map toR) (pend.length : Int) n last (pend.map toR) rgave rtook) (0, W.varint n ++ (W.varint last ++ W.varint (pend.length : Int))) = some q1 := a2
 simp only [List.length_append] at a3
 obtain ⟨q2, b1, b2, b3⟩ := zo8 (N := N) (g := rgave) hN g12 (by omega) n last last pend rpend gave took rtook rgave.length 0 (q1 ++ W.varint (rgave.length : Int)) (by omega) (by simp only [List.length_append]; omega)
 have b1 : runL (zbt (rgave.length : Int) n last pend gave took rgave) (0, q1 ++ W.varint (rgave.length : Int)) = some q2 := b1
 have b2 : runL (zb5 N rgave (rgave.length : Int) n last rpend rgave rtook) (0, q1 ++ W.varint (rgave.length : Int)) = some q2 := b2
 simp only [List.length_append] at b3
 obtain ⟨q3, c1, c2, c3⟩ := znF (N := N) (g := rtook) hN h.rt12 (by omega) n last last pend rpend gave took rgave rtook.length 0 (q2 ++ W.varint (rtook.length : Int)) (by omega) (by simp only [List.length_append]; omega)
 have c1 : runL (zbu (rtook.length : Int) n last pend gave took (rtook.map mkE)) (0, q2 ++ W.varint (rtook.length : Int)) = some q3 := c1
 have c2 : runL (zb6 N rtook (rtook.length : Int) n last rpend rgave rtook) (0, q2 ++ W.varint (rtook.length : Int)) = some q3 := c2
 simp only [List.length_append] at c3
 refine ⟨q3, ?_, ?_, by omega⟩
 ·unfold zc5
  have e1 := W.num_eq (p := []) (n := n) n0 (by omega) (by simp)
  rw [List.nil_append] at e1
  have e2 := W.num_eq (p := W.varint n) (n := last) l0 (by omega) (by omega)
  have e3 := W.num_eq (p := W.varint n ++ W.varint last) (n := (pend.length : Int)) (by omega) (by omega) (by rw [List.length_append]; omega)
  rw [List.append_assoc] at e3
  have e4 := W.num_eq (p := q1) (n := (rgave.length : Int)) (by omega) (by omega) (by omega)
  have e5 := W.num_eq (p := q2) (n := (rtook.length : Int)) (by omega) (by omega) (by omega)
  simp only [List.length_map, w1, w3, e1, e2, e3, Option.bind_some, a1, hi2, w4, e4, zeW, hi1, b1, ← hrl, w5, e5, hm, c1]
 ·unfold zfZ
  have hj1 := zva (a := W.varint n) (b := W.varint last) (c := W.varint (pend.length : Int)) (by omega)
  have hj2 := ztE (a := q1) (b := W.varint (rgave.length : Int)) (by omega)
  have hj3 := ztE (a := q2) (b := W.varint (rtook.length : Int)) (by omega)
  have hpl := h.rpl
  have hp := h.hp
  subst hp
  simp only [List.length_map, w1, w3, w4, w5, zhL hN n0 (show n < 18446744073709551616 by omega), zhL hN l0 (show last < 18446744073709551616 by omega), zhL hN (n := (pend.length : Int)) (by omega) (by omega), zhL hN (n := (rgave.length : Int)) (by omega) (by omega), zhL hN (n := (rtook.length : Int)) (by omega) (by omega), Option.bind_some, hj1, hj2, hj3, a2, b2, c2]
theorem Rel.gave_eq (h : Rel B last pend gave took rpend rgave rtook) (to n : Int) : zcr to n last pend gave took = some (decide (to ∈ rgave)) := by
 unfold zcr
 cases hm : mget to gave with
 | none => simp only [df (fun hc => zkn.1 hm (h.gave_mem.1 hc))]
 | some v =>
  have hmem := zlG hm
  have := h.gok _ hmem
  simp only [dt this.1, dt (h.gave_mem.2 (List.mem_map.2 ⟨_, hmem, rfl⟩))]
theorem Rel.like {N : Nat} (hN : 100 ≤ N) (h : Rel B last pend gave took rpend rgave rtook) (hB : B ≤ 60) {n : Int} (n0 : 0 ≤ n) (n1 : n < 12) :
  zbh N n last pend gave took n last rpend rgave rtook = some () := by
 have hl := h.plen
 have hrl := h.rtl
 have htl := h.tlen
 have hrp := h.rpl
 have hm := h.marks (by omega) n
 obtain ⟨q, b1, b2, b3⟩ := h.bytes hN hB n0 n1
 have s0 : runL (zcf N (pend.length : Int) n last pend gave took n last rpend rgave rtook pend (rtook.map mkE)) 0 = some (.inr ()) := by
  refine zqz (l := pend) (fun j a hj => ?_) ?_
  ·have hlt := (List.getElem?_eq_some_iff.1 hj).1
   have hok := h.okp a (List.mem_of_getElem? hj)
   have hj2 : rpend[j]? = some (toR a) := by rw [h.hp, List.getElem?_map, hj]; rfl
   cases a with
   | mk no f to i t =>
    simp only [toR] at hj2
    simp only [zcf, List.length_map, dt (show (j : Int) < (pend.length : Int) by omega), dt (show (0 : Int) ≤ (j : Int) by omega), dt (show (j : Int) < (rpend.length : Int) by omega), cond_true, Bool.and_self, Int.toNat_natCast, Nat.zero_add, hj, hj2, Option.bind_some, zsT hN no f to hok.1 hok.2.1, zep (j : Int) (by omega) (by omega)]
  ·simp only [zcf, df (show ¬ (pend.length : Int) < (pend.length : Int) by omega), cond_false]
 have s1 : runL (zcg (rtook.length : Int) n last pend gave took n last rpend rgave rtook (rtook.map mkE)) 0 = some (.inr ()) := by
  refine zqz (l := rtook) (fun j a hj => ?_) ?_
  ·have hlt := (List.getElem?_eq_some_iff.1 hj).1
   have hj2 : (rtook.map mkE)[j]? = some (mkE a) := by rw [List.getElem?_map, hj]; rfl
   have hmem : mkR a ∈ took.map (·.1) := h.tp.mem_iff.1 (List.mem_map.2 ⟨a, List.mem_of_getElem? hj, rfl⟩)
   cases a with
   | mk f no =>
    simp only [mkE] at hj2
    simp only [mkR] at hmem
    simp only [zcg, List.length_map, dt (show (j : Int) < (rtook.length : Int) by omega), dt (show (0 : Int) ≤ (j : Int) by omega), cond_true, Bool.and_self, Int.toNat_natCast, Nat.zero_add, hj, hj2, Option.bind_some, decide_true, h.took_eq f no n, dt hmem, zep (j : Int) (by omega) (by omega)]
  ·simp only [zcg, df (show ¬ (rtook.length : Int) < (rtook.length : Int) by omega), cond_false]
 have hgl : rgave.length ≤ 1000 := by rw [h.hg]; have := zsG (fun x => decide (x ∈ gave.map (·.1))); omega
 have s2 : runL (zbG N n last pend gave took n last rpend rgave rtook) (-1) = some (.inr ()) := by
  have key : ∀ (d : Nat) (k : Int), -1 ≤ k → k + d = 13 → runL (zbG N n last pend gave took n last rpend rgave rtook) k = some (.inr ()) := by
   intro d
   induction d with
   | zero =>
    intro k h1 h2
    refine zbi ?_
    simp only [zbG, df (show ¬ k < 13 by omega), cond_false]
   | succ d ih =>
    intro k h1 h2
    have hs : zbG N n last pend gave took n last rpend rgave rtook k = some (.inl (k + 1)) := by
     have hto := zvm (r := pend) (by omega) k n last gave took
     have hrto := zuh (r := rpend) (by omega) k n last rgave rtook
     rw [h.hp, zqR] at hrto
     simp only [ztc] at hrto
     rw [← h.hp] at hrto
     have hi := zep k (by omega) (by omega)
     cases hf : fi (fun g => decide (toG g = k)) pend 0 with
     | none =>
      rw [hf] at hto hrto
      simp only [Option.map_none] at hrto
      simp only [zbG, dt (show k < 13 by omega), cond_true, hto, hrto, Option.bind_some, h.gave_eq k n, zpu hgl, beq_self_eq_true, df (show ¬ (0 : Int) ≤ -1 by omega), decide_true, hi, cond_false]
     | some z =>
      obtain ⟨j, a⟩ := z
      obtain ⟨i0, hj0, hj, _⟩ := zkO hf
      have hji : j = i0 := by omega
      subst hji
      have hlt := (List.getElem?_eq_some_iff.1 hj).1
      have hok := h.okp a (List.mem_of_getElem? hj)
      have hj2 : rpend[j]? = some (toR a) := by rw [h.hp, List.getElem?_map, hj]; rfl
      rw [hf] at hto hrto
      simp only [Option.map_some] at hrto
      cases a with
      | mk no f to i t =>
       simp only [toR] at hj2
       simp only at hto
       simp only [zbG, dt (show k < 13 by omega), cond_true, hto, hrto, Option.bind_some, h.gave_eq k n, zpu hgl, beq_self_eq_true, dt (show (0 : Int) ≤ (j : Int) by omega), List.length_map, dt (show (j : Int) < (rpend.length : Int) by omega), Bool.and_self, Int.toNat_natCast, hj2, zsT hN no f to hok.1 hok.2.1, hi]
    rw [zbw hs]
    exact ih (k + 1) (by omega) (by omega)
  exact key 14 (-1) (by omega) (by omega)
 unfold zbh
 simp only [zgn (show pend.length ≤ 1000 by omega), hm, zbO, zbN, Option.bind_some, decide_true, cond_true, List.length_map, hrp, b1, b2, W.same_eq (a := q) (b := q) (by omega), s0, s1, s2]
end
end Go.Proofs.YtjjcmgdgifcmgaaGreat
