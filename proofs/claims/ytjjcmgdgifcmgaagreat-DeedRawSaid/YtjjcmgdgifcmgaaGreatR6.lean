/- Chapter 15: deeds that were read, written again. Plain. -/
import Derived.Test.YtjjcmgdgifcmgaaGreatR5
set_option linter.unusedVariables false
set_option linter.unusedSimpArgs false
namespace Go.Proofs.YtjjcmgdgifcmgaaGreat
open Go.Ev Go.Lib Go.Sort
def mkP : zac → Int × Int | .mk a b => (a, b)
def mkOf (k : Int × Int) : Mk := ⟨k.1, k.2⟩
theorem wfI {x : Int} (h0 : 0 ≤ x) (h : x < 4611686018427387904) : (Lit.int .i64 x).wf = true ∧ (Lit.int .u64 x).wf = true := by
 constructor <;> simp [Lit.wf, IntKind.min, IntKind.max, IntKind.bits, IntKind.signed] <;> omega
theorem zqg (a b : zac) : ltM a b = true ↔ (mkP a).1 < (mkP b).1 ∨ (mkP a).1 = (mkP b).1 ∧ (mkP a).2 < (mkP b).2 := by
 cases a; cases b; simp [ltM, mkP]
theorem zq3 (a b c : zac) (h : ltM a b = true) (h2 : ltM b c = true) : ltM a c = true := by
 rw [zqg] at *
 omega
theorem zxc {g : List Int} (hs : g.Pairwise (· < ·)) (hl : g.length ≤ 1000) (ho : ∀ x ∈ g, okI x) : zdA (g.map fun x => (x, (1 : Int))) = some g := by
 have hk : (g.map fun x => (x, (1 : Int))).map (·.1) = g := by simp [Function.comp_def]
 have hok : okK (g.map fun x => (x, (1 : Int))) := by
  refine ⟨by rw [hk]; exact hs.imp fun {a b} h => by omega, fun e he => ?_, by rw [List.length_map]; omega⟩
  obtain ⟨x, hx, rfl⟩ := List.mem_map.1 he
  have := ho x hx
  unfold okI at this
  simp only
  omega
 have hL : zk7 g = g := by
  unfold zk7
  refine List.Perm.eq_of_pairwise (le := fun x y => decide (x ≤ y) = true) (fun a b _ _ h1 h2 => ?_) (List.pairwise_mergeSort (fun a b c h1 h2 => ?_) (fun a b => ?_) g) ?_ (List.mergeSort_perm _ _)
  ·have := of_decide_eq_true h1; have := of_decide_eq_true h2; omega
  ·have := of_decide_eq_true h1; have := of_decide_eq_true h2; exact decide_eq_true (by omega)
  ·simp only [Bool.or_eq_true, decide_eq_true_eq]; omega
  ·exact hs.imp fun {a b} hab => decide_eq_true (by omega)
 unfold zdA
 rw [if_pos hok, hk, hL]
theorem zwC {g : List zac} (hs : g.Pairwise fun a b => ltM a b = true) (hl : g.length ≤ 1000) (ho : ∀ m ∈ g, okM0 m ∧ (mkP m).2 < 4611686018427387904) : zcf (g.map fun m => (mkP m, (1 : Int))) = some g := by
 have hk : (g.map fun m => (mkP m, (1 : Int))).map (·.1) = g.map mkP := by simp [Function.comp_def]
 have hok : okM (g.map fun m => (mkP m, (1 : Int))) := by
  refine ⟨?_, fun e he => ?_, by rw [List.length_map]; omega⟩
  ·rw [hk]
   unfold List.Nodup
   rw [List.pairwise_map]
   refine hs.imp fun {a b} h e => ?_
   rw [zqg, e] at h
   omega
  ·obtain ⟨m, hm, rfl⟩ := List.mem_map.1 he
   obtain ⟨h1, h2⟩ := ho m hm
   cases m with | mk a b =>
    obtain ⟨o1, o2, o3, o4⟩ := h1
    simp only [mkP] at h2 ⊢
    exact ⟨(wfI o1 (by omega)).1, (wfI o3 h2).2⟩
 have hkk : zg9 (g.map fun m => (mkP m, (1 : Int))) = g.map fun m => mkOf (mkP m) := by simp [zg9, mkOf, Function.comp_def]
 have hL : zkp cM (zg9 (g.map fun m => (mkP m, (1 : Int)))) = g.map fun m => mkOf (mkP m) := by
  rw [hkk]
  have tr : ∀ a b c : Mk, (!(ltOf cM) b a) = true → (!(ltOf cM) c b) = true → (!(ltOf cM) c a) = true := by
   intro a b c h1 h2
   simp only [Bool.not_eq_true'] at h1 h2 ⊢
   exact swoM.ntrans _ _ _ h2 h1
  have to : ∀ a b : Mk, ((!(ltOf cM) b a) || (!(ltOf cM) a b)) = true := by
   intro a b
   cases h1 : ltOf cM b a with
   | false => rfl
   | true =>
    cases h2 : ltOf cM a b with
    | false => rfl
    | true => have := swoM.trans _ _ _ h1 h2; rw [swoM.irrefl] at this; cases this
  refine List.Perm.eq_of_pairwise (le := fun x y => (!(ltOf cM) y x) = true) (fun a b _ _ h1 h2 => ?_) (List.pairwise_mergeSort tr to _) ?_ (List.mergeSort_perm _ _)
  ·simp only [Bool.not_eq_true'] at h1 h2
   exact totM a b h2 h1
  ·rw [List.pairwise_map]
   refine hs.imp fun {a b} hab => ?_
   simp only [Bool.not_eq_true']
   rw [zsv]
   rw [zqg] at hab
   simp only [mkOf]
   omega
 unfold zcf
 rw [if_pos hok, hL]
 simp only [List.map_map, Option.some.injEq]
 conv => rhs; rw [← List.map_id g]
 refine List.map_congr_left fun g _ => ?_
 cases g; rfl
section
variable {N : Nat} {pend : List zaa} {gave : List Int} {took : List zac}
theorem zw3 (hn : gave.Nodup) (hl : gave.length ≤ 1000) (n2 n3 n4 n5 : Int) (r r3 : List zaa) (l2 : List Int) (r2 : List zac) :
  runL (zbz gave (gave.length : Int) n2 n3 r l2 r2 n4 n5 r3) (0, []) = some (gave.map fun x => (x, (1 : Int))) := by
 have key : ∀ (d k : Nat), k + d = gave.length → runL (zbz gave (gave.length : Int) n2 n3 r l2 r2 n4 n5 r3) ((k : Int), (gave.take k).map fun x => (x, (1 : Int))) = some (gave.map fun x => (x, (1 : Int))) := by
  intro d
  induction d with
  | zero =>
   intro k hk
   rw [List.take_of_length_le (by omega)]
   exact zaA (by simp only [zbz, df (show ¬ (k : Int) < (gave.length : Int) by omega), cond_false])
  | succ d ih =>
   intro k hk
   have hlt : k < gave.length := by omega
   have hg := List.getElem?_eq_getElem hlt
   have hgx : gave.getD k 0 = gave[k] := by rw [List.getD_eq_getElem?_getD, hg]; rfl
   have hk2 : ((gave.take k).map fun x => (x, (1 : Int))).map (·.1) = gave.take k := by simp [Function.comp_def]
   have hno : gave[k] ∉ ((gave.take k).map fun x => (x, (1 : Int))).map (·.1) := by
    rw [hk2]
    intro hm
    rw [List.mem_take_iff_getElem] at hm
    obtain ⟨i, hi, he⟩ := hm
    have := (List.getElem_inj hn).1 he
    omega
   have hc : (k : Int) + 1 = ((k + 1 : Nat) : Int) := by simp
   have hst : zbz gave (gave.length : Int) n2 n3 r l2 r2 n4 n5 r3 ((k : Int), (gave.take k).map fun x => (x, (1 : Int))) = some (.inl (((k + 1 : Nat) : Int), (gave.take (k + 1)).map fun x => (x, (1 : Int)))) := by
    simp only [zbz, len1 hlt, dt (show (0 : Int) ≤ (k : Int) by omega), cond_true, Bool.and_self, Int.toNat_natCast, hgx, zoa.2 hno, zdU (k : Int) (by omega) (by omega), hc, zqi hno]
    have ht : gave.take (k + 1) = gave.take k ++ [gave[k]] := by rw [List.take_add_one, hg]; rfl
    rw [ht, List.map_append]
    rfl
   rw [za8 hst]
   exact ih (k + 1) (by omega)
 have := key gave.length 0 (by omega)
 simpa using this
theorem zw4 (hn : (took.map mkP).Nodup) (hl : took.length ≤ 1000) (n2 n3 : Int) (r2 : List zaa) (m : List (Int × Int)) :
  runL (zbA took (((List.map zac.pv took)).length : Int) n2 n3 r2 m) (0, []) = some (took.map fun x => (mkP x, (1 : Int))) := by
 have key : ∀ (d k : Nat), k + d = took.length → runL (zbA took (((List.map zac.pv took)).length : Int) n2 n3 r2 m) ((k : Int), (took.take k).map fun x => (mkP x, (1 : Int))) = some (took.map fun x => (mkP x, (1 : Int))) := by
  intro d
  induction d with
  | zero =>
   intro k hk
   rw [List.take_of_length_le (by omega)]
   exact zaA (by simp only [zbA, List.length_map, df (show ¬ (k : Int) < (took.length : Int) by omega), cond_false])
  | succ d ih =>
   intro k hk
   have hlt : k < took.length := by omega
   have hg := List.getElem?_eq_getElem hlt
   have hk2 : ((took.take k).map fun x => (mkP x, (1 : Int))).map (·.1) = (took.map mkP).take k := by simp [Function.comp_def, List.map_take]
   have hno : mkP took[k] ∉ ((took.take k).map fun x => (mkP x, (1 : Int))).map (·.1) := by
    rw [hk2]
    intro hm
    rw [List.mem_take_iff_getElem] at hm
    obtain ⟨i, hi, he⟩ := hm
    have hh : (took.map mkP)[i]'(by rw [List.length_map] at *; omega) = (took.map mkP)[k]'(by rw [List.length_map]; omega) := by rw [he]; simp
    have := (List.getElem_inj hn).1 hh
    omega
   have hc : (k : Int) + 1 = ((k + 1 : Nat) : Int) := by simp
   have hst : zbA took (((List.map zac.pv took)).length : Int) n2 n3 r2 m ((k : Int), (took.take k).map fun x => (mkP x, (1 : Int))) = some (.inl (((k + 1 : Nat) : Int), (took.take (k + 1)).map fun x => (mkP x, (1 : Int)))) := by
    have ht : took.take (k + 1) = took.take k ++ [took[k]] := by rw [List.take_add_one, hg]; rfl
    rw [ht, List.map_append]
    generalize hM : ((took.take k).map fun x => (mkP x, (1 : Int))) = M at hno ⊢
    cases hx : took[k] with | mk a b =>
     rw [hx] at hno hg
     have hno : (a, b) ∉ M.map (·.1) := hno
     simp only [zbA, List.length_map, len1 hlt, dt (show (0 : Int) ≤ (k : Int) by omega), cond_true, Bool.and_self, Int.toNat_natCast, hg, Option.bind_some, zoa.2 hno, zdU (k : Int) (by omega) (by omega), hc, zqi (v := (0 : Int)) hno, zq5 hno]
     rfl
   rw [za8 hst]
   exact ih (k + 1) (by omega)
 have := key took.length 0 (by omega)
 simpa using this
theorem out1 (hN : 100 ≤ N) (hok : ∀ g ∈ pend, okR N g) (hl : pend.length ≤ 1000) (n n2 : Int) (m : List (Int × Int)) (m2 : List ((Int × Int) × Int)) (p : List Int) (hp : (p ++ pend.flatMap (zg7 N)).length ≤ 9000000) :
  runL (zaW N pend (pend.length : Int) n n2 pend m m2) (0, p) = some (p ++ pend.flatMap (zg7 N)) := by
 have key : ∀ (d k : Nat) (q : List Int), k + d = pend.length → (q ++ (pend.drop k).flatMap (zg7 N)).length ≤ 9000000 → runL (zaW N pend (pend.length : Int) n n2 pend m m2) ((k : Int), q) = some (q ++ (pend.drop k).flatMap (zg7 N)) := by
  intro d
  induction d with
  | zero =>
   intro k q hk _
   rw [List.drop_of_length_le (by omega)]
   simp only [List.flatMap_nil, List.append_nil]
   exact zaA (by simp only [zaW, df (show ¬ (k : Int) < (pend.length : Int) by omega), cond_false])
  | succ d ih =>
   intro k q hk hq
   have hlt : k < pend.length := by omega
   have hd : pend.drop k = pend[k] :: pend.drop (k + 1) := List.drop_eq_getElem_cons hlt
   have hg := List.getElem?_eq_getElem hlt
   have ho := hok _ (List.getElem_mem hlt)
   rw [hd, List.flatMap_cons] at hq ⊢
   have hc : (k : Int) + 1 = ((k + 1 : Nat) : Int) := by simp
   have hst : zaW N pend (pend.length : Int) n n2 pend m m2 ((k : Int), q) = some (.inl (((k + 1 : Nat) : Int), q ++ zg7 N pend[k])) := by
    cases hx : pend[k] with | mk no f to i t =>
     rw [hx] at hg ho
     obtain ⟨o1, o2, o3, o4, o5, o6, w, o7, o8, o9⟩ := ho
     have hpg := zvD (p := q) hN (by simp only [List.length_append] at hq; omega) o1 o2 o3 o4 o5 o6 o8 o9 o7
     simp only [zaW, List.length_map, len1 hlt, dt (show (0 : Int) ≤ (k : Int) by omega), cond_true, Bool.and_self, Int.toNat_natCast, hg, Option.bind_some, hpg, zdU (k : Int) (by omega) (by omega), hc, zg7, o7, Option.getD_some]
   rw [za8 hst, ih (k + 1) _ (by omega) (by simp only [List.length_append] at hq ⊢; omega)]
   simp only [List.append_assoc]
 have := key pend.length 0 p (by omega) (by simpa using hp)
 simpa using this
theorem out2 (hok : ∀ x ∈ gave, okI x) (hl : gave.length ≤ 1000) (n n2 : Int) (r : List zaa) (m : List (Int × Int)) (m2 : List ((Int × Int) × Int)) (p : List Int) (hp : (p ++ gave.flatMap W.varint).length ≤ 9000000) :
  runL (zaX (gave.length : Int) n n2 r m m2 gave) (0, p) = some (p ++ gave.flatMap W.varint) := by
 have key : ∀ (d k : Nat) (q : List Int), k + d = gave.length → (q ++ (gave.drop k).flatMap W.varint).length ≤ 9000000 → runL (zaX (gave.length : Int) n n2 r m m2 gave) ((k : Int), q) = some (q ++ (gave.drop k).flatMap W.varint) := by
  intro d
  induction d with
  | zero =>
   intro k q hk _
   rw [List.drop_of_length_le (by omega)]
   simp only [List.flatMap_nil, List.append_nil]
   exact zaA (by simp only [zaX, df (show ¬ (k : Int) < (gave.length : Int) by omega), cond_false])
  | succ d ih =>
   intro k q hk hq
   have hlt : k < gave.length := by omega
   have hd : gave.drop k = gave[k] :: gave.drop (k + 1) := List.drop_eq_getElem_cons hlt
   have hg := List.getElem?_eq_getElem hlt
   have hgx : gave.getD (0 + k) 0 = gave[k] := by rw [Nat.zero_add, List.getD_eq_getElem?_getD, hg]; rfl
   have ho := hok _ (List.getElem_mem hlt)
   rw [hd, List.flatMap_cons] at hq ⊢
   have hc : (k : Int) + 1 = ((k + 1 : Nat) : Int) := by simp
   have hw := W.num_eq (p := q) (n := gave[k]) ho.1 (by have := ho.2; omega) (by simp only [List.length_append] at hq; omega)
   have hst : zaX (gave.length : Int) n n2 r m m2 gave ((k : Int), q) = some (.inl (((k + 1 : Nat) : Int), q ++ W.varint gave[k])) := by
    simp only [zaX, len1 hlt, dt (show (0 : Int) ≤ (k : Int) by omega), cond_true, Bool.and_self, Int.toNat_natCast, hgx, zso ho.1 ho.2, hw, Option.bind_some, zdU (k : Int) (by omega) (by omega), hc]
   rw [za8 hst, ih (k + 1) _ (by omega) (by simp only [List.length_append] at hq ⊢; omega)]
   simp only [List.append_assoc]
 have := key gave.length 0 p (by omega) (by simpa using hp)
 simpa using this
theorem out3 (hok : ∀ x ∈ took, okM0 x) (hl : took.length ≤ 1000) (n n2 : Int) (r : List zaa) (m : List (Int × Int)) (m2 : List ((Int × Int) × Int)) (p : List Int) (hp : (p ++ took.flatMap zjh).length ≤ 9000000) :
  runL (zaY (took.length : Int) n n2 r m m2 took) (0, p) = some (p ++ took.flatMap zjh) := by
 have key : ∀ (d k : Nat) (q : List Int), k + d = took.length → (q ++ (took.drop k).flatMap zjh).length ≤ 9000000 → runL (zaY (took.length : Int) n n2 r m m2 took) ((k : Int), q) = some (q ++ (took.drop k).flatMap zjh) := by
  intro d
  induction d with
  | zero =>
   intro k q hk _
   rw [List.drop_of_length_le (by omega)]
   simp only [List.flatMap_nil, List.append_nil]
   exact zaA (by simp only [zaY, List.length_map, df (show ¬ (k : Int) < (took.length : Int) by omega), cond_false])
  | succ d ih =>
   intro k q hk hq
   have hlt : k < took.length := by omega
   have hd : took.drop k = took[k] :: took.drop (k + 1) := List.drop_eq_getElem_cons hlt
   have hg := List.getElem?_eq_getElem hlt
   have ho := hok _ (List.getElem_mem hlt)
   rw [hd, List.flatMap_cons] at hq ⊢
   have hc : (k : Int) + 1 = ((k + 1 : Nat) : Int) := by simp
   have hst : zaY (took.length : Int) n n2 r m m2 took ((k : Int), q) = some (.inl (((k + 1 : Nat) : Int), q ++ zjh took[k])) := by
    cases hx : took[k] with | mk a b =>
     rw [hx] at hg ho hq
     obtain ⟨o1, o2, o3, o4⟩ := ho
     simp only [zjh, List.length_append] at hq
     have w1 := W.num_eq (p := q) (n := a) o1 (by omega) (by omega)
     have w2 := W.num_eq (p := q ++ W.varint a) (n := b) o3 o4 (by rw [List.length_append]; omega)
     simp only [zaY, List.length_map, len1 hlt, dt (show (0 : Int) ≤ (k : Int) by omega), cond_true, Bool.and_self, Int.toNat_natCast, Nat.zero_add, hg, Option.bind_some, zso o1 o2, w1, w2, zdU (k : Int) (by omega) (by omega), hc, zjh, List.append_assoc]
   rw [za8 hst, ih (k + 1) _ (by omega) (by simp only [List.length_append] at hq ⊢; omega)]
   simp only [List.append_assoc]
 have := key took.length 0 p (by omega) (by simpa using hp)
 simpa using this
end
end Go.Proofs.YtjjcmgdgifcmgaaGreat
