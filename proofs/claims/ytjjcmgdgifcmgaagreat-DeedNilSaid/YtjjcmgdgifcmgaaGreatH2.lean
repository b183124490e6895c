/- Chapter 15: what was given and taken, in both forms; giving, done, taking. Plain. -/
import Derived.Test.YtjjcmgdgifcmgaaGreatH1
set_option linter.unusedVariables false
set_option linter.unusedSimpArgs false
namespace Go.Proofs.YtjjcmgdgifcmgaaGreat
open Go.Ev Go.Lib
section
variable {K V : Type} [DecidableEq K]
theorem zkn {k : K} : ∀ {m : List (K × V)}, mget k m = none ↔ k ∉ m.map (·.1)
 | [] => by simp [mget]
 | e :: m => by
  simp only [mget, List.map_cons, List.mem_cons, not_or]
  by_cases h : k = e.1
  ·simp [h]
  ·simp [h, zkn]
theorem zlG {k : K} {v : V} : ∀ {m : List (K × V)}, mget k m = some v → (k, v) ∈ m
 | [], h => by simp [mget] at h
 | e :: m, h => by
  simp only [mget] at h
  by_cases hk : k = e.1
  ·simp only [dt hk, cond_true, Option.some.injEq] at h
   rw [hk, ← h]
   simp
  ·simp only [df hk, cond_false] at h
   exact List.mem_cons_of_mem _ (zlG h)
theorem zmy {k : K} {v : V} : ∀ {m : List (K × V)}, (mset k v m).map (·.1) = if k ∈ m.map (·.1) then m.map (·.1) else m.map (·.1) ++ [k]
 | [] => by simp [mset]
 | e :: m => by
  simp only [mset]
  by_cases hk : k = e.1
  ·simp [hk]
  ·rw [df hk]
   simp only [cond_false, List.map_cons]
   rw [zmy (k := k) (v := v) (m := m)]
   simp only [List.mem_cons, hk, false_or]
   split <;> rfl
theorem zoz {k : K} {v : V} {e : K × V} : ∀ {m : List (K × V)}, e ∈ mset k v m → e ∈ m ∨ e = (k, v)
 | [], h => by simp only [mset, List.mem_singleton] at h; exact .inr h
 | f :: m, h => by
  simp only [mset] at h
  by_cases hk : k = f.1
  ·simp only [dt hk, cond_true, List.mem_cons] at h
   rcases h with rfl | h
   ·exact .inr rfl
   ·exact .inl (by simp [h])
  ·simp only [df hk, cond_false, List.mem_cons] at h
   rcases h with rfl | h
   ·exact .inl (by simp)
   ·rcases zoz h with h | h
    ·exact .inl (by simp [h])
    ·exact .inr h
theorem zoy {k : K} {v : V} : ∀ {m : List (K × V)}, (mset k v m).length ≤ m.length + 1
 | [] => by simp [mset]
 | f :: m => by
  simp only [mset]
  cases decide (k = f.1) with
  | true => simp
  | false => simp only [cond_false, List.length_cons]; have := zoy (k := k) (v := v) (m := m); omega
theorem ziW {k : K} {v w : V} : ∀ {m : List (K × V)}, mset k v (mset k w m) = mset k v m
 | [] => by simp [mset]
 | f :: m => by
  simp only [mset]
  cases h : decide (k = f.1) with
  | true => simp [mset]
  | false => simp only [cond_false, mset, h]; rw [ziW]
end
def ltP (a b : Int × Int) : Prop := a.1 < b.1 ∨ a.1 = b.1 ∧ a.2 < b.2
instance (a b : Int × Int) : Decidable (ltP a b) := by unfold ltP; infer_instance
theorem zsr {a b c : Int × Int} (h : ltP a b) (h2 : ltP b c) : ltP a c := by unfold ltP at *; omega
theorem zuD {a b : Int × Int} (h : ¬ ltP a b) (hn : a ≠ b) : ltP b a := by
 unfold ltP at *
 have : ¬ (a.1 = b.1 ∧ a.2 = b.2) := fun e => hn (Prod.ext e.1 e.2)
 omega
def insP (m : Int × Int) (l : List (Int × Int)) : List (Int × Int) := l.takeWhile (fun a => decide (ltP a m)) ++ m :: l.dropWhile (fun a => decide (ltP a m))
theorem zo6 (m : Int × Int) (l : List (Int × Int)) : (insP m l).Perm (m :: l) := by
 unfold insP
 refine List.perm_middle.trans ?_
 rw [List.takeWhile_append_dropWhile]
theorem zmd {m : Int × Int} : ∀ {l : List (Int × Int)}, l.Pairwise ltP → m ∉ l → (insP m l).Pairwise ltP
 | [], _, _ => by simp [insP]
 | a :: l, hl, hm => by
  simp only [List.mem_cons, not_or] at hm
  obtain ⟨h1, h2⟩ := List.pairwise_cons.1 hl
  by_cases hp : ltP a m
  ·have ih := zmd h2 hm.2
   have e : insP m (a :: l) = a :: insP m l := by simp [insP, hp]
   rw [e]
   refine List.pairwise_cons.2 ⟨fun x hx => ?_, ih⟩
   rcases List.mem_cons.1 ((zo6 m l).mem_iff.1 hx) with rfl | hx
   ·exact hp
   ·exact h1 x hx
  ·have e : insP m (a :: l) = m :: a :: l := by simp [insP, hp]
   rw [e]
   have hma := zuD hp (fun e => hm.1 e.symm)
   refine List.pairwise_cons.2 ⟨fun x hx => ?_, hl⟩
   rcases List.mem_cons.1 hx with rfl | hx
   ·exact hma
   ·exact zsr hma (h1 x hx)
theorem zve (x y : Int) : mkR (.mk x y) = (x, y) := rfl
theorem zoO (a b c d : Int) : zgk a b c d = some (decide (ltP (a, b) (c, d))) := by
 unfold zgk ltP
 by_cases h1 : a < c
 ·simp [h1]
 ·by_cases h2 : a = c
  ·simp [h2]
  ·simp [h1, h2]
theorem ztO {r2 : List zac} (h : r2.length ≤ 1000) (f no n n2 : Int) (r : List zab) (l : List Int) :
  runL (zbz n n2 r l r2 f no) 0 = some (((r2.takeWhile (fun a => decide (ltP (mkR a) (f, no)))).length : Nat) : Int) := by
 have key : ∀ (d k : Nat), k + d = r2.length → (∀ a ∈ r2.take k, ltP (mkR a) (f, no)) → runL (zbz n n2 r l r2 f no) (k : Int) = some (((r2.takeWhile (fun a => decide (ltP (mkR a) (f, no)))).length : Nat) : Int) := by
  have tw : ∀ k, k ≤ r2.length → (∀ a ∈ r2.take k, ltP (mkR a) (f, no)) → (∀ a, r2[k]? = some a → ¬ ltP (mkR a) (f, no)) → (r2.takeWhile (fun a => decide (ltP (mkR a) (f, no)))).length = k := by
   intro k hk h1 h2
   have e : r2 = r2.take k ++ r2.drop k := (List.take_append_drop k r2).symm
   rw [e, List.takeWhile_append_of_pos (fun a ha => by simpa using h1 a ha)]
   cases hd : r2.drop k with
   | nil => simp; omega
   | cons b rest =>
    have hb : r2[k]? = some b := by
     have := congrArg (·[0]?) hd
     simpa using this
    have := h2 b hb
    rw [List.takeWhile_cons_of_neg (by simpa using this)]
    simp; omega
  intro d
  induction d with
  | zero =>
   intro k hk h1
   have hkl : k = r2.length := by omega
   rw [tw k (by omega) h1 (fun a ha => by have := (List.getElem?_eq_some_iff.1 ha).1; omega)]
   refine zbi ?_
   simp only [zbz, List.length_map, df (show ¬ (k : Int) < (r2.length : Int) by omega), cond_false]
  | succ d ih =>
   intro k hk h1
   have hlt : k < r2.length := by omega
   have hg := List.getElem?_eq_getElem hlt
   cases hx : r2[k] with
   | mk x y =>
    rw [hx] at hg
    by_cases hb : ltP (x, y) (f, no)
    ·have hs : zbz n n2 r l r2 f no (k : Int) = some (.inl ((k : Int) + 1)) := by
      simp only [zbz, List.length_map, dt (show (k : Int) < (r2.length : Int) by omega), dt (show (0 : Int) ≤ (k : Int) by omega), cond_true, Bool.and_self, Int.toNat_natCast, hg, Option.bind_some, zoO, dt hb, zep (k : Int) (by omega) (by omega)]
     rw [zbw hs]
     have := ih (k + 1) (by omega) (fun a ha => by
      rw [List.take_succ_eq_append_getElem hlt] at ha
      rcases List.mem_append.1 ha with ha | ha
      ·exact h1 a ha
      ·rw [List.mem_singleton] at ha; rw [ha, hx]; exact hb)
     simpa using this
    ·rw [tw k (by omega) h1 (fun a ha => by rw [hg] at ha; cases ha; exact hb)]
     refine zbi ?_
     simp only [zbz, List.length_map, dt (show (k : Int) < (r2.length : Int) by omega), dt (show (0 : Int) ≤ (k : Int) by omega), cond_true, Bool.and_self, Int.toNat_natCast, hg, Option.bind_some, zoO, df hb, cond_false]
 have := key r2.length 0 (by omega) (by simp)
 simpa using this
theorem zuW {α : Type} (p : α → Bool) (l : List α) : l.take (l.takeWhile p).length = l.takeWhile p := by
 have h := List.take_left (l₁ := l.takeWhile p) (l₂ := l.dropWhile p)
 rwa [List.takeWhile_append_dropWhile] at h
theorem zuV {α : Type} (p : α → Bool) (l : List α) : l.drop (l.takeWhile p).length = l.dropWhile p := by
 have h := List.drop_left (l₁ := l.takeWhile p) (l₂ := l.dropWhile p)
 rwa [List.takeWhile_append_dropWhile] at h
theorem zo1 {n : Nat} (h : n ≤ 100000) : fits n = true := zdg (by omega)
theorem zsR {r2 : List zac} (h : r2.length ≤ 1000) (f no to n n2 : Int) {i : Bool} {t : Idt} (r : List zab) (l : List Int) (hR : zff no f to (zeh i t) = some true) (hto : to = n) (hm : (f, no) ∉ r2.map mkR) :
  ∃ r4, zcD no f to (zeh i t) n n2 r l r2 = some (0, r4) ∧ r4.map mkR = insP (f, no) (r2.map mkR) := by
 have e1 : (r2.takeWhile (fun a => decide (ltP (mkR a) (f, no)))).length ≤ r2.length := (List.takeWhile_sublist _).length_le
 have ht : r2.take (r2.takeWhile (fun a => decide (ltP (mkR a) (f, no)))).length = r2.takeWhile (fun a => decide (ltP (mkR a) (f, no))) := zuW _ _
 have hd : r2.drop (r2.takeWhile (fun a => decide (ltP (mkR a) (f, no)))).length = r2.dropWhile (fun a => decide (ltP (mkR a) (f, no))) := zuV _ _
 generalize hk : (r2.takeWhile (fun a => decide (ltP (mkR a) (f, no)))).length = k at e1 ht hd
 have hp := ztO h f no n n2 r l
 rw [hk] at hp
 have fin : (r2.take k ++ zac.mk f no :: r2.drop k).map mkR = insP (f, no) (r2.map mkR) := by
  rw [ht, hd]
  simp only [insP, List.map_append, List.map_cons, zve, List.takeWhile_map, List.dropWhile_map, Function.comp_def]
 refine ⟨r2.take k ++ zac.mk f no :: r2.drop k, ?_, fin⟩
 unfold zcD
 rw [hR]
 have e2 : ((r2.length : Int) - (k : Int)).toNat = r2.length - k := by omega
 have e3 : ((k : Int) - 0).toNat = k := by omega
 have e4 : List.take (r2.length - k) (List.drop k r2) = List.drop k r2 := List.take_of_length_le (by simp)
 have e5 : List.take (r2.length - k) (List.drop k (List.map zac.pv r2)) = List.drop k (List.map zac.pv r2) := List.take_of_length_le (by simp)
 simp only [Option.bind_some, cond_true, dt hto, zrf h, df hm, cond_false, hp, List.length_map, dt (show (0 : Int) ≤ (k : Int) by omega), dt (show (k : Int) ≤ (r2.length : Int) by omega), dt (show (r2.length : Int) ≤ (r2.length : Int) by omega), decide_true, Bool.and_self, Int.toNat_natCast, e2, e3, e4, e5, dt (show (0 : Int) ≤ 0 by omega), List.nil_append, List.length_drop, List.length_take, List.length_append, List.length_cons, List.length_nil, List.take_length]
 have hmin : min k r2.length = k := by omega
 have g1 : fits k = true := zo1 (by omega)
 have g2 : fits (k + (0 + 1)) = true := zo1 (by omega)
 have g3 : fits (0 + 1 + (r2.length - k)) = true := zo1 (by omega)
 have g4 : fits (k + (0 + 1 + (r2.length - k))) = true := zo1 (by omega)
 have t1 : List.take (0 + 1 + (r2.length - k)) ([zac.mk f no] ++ List.drop k r2) = [zac.mk f no] ++ List.drop k r2 := List.take_of_length_le (by simp; omega)
 have t2 : List.take (k + (0 + 1 + (r2.length - k))) (List.take k r2 ++ ([zac.mk f no] ++ List.drop k r2)) = List.take k r2 ++ ([zac.mk f no] ++ List.drop k r2) := List.take_of_length_le (by simp; omega)
 have t3 : List.take (k + (0 + 1)) (List.take k r2 ++ [zac.mk f no]) = List.take k r2 ++ [zac.mk f no] := List.take_of_length_le (by simp; omega)
 have b0 : ∀ n : Nat, n ≠ 0 → Nat.beq n 0 = false := fun n hn => by cases n with | zero => exact absurd rfl hn | succ n => rfl
 simp only [hmin, Nat.min_self, g1, g2, g3, g4, t1, t2, t3, cond_true]
 by_cases hA : r2.length - k = 0
 ·have hdn : r2.drop k = [] := List.drop_of_length_le (by omega)
  rw [hA, hdn]
  by_cases hB : k = 0
  ·subst hB; rfl
  ·rw [b0 k hB]; rfl
 ·rw [b0 _ hA]
  by_cases hB : k = 0
  ·subst hB; rfl
  ·rw [b0 k hB]; rfl
def r12 (p : Int → Bool) : List Int := ((List.range 12).map fun n : Nat => (n : Int)).filter p
theorem zsH {p : Int → Bool} {x : Int} : x ∈ r12 p ↔ 0 ≤ x ∧ x < 12 ∧ p x = true := by
 unfold r12
 simp only [List.mem_filter, List.mem_map, List.mem_range]
 constructor
 ·rintro ⟨⟨n, hn, rfl⟩, hp⟩; exact ⟨by omega, by omega, hp⟩
 ·rintro ⟨h0, h1, hp⟩; exact ⟨⟨x.toNat, by omega, by omega⟩, hp⟩
theorem zsG (p : Int → Bool) : (r12 p).length ≤ 12 := by
 unfold r12
 exact Nat.le_trans (List.length_filter_le _ _) (by simp)
theorem zrH (p : Int → Bool) : (r12 p).Pairwise (· < ·) := by
 unfold r12
 refine List.Pairwise.filter _ ?_
 rw [List.pairwise_map]
 exact List.pairwise_lt_range.imp fun h => by omega
theorem zmF {p q : Int → Bool} (h : ∀ x, 0 ≤ x → x < 12 → p x = q x) : r12 p = r12 q := by
 unfold r12
 refine List.filter_congr fun x hx => ?_
 obtain ⟨n, hn, rfl⟩ := List.mem_map.1 hx
 exact h _ (by omega) (by have := List.mem_range.1 hn; omega)
theorem zsb {l : List Int} (hl : l.length ≤ 1000) (to n n2 n3 n4 n5 : Int) (t : zah) (r : List zac) (r2 : List zab) :
  runL (za3 to n n2 l r n3 n4 n5 t r2) (0, []) = some (r12 fun x => decide (x = to) || decide (x ∈ l)) := by
 have key : ∀ (d k : Nat) (acc : List Int), k + d = 12 → acc.length ≤ k → runL (za3 to n n2 l r n3 n4 n5 t r2) ((k : Int), acc) = some (acc ++ ((List.range' k d).map fun n : Nat => (n : Int)).filter fun x => decide (x = to) || decide (x ∈ l)) := by
  intro d
  induction d with
  | zero =>
   intro k acc hk ha
   refine zbi ?_
   simp only [za3, df (show ¬ (k : Int) < 12 by omega), cond_false]
   simp
  | succ d ih =>
   intro k acc hk ha
   have hf : fits (acc ++ [(k : Int)]).length = true := zo1 (by simp; omega)
   have hc : (k : Int) + 1 = ((k + 1 : Nat) : Int) := by simp
   rw [List.range'_succ, List.map_cons]
   by_cases h1 : (k : Int) = to
   ·have hs : za3 to n n2 l r n3 n4 n5 t r2 ((k : Int), acc) = some (.inl ((k : Int) + 1, acc ++ [(k : Int)])) := by
     simp only [za3, dt (show (k : Int) < 12 by omega), cond_true, dt h1, hf, zep (k : Int) (by omega) (by omega)]
    rw [zbw hs, hc, ih (k + 1) _ (by omega) (by simp; omega)]
    simp [h1]
   ·by_cases h2 : (k : Int) ∈ l
    ·have hs : za3 to n n2 l r n3 n4 n5 t r2 ((k : Int), acc) = some (.inl ((k : Int) + 1, acc ++ [(k : Int)])) := by
      simp only [za3, dt (show (k : Int) < 12 by omega), cond_true, df h1, cond_false, zoC hl, dt h2, Option.bind_some, hf, zep (k : Int) (by omega) (by omega)]
     rw [zbw hs, hc, ih (k + 1) _ (by omega) (by simp; omega)]
     simp [h2]
    ·have hs : za3 to n n2 l r n3 n4 n5 t r2 ((k : Int), acc) = some (.inl ((k : Int) + 1, acc)) := by
      simp only [za3, dt (show (k : Int) < 12 by omega), cond_true, df h1, cond_false, zoC hl, df h2, Option.bind_some, zep (k : Int) (by omega) (by omega)]
     rw [zbw hs, hc, ih (k + 1) _ (by omega) (by omega)]
     simp [h1, h2]
 have := key 12 0 [] (by omega) (by simp)
 unfold r12
 rw [List.range_eq_range']
 simpa using this
end Go.Proofs.YtjjcmgdgifcmgaaGreat
