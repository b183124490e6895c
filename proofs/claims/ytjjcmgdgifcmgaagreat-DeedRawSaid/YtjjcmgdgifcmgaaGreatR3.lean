/- Lists that are looked through; zo8 that test each; keys that are told apart. Plain. -/
import Derived.Test.YtjjcmgdgifcmgaaGreatR2
set_option linter.unusedVariables false
set_option linter.unusedSimpArgs false
namespace Go.Proofs.YtjjcmgdgifcmgaaGreat
open Go.Ev Go.Lib
theorem zdU (n : Int) (h0 : -1000 ≤ n) (h : n < 100000) : iadd .i64 n 1 = n + 1 := by
 unfold iadd
 simp [IntKind.wrap, IntKind.bits, IntKind.signed]
 omega
theorem zpm (n : Int) (h0 : -1000 ≤ n) (h : n < 100000) : isub .i64 n 1 = n - 1 := by
 unfold isub
 simp [IntKind.wrap, IntKind.bits, IntKind.signed]
 omega
def fi {α : Type} (p : α → Bool) : List α → Nat → Option (Nat × α)
 | [], _ => none
 | a :: l, k => if p a = true then some (k, a) else fi p l (k + 1)
theorem zp2 {α : Type} {p : α → Bool} : ∀ {l : List α} {k : Nat}, fi p l k = none ↔ ∀ a ∈ l, p a = false
 | [], k => by simp [fi]
 | a :: l, k => by
  unfold fi
  cases h : p a with
  | true => simp [h]
  | false => simp [h, zp2]
theorem zl2 {α : Type} {p : α → Bool} : ∀ {l : List α} {k j : Nat} {a : α}, fi p l k = some (j, a) → ∃ i, j = k + i ∧ l[i]? = some a ∧ p a = true ∧ ∀ i2 b, i2 < i → l[i2]? = some b → p b = false
 | [], k, j, a, h => by simp [fi] at h
 | b :: l, k, j, a, h => by
  unfold fi at h
  cases hb : p b with
  | true =>
   rw [hb] at h
   simp only [if_true, Option.some.injEq, Prod.mk.injEq] at h
   obtain ⟨rfl, rfl⟩ := h
   exact ⟨0, rfl, rfl, hb, fun i2 b h => absurd h (Nat.not_lt_zero _)⟩
  | false =>
   rw [hb] at h
   simp only [Bool.false_eq_true, if_false] at h
   obtain ⟨i, h1, h2, h3, h4⟩ := zl2 h
   refine ⟨i + 1, by omega, by simpa using h2, h3, fun i2 c hi hc => ?_⟩
   cases i2 with
   | zero => simp at hc; rw [← hc]; exact hb
   | succ i2 => exact h4 i2 c (by omega) (by simpa using hc)
theorem scan {α X Y : Type} {step : Int → Option (Int ⊕ (X ⊕ Y))} {l : List α} {p : α → Bool} {ex : Nat → α → X} {y : Y}
  (hs : ∀ (j : Nat) (a : α), l[j]? = some a → step (j : Int) = some (if p a = true then .inr (.inl (ex j a)) else .inl ((j : Int) + 1))) (he : step (l.length : Int) = some (.inr (.inr y))) :
  runL step 0 = some (match fi p l 0 with | some z => .inl (ex z.1 z.2) | none => .inr y) := by
 have key : ∀ (d k : Nat), k + d = l.length → runL step (k : Int) = some (match fi p (l.drop k) k with | some z => .inl (ex z.1 z.2) | none => .inr y) := by
  intro d
  induction d with
  | zero =>
   intro k hk
   rw [List.drop_of_length_le (by omega)]
   have : k = l.length := by omega
   subst this
   exact zaA he
  | succ d ih =>
   intro k hk
   have hlt : k < l.length := by omega
   have hd : l.drop k = l[k] :: l.drop (k + 1) := List.drop_eq_getElem_cons hlt
   have h1 := hs k l[k] (List.getElem?_eq_getElem hlt)
   rw [hd]
   unfold fi
   cases hp : p l[k] with
   | true =>
    rw [hp] at h1
    simp only [if_true] at h1 ⊢
    exact zaA h1
   | false =>
    rw [hp] at h1
    simp only [Bool.false_eq_true, if_false] at h1 ⊢
    rw [za8 h1]
    have := ih (k + 1) (by omega)
    simpa using this
 have := key l.length 0 (by omega)
 simpa using this
theorem thru {α : Type} {step : Int → Option (Int ⊕ Unit)} {l : List α} (hs : ∀ (j : Nat) (a : α), l[j]? = some a → step (j : Int) = some (.inl ((j : Int) + 1))) (he : step (l.length : Int) = some (.inr ())) : runL step 0 = some () := by
 have key : ∀ (d k : Nat), k + d = l.length → runL step (k : Int) = some () := by
  intro d
  induction d with
  | zero =>
   intro k hk
   have : k = l.length := by omega
   subst this
   exact zaA he
  | succ d ih =>
   intro k hk
   have hlt : k < l.length := by omega
   rw [za8 (hs k l[k] (List.getElem?_eq_getElem hlt))]
   exact ih (k + 1) (by omega)
 exact key l.length 0 (by omega)
theorem zlR {α : Type} {l : List α} {st : Bool × Int → Option ((Bool × Int) ⊕ Bool)} (t : Nat → α → Bool) (hs : ∀ (b : Bool) (k : Nat) (x : α), l[k]? = some x → st (b, (k : Int)) = some (.inl (b && t k x, (k : Int) + 1)))
  (he : ∀ b, st (b, (l.length : Int)) = some (.inr b)) (b : Bool) : ∃ r, runL st (b, 0) = some r ∧ (r = true ↔ b = true ∧ ∀ k x, l[k]? = some x → t k x = true) := by
 have key : ∀ (d k : Nat) (b : Bool), k + d = l.length → ∃ r, runL st (b, (k : Int)) = some r ∧ (r = true ↔ b = true ∧ ∀ j x, k ≤ j → l[j]? = some x → t j x = true) := by
  intro d
  induction d with
  | zero =>
   intro k b hk
   have : k = l.length := by omega
   subst this
   refine ⟨b, zaA (he b), ⟨fun h => ⟨h, fun j x hj hx => ?_⟩, fun h => h.1⟩⟩
   have := (List.getElem?_eq_some_iff.1 hx).1
   omega
  | succ d ih =>
   intro k b hk
   have hlt : k < l.length := by omega
   have hg := List.getElem?_eq_getElem hlt
   obtain ⟨r, h1, h2⟩ := ih (k + 1) (b && t k l[k]) (by omega)
   refine ⟨r, ?_, ?_⟩
   ·rw [za8 (hs b k l[k] hg)]
    exact h1
   ·rw [h2, Bool.and_eq_true]
    constructor
    ·rintro ⟨⟨h3, h4⟩, h5⟩
     refine ⟨h3, fun j x hj hx => ?_⟩
     rcases Nat.eq_or_lt_of_le hj with rfl | hj
     ·rw [hg] at hx; cases hx; exact h4
     ·exact h5 j x hj hx
    ·rintro ⟨h3, h4⟩
     exact ⟨⟨h3, h4 k _ (Nat.le_refl _) hg⟩, fun j x hj hx => h4 j x (by omega) hx⟩
 obtain ⟨r, h1, h2⟩ := key l.length 0 b (by omega)
 exact ⟨r, h1, h2.trans ⟨fun h => ⟨h.1, fun k x hx => h.2 k x (Nat.zero_le _) hx⟩, fun h => ⟨h.1, fun k x _ hx => h.2 k x hx⟩⟩⟩
def Adj {α : Type} (lt : α → α → Bool) (l : List α) : Prop := ∀ (i : Nat) a b, l[i]? = some a → l[i + 1]? = some b → lt a b = true
theorem zuz {α : Type} {l : List α} {lt : α → α → Bool} {st : Int → Option (Int ⊕ (Unit ⊕ Unit))}
  (hs : ∀ (i : Nat) a b, l[i]? = some a → l[i + 1]? = some b → st ((i : Int) + 1) = some (if lt a b = true then .inl ((i : Int) + 2) else .inr (.inl ())))
  (he : ∀ k : Int, (l.length : Int) ≤ k → st k = some (.inr (.inr ()))) : ∃ z, runL st 1 = some z ∧ ((∃ u, z = .inr u) ↔ Adj lt l) := by
 have key : ∀ (d i : Nat), l.length ≤ i + 1 + d → ∃ z, runL st ((i : Int) + 1) = some z ∧ ((∃ u, z = .inr u) ↔ ∀ (j : Nat) a b, i ≤ j → l[j]? = some a → l[j + 1]? = some b → lt a b = true) := by
  intro d
  induction d with
  | zero =>
   intro i hi
   refine ⟨.inr (), zaA (he _ (by omega)), ⟨fun _ j a b hj ha hb => ?_, fun _ => ⟨(), rfl⟩⟩⟩
   have := (List.getElem?_eq_some_iff.1 hb).1
   omega
  | succ d ih =>
   intro i hi
   rcases Nat.lt_or_ge (i + 1) l.length with h | h
   ·have ha := List.getElem?_eq_getElem (l := l) (i := i) (by omega)
    have hb := List.getElem?_eq_getElem h
    have h1 := hs i _ _ ha hb
    cases hlt : lt l[i] l[i + 1] with
    | true =>
     rw [hlt] at h1
     simp only [if_true] at h1
     obtain ⟨z, h2, h3⟩ := ih (i + 1) (by omega)
     refine ⟨z, ?_, h3.trans ⟨fun h j a b hj h4 h5 => ?_, fun h j a b hj => h j a b (by omega)⟩⟩
     ·rw [za8 h1]
      have : ((i + 1 : Nat) : Int) + 1 = (i : Int) + 2 := by omega
      rw [← this]; exact h2
     ·rcases Nat.eq_or_lt_of_le hj with rfl | hj
      ·rw [ha] at h4; rw [hb] at h5; cases h4; cases h5; exact hlt
      ·exact h j a b hj h4 h5
    | false =>
     rw [hlt] at h1
     simp only [Bool.false_eq_true, if_false] at h1
     refine ⟨.inl (), zaA h1, ⟨fun hu => (by obtain ⟨u, hu⟩ := hu; cases hu), fun h => ?_⟩⟩
     have := h i _ _ (Nat.le_refl _) ha hb
     rw [hlt] at this; cases this
   ·refine ⟨.inr (), zaA (he _ (by omega)), ⟨fun _ j a b hj ha hb => ?_, fun _ => ⟨(), rfl⟩⟩⟩
    have := (List.getElem?_eq_some_iff.1 hb).1
    omega
 obtain ⟨z, h1, h2⟩ := key l.length 0 (by omega)
 exact ⟨z, h1, h2.trans ⟨fun h i a b => h i a b (Nat.zero_le _), fun h j a b _ => h j a b⟩⟩
theorem Adj.pairwise {α : Type} {lt : α → α → Bool} {l : List α} (h : Adj lt l) (ht : ∀ a b c, lt a b = true → lt b c = true → lt a c = true) : l.Pairwise fun a b => lt a b = true := by
 rw [List.pairwise_iff_getElem]
 have key : ∀ (d i : Nat) (hi : i < l.length) (hj : i + 1 + d < l.length), lt l[i] l[i + 1 + d] = true := by
  intro d
  induction d with
  | zero => intro i hi hj; exact h i _ _ (List.getElem?_eq_getElem hi) (List.getElem?_eq_getElem hj)
  | succ d ih =>
   intro i hi hj
   exact ht _ _ _ (ih i hi (by omega)) (h (i + 1 + d) _ _ (List.getElem?_eq_getElem (by omega)) (List.getElem?_eq_getElem hj))
 intro i j hi hj hij
 have := key (j - (i + 1)) i hi (by omega)
 have e : i + 1 + (j - (i + 1)) = j := by omega
 simpa only [e] using this
theorem zw6 {α : Type} (key : α → Int) (l : List α) : (∀ (k : Nat) x, l[k]? = some x → ∃ y, fi (fun g => decide (key g = key x)) l 0 = some (k, y)) ↔ (l.map key).Nodup := by
 constructor
 ·intro h
  unfold List.Nodup
  rw [List.pairwise_iff_getElem]
  intro i j hi hj hij he
  simp only [List.length_map] at hi hj
  simp only [List.getElem_map] at he
  obtain ⟨y, hy⟩ := h j l[j] (List.getElem?_eq_getElem hj)
  obtain ⟨i0, h1, h2, h3, h4⟩ := zl2 hy
  have := h4 i l[i] (by omega) (List.getElem?_eq_getElem hi)
  simp [he] at this
 ·intro h k x hx
  have hlt := (List.getElem?_eq_some_iff.1 hx).1
  cases hf : fi (fun g => decide (key g = key x)) l 0 with
  | none =>
   have := zp2.1 hf x (List.mem_of_getElem? hx)
   simp at this
  | some z =>
   obtain ⟨j, y⟩ := z
   obtain ⟨i, h1, h2, h3, _⟩ := zl2 hf
   have hk : key y = key x := of_decide_eq_true h3
   have e : i = k := by
    refine (List.getElem?_inj (l := l.map key) (by rw [List.length_map]; exact (List.getElem?_eq_some_iff.1 h2).1) h).1 ?_
    rw [List.getElem?_map, List.getElem?_map, h2, hx]
    simp [hk]
   exact ⟨y, by rw [show j = k by omega]⟩
section
variable {K : Type} [DecidableEq K] {V : Type}
theorem zoa {k : K} : ∀ {m : List (K × V)}, mget k m = none ↔ k ∉ m.map (·.1)
 | [] => by simp [mget]
 | e :: m => by
  simp only [mget, List.map_cons, List.mem_cons, not_or]
  by_cases h : k = e.1
  ·simp [h]
  ·simp [h, zoa]
theorem zq4 {k : K} {v : V} : ∀ {m : List (K × V)}, (mset k v m).map (·.1) = if k ∈ m.map (·.1) then m.map (·.1) else m.map (·.1) ++ [k]
 | [] => by simp [mset]
 | e :: m => by
  simp only [mset]
  by_cases hk : k = e.1
  ·simp [hk]
  ·rw [df hk]
   simp only [cond_false, List.map_cons]
   rw [zq4 (k := k) (v := v) (m := m)]
   simp only [List.mem_cons, hk, false_or]
   split <;> rfl
theorem zqi {k : K} {v : V} : ∀ {m : List (K × V)}, k ∉ m.map (·.1) → mset k v m = m ++ [(k, v)]
 | [], _ => rfl
 | (q, w) :: m, h => by
  simp only [List.map_cons, List.mem_cons, not_or] at h
  simp only [mset, decide_eq_false h.1, cond_false, zqi h.2]
  rfl
theorem zq5 {k : K} {v w : V} : ∀ {m : List (K × V)}, k ∉ m.map (·.1) → mset k v (m ++ [(k, w)]) = m ++ [(k, v)]
 | [], _ => by simp [mset]
 | (q, u) :: m, h => by
  simp only [List.map_cons, List.mem_cons, not_or] at h
  simp only [List.cons_append, mset, decide_eq_false h.1, cond_false, zq5 h.2]
end
def znR : List Int → List Int → List Int
 | acc, [] => acc
 | acc, x :: l => znR (if x ∈ acc then acc else acc ++ [x]) l
theorem zl5 : ∀ (l acc : List Int), acc.Nodup → (znR acc l).length ≤ acc.length + l.length ∧ ((znR acc l).length = acc.length + l.length ↔ (acc ++ l).Nodup)
 | [], acc, h => by simp [znR, h]
 | x :: l, acc, h => by
  unfold znR
  by_cases hx : x ∈ acc
  ·rw [if_pos hx]
   obtain ⟨h1, h2⟩ := zl5 l acc h
   refine ⟨by simp only [List.length_cons]; omega, ⟨fun he => by simp only [List.length_cons] at he; omega, fun hn => ?_⟩⟩
   rw [List.nodup_append] at hn
   exact absurd rfl (hn.2.2 x hx x (by simp))
  ·rw [if_neg hx]
   have hn : (acc ++ [x]).Nodup := by rw [List.nodup_append]; exact ⟨h, by simp, fun a ha b hb => by simp at hb; subst hb; exact fun e => hx (e ▸ ha)⟩
   obtain ⟨h1, h2⟩ := zl5 l (acc ++ [x]) hn
   simp only [List.length_append, List.length_cons, List.length_nil] at h1 h2 ⊢
   refine ⟨by omega, ?_⟩
   rw [show acc ++ x :: l = acc ++ [x] ++ l by simp, ← h2]
   omega
end Go.Proofs.YtjjcmgdgifcmgaaGreat
