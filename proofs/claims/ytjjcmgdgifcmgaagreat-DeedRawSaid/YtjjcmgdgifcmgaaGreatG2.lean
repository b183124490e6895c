/- Chapter 06: numbers and texts, written and read, for the Deed seat (turned from wip/ev12 by mkDeed2.py). Plain. -/
import Derived.Test.YtjjcmgdgifcmgaaGreatG1
import Derived.Test.YtjjcmgdgifcmgaaGreatQ3
set_option linter.unusedVariables false
set_option linter.unusedSimpArgs false
namespace Go.Proofs.YtjjcmgdgifcmgaaGreat.W
open Go.Ev
theorem i64_in {n : Int} (h : -1000000000000 ≤ n) (h' : n ≤ 1000000000000) : IntKind.i64.wrap n = n := IntWalk.i64_in n ⟨by omega, by omega⟩
theorem zh8 {l : List Int} {i : Nat} (h : i < l.length) : l.drop i = l.getD i 0 :: l.drop (i + 1) := by
 rw [List.drop_eq_getElem_cons h]
 simp [List.getD, h]
def Bytes (l : List Int) : Prop := ∀ x ∈ l, 0 ≤ x ∧ x < 256
theorem Bytes.at {l : List Int} (h : Bytes l) {i : Nat} (hi : i < l.length) : 0 ≤ l.getD i 0 ∧ l.getD i 0 < 256 := by
 have : l.getD i 0 ∈ l := by simp [List.getD, hi]
 exact h _ this
theorem zxn {a b n : Nat} (ha : a < 2 ^ n) : a ||| b * 2 ^ n = a + b * 2 ^ n := by
 rw [Nat.or_comm, Nat.mul_comm, ← Nat.two_pow_add_eq_or_of_lt ha, Nat.add_comm]
theorem Bytes.take {l : List Int} (h : Bytes l) (n : Nat) : Bytes (l.take n) := fun x hx => h x (List.mem_of_mem_take hx)
theorem Bytes.drop {l : List Int} (h : Bytes l) (n : Nat) : Bytes (l.drop n) := fun x hx => h x (List.mem_of_mem_drop hx)
def vnat : Nat → Nat → List Int
 | 0, n => [(n : Int)]
 | f + 1, n => if n < 128 then [(n : Int)] else ((n % 128 + 128 : Nat) : Int) :: vnat f (n / 128)
def varint (n : Int) : List Int := vnat 9 n.toNat
theorem zun : ((List.range 256).all fun x => Nat.beq (x ||| 128) (x % 128 + 128)) = true := by kernel_rfl
theorem zxJ (x : Nat) (h : x < 256) : x ||| 128 = x % 128 + 128 :=
 Nat.eq_of_beq_eq_true (List.all_eq_true.1 zun x (List.mem_range.2 h))
theorem zxA (n : Nat) : ior .u8 (IntKind.u8.wrap (n : Int)) 128 = ((n % 128 + 128 : Nat) : Int) := by
 have h1 : IntKind.u8.wrap (n : Int) = ((n % 256 : Nat) : Int) := by rw [IntKind.wrap_u8]; omega
 have h2 := zp5 (k := .u8) rfl (a := n % 256) (b := 128) (show n % 256 < 2 ^ 8 by omega) (by decide)
 rw [h1, show (128 : Int) = ((128 : Nat) : Int) from rfl, h2, zxJ _ (by omega)]
 omega
theorem zwa (n : Nat) : ishr .u64 (n : Int) 7 = ((n / 128 : Nat) : Int) := by
 have := zna (k := .u64) (a := n) (n := 7) (by decide)
 simpa using this
theorem zes {a b : Int} (h : -1000000000000 ≤ a + b) (h' : a + b ≤ 1000000000000) : iadd .i64 a b = a + b := i64_in h h'
theorem zia {a b : Int} (h : -1000000000000 ≤ a - b) (h' : a - b ≤ 1000000000000) : isub .i64 a b = a - b := i64_in h h'
theorem zrS {n : Nat} : fits n = decide (n ≤ 536870912) := rfl
theorem zuF {a b : List Int} (hab : a.length = b.length) (ha : a.length ≤ 1000000000) : ∀ (m i : Nat), i + m = a.length → runL (zcq a b a.length) (i : Int) = some (if a.drop i = b.drop i then .inr () else .inl ())
 | 0, i, h => by
  obtain rfl : i = a.length := by omega
  exact zaA (by simp [zcq, hab])
 | m + 1, i, h => by
  have hi : i < a.length := by omega
  rw [zh8 hi, zh8 (l := b) (by omega)]
  by_cases he : a.getD i 0 = b.getD i 0
  ·have ih := zuF hab ha m (i + 1) (by omega)
   rw [za8 (s' := ((i + 1 : Nat) : Int)), ih, he]
   ·simp
   ·simp [-List.getD_eq_getElem?_getD, zcq, zes (show -1000000000000 ≤ (i : Int) + 1 by omega) (by omega), hi, show i < b.length by omega, he]
  ·refine zaA ?_
   simp [-List.getD_eq_getElem?_getD, zcq, hi, show i < b.length by omega, he]
theorem same_eq {a b : List Int} (ha : a.length ≤ 1000000000) : zjE a b = some (decide (a = b)) := by
 unfold zjE
 by_cases h : a.length = b.length
 ·have := zuF h ha a.length 0 (by omega)
  simp only [Int.natCast_zero, Int.ofNat_eq_natCast, List.drop_zero] at this
  rw [this]
  by_cases he : a = b <;> simp [he, h]
 ·have : a ≠ b := fun he => h (by rw [he])
  simp [show ¬ ((a.length : Int) = (b.length : Int)) by omega, this]
theorem zfX {n : Nat} (h : n ≤ 536870912) : fits n = true := by simp [zrS, h]
theorem zv8 (p : List Int) (n0 : Int) : ∀ (f n : Nat) (l : List Int), n < 128 ^ (f + 1) → f ≤ 9 → n < 2 ^ 64 → l.length + f + 1 ≤ 536870912 →
  ∃ z w, runL (zbj p n0) (.inr ((n : Int), l)) = some (.inr (z, w)) ∧ w ++ [IntKind.u8.wrap z] = l ++ vnat f n
 | 0, n, l, h, hf, h64, hl => by
  refine ⟨n, l, zaA ?_, ?_⟩
  ·simp [zbj, show ¬ (128 : Int) ≤ n by omega]
  ·simp only [vnat]
   rw [IntKind.wrap_u8, Int.emod_eq_of_lt (by omega) (by omega)]
 | f + 1, n, l, h, hf, h64, hl => by
  by_cases hn : n < 128
  ·refine ⟨n, l, zaA ?_, ?_⟩
   ·simp [zbj, show ¬ (128 : Int) ≤ n by omega]
   ·simp only [vnat, if_pos hn]
    rw [IntKind.wrap_u8, Int.emod_eq_of_lt (by omega) (by omega)]
  ·obtain ⟨z, w, h1, h2⟩ := zv8 p n0 f (n / 128) (l ++ [((n % 128 + 128 : Nat) : Int)]) (by rw [Nat.pow_succ] at h; omega) (by omega) (by omega) (by simp only [List.length_append, List.length_singleton]; omega)
   refine ⟨z, w, ?_, by rw [h2, vnat, if_neg hn]; simp⟩
   rw [za8 (s' := .inr (((n / 128 : Nat) : Int), l ++ [((n % 128 + 128 : Nat) : Int)])), h1]
   have hfit : fits (l ++ [((n % 128 + 128 : Nat) : Int)]).length = true := zfX (by simp; omega)
   simp only [zbj, zxA, zwa, hfit]
   simp [show (128 : Int) ≤ n by omega]
theorem num_eq {p : List Int} {n : Int} (h0 : 0 ≤ n) (h1 : n < 18446744073709551616) (hp : p.length ≤ 100000000) : zdH p n = some (p ++ varint n) := by
  obtain ⟨m, rfl⟩ : ∃ m : Nat, n = m := ⟨n.toNat, by omega⟩
  have et : List.take ((p.length : Int) - 0).toNat p = p := List.take_of_length_le (by omega)
  unfold zdH varint
  rw [et, Int.toNat_natCast]
  by_cases hm : m < 128
  · have hd : runL (zbj p (m : Int)) (.inl ()) = some (.inl ()) := zaA (by simp [zbj, show ¬ (128 : Int) ≤ m by omega])
    have hb : IntKind.u8.wrap (m : Int) = m := by rw [IntKind.wrap_u8, Int.emod_eq_of_lt (by omega) (by omega)]
    have hf : fits (p ++ [(m : Int)]).length = true := zfX (by simp; omega)
    rw [hd]
    simp only [Option.bind_some, hb, hf]
    simp [vnat, hm]
  · obtain ⟨z, w, h2, h3⟩ := zv8 p m 8 (m / 128) (p ++ [((m % 128 + 128 : Nat) : Int)]) (by omega) (by omega) (by omega) (by simp only [List.length_append, List.length_singleton]; omega)
    have hfit : fits (p ++ [((m % 128 + 128 : Nat) : Int)]).length = true := zfX (by simp; omega)
    have hd : runL (zbj p (m : Int)) (.inl ()) = some (.inr (z, w)) := by
      rw [za8 (s' := .inr (((m / 128 : Nat) : Int), p ++ [((m % 128 + 128 : Nat) : Int)])), h2]
      simp only [zbj, zxA, zwa, hfit]
      simp [show (128 : Int) ≤ m by omega]
    have hlen : ∀ (f n : Nat), (vnat f n).length ≤ f + 1 := by
      intro f
      induction f with
      | zero => intro n; simp [vnat]
      | succ f ih => intro n; rw [vnat]; split; · simp
                     · have := ih (n / 128); simp; omega
    have hf : fits (w ++ [IntKind.u8.wrap z]).length = true := by
      rw [h3]
      have := hlen 8 (m / 128)
      exact zfX (by simp; omega)
    rw [hd]
    simp only [Option.bind_some, hf]
    rw [h3]
    simp [vnat, hm]
def dec (i : Nat) : List Int → Option (Int × Nat)
 | [] => none
 | b :: l => if (i = 9 ∧ 1 < b) ∨ (b = 0 ∧ 0 < i) then none else if b < 128 then some (b, 1) else (dec (i + 1) l).map fun z => (b - 128 + 128 * z.1, z.2 + 1)
theorem dec_k : ∀ {l : List Int} {i : Nat} {v : Int} {k : Nat}, dec i l = some (v, k) → 1 ≤ k ∧ k ≤ l.length
 | [], i, v, k, h => by cases h
 | b :: l, i, v, k, h => by
  simp only [dec] at h
  split at h
  ·cases h
  ·split at h
   ·cases h; simp
   ·cases hd : dec (i + 1) l with
    | none => rw [hd] at h; cases h
    | some z =>
     obtain ⟨v', k'⟩ := z
     rw [hd] at h
     cases h
     have := dec_k hd
     simp only [List.length_cons]
     omega
theorem znt : ∀ {l : List Int} {i : Nat} {v : Int} {k : Nat}, Bytes l → i ≤ 9 → dec i l = some (v, k) → 0 ≤ v ∧ v < 2 ^ (64 - 7 * i)
 | [], i, v, k, hb, hi, h => by cases h
 | b :: l, i, v, k, hb, hi, h => by
  have h0 := hb b (by simp)
  simp only [dec] at h
  split at h
  ·cases h
  ·rename_i hc
   split at h
   ·cases h
    refine ⟨h0.1, ?_⟩
    rcases Nat.lt_or_ge i 9 with h9 | h9
    ·have : (2 : Int) ^ 7 ≤ 2 ^ (64 - 7 * i) := by
      have := Nat.pow_le_pow_right (n := 2) (by decide) (show 7 ≤ 64 - 7 * i by omega)
      exact_mod_cast this
     omega
    ·obtain rfl : i = 9 := by omega
     have : ¬ 1 < b := fun h => hc (.inl ⟨rfl, h⟩)
     show b < 2 ^ 1
     omega
   ·rename_i h128
    have h9 : i < 9 := by
     rcases Nat.lt_or_ge i 9 with h9 | h9
     ·exact h9
     ·exact absurd (.inl ⟨by omega, by omega⟩) hc
    cases hd : dec (i + 1) l with
    | none => rw [hd] at h; cases h
    | some z =>
     obtain ⟨v', k'⟩ := z
     rw [hd] at h
     cases h
     have := znt (fun x hx => hb x (by simp [hx])) (by omega) hd
     have e : (2 : Int) ^ (64 - 7 * i) = 128 * 2 ^ (64 - 7 * (i + 1)) := by
      rw [show 64 - 7 * i = (64 - 7 * (i + 1)) + 7 by omega, Int.pow_add, Int.mul_comm]
      rfl
     simp only
     omega
theorem zvx : ∀ n : Fin 256, zdZ .u8 ((n.val : Nat) : Int) 128 = ((n.val % 128 : Nat) : Int) := by decide +kernel
theorem mask {b : Int} (h : 0 ≤ b ∧ b < 256) : zdZ .u8 b 128 = b % 128 := by
 have := zvx ⟨b.toNat, by omega⟩
 simp only at this
 rw [show ((b.toNat : Nat) : Int) = b by omega] at this
 rw [this]; omega
theorem zvy {acc i : Nat} {b : Int} (ha : acc < 2 ^ (7 * i)) (hb : 0 ≤ b ∧ b < 256) (hi : i < 9 ∨ (i = 9 ∧ b ≤ 1)) :
  ior .u64 (acc : Int) (ishl .u64 (IntKind.u64.wrap (zdZ .u8 b 128)) (imul .i64 7 (i : Int))) = ((acc + (b % 128).toNat * 2 ^ (7 * i) : Nat) : Int) := by
 obtain ⟨c, hc⟩ : ∃ c : Nat, b % 128 = (c : Int) := ⟨(b % 128).toNat, by omega⟩
 have h2 : imul .i64 7 (i : Int) = ((7 * i : Nat) : Int) := by rw [imul, i64_in (by omega) (by omega)]; simp
 have h1 : IntKind.u64.wrap (c : Int) = (c : Int) := znh rfl (show c < 2 ^ 64 by omega)
 have hp : c * 2 ^ (7 * i) < 2 ^ 64 := by
  rcases hi with hi | ⟨rfl, hb1⟩
  ·have : 2 ^ (7 * i) ≤ 2 ^ 56 := Nat.pow_le_pow_right (by decide) (by omega)
   calc c * 2 ^ (7 * i) ≤ 127 * 2 ^ 56 := Nat.mul_le_mul (by omega) this
    _ < 2 ^ 64 := by decide
  ·have : c ≤ 1 := by omega
   calc c * 2 ^ (7 * 9) ≤ 1 * 2 ^ 63 := Nat.mul_le_mul_right _ this
    _ < 2 ^ 64 := by decide
 have ha2 : acc < 2 ^ 64 := Nat.lt_of_lt_of_le ha (Nat.pow_le_pow_right (by decide) (by omega))
 rw [mask hb, hc, h1, h2, zsL (k := .u64) rfl (show 7 * i ≤ 64 by omega) hp, zp5 (k := .u64) rfl ha2 hp, zxn ha, Int.toNat_natCast]
def zkt (l : List Int) (i : Nat) (acc : Int) : (Unit) ⊕ (Int × List Int) :=
 match dec i (l.drop i) with
 | none => .inl ()
 | some (v, k) => .inr (acc + v * 2 ^ (7 * i), l.drop (i + k))
theorem zqP {l : List Int} (hb : Bytes l) (hl : l.length ≤ 1000000) (e : Int) : ∀ (m i acc : Nat), i + m = l.length → i ≤ 9 → acc < 2 ^ (7 * i) → runL (zbv l l.length l e) ((acc : Int), (i : Int)) = some (zkt l i acc)
 | 0, i, acc, h, hi, ha => by
  obtain rfl : i = l.length := by omega
  exact zaA (by simp [zbv, zkt, dec])
 | m + 1, i, acc, h, hi, ha => by
  have hil : i < l.length := by omega
  have hb0 := hb.at hil
  have ed := zh8 hil
  have c1 : (i : Int) < l.length := by omega
  have c2 : (0 : Int) ≤ i := by omega
  have e1 : iadd .i64 (i : Int) 1 = ((i + 1 : Nat) : Int) := by rw [zes (by omega) (by omega)]; simp
  have e2 : imul .i64 7 (i : Int) = ((7 * i : Nat) : Int) := by rw [imul, i64_in (by omega) (by omega)]; simp
  have e3 : List.take ((l.length : Int) - ((i + 1 : Nat) : Int)).toNat (List.drop (i + 1) l) = List.drop (i + 1) l := List.take_of_length_le (by simp; omega)
  have c3 : (0 : Int) ≤ ((7 * i : Nat) : Int) := by omega
  have c4 : (0 : Int) ≤ ((i + 1 : Nat) : Int) := by omega
  have c5 : ((i + 1 : Nat) : Int) ≤ l.length := by omega
  generalize hbd : l.getD i 0 = b at *
  by_cases hx : (i = 9 ∧ 1 < b) ∨ (b = 0 ∧ 0 < i)
  ·have : zkt l i acc = .inl () := by simp only [zkt, ed, dec, if_pos hx]
   rw [this]
   refine zaA ?_
   simp only [zbv, Int.toNat_natCast, hbd, c1, c2, decide_true, Bool.and_self, cond_true]
   rcases hx with ⟨h9, hb1⟩ | ⟨hz, h0⟩
   ·simp [h9, hb1]
   ·by_cases h9 : i = 9
    ·simp [h9, hz]
    ·simp [show ¬ ((i : Int) = 9) by omega, hz, show (0 : Int) < i by omega, h0]
  ·have hstep := zvy ha hb0 (show i < 9 ∨ (i = 9 ∧ b ≤ 1) by
    rcases Nat.lt_or_ge i 9 with h9 | h9
    ·exact .inl h9
    ·exact .inr ⟨by omega, by have : ¬ (i = 9 ∧ 1 < b) := fun h => hx (.inl h); omega⟩)
   rw [e2] at hstep
   by_cases h128 : b < 128
   ·have : zkt l i acc = .inr ((acc : Int) + b * 2 ^ (7 * i), l.drop (i + 1)) := by simp only [zkt, ed, dec, if_neg hx, if_pos h128]
    rw [this]
    have hv : ((acc + (b % 128).toNat * 2 ^ (7 * i) : Nat) : Int) = (acc : Int) + b * 2 ^ (7 * i) := by
     rw [show (b % 128).toNat = b.toNat by omega]
     push_cast
     rw [show ((b.toNat : Nat) : Int) = b by omega]
    rw [hv] at hstep
    refine zaA ?_
    simp only [zbv, Int.toNat_natCast, hbd, c1, c2, e1, e2, e3, hstep, decide_true, Bool.and_self, cond_true, c3, c4, c5]
    by_cases h9 : i = 9
    ·have hb1 : ¬ 1 < b := fun h => hx (.inl ⟨h9, h⟩)
     have hz : ¬ b = 0 := fun h => hx (.inr ⟨h, by omega⟩)
     simp [h9, hb1, hz, h128]
    ·by_cases hz : b = 0
     ·have : ¬ 0 < i := fun h => hx (.inr ⟨hz, h⟩)
      simp [show ¬ ((i : Int) = 9) by omega, hz, show ¬ ((0 : Int) < i) by omega, show i = 0 by omega]
     ·simp [show ¬ ((i : Int) = 9) by omega, hz, h128]
   ·have h9 : i < 9 := by
     rcases Nat.lt_or_ge i 9 with h9 | h9
     ·exact h9
     ·exact absurd (.inl ⟨by omega, by omega⟩) hx
    have hz : ¬ b = 0 := by omega
    have ih := zqP hb hl e m (i + 1) (acc + (b % 128).toNat * 2 ^ (7 * i)) (by omega) (by omega) (by
     have : (b % 128).toNat ≤ 127 := by omega
     have h7 : acc + (b % 128).toNat * 2 ^ (7 * i) < 2 ^ (7 * i) + 127 * 2 ^ (7 * i) := by
      have := Nat.mul_le_mul_right (2 ^ (7 * i)) this
      omega
     exact Nat.lt_of_lt_of_eq h7 (by rw [Nat.mul_add, Nat.pow_add]; omega))
    have ho : zkt l (i + 1) ((acc + (b % 128).toNat * 2 ^ (7 * i) : Nat) : Int) = zkt l i acc := by
     simp only [zkt]
     rw [ed]
     simp only [dec, if_neg hx, if_neg h128]
     cases hd : dec (i + 1) (List.drop (i + 1) l) with
     | none => rfl
     | some z =>
      obtain ⟨v, k⟩ := z
      simp only [Option.map_some]
      congr 2
      ·rw [show (b % 128).toNat = (b - 128).toNat by omega]
       push_cast
       rw [show (((b - 128).toNat : Nat) : Int) = b - 128 by omega, show 7 * (i + 1) = 7 * i + 7 by omega, Int.pow_add]
       generalize (2 : Int) ^ (7 * i) = q
       have : (2 : Int) ^ 7 = 128 := rfl
       rw [this, Int.add_mul, Int.add_assoc]
       congr 2
       rw [Int.mul_comm q 128, ← Int.mul_assoc, Int.mul_comm v 128]
      ·rw [show i + 1 + k = i + (k + 1) by omega]
    rw [za8 (s' := (((acc + (b % 128).toNat * 2 ^ (7 * i) : Nat) : Int), ((i + 1 : Nat) : Int))), ih, ho]
    simp only [zbv, Int.toNat_natCast, hbd, c1, c2, e1, e2, e3, hstep, decide_true, Bool.and_self, cond_true, c3, c4, c5]
    simp [show ¬ ((i : Int) = 9) by omega, hz, h128]
theorem zqO {l : List Int} (hb : Bytes l) (hl : l.length ≤ 1000000) (e : Int) : zcw l e = some (if e = 0 then (match dec 0 l with | none => (0, l, 6) | some (v, k) => (v, l.drop k, 0)) else (0, l, e)) := by
 unfold zcw zcv zcl
 by_cases he : e = 0
 ·have := zqP hb hl e l.length 0 0 (by omega) (by omega) (by decide)
  simp only [Int.natCast_zero, Int.ofNat_eq_natCast] at this
  rw [this]
  subst he
  simp only [zkt, List.drop_zero, Nat.mul_zero, Int.pow_zero, Int.mul_one, Int.zero_add, Nat.zero_add]
  cases dec 0 l with
  | none => simp
  | some z => simp
 ·simp [he]
def lead : Nat → List Int → Nat
 | 0, _ => 0
 | _ + 1, [] => 0
 | f + 1, b :: l => if 127 < b then lead f l + 1 else 0
theorem zt9 : ∀ (f : Nat) (l : List Int), lead f l ≤ f ∧ lead f l ≤ l.length
 | 0, _ => by simp [lead]
 | _ + 1, [] => by simp [lead]
 | f + 1, b :: l => by
  simp only [lead]
  have := zt9 f l
  split <;> simp <;> omega
def nval : Nat → List Int → Int
 | 0, _ => 0
 | _ + 1, [] => 0
 | c + 1, b :: l => b % 128 + 128 * nval c l
theorem zsy : ∀ {l : List Int} {i : Nat}, Bytes l → i ≤ 9 → dec i l =
  if l.length ≤ lead (9 - i) l then none else if (lead (9 - i) l = 9 - i ∧ 1 < l.getD (lead (9 - i) l) 0) ∨ (0 < i + lead (9 - i) l ∧ l.getD (lead (9 - i) l) 0 = 0) then none else some (nval (lead (9 - i) l + 1) l, lead (9 - i) l + 1)
 | [], i, hb, hi => by simp [dec]
 | b :: l, i, hb, hi => by
  have h0 := hb b (by simp)
  rcases Nat.lt_or_ge i 9 with h9 | h9
  ·by_cases h127 : 127 < b
   ·have e1 : lead (9 - i) (b :: l) = lead (9 - (i + 1)) l + 1 := by
     rw [show 9 - i = (9 - (i + 1)) + 1 by omega, lead, if_pos h127]
    have hx : ¬ ((i = 9 ∧ 1 < b) ∨ (b = 0 ∧ 0 < i)) := by omega
    rw [e1]
    simp only [dec, if_neg hx, if_neg (show ¬ b < 128 by omega), zsy (l := l) (i := i + 1) (fun x hx => hb x (by simp [hx])) (by omega), List.length_cons, List.getD_cons_succ, Nat.add_le_add_iff_right]
    split
    ·rfl
    ·have ec : (lead (9 - (i + 1)) l + 1 = 9 - i ∧ 1 < l.getD (lead (9 - (i + 1)) l) 0 ∨ 0 < i + (lead (9 - (i + 1)) l + 1) ∧ l.getD (lead (9 - (i + 1)) l) 0 = 0) ↔
       (lead (9 - (i + 1)) l = 9 - (i + 1) ∧ 1 < l.getD (lead (9 - (i + 1)) l) 0 ∨ 0 < i + 1 + lead (9 - (i + 1)) l ∧ l.getD (lead (9 - (i + 1)) l) 0 = 0) := by
      constructor <;> rintro (⟨a, b⟩ | ⟨a, b⟩)
      ·exact .inl ⟨by omega, b⟩
      ·exact .inr ⟨by omega, b⟩
      ·exact .inl ⟨by omega, b⟩
      ·exact .inr ⟨by omega, b⟩
     by_cases hc : (lead (9 - (i + 1)) l = 9 - (i + 1) ∧ 1 < l.getD (lead (9 - (i + 1)) l) 0 ∨ 0 < i + 1 + lead (9 - (i + 1)) l ∧ l.getD (lead (9 - (i + 1)) l) 0 = 0)
     ·rw [if_pos hc, if_pos (ec.2 hc)]; rfl
     ·rw [if_neg hc, if_neg (fun h => hc (ec.1 h))]
      simp only [Option.map_some, nval]
      congr 2
      omega
   ·have e1 : lead (9 - i) (b :: l) = 0 := by
     rw [show 9 - i = (9 - (i + 1)) + 1 by omega, lead, if_neg h127]
    rw [e1]
    simp only [dec, List.length_cons, List.getD_cons_zero, nval]
    by_cases hz : b = 0 ∧ 0 < i
    ·rw [if_pos (.inr hz), if_neg (by omega), if_pos (.inr ⟨by omega, hz.1⟩)]
    ·rw [if_neg (by omega), if_pos (by omega), if_neg (by omega), if_neg (by omega)]
     congr 2
     omega
  ·obtain rfl : i = 9 := by omega
   simp only [Nat.sub_self, lead, dec, List.length_cons, List.getD_cons_zero, nval]
   by_cases hc : 1 < b ∨ b = 0
   ·have q1 : (True ∧ 1 < b) ∨ (b = 0 ∧ 0 < 9) := by rcases hc with h | h <;> simp [h]
    have q2 : (True ∧ 1 < b) ∨ (0 < 9 + 0 ∧ b = 0) := by rcases hc with h | h <;> simp [h]
    simp [hc, show b = 0 ∨ 1 < b from hc.symm]
   ·have hb1 : b = 1 := by omega
    subst hb1
    simp
theorem zoe {p : List Int} (hp : p.length ≤ 1000000) {at_ : Nat} : ∀ (f j : Nat), f + j = 9 → at_ + j ≤ p.length → runL (zbu p at_) ((at_ + j : Nat) : Int) = some ((at_ + j + lead f (p.drop (at_ + j)) : Nat) : Int)
 | 0, j, h, hl => by
  have e : iadd .i64 (at_ : Int) 9 = ((at_ + j : Nat) : Int) := by rw [zes (by omega) (by omega)]; omega
  refine zaA ?_
  simp [zbu, e, lead]
 | f + 1, j, h, hl => by
  have e : iadd .i64 (at_ : Int) 9 = ((at_ + 9 : Nat) : Int) := by rw [zes (by omega) (by omega)]; omega
  have c1 : ((at_ + j : Nat) : Int) < ((at_ + 9 : Nat) : Int) := by omega
  by_cases hlt : at_ + j < p.length
  ·have c2 : ((at_ + j : Nat) : Int) < p.length := by omega
   have c3 : (0 : Int) ≤ ((at_ + j : Nat) : Int) := by omega
   rw [zh8 hlt, lead]
   by_cases h127 : 127 < p.getD (at_ + j) 0
   ·have ih := zoe hp (at_ := at_) f (j + 1) (by omega) (by omega)
    rw [if_pos h127, za8 (s' := ((at_ + (j + 1) : Nat) : Int)), ih]
    ·rw [show at_ + (j + 1) = at_ + j + 1 by omega]
     congr 2
     omega
    ·simp only [zbu, e, c1, c2, c3, Int.toNat_natCast, h127, decide_true, Bool.and_self, cond_true, zes (show -1000000000000 ≤ ((at_ + j : Nat) : Int) + 1 by omega) (by omega)]
     congr 2
   ·rw [if_neg h127]
    refine zaA ?_
    simp only [zbu, e, c1, c2, c3, Int.toNat_natCast, h127, decide_true, decide_false, Bool.and_self, cond_true, cond_false]
    simp
  ·have hd : p.drop (at_ + j) = [] := List.drop_eq_nil_of_le (by omega)
   rw [hd, lead]
   refine zaA ?_
   simp only [zbu, show ¬ (((at_ + j : Nat) : Int) < p.length) by omega, decide_false, cond_false]
   simp
theorem zps : ∀ {c : Nat} {l : List Int}, Bytes l → 0 ≤ nval c l ∧ nval c l < 128 ^ c
 | 0, l, hb => by simp [nval]
 | c + 1, [], hb => by
  simp only [nval]
  refine ⟨by omega, ?_⟩
  have : 0 < (128 : Nat) ^ (c + 1) := Nat.pow_pos (by decide)
  exact_mod_cast this
 | c + 1, b :: l, hb => by
  have ih := zps (c := c) (l := l) (fun x hx => hb x (by simp [hx]))
  simp only [nval]
  rw [Int.pow_succ]
  omega
theorem zq7 : ∀ {c : Nat} {l : List Int}, Bytes l → c < l.length → l.getD c 0 < 128 → nval (c + 1) l < (l.getD c 0 + 1) * 128 ^ c
 | 0, [], hb, hc, h => by simp at hc
 | 0, b :: l, hb, hc, h => by
  have := hb b (by simp)
  simp only [nval, List.getD_cons_zero] at h ⊢
  omega
 | c + 1, [], hb, hc, h => by simp at hc
 | c + 1, b :: l, hb, hc, h => by
  have ih := zq7 (c := c) (l := l) (fun x hx => hb x (by simp [hx])) (by simpa using hc) (by simpa using h)
  rw [nval]
  simp only [List.getD_cons_succ]
  rw [Int.pow_succ, ← Int.mul_assoc]
  omega
theorem zpr {p : List Int} (hb : Bytes p) (hp : p.length ≤ 1000000) {at_ k : Nat} (hk : k < p.length) (h9 : k ≤ at_ + 9) (h10 : k = at_ + 9 → p.getD k 0 ≤ 1) (h128 : p.getD k 0 < 128) :
  ∀ (m i : Nat), i = at_ + m → i ≤ k + 1 → runL (zbg p at_ k) (nval (k + 1 - i) (p.drop i), (i : Int) - 1) = some (nval (k + 1 - at_) (p.drop at_))
 | 0, i, h, hi => by
  obtain rfl : i = at_ := by omega
  exact zaA (by simp [zbg, show ¬ ((i : Int) ≤ i - 1) by omega])
 | m + 1, i, h, hi => by
  have ih := zpr hb hp hk h9 h10 h128 m (i - 1) (by omega) (by omega)
  have hlt : i - 1 < p.length := by omega
  have hb0 := hb.at hlt
  have ev : nval (k + 1 - (i - 1)) (p.drop (i - 1)) = p.getD (i - 1) 0 % 128 + 128 * nval (k + 1 - i) (p.drop i) := by
   rw [zh8 hlt, show k + 1 - (i - 1) = (k + 1 - i) + 1 by omega, nval, show i - 1 + 1 = i by omega]
  have hr : nval (k + 1 - (i - 1)) (p.drop (i - 1)) < 18446744073709551616 := by
   have hx : (p.drop (i - 1)).getD (k - (i - 1)) 0 = p.getD k 0 := by
    simp only [List.getD, List.getElem?_drop]
    rw [show i - 1 + (k - (i - 1)) = k by omega]
   have hl := zq7 (c := k - (i - 1)) (l := p.drop (i - 1)) (hb.drop _) (by simp; omega) (by rw [hx]; exact h128)
   rw [hx, show k - (i - 1) + 1 = k + 1 - (i - 1) by omega] at hl
   have hk0 := hb.at hk
   rcases Nat.lt_or_ge (k - (i - 1)) 9 with hc | hc
   ·have h1 : (128 : Int) ^ (k - (i - 1)) ≤ 128 ^ 8 := by
     have := Nat.pow_le_pow_right (n := 128) (by decide) (show k - (i - 1) ≤ 8 by omega)
     exact_mod_cast this
    have h2 : (p.getD k 0 + 1) * (128 : Int) ^ (k - (i - 1)) ≤ 128 * 128 ^ 8 := Int.mul_le_mul (by omega) h1 (Int.le_of_lt (Int.pow_pos (by decide))) (by omega)
    have h3 : (128 : Int) * 128 ^ 8 < 18446744073709551616 := by decide
    omega
   ·have he : k - (i - 1) = 9 := by omega
    have h1 := h10 (by omega)
    rw [he] at hl
    have h2 : (p.getD k 0 + 1) * (128 : Int) ^ 9 ≤ 2 * 128 ^ 9 := Int.mul_le_mul_of_nonneg_right (by omega) (by decide)
    have h3 : (2 : Int) * 128 ^ 9 ≤ 18446744073709551616 := by decide
    omega
  have hn := zps (c := k + 1 - i) (l := p.drop i) (hb.drop _)
  rw [za8 (s' := (nval (k + 1 - (i - 1)) (p.drop (i - 1)), ((i - 1 : Nat) : Int) - 1)), ih]
  have e0 : (i : Int) - 1 = ((i - 1 : Nat) : Int) := by omega
  have e1 : IntKind.u64.wrap (irem .u8 (p.getD (i - 1) 0) 128) = p.getD (i - 1) 0 % 128 := by
   rw [irem, Int.tmod_eq_emod_of_nonneg hb0.1, IntWalk.u64_in _ ⟨by omega, by omega⟩]
  have e2 : imul .u64 128 (nval (k + 1 - i) (p.drop i)) = 128 * nval (k + 1 - i) (p.drop i) := by
   rw [imul, IntWalk.u64_in _ ⟨by omega, by omega⟩]
  have e3 : iadd .u64 (128 * nval (k + 1 - i) (p.drop i)) (p.getD (i - 1) 0 % 128) = nval (k + 1 - (i - 1)) (p.drop (i - 1)) := by
   rw [iadd, IntWalk.u64_in _ ⟨by omega, by omega⟩, ev]; omega
  simp only [zbg, e0, Int.toNat_natCast, e1, e2, e3, zia (show -1000000000000 ≤ ((i - 1 : Nat) : Int) - 1 by omega) (by omega)]
  simp [show (at_ : Int) ≤ ((i - 1 : Nat) : Int) by omega, show ((i - 1 : Nat) : Int) < p.length by omega, hlt]
theorem zt2 {p : List Int} (a b : Nat) : (p.drop a).getD b 0 = p.getD (a + b) 0 := by
 simp only [List.getD, List.getElem?_drop]
theorem zqY : ∀ {f : Nat} {l : List Int}, lead f l < f → lead f l < l.length → l.getD (lead f l) 0 ≤ 127
 | 0, l, h, h2 => by omega
 | f + 1, [], h, h2 => by simp at h2
 | f + 1, b :: l, h, h2 => by
  simp only [lead] at h h2 ⊢
  by_cases hb : 127 < b
  ·rw [if_pos hb] at h h2 ⊢
   simp only [List.length_cons] at h2
   rw [List.getD_cons_succ]
   exact zqY (by omega) (by omega)
  ·rw [if_neg hb, List.getD_cons_zero]
   omega
theorem zq6 {p : List Int} (hb : Bytes p) (hp : p.length ≤ 1000000) {at_ : Nat} (ha : at_ ≤ p.length) :
  zf2 p at_ = some (match dec 0 (p.drop at_) with | none => (0, 0) | some (v, k) => (v, (k : Int))) := by
 unfold zf2
 have h1 := zoe hp (at_ := at_) 9 0 rfl (by omega)
 rw [Nat.add_zero] at h1
 rw [h1, zsy (hb.drop at_) (by decide)]
 simp only [Option.bind_some, Nat.sub_zero]
 have hL := zt9 9 (p.drop at_)
 have hS := @zqY 9 (p.drop at_)
 generalize lead 9 (p.drop at_) = L at *
 rw [List.length_drop] at *
 have e9 : iadd .i64 (at_ : Int) 9 = ((at_ + 9 : Nat) : Int) := by rw [zes (by omega) (by omega)]; omega
 have es : iadd .i64 (isub .i64 ((at_ + L : Nat) : Int) (at_ : Int)) 1 = ((L + 1 : Nat) : Int) := by rw [zia (by omega) (by omega), zes (by omega) (by omega)]; omega
 rw [zt2] at hS ⊢
 rw [e9, es]
 by_cases hl : p.length ≤ at_ + L
 ·rw [if_pos (by omega)]
  simp only [show (p.length : Int) ≤ ((at_ + L : Nat) : Int) by omega, decide_true, cond_true]
 rw [if_neg (by omega)]
 have hx := hb.at (show at_ + L < p.length by omega)
 have c0 : ¬ ((p.length : Int) ≤ ((at_ + L : Nat) : Int)) := by omega
 have c1 : (0 : Int) ≤ ((at_ + L : Nat) : Int) := by omega
 have c2 : ((at_ + L : Nat) : Int) < p.length := by omega
 simp only [c0, c1, c2, decide_true, decide_false, cond_true, cond_false, Bool.and_self, Int.toNat_natCast]
 have f1 : decide (((at_ + L : Nat) : Int) = ((at_ + 9 : Nat) : Int)) = decide (L = 9) := decide_eq_decide.2 (by omega)
 have f2 : decide ((at_ : Int) < ((at_ + L : Nat) : Int)) = decide (0 < L) := decide_eq_decide.2 (by omega)
 simp only [f1, f2]
 by_cases hn : (L = 9 ∧ 1 < p.getD (at_ + L) 0) ∨ (0 < 0 + L ∧ p.getD (at_ + L) 0 = 0)
 ·rw [if_pos hn]
  have g2 : decide (0 < L) = true := decide_eq_true (by omega)
  by_cases h9 : L = 9
  ·by_cases h1 : 1 < p.getD (at_ + L) 0
   ·simp only [decide_eq_true h9, decide_eq_true h1, cond_true]
   ·have h0 : p.getD (at_ + L) 0 = 0 := by omega
    simp only [decide_eq_true h9, decide_eq_false h1, decide_eq_true h0, g2, cond_true, cond_false]
  ·have h0 : p.getD (at_ + L) 0 = 0 := by omega
   simp only [decide_eq_false h9, decide_eq_true h0, g2, cond_true, cond_false]
 ·rw [if_neg hn]
  have hv := zpr hb hp (at_ := at_) (k := at_ + L) (by omega) (by omega) (by omega) (by omega) (L + 1) (at_ + L + 1) (by omega) (by omega)
  simp only [Nat.sub_self, nval, show at_ + L + 1 - at_ = L + 1 by omega, show ((at_ + L + 1 : Nat) : Int) - 1 = ((at_ + L : Nat) : Int) by omega] at hv
  by_cases h9 : L = 9
  ·have h1 : ¬ 1 < p.getD (at_ + L) 0 := by omega
   have h0 : ¬ p.getD (at_ + L) 0 = 0 := by omega
   simp only [decide_eq_true h9, decide_eq_false h1, decide_eq_false h0, show decide (0 < L) = true from decide_eq_true (by omega), cond_true, cond_false, hv, Option.bind_some]
  ·by_cases h0 : 0 < L
   ·have h0x : ¬ p.getD (at_ + L) 0 = 0 := by omega
    simp only [decide_eq_false h9, decide_eq_false h0x, decide_eq_true h0, cond_true, cond_false, hv, Option.bind_some]
   ·simp only [decide_eq_false h9, decide_eq_false h0, cond_false, hv, Option.bind_some]
theorem err_eq (l : List Int) (n : Int) : zcv l n = some () := by unfold zcv; rfl
theorem fail_eq (e : Int) (l : List Int) (n : Int) : zcl e l n = some (if n = 0 then e else n) := by
 unfold zcl
 by_cases h : n = 0 <;> simp [h]
theorem zpL (l : List Int) (k : Nat) : List.take ((l.length : Int) - k).toNat (List.drop k l) = List.drop k l := List.take_of_length_le (by simp)
theorem ztP : ∀ {l : List Int} {i : Nat} {v : Int} {k : Nat}, Bytes l → 0 < i → dec i l = some (v, k) → 0 < v
 | [], i, v, k, _, _, h => by cases h
 | b :: l, i, v, k, hb, hi, h => by
  have h0 := hb b (by simp)
  simp only [dec] at h
  split at h
  ·cases h
  ·rename_i hn
   split at h
   ·simp only [Option.some.injEq, Prod.mk.injEq] at h
    obtain ⟨rfl, _⟩ := h
    have : ¬ b = 0 := fun e => hn (.inr ⟨e, hi⟩)
    omega
   ·obtain ⟨z, hz, hz2⟩ := Option.map_eq_some_iff.1 h
    simp only [Prod.mk.injEq] at hz2
    have := ztP (l := l) (i := i + 1) (v := z.1) (k := z.2) (fun x hx => hb x (by simp [hx])) (by omega) hz
    omega
theorem ztO : ∀ {l : List Int} {i : Nat} {v : Int} {k : Nat}, Bytes l → i ≤ 9 → dec i l = some (v, k) → 0 ≤ v ∧ l.take k = vnat (9 - i) v.toNat
 | [], i, v, k, _, _, h => by cases h
 | b :: l, i, v, k, hb, hi, h => by
  have h0 := hb b (by simp)
  have hbl : Bytes l := fun x hx => hb x (by simp [hx])
  simp only [dec] at h
  split at h
  ·cases h
  ·rename_i hn
   split at h
   ·rename_i h128
    simp only [Option.some.injEq, Prod.mk.injEq] at h
    obtain ⟨rfl, rfl⟩ := h
    refine ⟨h0.1, ?_⟩
    have e : ((b.toNat : Nat) : Int) = b := by omega
    cases hf : 9 - i with
    | zero => simp [vnat, e]
    | succ f => simp [vnat, e, show b.toNat < 128 by omega]
   ·rename_i h128
    obtain ⟨⟨v', k'⟩, hz, hz2⟩ := Option.map_eq_some_iff.1 h
    simp only [Prod.mk.injEq] at hz2
    obtain ⟨rfl, rfl⟩ := hz2
    have hi9 : i < 9 := by
     rcases Nat.lt_or_ge i 9 with h | h
     ·exact h
     ·exact absurd (.inl ⟨by omega, by omega⟩) hn
    obtain ⟨p0, p1⟩ := ztO hbl (show i + 1 ≤ 9 by omega) hz
    have p2 := ztP hbl (by omega) hz
    refine ⟨by omega, ?_⟩
    rw [List.take_succ_cons, p1, show 9 - i = (9 - (i + 1)) + 1 by omega, vnat, if_neg (by omega)]
    have e1 : (b - 128 + 128 * v').toNat / 128 = v'.toNat := by omega
    have e2 : (((b - 128 + 128 * v').toNat % 128 + 128 : Nat) : Int) = b := by omega
    rw [e1, e2]
theorem dec_var {l : List Int} {v : Int} {k : Nat} (hb : Bytes l) (h : dec 0 l = some (v, k)) : l = varint v ++ l.drop k := by
 obtain ⟨_, h2⟩ := ztO hb (by decide) h
 have := List.take_append_drop k l
 rw [h2] at this
 exact this.symm
theorem zry : ∀ (f n : Nat), (vnat f n).length ≤ f + 1
 | 0, n => Nat.le_refl _
 | f + 1, n => by
  rw [vnat]
  split
  ·simp
  ·rw [List.length_cons]; have := zry f (n / 128); omega
theorem varint_len (n : Int) : (varint n).length ≤ 10 := zry 9 _
theorem bytesL_bytes (s : ByteArray) : Bytes (zcn s) := by
 intro x hx
 unfold zcn at hx
 obtain ⟨b, _, rfl⟩ := List.mem_map.1 hx
 have := b.toNat_lt
 omega
theorem bytesL_len (s : ByteArray) : (zcn s).length = s.size := by
 unfold zcn
 rw [List.length_map]
 exact Array.length_toList
theorem strOf_len (l : List Int) : (Ev.strOf l).size = l.length := by simp [Ev.strOf, ByteArray.size]
theorem bytesL_strOf {l : List Int} (h : Bytes l) : zcn (Ev.strOf l) = l := by
 unfold zcn Ev.strOf
 rw [List.map_map]
 have : ∀ m : List Int, Bytes m → m.map ((fun b : UInt8 => (b.toNat : Int)) ∘ fun n : Int => UInt8.ofNat n.toNat) = m := by
  intro m
  induction m with
  | nil => intro _; rfl
  | cons a m ih =>
   intro hm
   have ha := hm a (by simp)
   rw [List.map_cons, ih fun x hx => hm x (by simp [hx])]
   congr 1
   simp only [Function.comp]
   rw [UInt8.toNat_ofNat']
   omega
 exact this l h
theorem num_spec {p : List Int} (hb : Bytes p) (hp : p.length ≤ 1000000) {at_ : Nat} (ha : at_ ≤ p.length) (e : Int) :
  ∃ v, ∃ at2 : Nat, ∃ e2, zcw (p.drop at_) e = some (v, p.drop at2, e2) ∧ zcc p at_ e = some (v, (at2 : Int), e2) ∧ at2 ≤ p.length ∧ 0 ≤ v ∧ v < 18446744073709551616 ∧ (e2 = 0 → e = 0 ∧ ∃ k, dec 0 (p.drop at_) = some (v, k) ∧ at2 = at_ + k) := by
 rw [zqO (hb.drop at_) (by simp; omega)]
 unfold zcc
 rw [zq6 hb hp ha]
 by_cases he : e = 0
 ·cases hd : dec 0 (p.drop at_) with
  | none => exact ⟨0, at_, 6, by simp [he], by simp [he, zes (show -1000000000000 ≤ (at_ : Int) + 0 by omega) (by omega)], ha, by omega, by omega, fun h => by omega⟩
  | some z =>
   obtain ⟨v, k⟩ := z
   have hk := dec_k hd
   have hr := znt (hb.drop at_) (by decide) hd
   rw [List.length_drop] at hk
   refine ⟨v, at_ + k, 0, by simp [he], ?_, by omega, hr.1, by have := hr.2; simpa using this, fun _ => ⟨he, k, rfl, rfl⟩⟩
   have h0 : ¬ ((k : Int) = 0) := by omega
   simp only [he, Option.bind_some, decide_true, cond_true, decide_eq_false h0, cond_false, zes (show -1000000000000 ≤ (at_ : Int) + (k : Int) by omega) (by omega)]
   simp
 ·exact ⟨0, at_, e, by simp [he], by simp [he], ha, by omega, by omega, fun h => absurd h he⟩
theorem text_spec {p : List Int} (hb : Bytes p) (hp : p.length ≤ 1000000) {at_ : Nat} (ha : at_ ≤ p.length) (e : Int) {most : Nat} (hmost : most ≤ 100000) :
  ∃ s, ∃ at2 : Nat, ∃ e2, zfm most (p.drop at_) e = some (s, p.drop at2, e2) ∧ zfi most p at_ e = some (s, (at2 : Int), e2) ∧ at2 ≤ p.length ∧ s.size ≤ 100000 ∧
   (e2 = 0 → e = 0 ∧ s.size ≤ most ∧ p.drop at_ = varint (s.size : Int) ++ (zcn s ++ p.drop at2)) := by
 unfold zfm zfi
 rw [zqO (hb.drop at_) (by simp; omega), zq6 hb hp ha]
 simp only [err_eq, fail_eq, Option.bind_some]
 have z0 : (⟨#[]⟩ : ByteArray).size ≤ 100000 := by decide
 by_cases he : e = 0
 ·subst he
  simp only [if_true, decide_true, cond_true]
  cases hd : dec 0 (p.drop at_) with
  | none => exact ⟨⟨#[]⟩, at_, 6, by simp, by simp, ha, z0, fun h => by omega⟩
  | some z =>
   obtain ⟨v, k⟩ := z
   have hk := dec_k hd
   have hv := znt (hb.drop at_) (by decide) hd
   rw [List.length_drop] at hk
   have h0 : ¬ ((k : Int) = 0) := by omega
   have ew : IntKind.u64.wrap (((p.drop at_).drop k).length : Int) = ((p.length - at_ - k : Nat) : Int) := by
    rw [IntWalk.u64_in _ ⟨by omega, by simp; omega⟩]; simp; omega
   have es : IntKind.u64.wrap (isub .i64 (isub .i64 ((p.length : Int)) (at_ : Int)) (k : Int)) = ((p.length - at_ - k : Nat) : Int) := by
    rw [zia (a := (p.length : Int)) (by omega) (by omega), zia (by omega) (by omega), IntWalk.u64_in _ ⟨by omega, by omega⟩]; omega
   have em : IntKind.u64.wrap (most : Int) = (most : Int) := IntWalk.u64_in _ ⟨by omega, by omega⟩
   simp only [decide_true, decide_eq_false h0, cond_true, cond_false, ew, es, em, if_true]
   have hm : ¬ ((most : Int) < 0) := by omega
   by_cases hw : (most : Int) < v
   ·exact ⟨⟨#[]⟩, at_, 9, by simp [hm, hw], by simp [hm, hw], ha, z0, fun h => by omega⟩
   by_cases hr : ((p.length - at_ - k : Nat) : Int) < v
   ·exact ⟨⟨#[]⟩, at_, 6, by simp [hm, hw, hr], by simp [hm, hw, hr], ha, z0, fun h => by omega⟩
   obtain ⟨c, rfl⟩ : ∃ c : Nat, v = (c : Int) := ⟨v.toNat, by omega⟩
   have w1 : IntKind.i64.wrap (c : Int) = c := i64_in (by omega) (by omega)
   have w2 : iadd .i64 (k : Int) (c : Int) = ((k + c : Nat) : Int) := by rw [zes (by omega) (by omega)]; omega
   have w3 : iadd .i64 (at_ : Int) ((k + c : Nat) : Int) = ((at_ + (k + c) : Nat) : Int) := by rw [zes (by omega) (by omega)]; omega
   have w4 : isub .i64 ((at_ + (k + c) : Nat) : Int) (c : Int) = ((at_ + k : Nat) : Int) := by rw [zia (by omega) (by omega)]; omega
   have l1 : (((p.drop at_).drop k).length : Int) = ((p.length - at_ - k : Nat) : Int) := by simp; omega
   have t1 := zpL ((p.drop at_).drop k) c
   rw [l1] at t1
   have hsz : (Ev.strOf (List.take c (List.drop (at_ + k) p))).size = c := by rw [strOf_len, List.length_take, List.length_drop]; omega
   refine ⟨Ev.strOf (List.take c (List.drop (at_ + k) p)), at_ + (k + c), 0, ?_, ?_, by omega, by omega, fun _ => ⟨trivial, by omega, ?_⟩⟩
   ·simp only [decide_eq_false hm, decide_eq_false hw, decide_eq_false hr, cond_false, l1, Int.toNat_natCast, t1]
    simp only [show (0 : Int) ≤ (c : Int) by omega, show (c : Int) ≤ ((p.length - at_ - k : Nat) : Int) by omega, Int.le_refl, decide_true, Bool.and_self, cond_true, List.drop_drop, Int.sub_zero, Int.toNat_natCast]
    rw [show at_ + k + c = at_ + (k + c) by omega]
   ·simp only [decide_eq_false hm, decide_eq_false hw, decide_eq_false hr, cond_false, w1, w2, w3, w4, Int.toNat_natCast]
    simp only [show (0 : Int) ≤ ((at_ + k : Nat) : Int) by omega, show ((at_ + k : Nat) : Int) ≤ ((at_ + (k + c) : Nat) : Int) by omega, show ((at_ + (k + c) : Nat) : Int) ≤ (p.length : Int) by omega, decide_true, Bool.and_self, cond_true]
    rw [show ((at_ + (k + c) : Nat) : Int) - ((at_ + k : Nat) : Int) = ((c : Nat) : Int) by omega, Int.toNat_natCast]
   ·rw [hsz, bytesL_strOf ((hb.drop _).take _)]
    have h5 := dec_var (hb.drop at_) hd
    rw [List.drop_drop] at h5
    have h6 := List.take_append_drop c (p.drop (at_ + k))
    rw [List.drop_drop] at h6
    rw [show at_ + (k + c) = at_ + k + c by omega, h6]
    exact h5
 ·exact ⟨⟨#[]⟩, at_, e, by simp [he], by simp [he], ha, z0, fun h => absurd h he⟩
end Go.Proofs.YtjjcmgdgifcmgaaGreat.W
