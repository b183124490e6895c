/- Chapter 06: numbers and texts, written and read, for the Deed seat (turned from wip/ev12 by mkDeed2.py). Plain. -/
import Derived.Test.YtjjcmgdgifcmgaaGreatG1
import Derived.Test.YtjjcmgdgifcmgaaGreatQ3
set_option linter.unusedVariables false
set_option linter.unusedSimpArgs false
namespace Go.Proofs.YtjjcmgdgifcmgaaGreat.W
open Go.Ev
theorem i64_in {n : Int} (h : -1000000000000 ≤ n) (h' : n ≤ 1000000000000) : IntKind.i64.wrap n = n := IntWalk.i64_in n ⟨by omega, by omega⟩
theorem zlX {l : List Int} {i : Nat} (h : i < l.length) : l.drop i = l.getD i 0 :: l.drop (i + 1) := by
 rw [List.drop_eq_getElem_cons h]
 simp [List.getD, h]
def Bytes (l : List Int) : Prop := ∀ x ∈ l, 0 ≤ x ∧ x < 256
theorem Bytes.at {l : List Int} (h : Bytes l) {i : Nat} (hi : i < l.length) : 0 ≤ l.getD i 0 ∧ l.getD i 0 < 256 := by
 have : l.getD i 0 ∈ l := by simp [List.getD, hi]
 exact h _ this
theorem Bytes.take {l : List Int} (h : Bytes l) (n : Nat) : Bytes (l.take n) := fun x hx => h x (List.mem_of_mem_take hx)
theorem Bytes.drop {l : List Int} (h : Bytes l) (n : Nat) : Bytes (l.drop n) := fun x hx => h x (List.mem_of_mem_drop hx)
def vnat : Nat → Nat → List Int
 | 0, n => [(n : Int)]
 | f + 1, n => if n < 128 then [(n : Int)] else ((n % 128 + 128 : Nat) : Int) :: vnat f (n / 128)
def varint (n : Int) : List Int := vnat 9 n.toNat
theorem zsA : ((List.range 256).all fun x => Nat.beq (x ||| 128) (x % 128 + 128)) = true := by kernel_rfl
theorem zvC (x : Nat) (h : x < 256) : x ||| 128 = x % 128 + 128 :=
 Nat.eq_of_beq_eq_true (List.all_eq_true.1 zsA x (List.mem_range.2 h))
theorem zvp (n : Nat) : ior .u8 (IntKind.u8.wrap (n : Int)) 128 = ((n % 128 + 128 : Nat) : Int) := by
 have h1 : IntKind.u8.wrap (n : Int) = ((n % 256 : Nat) : Int) := by rw [IntKind.wrap_u8]; omega
 have h2 := zsg (k := .u8) rfl (a := n % 256) (b := 128) (show n % 256 < 2 ^ 8 by omega) (by decide)
 rw [h1, show (128 : Int) = ((128 : Nat) : Int) from rfl, h2, zvC _ (by omega)]
 omega
theorem zuj (n : Nat) : ishr .u64 (n : Int) 7 = ((n / 128 : Nat) : Int) := by
 have := zoi (k := .u64) (a := n) (n := 7) (by decide)
 simpa using this
theorem zj3 {a b : Int} (h : -1000000000000 ≤ a + b) (h' : a + b ≤ 1000000000000) : iadd .i64 a b = a + b := i64_in h h'
theorem zqW {a b : Int} (h : -1000000000000 ≤ a - b) (h' : a - b ≤ 1000000000000) : isub .i64 a b = a - b := i64_in h h'
theorem zp1 {n : Nat} : fits n = decide (n ≤ 536870912) := rfl
theorem zsU {a b : List Int} (hab : a.length = b.length) (ha : a.length ≤ 1000000000) : ∀ (m i : Nat), i + m = a.length → runL (zch a b a.length) (i : Int) = some (if a.drop i = b.drop i then .inr () else .inl ())
 | 0, i, h => by
  obtain rfl : i = a.length := by omega
  exact zbi (by simp [zch, hab])
 | m + 1, i, h => by
  have hi : i < a.length := by omega
  rw [zlX hi, zlX (l := b) (by omega)]
  by_cases he : a.getD i 0 = b.getD i 0
  ·have ih := zsU hab ha m (i + 1) (by omega)
   rw [zbw (s' := ((i + 1 : Nat) : Int)), ih, he]
   ·simp
   ·simp [-List.getD_eq_getElem?_getD, zch, zj3 (show -1000000000000 ≤ (i : Int) + 1 by omega) (by omega), hi, show i < b.length by omega, he]
  ·refine zbi ?_
   simp [-List.getD_eq_getElem?_getD, zch, hi, show i < b.length by omega, he]
theorem same_eq {a b : List Int} (ha : a.length ≤ 1000000000) : zg2 a b = some (decide (a = b)) := by
 unfold zg2
 by_cases h : a.length = b.length
 ·have := zsU h ha a.length 0 (by omega)
  simp only [Int.natCast_zero, Int.ofNat_eq_natCast, List.drop_zero] at this
  rw [this]
  by_cases he : a = b <;> simp [he, h]
 ·have : a ≠ b := fun he => h (by rw [he])
  simp [show ¬ ((a.length : Int) = (b.length : Int)) by omega, this]
theorem zdg {n : Nat} (h : n ≤ 536870912) : fits n = true := by simp [zp1, h]
theorem zuf (p : List Int) (n0 : Int) : ∀ (f n : Nat) (l : List Int), n < 128 ^ (f + 1) → f ≤ 9 → n < 2 ^ 64 → l.length + f + 1 ≤ 536870912 →
  ∃ z w, runL (zbD p n0) (.inr ((n : Int), l)) = some (.inr (z, w)) ∧ w ++ [IntKind.u8.wrap z] = l ++ vnat f n
 | 0, n, l, h, hf, h64, hl => by
  refine ⟨n, l, zbi ?_, ?_⟩
  ·simp [zbD, show ¬ (128 : Int) ≤ n by omega]
  ·simp only [vnat]
   rw [IntKind.wrap_u8, Int.emod_eq_of_lt (by omega) (by omega)]
 | f + 1, n, l, h, hf, h64, hl => by
  by_cases hn : n < 128
  ·refine ⟨n, l, zbi ?_, ?_⟩
   ·simp [zbD, show ¬ (128 : Int) ≤ n by omega]
   ·simp only [vnat, if_pos hn]
    rw [IntKind.wrap_u8, Int.emod_eq_of_lt (by omega) (by omega)]
  ·obtain ⟨z, w, h1, h2⟩ := zuf p n0 f (n / 128) (l ++ [((n % 128 + 128 : Nat) : Int)]) (by rw [Nat.pow_succ] at h; omega) (by omega) (by omega) (by simp only [List.length_append, List.length_singleton]; omega)
   refine ⟨z, w, ?_, by rw [h2, vnat, if_neg hn]; simp⟩
   rw [zbw (s' := .inr (((n / 128 : Nat) : Int), l ++ [((n % 128 + 128 : Nat) : Int)])), h1]
   have hfit : fits (l ++ [((n % 128 + 128 : Nat) : Int)]).length = true := zdg (by simp; omega)
   simp only [zbD, zvp, zuj, hfit]
   simp [show (128 : Int) ≤ n by omega]
theorem num_eq {p : List Int} {n : Int} (h0 : 0 ≤ n) (h1 : n < 18446744073709551616) (hp : p.length ≤ 100000000) : zdo p n = some (p ++ varint n) := by
  obtain ⟨m, rfl⟩ : ∃ m : Nat, n = m := ⟨n.toNat, by omega⟩
  have et : List.take ((p.length : Int) - 0).toNat p = p := List.take_of_length_le (by omega)
  unfold zdo varint
  rw [et, Int.toNat_natCast]
  by_cases hm : m < 128
  · have hd : runL (zbD p (m : Int)) (.inl ()) = some (.inl ()) := zbi (by simp [zbD, show ¬ (128 : Int) ≤ m by omega])
    have hb : IntKind.u8.wrap (m : Int) = m := by rw [IntKind.wrap_u8, Int.emod_eq_of_lt (by omega) (by omega)]
    have hf : fits (p ++ [(m : Int)]).length = true := zdg (by simp; omega)
    rw [hd]
    simp only [Option.bind_some, hb, hf]
    simp [vnat, hm]
  · obtain ⟨z, w, h2, h3⟩ := zuf p m 8 (m / 128) (p ++ [((m % 128 + 128 : Nat) : Int)]) (by omega) (by omega) (by omega) (by simp only [List.length_append, List.length_singleton]; omega)
    have hfit : fits (p ++ [((m % 128 + 128 : Nat) : Int)]).length = true := zdg (by simp; omega)
    have hd : runL (zbD p (m : Int)) (.inl ()) = some (.inr (z, w)) := by
      rw [zbw (s' := .inr (((m / 128 : Nat) : Int), p ++ [((m % 128 + 128 : Nat) : Int)])), h2]
      simp only [zbD, zvp, zuj, hfit]
      simp [show (128 : Int) ≤ m by omega]
    have hlen : ∀ (f n : Nat), (vnat f n).length ≤ f + 1 := by
      intro f
      induction f with
      | zero => intro n; simp [vnat]
      | succ f ih => intro n; rw [vnat]; split; · simp
                     · have := ih (n / 128); simp; omega
    have hf : fits (w ++ [IntKind.u8.wrap z]).length = true := by
      rw [h3]
      have := hlen 8 (m / 128)
      exact zdg (by simp; omega)
    rw [hd]
    simp only [Option.bind_some, hf]
    rw [h3]
    simp [vnat, hm]
theorem znZ (l : List Int) (k : Nat) : List.take ((l.length : Int) - k).toNat (List.drop k l) = List.drop k l := List.take_of_length_le (by simp)
theorem ztP {i : Nat} (hi : i < 9) : (2 : Nat) ^ (64 - 7 * i) = 128 * 2 ^ (64 - 7 * (i + 1)) := by
 rw [show 64 - 7 * i = (64 - 7 * (i + 1)) + 7 by omega, Nat.pow_add, Nat.mul_comm]
theorem zrp : ∀ (f n : Nat), 1 ≤ (vnat f n).length ∧ (vnat f n).length ≤ f + 1
 | 0, n => by simp [vnat]
 | f + 1, n => by
  have := zrp f (n / 128)
  simp only [vnat]
  split <;> simp <;> omega
theorem num_vnat : ∀ {f n i N : Nat}, i + f = 9 → n < 2 ^ (64 - 7 * i) → f < N → zcz N (n : Int) = some (vnat f n)
 | f, n, i, 0, hi, hn, hN => by omega
 | 0, n, i, N + 1, hi, hn, hN => by
  obtain rfl : i = 9 := by omega
  have : n < 2 := hn
  have hw : IntKind.u8.wrap (n : Int) = n := zkH rfl (show n < 2 ^ 8 by omega)
  simp only [zcz, zfY, vnat, decide_eq_true (show (n : Int) < 128 by omega), cond_true, hw]
 | f + 1, n, i, N + 1, hi, hn, hN => by
  have hbig : (2 : Nat) ^ (64 - 7 * i) ≤ 2 ^ 64 := Nat.pow_le_pow_right (by decide) (by omega)
  have hn64 : n < 2 ^ 64 := by omega
  rw [ztP (show i < 9 by omega)] at hn
  by_cases h : n < 128
  ·have hw : IntKind.u8.wrap (n : Int) = n := zkH rfl (show n < 2 ^ 8 by omega)
   simp only [zcz, zfY, vnat, if_pos h, decide_eq_true (show (n : Int) < 128 by omega), cond_true, hw]
  ·have ih := @num_vnat f (n / 128) (i + 1) N (by omega) (by omega) (by omega)
   have hl := zrp f (n / 128)
   have hq : iquo .u64 (n : Int) 128 = ((n / 128 : Nat) : Int) := by
    rw [iquo, Int.tdiv_eq_ediv_of_nonneg (by omega), IntWalk.u64_in _ ⟨by omega, by omega⟩]; omega
   have hr : irem .u64 (n : Int) 128 = ((n % 128 : Nat) : Int) := by
    rw [irem, Int.tmod_eq_emod_of_nonneg (by omega)]; omega
   have ha : iadd .u64 ((n % 128 : Nat) : Int) 128 = ((n % 128 + 128 : Nat) : Int) := by
    rw [iadd, IntWalk.u64_in _ ⟨by omega, by omega⟩]; omega
   have hw : IntKind.u8.wrap ((n % 128 + 128 : Nat) : Int) = ((n % 128 + 128 : Nat) : Int) := zkH rfl (show n % 128 + 128 < 2 ^ 8 by omega)
   have hbeq : Nat.beq (vnat f (n / 128)).length 0 = false := by
    cases hb : Nat.beq (vnat f (n / 128)).length 0 with
    | false => rfl
    | true => have := Nat.eq_of_beq_eq_true hb; omega
   simp only [zcz, zfY, vnat, if_neg h, decide_eq_false (show ¬ (n : Int) < 128 by omega), cond_false, hq, ih, Option.bind_some, hr, ha, hw, List.take_length, hbeq]
   rw [zdg (by simp; omega)]
   simp
theorem zro : ∀ (f n : Nat), n < 128 ^ (f + 1) → Bytes (vnat f n)
 | 0, n, h => by
  intro x hx
  simp only [vnat, List.mem_singleton] at hx
  omega
 | f + 1, n, h => by
  intro x hx
  rw [vnat] at hx
  split at hx
  ·simp only [List.mem_singleton] at hx; omega
  ·rcases List.mem_cons.1 hx with rfl | hx
   ·omega
   ·refine zro f (n / 128) ?_ x hx
    rw [Nat.div_lt_iff_lt_mul (by decide), ← Nat.pow_succ]
    exact h
theorem varint_bytes {n : Nat} (h : n < 2 ^ 64) : Bytes (varint (n : Int)) := by
 unfold varint
 rw [Int.toNat_natCast]
 exact zro 9 n (Nat.lt_trans h (by decide))
theorem zpL : ∀ (f n : Nat), (vnat f n).length ≤ f + 1
 | 0, n => Nat.le_refl _
 | f + 1, n => by
  rw [vnat]
  split
  ·simp
  ·rw [List.length_cons]; have := zpL f (n / 128); omega
theorem varint_len (n : Int) : (varint n).length ≤ 10 := zpL 9 _
theorem strOf_len (l : List Int) : (Ev.strOf l).size = l.length := by simp [Ev.strOf, ByteArray.size]
theorem bytesL_strOf {l : List Int} (h : Bytes l) : zc6 (Ev.strOf l) = l := by
 unfold zc6 Ev.strOf
 rw [List.map_map]
 have : ∀ m : List Int, Bytes m → m.map ((fun b : UInt8 => (b.toNat : Int)) ∘ fun n : Int => UInt8.ofNat n.toNat) = m := by
  intro m
  induction m with
  | nil => intro _; rfl
  | cons a m ih =>
   intro hm
   have ha := hm a (by simp)
   rw [List.map_cons, ih fun x hx => hm x (by simp [hx])]
   congr 1
   simp only [Function.comp]
   rw [UInt8.toNat_ofNat']
   omega
 exact this l h
end Go.Proofs.YtjjcmgdgifcmgaaGreat.W
