/- Chapter 07, ids: written and read, for the Deed seat (turned from wip/ev2 by mkDeed.py). Plain. -/
import Derived.Test.YtjjcmgdgifcmgaaGreatA6
import Derived.Test.YtjjcmgdgifcmgaaGreatQ3
set_option linter.unusedVariables false
set_option linter.unusedSimpArgs false
namespace Go.Proofs.YtjjcmgdgifcmgaaGreat
open Go.Ev Go.Lib
def mkS (l : List UInt8) : ByteArray := ⟨l.toArray⟩
theorem zq2 (l : List UInt8) : (mkS l).size = l.length := by simp [mkS, ByteArray.size]
theorem zsv (l m : List UInt8) : mkS l ++ mkS m = mkS (l ++ m) := by
 apply ByteArray.ext
 simp [mkS, ByteArray.data_append]
theorem s40 : (⟨#[40]⟩ : ByteArray) = mkS [40] := rfl
theorem s41 : (⟨#[41]⟩ : ByteArray) = mkS [41] := rfl
theorem s44 : (⟨#[44]⟩ : ByteArray) = mkS [44] := rfl
theorem _root_.Go.Ev.Bytes.drop {l : List Int} (h : Bytes l) (n : Nat) : Bytes (l.drop n) := fun x hx => h x (List.mem_of_mem_drop hx)
theorem _root_.Go.Ev.Bytes.take {l : List Int} (h : Bytes l) (n : Nat) : Bytes (l.take n) := fun x hx => h x (List.mem_of_mem_take hx)
theorem znZ (l : List Int) (k : Nat) : List.take ((l.length : Int) - k).toNat (List.drop k l) = List.drop k l := List.take_of_length_le (by simp)
theorem zvw {b : Int} {c : Nat} (h : 0 ≤ b) : irem .u8 b (c : Int) = b % c := by rw [irem, Int.tmod_eq_emod_of_nonneg h]
abbrev Idt := zad
instance zvq (t : Idt) : Decidable (t = zad.nil) := match t with
 | .nil => isTrue rfl
 | .mk .. => isFalse (fun h => by cases h)
def zm7 (i : Bool) : Idt → Bool
 | .nil => !i
 | .mk .. => false
def zbv : Idt → Nat
 | .nil => 0
 | .mk _ t _ u => max (zbv t) (zbv u) + 1
def nfI : Bool → Idt → Prop
 | true, .nil => True
 | true, .mk .. => False
 | false, .nil => True
 | false, .mk b l b2 r => nfI b l ∧ nfI b2 r ∧ ¬ (l = .nil ∧ r = .nil ∧ b = b2)
theorem zuG (i : Bool) : nfI i .nil := by cases i <;> trivial
theorem zko {i b c : Bool} {l r : Idt} (h : nfI i (.mk b l c r)) : i = false ∧ nfI b l ∧ nfI c r ∧ ¬ (l = .nil ∧ r = .nil ∧ b = c) := by
 cases i with
 | true => exact h.elim
 | false => exact ⟨rfl, h⟩
def bits : Nat → Bool → Idt → List Bool
 | 0, i, _ => [i]
 | d + 1, i, .nil => bits d i .nil ++ bits d i .nil
 | d + 1, i, .mk a t b u => bits d a t ++ bits d b u
def zlD (i : Bool) (t : Idt) (j : Bool) (u : Idt) : Bool × Idt := if t = .nil ∧ u = .nil ∧ i = j then (i, .nil) else (false, .mk i t j u)
theorem zuI {i j : Bool} {t u : Idt} (h1 : nfI i t) (h2 : nfI j u) : nfI (zlD i t j u).1 (zlD i t j u).2 := by
 unfold zlD
 split
 ·exact zuG i
 ·rename_i h; exact ⟨h1, h2, h⟩
theorem zrD (i j : Bool) (t u : Idt) : zbv (zlD i t j u).2 ≤ max (zbv t) (zbv u) + 1 := by
 unfold zlD
 split
 ·simp [zbv]
 ·exact Nat.le_refl _
theorem zo5 {i : Bool} {t : Idt} : zbq i t = some (zm7 i t) := by cases i <;> cases t <;> rfl
theorem zu5 {i j : Bool} {t u : Idt} (h1 : nfI i t) (h2 : nfI j u) : zmc i t j u = some (zlD i t j u) := by
 unfold zmc zlD
 simp only [zo5, zcB, zkQ, zdK, Option.bind_some]
 cases t with
 | nil =>
  cases u with
  | nil => cases i <;> cases j <;> rfl
  | mk => obtain ⟨rfl, -⟩ := zko h2; cases i <;> simp [zm7]
 | mk => obtain ⟨rfl, -⟩ := zko h1; simp [zm7]
theorem zp5 : ∀ {N : Nat} {i : Bool} {t : Idt}, zbv t < N → zbv t ≤ 100000 → zfa N i t = some (zbv t : Int)
 | 0, i, t, hN, h => by omega
 | N + 1, i, t, hN, h => by
  unfold zfa zfO
  cases t with
  | nil => rfl
  | mk b l b2 r =>
   simp only [zbv] at hN h
   simp only [zp5 (N := N) (i := b) (t := l) (by omega) (by omega), zp5 (N := N) (i := b2) (t := r) (by omega) (by omega), Option.bind_some]
   have e : (if (zbv l : Int) < (zbv r : Int) then (zbv r : Int) else (zbv l : Int)) = ((max (zbv l) (zbv r) : Nat) : Int) := by split <;> omega
   rw [e, zj3 (by omega) (by omega)]
   simp only [zbv]
   congr 1
   omega
def zeh : Bool → Idt → zah
 | true, _ => .mk 1 .nil .nil
 | false, .nil => .mk 0 .nil .nil
 | false, .mk b l b2 r => .mk 2 (zeh b l) (zeh b2 r)
theorem zsB {i a b : Bool} {t u : Idt} (h : nfI i (.mk a t b u)) : zlD a t b u = (i, .mk a t b u) := by
 obtain ⟨rfl, -, -, h3⟩ := zko h
 rw [zlD, if_neg h3]
def znu : Bool → Idt → List UInt8
 | true, _ => [49]
 | false, .nil => [48]
 | false, .mk a t b u => [40] ++ znu a t ++ [44] ++ znu b u ++ [41]
theorem zhf : ∀ {t : Idt} {i : Bool}, (znu i t).length + 3 ≤ 4 * 2 ^ zbv t
 | .nil, i => by cases i <;> simp [znu, zbv]
 | .mk a t b u, i => by
  have r1 := zhf (t := t) (i := a)
  have r2 := zhf (t := u) (i := b)
  have p1 : 2 ^ zbv t ≤ 2 ^ max (zbv t) (zbv u) := Nat.pow_le_pow_right (by decide) (by omega)
  have p2 : 2 ^ zbv u ≤ 2 ^ max (zbv t) (zbv u) := Nat.pow_le_pow_right (by decide) (by omega)
  have p3 := Nat.two_pow_pos (max (zbv t) (zbv u))
  cases i with
  | true => simp only [znu, zbv, Nat.pow_succ, List.length_singleton]; omega
  | false => simp only [znu, zbv, Nat.pow_succ, List.length_append, List.length_singleton]; omega
theorem zse : ∀ {N : Nat} {i : Bool} {t : Idt}, zbv t < N → nfI i t → zbv t ≤ 30 → zfW N i t = some (mkS (znu i t))
 | 0, i, t, hN, h, hd => by omega
 | N + 1, i, t, hN, h, hd => by
  unfold zfW zgy
  simp only [zo5, zcB, Option.bind_some]
  cases t with
  | nil => cases i <;> rfl
  | mk a t b u =>
   obtain ⟨rfl, n1, n2, n3⟩ := zko h
   simp only [zbv] at hN hd
   have l1 := zhf (t := t) (i := a)
   have l2 := zhf (t := u) (i := b)
   have p1 : 2 ^ zbv t ≤ 2 ^ 30 := Nat.pow_le_pow_right (by decide) (by omega)
   have p2 : 2 ^ zbv u ≤ 2 ^ 30 := Nat.pow_le_pow_right (by decide) (by omega)
   have r1 := zse (N := N) (by omega) n1 (by omega)
   have r2 := zse (N := N) (by omega) n2 (by omega)
   simp only [zm7, cond_false, Option.bind_some, s40, s41, s44, zsv, zq2, List.length_append, List.length_singleton, r1, r2]
   rw [dt (by omega), cond_true, dt (by omega), cond_true, dt (by omega), cond_true, dt (by omega), cond_true]
   simp only [znu]
theorem zsI : ∀ {N : Nat} {i : Bool} {t : Idt}, zbv t < N → nfI i t → zbv t ≤ 30 → zg1 N (zeh i t) = some (mkS (znu i t))
 | 0, i, t, hN, h, hd => by omega
 | N + 1, i, t, hN, h, hd => by
  unfold zg1 zho
  cases t with
  | nil => cases i <;> rfl
  | mk a t b u =>
   obtain ⟨rfl, n1, n2, n3⟩ := zko h
   simp only [zbv] at hN hd
   have l1 := zhf (t := t) (i := a)
   have l2 := zhf (t := u) (i := b)
   have p1 : 2 ^ zbv t ≤ 2 ^ 30 := Nat.pow_le_pow_right (by decide) (by omega)
   have p2 : 2 ^ zbv u ≤ 2 ^ 30 := Nat.pow_le_pow_right (by decide) (by omega)
   have r1 := zsI (N := N) (by omega) n1 (by omega)
   have r2 := zsI (N := N) (by omega) n2 (by omega)
   have e2 : decide ((2 : Int) = 0) = false := rfl
   have e3 : decide ((2 : Int) = 1) = false := rfl
   simp only [zeh, e2, e3, cond_false, Option.bind_some, s40, s41, s44, zsv, zq2, List.length_append, List.length_singleton, r1, r2]
   rw [dt (by omega), cond_true, dt (by omega), cond_true, dt (by omega), cond_true, dt (by omega), cond_true]
   simp only [znu]
theorem zvD {i j : Bool} {t u : Idt} (h1 : nfI i t) (h2 : nfI j u) : ziC (zeh i t) (zeh j u) = some (zeh (zlD i t j u).1 (zlD i t j u).2) := by
 unfold ziC zlD
 cases t with
 | nil =>
  cases u with
  | nil => cases i <;> cases j <;> rfl
  | mk => obtain ⟨rfl, -⟩ := zko h2; cases i <;> rfl
 | mk =>
  obtain ⟨rfl, -⟩ := zko h1
  cases u with
  | nil => cases j <;> rfl
  | mk => obtain ⟨rfl, -⟩ := zko h2; rfl
theorem zqm : ∀ {N most : Nat} {p : List Int}, most < N → most ≤ 1000 → Bytes p → ∃ i t rest, zfz N p (most : Int) = some (zeh i t, rest) ∧ nfI i t ∧ zbv t ≤ most ∧ Bytes rest
 | 0, most, p, hN, hm, h => by omega
 | N + 1, most, p, hN, hm, h => by
  unfold zfz zhm
  by_cases h0 : (p.length : Int) = 0
  ·rw [dt h0]
   exact ⟨false, .nil, [], rfl, trivial, Nat.zero_le _, fun x hx => by simp at hx⟩
  ·have hl : 0 < p.length := by omega
   have hb := h.at hl
   have leaf : ∀ q : List Int, Bytes q → ∃ i t rest, some (zah.mk (IntKind.i64.wrap (irem .u8 (p.getD 0 0) 2)) zah.nil zah.nil, q) = some (zeh i t, rest) ∧ nfI i t ∧ zbv t ≤ most ∧ Bytes rest := by
    intro q hq
    have e : IntKind.i64.wrap (irem .u8 (p.getD 0 0) 2) = p.getD 0 0 % 2 := by
     rw [show (2 : Int) = ((2 : Nat) : Int) from rfl, zvw hb.1, i64_in (by omega) (by omega)]
    rw [e]
    rcases Int.emod_two_eq (p.getD 0 0) with h2 | h2
    ·exact ⟨false, .nil, q, by rw [h2]; rfl, trivial, Nat.zero_le _, hq⟩
    ·exact ⟨true, .nil, q, by rw [h2]; rfl, trivial, Nat.zero_le _, hq⟩
   have ht := znZ p 1
   have ht' : List.take ((p.length : Int) - 1).toNat (List.drop 1 p) = List.drop 1 p := ht
   have hd := h.drop 1
   simp only [df h0, cond_false, ht', dt (show (0 : Int) < p.length by omega), dt (show (1 : Int) ≤ p.length by omega), dt (Int.le_refl (0 : Int)), dt (show (0 : Int) ≤ 1 by omega), dt (Int.le_refl (p.length : Int)), dt (show (p.length : Int) = p.length from rfl), Bool.and_self, cond_true]
   by_cases hm0 : (most : Int) = 0
   ·rw [dt hm0, cond_true]; exact leaf _ hd
   ·rw [df hm0, cond_false]
    by_cases h4 : irem .u8 (p.getD 0 0) 4 < 2
    ·rw [dt h4, cond_true]; exact leaf _ hd
    ·rw [df h4, cond_false]
     obtain ⟨m, rfl⟩ : ∃ m, most = m + 1 := ⟨most - 1, by omega⟩
     have em : isub .i64 ((m + 1 : Nat) : Int) 1 = (m : Int) := by rw [zqW (by omega) (by omega)]; omega
     rw [em]
     obtain ⟨i, t, r1, q1, q2, q3, q4⟩ := zqm (N := N) (most := m) (by omega) (by omega) hd
     obtain ⟨j, u, r2, q5, q6, q7, q8⟩ := zqm (N := N) (most := m) (by omega) (by omega) q4
     rw [q1]
     simp only [Option.bind_some]
     rw [q5]
     simp only [Option.bind_some]
     rw [zvD q2 q6]
     refine ⟨_, _, r2, rfl, zuI q2 q6, ?_, q8⟩
     have := zrD i j t u
     omega
theorem zqh : ∀ {N : Nat} {i : Bool} {t : Idt}, nfI i t → zbv t ≤ 16 → zbv t + 1 < N → zhl N (zeh i t) = some (i, t)
 | 0, i, t, hn, hd, hN => by omega
 | N + 1, i, t, hn, hd, hN => by
  unfold zhl ziS
  cases t with
  | nil => cases i <;> rfl
  | mk b l b2 r =>
   have hk := zsB hn
   have hdp := zp5 (N := N) (i := i) (t := .mk b l b2 r) (by omega) (by omega)
   obtain ⟨rfl, n1, n2, n3⟩ := zko hn
   simp only [zbv] at hN hd
   have r1 := zqh (N := N) n1 (by omega) (by omega)
   have r2 := zqh (N := N) n2 (by omega) (by omega)
   have e2 : decide ((2 : Int) = 0) = false := rfl
   have e3 : decide ((2 : Int) = 1) = false := rfl
   simp only [zeh, r1, r2, Option.bind_some, zoh, zu5 n1 n2, hk, hdp, df (show ¬ (16 : Int) < ((zbv (.mk b l b2 r) : Nat) : Int) by simp only [zbv]; omega), cond_false, e2, e3]
theorem ztp {v i : Nat} (hv : v < 2 ^ 64) (hi : i ≤ 64) : decide (iand .u64 (ishr .u64 (v : Int) (i : Int)) 1 = 1) = v.testBit i := by
 rw [zoi (k := .u64) (show i ≤ 64 from hi)]
 have h1 : v / 2 ^ i < 2 ^ 64 := Nat.lt_of_le_of_lt (Nat.div_le_self _ _) hv
 have h2 := ztD (k := .u64) rfl (a := v / 2 ^ i) (b := 1) h1 (by decide)
 rw [show ((1 : Nat) : Int) = 1 from rfl] at h2
 rw [h2, Nat.and_one_is_mod, Nat.testBit_eq_decide_div_mod_eq]
 apply decide_eq_decide.2
 omega
theorem ztQ {v m : Nat} {l : List Int} {B : List Bool} (hv : v < 2 ^ 64) (hm : m < 64) (hB : B.length ≤ 1000000) (h : Pk l B) :
  ∃ l', zba (v : Int) ((m : Int), (B.length : Int), l) = some (.inl ((m : Int) - 1, ((B.length + 1 : Nat) : Int), l')) ∧ Pk l' (B ++ [v.testBit m]) := by
 have hbt := ztp hv (show m ≤ 64 by omega)
 have e1 : irem .i64 (B.length : Int) 8 = ((B.length % 8 : Nat) : Int) := zu7 (b := 8) (by omega)
 have e2 : iquo .i64 (B.length : Int) 8 = ((B.length / 8 : Nat) : Int) := zu6 (b := 8) (by omega)
 have e3 : isub .i64 (m : Int) 1 = (m : Int) - 1 := zqW (by omega) (by omega)
 have e4 : iadd .i64 (B.length : Int) 1 = ((B.length + 1 : Nat) : Int) := by rw [zj3 (by omega) (by omega)]; omega
 have hl := h.len
 have c0 : (0 : Int) ≤ (m : Int) := by omega
 have c1 : (0 : Int) ≤ ((B.length % 8 : Nat) : Int) := by omega
 have c2 : (0 : Int) ≤ ((B.length / 8 : Nat) : Int) := by omega
 unfold zba
 simp only [e1, e2, e3, e4, dt c0, dt c1, dt c2, cond_true, Int.toNat_natCast, Nat.zero_add, hbt]
 by_cases h8 : B.length % 8 = 0
 ·have hr := h.room h8
  have hf : fits (l ++ [0]).length = true := zdg (by have := hr.len; omega)
  have c3 : ((B.length / 8 : Nat) : Int) < ((l ++ [0]).length : Int) := by have := hr.len; omega
  rw [dt (show ((B.length % 8 : Nat) : Int) = 0 by omega)]
  simp only [cond_true, hf, dt c3, Bool.and_self]
  cases hb : v.testBit m with
  | true => exact ⟨_, rfl, hr.yes⟩
  | false => exact ⟨_, rfl, hr.no⟩
 ·have hr := h.room' h8
  have c3 : ((B.length / 8 : Nat) : Int) < (l.length : Int) := by have := hr.len; omega
  rw [df (show ¬ ((B.length % 8 : Nat) : Int) = 0 by omega)]
  simp only [cond_false, cond_true, dt c3, Bool.and_self]
  cases hb : v.testBit m with
  | true => exact ⟨_, rfl, hr.yes⟩
  | false => exact ⟨_, rfl, hr.no⟩
theorem zug {v : Nat} (hv : v < 2 ^ 64) : ∀ (m : Nat) {l : List Int} {B : List Bool}, m ≤ 64 → B.length + m ≤ 1000000 → Pk l B →
  ∃ l', runL (zba (v : Int)) ((m : Int) - 1, (B.length : Int), l) = some (((B.length + m : Nat) : Int), l') ∧ Pk l' (B ++ zdZ m v)
 | 0, l, B, hm, hB, h => by
  refine ⟨l, zbi ?_, by simpa [zdZ] using h⟩
  simp [zba]
 | m + 1, l, B, hm, hB, h => by
  obtain ⟨l1, h1, p1⟩ := ztQ hv (show m < 64 by omega) (by omega) h
  obtain ⟨l2, h2, p2⟩ := zug hv m (l := l1) (B := B ++ [v.testBit m]) (by omega) (by simp; omega) p1
  refine ⟨l2, ?_, by simpa [zdZ] using p2⟩
  rw [show ((m + 1 : Nat) : Int) - 1 = (m : Int) by omega, zbw h1]
  rw [List.length_append, List.length_singleton] at h2
  rw [h2]
  congr 3
  omega
theorem zvj {v k : Nat} (hv : v < 2 ^ 64) (hk : k ≤ 64) {l : List Int} {B : List Bool} (hB : B.length + k ≤ 1000000) (h : Pk l B) :
  ∃ l', zaD (v : Int) (k : Int) (B.length : Int) l = some (((B.length + k : Nat) : Int), l') ∧ Pk l' (B ++ zdZ k v) := by
 obtain ⟨l', h1, h2⟩ := zug hv k hk hB h
 refine ⟨l', ?_, h2⟩
 unfold zaD zf1
 rw [if_neg (show ¬ (k : Int) < 0 by omega), if_neg (show ¬ (64 : Int) < k by omega)]
 simp only [Option.bind_some]
 rw [zqW (by omega) (by omega), h1]
 rfl
theorem zsF : ∀ (v k n : Int), zb2 v k n = zaD v k n [] := by
 intro v k n
 have : zcp v = zba v := by
  funext s
  rcases s with ⟨i, n2, l⟩
  rfl
 unfold zb2 zaD
 rw [this]
def zhN (i : Bool) (t : zad) : Bool := match i, t with
 | false, .nil => true
 | _, _ => false
theorem zj5 (i : Bool) (t : zad) : zbq i t = some (zhN i t) := by
 cases i <;> cases t <;> rfl
def zeO : Bool → zad → List Bool
 | true, _ => zdZ 2 0 ++ zdZ 1 1
 | false, .nil => zdZ 2 0 ++ zdZ 1 0
 | false, .mk b l b2 r => if zhN b l then zdZ 2 1 ++ zeO b2 r else if zhN b2 r then zdZ 2 2 ++ zeO b l else zdZ 2 3 ++ (zeO b l ++ zeO b2 r)
def zc3 : zad → Nat
 | .nil => 0
 | .mk _ l _ r => max (zc3 l) (zc3 r) + 1
theorem zkp : ∀ {N : Nat} {i : Bool} {t : zad} {l : List Int} {B : List Bool}, zc3 t < N → B.length + (zeO i t).length ≤ 900000 → Pk l B →
  ∃ l', zcc N i t (B.length : Int) l = some (((B ++ zeO i t).length : Int), l') ∧ Pk l' (B ++ zeO i t)
 | 0, i, t, l, B, hN, hB, h => by omega
 | N + 1, i, t, l, B, hN, hB, h => by
  have two : ∀ (v k : Nat) {l : List Int} {B : List Bool}, v < 4 → k ≤ 2 → B.length ≤ 900000 → Pk l B → ∃ l', zaD (v : Int) (k : Int) (B.length : Int) l = some (((B ++ zdZ k v).length : Int), l') ∧ Pk l' (B ++ zdZ k v) := by
   intro v k l B hv hk hB h
   obtain ⟨l', h1, h2⟩ := zvj (v := v) (k := k) (Nat.lt_trans hv (by decide)) (by omega) (B := B) (by omega) h
   exact ⟨l', by rw [h1, List.length_append, zbg], h2⟩
  unfold zcc zdN zcB
  cases t with
  | nil =>
   cases i with
   | true =>
    simp only [zeO, List.length_append, zbg] at hB
    obtain ⟨l1, h1, p1⟩ := two 0 2 (by decide) (by decide) (by omega) h
    obtain ⟨l2, h2, p2⟩ := two 1 1 (by decide) (by decide) (by simp [zbg]; omega) p1
    simp only [zeO]
    rw [← List.append_assoc]
    refine ⟨l2, ?_, p2⟩
    simp only [zeK, zd5, zj5, zhN, Option.bind_some, cond_true, cond_false]
    rw [show (0 : Int) = ((0 : Nat) : Int) from rfl, show (2 : Int) = ((2 : Nat) : Int) from rfl, show (1 : Int) = ((1 : Nat) : Int) from rfl, h1]
    simp only [Option.bind_some]
    rw [h2]
    rfl
   | false =>
    simp only [zeO, List.length_append, zbg] at hB
    obtain ⟨l1, h1, p1⟩ := two 0 2 (by decide) (by decide) (by omega) h
    obtain ⟨l2, h2, p2⟩ := two 0 1 (by decide) (by decide) (by simp [zbg]; omega) p1
    simp only [zeO]
    rw [← List.append_assoc]
    refine ⟨l2, ?_, p2⟩
    simp only [zeK, zd5, zj5, zhN, Option.bind_some, cond_true, cond_false]
    rw [show (0 : Int) = ((0 : Nat) : Int) from rfl, show (2 : Int) = ((2 : Nat) : Int) from rfl, show (1 : Int) = ((1 : Nat) : Int) from rfl, h1]
    simp only [Option.bind_some]
    rw [h2]
    rfl
  | mk b t1 b2 t2 =>
   cases i with
   | true =>
    simp only [zeO, List.length_append, zbg] at hB
    obtain ⟨l1, h1, p1⟩ := two 0 2 (by decide) (by decide) (by omega) h
    obtain ⟨l2, h2, p2⟩ := two 1 1 (by decide) (by decide) (by simp [zbg]; omega) p1
    simp only [zeO]
    rw [← List.append_assoc]
    refine ⟨l2, ?_, p2⟩
    simp only [zeK, zd5, zj5, zhN, Option.bind_some, cond_true, cond_false]
    rw [show (0 : Int) = ((0 : Nat) : Int) from rfl, show (2 : Int) = ((2 : Nat) : Int) from rfl, show (1 : Int) = ((1 : Nat) : Int) from rfl, h1]
    simp only [Option.bind_some]
    rw [h2]
    rfl
   | false =>
    simp only [zc3] at hN
    simp only [zeK, zd5, zj5, Option.bind_some, show zhN false (zad.mk b t1 b2 t2) = false from rfl, cond_false]
    simp only [zeO] at hB ⊢
    cases hz : zhN b t1 with
    | true =>
     simp only [hz, if_true, List.length_append, zbg] at hB
     obtain ⟨l1, h1, p1⟩ := two 1 2 (by decide) (by decide) (by omega) h
     obtain ⟨l2, h2, p2⟩ := zkp (N := N) (i := b2) (t := t2) (by omega) (by simp [zbg]; omega) p1
     simp only [if_true, cond_true]
     rw [← List.append_assoc]
     refine ⟨l2, ?_, p2⟩
     have h1' : zaD 1 2 (B.length : Int) l = _ := h1
     rw [h1']
     simp only [Option.bind_some]
     rw [h2]
     rfl
    | false =>
     cases hz2 : zhN b2 t2 with
     | true =>
      simp only [hz, hz2, if_true, if_false, Bool.false_eq_true, List.length_append, zbg] at hB
      obtain ⟨l1, h1, p1⟩ := two 2 2 (by decide) (by decide) (by omega) h
      obtain ⟨l2, h2, p2⟩ := zkp (N := N) (i := b) (t := t1) (by omega) (by simp [zbg]; omega) p1
      simp only [if_true, if_false, Bool.false_eq_true, cond_true, cond_false]
      rw [← List.append_assoc]
      refine ⟨l2, ?_, p2⟩
      have h1' : zaD 2 2 (B.length : Int) l = _ := h1
      rw [h1']
      simp only [Option.bind_some]
      rw [h2]
      rfl
     | false =>
      simp only [hz, hz2, if_false, Bool.false_eq_true, List.length_append, zbg] at hB
      obtain ⟨l1, h1, p1⟩ := two 3 2 (by decide) (by decide) (by omega) h
      obtain ⟨l2, h2, p2⟩ := zkp (N := N) (i := b) (t := t1) (by omega) (by simp [zbg]; omega) p1
      obtain ⟨l3, h3, p3⟩ := zkp (N := N) (i := b2) (t := t2) (by omega) (by simp [zbg]; omega) p2
      simp only [if_false, Bool.false_eq_true, cond_false]
      rw [← List.append_assoc, ← List.append_assoc]
      refine ⟨l3, ?_, p3⟩
      have h1' : zaD 3 2 (B.length : Int) l = _ := h1
      rw [h1']
      simp only [Option.bind_some]
      rw [h2]
      simp only [Option.bind_some]
      rw [h3]
      rfl
structure Has (p : List Int) (n : Nat) (B : List Bool) : Prop where
 room : n + B.length ≤ 8 * p.length
 bit : ∀ i, i < B.length → (p.getD ((n + i) / 8) 0).toNat.testBit (7 - (n + i) % 8) = B.getD i false
theorem Pk.has {p : List Int} {A B C : List Bool} (h : Pk p (A ++ (B ++ C))) : Has p A.length B := by
 have hl := h.len
 simp only [List.length_append] at hl
 refine ⟨by omega, fun i hi => ?_⟩
 have := h.bit ((A.length + i) / 8) ((A.length + i) % 8) (Nat.mod_lt _ (by decide)) (by omega)
 rw [this, show 8 * ((A.length + i) / 8) + (A.length + i) % 8 = A.length + i by omega]
 simp only [List.getD]
 rw [List.getElem?_append_right (by omega), List.getElem?_append_left (by omega), show A.length + i - A.length = i by omega]
theorem Has.left {p : List Int} {n : Nat} {B C : List Bool} (h : Has p n (B ++ C)) : Has p n B := by
 have hr := h.room
 simp only [List.length_append] at hr
 refine ⟨by omega, fun i hi => ?_⟩
 rw [h.bit i (by simp; omega)]
 simp only [List.getD]
 rw [List.getElem?_append_left hi]
structure Rem (p : List Int) (n : Nat) (L : List Bool) : Prop where
 has : Has p n L
 all : n + L.length = 8 * p.length
theorem zn9 : ∀ (t : Idt), zc3 t = zbv t
 | .nil => rfl
 | .mk b t c u => by simp only [zc3, zbv, zn9 t, zn9 u]
def ziv : Bool → zad → zah
 | true, _ => .mk 1 .nil .nil
 | false, .nil => .mk 0 .nil .nil
 | false, .mk b l b2 r => .mk 2 (ziv b l) (ziv b2 r)
def nfID : Bool → zad → Prop
 | true, .nil => True
 | true, .mk .. => False
 | false, .nil => True
 | false, .mk b l b2 r => nfID b l ∧ nfID b2 r ∧ ¬ (l = .nil ∧ r = .nil ∧ b = b2)
theorem zlY : ∀ {t : zad} {i : Bool}, (zeO i t).length + 2 ≤ 5 * 2 ^ zc3 t
 | .nil, i => by cases i <;> simp [zeO, zbg, zc3]
 | .mk b l b2 r, true => by
  have : 0 < 2 ^ zc3 (.mk b l b2 r) := Nat.two_pow_pos _
  simp only [zeO, List.length_append, zbg]
  omega
 | .mk b l b2 r, false => by
  have h1 := zlY (t := l) (i := b)
  have h2 := zlY (t := r) (i := b2)
  have p1 : 2 ^ zc3 l ≤ 2 ^ (max (zc3 l) (zc3 r)) := Nat.pow_le_pow_right (by decide) (by omega)
  have p2 : 2 ^ zc3 r ≤ 2 ^ (max (zc3 l) (zc3 r)) := Nat.pow_le_pow_right (by decide) (by omega)
  have p3 : 0 < 2 ^ (max (zc3 l) (zc3 r)) := Nat.two_pow_pos _
  simp only [zeO, zc3, Nat.pow_succ]
  split
  ·simp only [List.length_append, zbg]; omega
  ·split <;> simp only [List.length_append, zbg] <;> omega
theorem zsL {k : Nat} (hk : k ≤ 64) : zga (k : Int) = some (k : Int) := by
 unfold zga
 rw [df (show ¬ (k : Int) < 0 by omega), df (show ¬ (64 : Int) < (k : Int) by omega)]
 rfl
theorem zsK {l : List Bool} {k v : Nat} (hk : k ≤ 64) (hv : v < 2 ^ 64) : ∀ (m i : Nat), i + m = k → runL (zbU l (k : Int)) (((v / 2 ^ i : Nat) : Int), (i : Int), zdZ i v) = some (zdZ k v)
 | 0, i, hi => by
  obtain rfl : i = k := by omega
  refine zbi ?_
  unfold zbU
  simp only [zsL hk, Option.bind_some, df (show ¬ (i : Int) < (i : Int) by omega), cond_false]
 | m + 1, i, hi => by
  rw [← zsK hk hv m (i + 1) (by omega)]
  refine zbw ?_
  have hd : v / 2 ^ i ≤ v := Nat.div_le_self _ _
  have e4 : decide (((v / 2 ^ i % 2 : Nat) : Int) = 1) = v.testBit i := by
   rw [Nat.testBit_eq_decide_div_mod_eq]
   apply decide_eq_decide.2
   omega
  have hqq : v / 2 ^ (i + 1) = v / 2 ^ i / 2 := by rw [Nat.pow_succ, Nat.div_div_eq_div_mul]
  rw [hqq]
  generalize v / 2 ^ i = q at *
  have e1 : iquo .u64 (q : Int) 2 = ((q / 2 : Nat) : Int) := by
   rw [iquo, Int.tdiv_eq_ediv_of_nonneg (by omega)]
   rw [show (2 : Int) = ((2 : Nat) : Int) from rfl, ← Int.natCast_ediv]
   exact u64_in (by omega) (by omega)
  have e2 : irem .u64 (q : Int) 2 = ((q % 2 : Nat) : Int) := by
   rw [irem, Int.tmod_eq_emod_of_nonneg (by omega)]; omega
  have e3 : iadd .i64 (i : Int) 1 = ((i + 1 : Nat) : Int) := by rw [zj3 (by omega) (by omega)]; omega
  unfold zbU
  simp only [zsL hk, Option.bind_some, dt (show (i : Int) < (k : Int) by omega), cond_true, e1, e2, e3, e4, List.take_length]
  have hb := zbg i v
  cases i with
  | zero => rfl
  | succ i =>
   rw [show Nat.beq (zdZ (i + 1) v).length 0 = false by rw [hb]; rfl, cond_false, zdg (by rw [List.length_append, hb]; simp; omega)]
   rfl
theorem rPut {l : List Bool} {k v : Nat} (hk : k ≤ 64) (hv : v < 2 ^ 64) (hl : l.length ≤ 1000000) : zda l (v : Int) (k : Int) = some (l ++ zdZ k v) := by
 have h := zsK (l := l) hk hv k 0 (by omega)
 rw [Nat.pow_zero, Nat.div_one] at h
 have h' : runL (zbU l (k : Int)) ((v : Int), 0, []) = _ := h
 unfold zda
 rw [h']
 simp only [Option.bind_some, List.nil_append, List.take_length, List.length_append, zbg]
 rw [zdg (by omega), zdg (by omega), zdg (by omega)]
 cases l with
 | nil => rfl
 | cons a l => rfl
theorem zsJ {l : List Bool} (k v : Nat) (hk : k ≤ 2) (hv : v < 4) (hl : l.length ≤ 900000) : zda l (v : Int) (k : Int) = some (l ++ zdZ k v) := rPut (by omega) (by omega) (by omega)
theorem zo3 (i : Bool) (t : zad) : ∃ x y, ziv i t = .mk (match i, t with | true, _ => 1 | false, .nil => 0 | false, .mk .. => 2) x y := by
 cases i <;> cases t <;> exact ⟨_, _, rfl⟩
theorem zvb (i : Bool) (t : zad) : (decide ((match i, t with | true, _ => (1 : Int) | false, .nil => 0 | false, .mk .. => 2) = 0)) = zhN i t := by
 cases i <;> cases t <;> rfl
theorem rID : ∀ {N : Nat} {t : zad} {i : Bool} {l : List Bool}, zc3 t < N → nfID i t → l.length + (zeO i t).length ≤ 800000 → zjI N l (ziv i t) = some (l ++ zeO i t)
 | 0, t, i, l, hN, hw, hl => by omega
 | N + 1, t, i, l, hN, hw, hl => by
  unfold zjI zkd
  cases t with
  | nil =>
   have q0 : ∀ {m : List Bool} (v : Nat), v < 4 → m.length ≤ 900000 → zda m (v : Int) 1 = some (m ++ zdZ 1 v) := fun v hv hm => zsJ 1 v (by decide) hv hm
   have q1 : zda l 0 2 = some (l ++ zdZ 2 0) := zsJ 2 0 (by decide) (by decide) (by omega)
   have q2 : zda (l ++ zdZ 2 0) 0 1 = some (l ++ zdZ 2 0 ++ zdZ 1 0) := q0 0 (by decide) (by simp [zbg]; omega)
   have q3 : zda (l ++ zdZ 2 0) 1 1 = some (l ++ zdZ 2 0 ++ zdZ 1 1) := q0 1 (by decide) (by simp [zbg]; omega)
   cases i with
   | true =>
    simp only [ziv, dt (show (1 : Int) < 2 by decide), cond_true, q1, Option.bind_some, show IntKind.u64.wrap 1 = 1 from u64_in (by omega) (by omega), q3, zeO, List.append_assoc]
   | false =>
    simp only [ziv, dt (show (0 : Int) < 2 by decide), cond_true, q1, Option.bind_some, show IntKind.u64.wrap 0 = 0 from u64_in (by omega) (by omega), q2, zeO, List.append_assoc]
  | mk b x b2 y =>
   cases i with
   | true => exact hw.elim
   | false =>
    simp only [zc3] at hN
    obtain ⟨g1, g2, g3⟩ := hw
    obtain ⟨x1, x2, hx⟩ := zo3 b x
    obtain ⟨y1, y2, hy⟩ := zo3 b2 y
    have kx := zvb b x
    have ky := zvb b2 y
    have r1 := fun {m : List Bool} (h : m.length + (zeO b x).length ≤ 800000) => rID (N := N) (t := x) (i := b) (l := m) (by omega) g1 h
    have r2 := fun {m : List Bool} (h : m.length + (zeO b2 y).length ≤ 800000) => rID (N := N) (t := y) (i := b2) (l := m) (by omega) g2 h
    have q1 : zda l 1 2 = some (l ++ zdZ 2 1) := zsJ 2 1 (by decide) (by decide) (by omega)
    have q2 : zda l 2 2 = some (l ++ zdZ 2 2) := zsJ 2 2 (by decide) (by decide) (by omega)
    have q3 : zda l 3 2 = some (l ++ zdZ 2 3) := zsJ 2 3 (by decide) (by decide) (by omega)
    have hl' := hl
    simp only [zeO] at hl' ⊢
    rw [hx] at r1
    rw [hy] at r2
    simp only [ziv, hx, hy, df (show ¬ (2 : Int) < 2 by decide), cond_false, kx, ky]
    cases hz : zhN b x with
    | true =>
     rw [hz] at hl'
     simp only [if_true, List.length_append, zbg] at hl'
     simp only [cond_true, q1, Option.bind_some, r2 (m := l ++ zdZ 2 1) (by simp only [List.length_append, zbg]; omega), if_true, List.append_assoc]
    | false =>
     cases hz2 : zhN b2 y with
     | true =>
      rw [hz, hz2] at hl'
      simp only [if_true, Bool.false_eq_true, if_false, List.length_append, zbg] at hl'
      simp only [cond_true, cond_false, q2, Option.bind_some, r1 (m := l ++ zdZ 2 2) (by simp only [List.length_append, zbg]; omega), if_true, Bool.false_eq_true, if_false, List.append_assoc]
     | false =>
      rw [hz, hz2] at hl'
      simp only [if_true, Bool.false_eq_true, if_false, List.length_append, zbg] at hl'
      simp only [cond_true, cond_false, q3, Option.bind_some, r1 (m := l ++ zdZ 2 3) (by simp only [List.length_append, zbg]; omega), Bool.false_eq_true, if_false]
      rw [r2 (by simp only [List.length_append, zbg]; omega)]
      simp only [Option.bind_some, List.append_assoc]
def bv (l : List Bool) (i : Nat) : Nat → Nat
 | 0 => 0
 | k + 1 => 2 * bv l i k + (l.getD (i + k) false).toNat
theorem zun (l : List Bool) (i : Nat) : ∀ k, bv l i k < 2 ^ k
 | 0 => by simp [bv]
 | k + 1 => by
  have := zun l i k
  rw [bv, Nat.pow_succ]
  cases l.getD (i + k) false <;> simp <;> omega
theorem zt1 (l : List Bool) (i : Nat) : ∀ k j, j < k → (bv l i k).testBit (k - 1 - j) = l.getD (i + j) false
 | 0, j, h => by omega
 | k + 1, j, h => by
  rw [bv]
  have hb : (l.getD (i + k) false).toNat < 2 := by cases l.getD (i + k) false <;> decide
  rcases Nat.lt_or_eq_of_le (Nat.le_of_lt_succ h) with hj | rfl
  ·rw [show k + 1 - 1 - j = (k - 1 - j) + 1 by omega, Nat.testBit_succ, show (2 * bv l i k + (l.getD (i + k) false).toNat) / 2 = bv l i k by omega, zt1 l i k j hj]
  ·rw [show j + 1 - 1 - j = 0 by omega, Nat.testBit_zero]
   cases l.getD (i + j) false with
   | true => simp
   | false => simp
theorem u8_in {n : Int} (h : 0 ≤ n) (h' : n < 256) : IntKind.u8.wrap n = n := IntWalk.u8_in n ⟨by omega, by omega⟩
theorem zq7 {l : List Bool} {i : Nat} {m : List Int} (hl : l.length ≤ 1000000) (hi : i ≤ 1000000) : ∀ (r k : Nat), k + r = 8 → runL (zcb l (i : Int) m) ((bv l i k : Nat), (k : Int)) = some ((bv l i 8 : Nat) : Int)
 | 0, k, hk => by
  obtain rfl : k = 8 := by omega
  refine zbi rfl
 | r + 1, k, hk => by
  rw [← zq7 hl hi r (k + 1) (by omega)]
  refine zbw ?_
  have hb := zun l i k
  have h2 : 2 ^ k ≤ 2 ^ 7 := Nat.pow_le_pow_right (by decide) (by omega)
  have e1 : imul .u8 ((bv l i k : Nat) : Int) 2 = ((2 * bv l i k : Nat) : Int) := by rw [imul, u8_in (by omega) (by omega)]; omega
  have e2 : iadd .u8 ((2 * bv l i k : Nat) : Int) 1 = ((2 * bv l i k + 1 : Nat) : Int) := by rw [iadd, u8_in (by omega) (by omega)]; omega
  have e3 : iadd .i64 (k : Int) 1 = ((k + 1 : Nat) : Int) := by rw [zj3 (by omega) (by omega)]; omega
  have e4 : iadd .i64 (i : Int) (k : Int) = ((i + k : Nat) : Int) := by rw [zj3 (by omega) (by omega)]; omega
  unfold zcb
  simp only [dt (show (k : Int) < 8 by omega), cond_true, e1, e2, e3, e4, dt (show (0 : Int) ≤ ((i + k : Nat) : Int) by omega), Bool.true_and, Int.toNat_natCast]
  rw [bv]
  by_cases hlt : i + k < l.length
  ·rw [dt (show ((i + k : Nat) : Int) < (l.length : Int) by omega)]
   simp only [cond_true]
   cases hc : l.getD (i + k) false <;> rfl
  ·rw [df (show ¬ ((i + k : Nat) : Int) < (l.length : Int) by omega), zj2 (by omega)]
   rfl
def zfC (l : List Bool) (q : Nat) : List Int := (List.range q).map (fun j => ((bv l (8 * j) 8 : Nat) : Int))
theorem zoQ (l : List Bool) (q : Nat) : zfC l (q + 1) = zfC l q ++ [((bv l (8 * q) 8 : Nat) : Int)] := by
 simp [zfC, List.range_succ]
theorem zjr (l : List Bool) (q : Nat) : (zfC l q).length = q := by simp [zfC]
theorem zpm {l : List Bool} (hl : l.length ≤ 900000) : ∀ (m q : Nat), q + m = (l.length + 7) / 8 → runL (zbT l) (((8 * q : Nat) : Int), zfC l q) = some (zfC l ((l.length + 7) / 8))
 | 0, q, hq => by
  obtain rfl : q = (l.length + 7) / 8 := by omega
  refine zbi ?_
  unfold zbT
  simp only [df (show ¬ ((8 * ((l.length + 7) / 8) : Nat) : Int) < (l.length : Int) by omega), cond_false]
 | m + 1, q, hq => by
  rw [← zpm hl m (q + 1) (by omega)]
  refine zbw ?_
  have hb : runL (zcb l ((8 * q : Nat) : Int) (zfC l q)) (0, 0) = _ := zq7 (i := 8 * q) (m := zfC l q) (by omega) (by omega) 8 0 (by omega)
  have e1 : iadd .i64 ((8 * q : Nat) : Int) 8 = ((8 * (q + 1) : Nat) : Int) := by rw [zj3 (by omega) (by omega)]; omega
  unfold zbT
  simp only [dt (show ((8 * q : Nat) : Int) < (l.length : Int) by omega), cond_true, hb, Option.bind_some, e1]
  rw [zdg (by simp [zjr]; omega), cond_true, zoQ]
theorem zvk {l : List Bool} (hl : l.length ≤ 900000) : ∃ m, zfX l = some m ∧ Pk m l := by
 refine ⟨zfC l ((l.length + 7) / 8), ?_, ⟨zjr _ _, fun x hx => ?_, fun q j hj hq => ?_⟩⟩
 ·have h : runL (zbT l) (0, []) = _ := zpm hl ((l.length + 7) / 8) 0 (by omega)
  unfold zfX
  rw [h]
  rfl
 ·obtain ⟨j, -, rfl⟩ := List.mem_map.1 hx
  have := zun l (8 * j) 8
  omega
 ·rw [zjr] at hq
  have hg : (zfC l ((l.length + 7) / 8)).getD q 0 = ((bv l (8 * q) 8 : Nat) : Int) := by
   simp [zfC, List.getD, hq]
  rw [hg, Int.toNat_natCast, show 7 - j = 8 - 1 - j by omega, zt1 l (8 * q) 8 j hj]
end Go.Proofs.YtjjcmgdgifcmgaaGreat
