/- Chapter 07, ids: written and read, for the Deed seat (turned from wip/ev2 by mkDeed.py). Plain. -/
import Derived.Test.YtjjcmgdgifcmgaaGreatA7
import Derived.Test.YtjjcmgdgifcmgaaGreatQ3
set_option linter.unusedVariables false
set_option linter.unusedSimpArgs false
namespace Go.Proofs.YtjjcmgdgifcmgaaGreat
open Go.Ev Go.Lib
theorem _root_.Go.Ev.Bytes.drop {l : List Int} (h : Bytes l) (n : Nat) : Bytes (l.drop n) := fun x hx => h x (List.mem_of_mem_drop hx)
theorem _root_.Go.Ev.Bytes.take {l : List Int} (h : Bytes l) (n : Nat) : Bytes (l.take n) := fun x hx => h x (List.mem_of_mem_take hx)
theorem zpL (l : List Int) (k : Nat) : List.take ((l.length : Int) - k).toNat (List.drop k l) = List.drop k l := List.take_of_length_le (by simp)
abbrev Idt := zab
instance zxB (t : Idt) : Decidable (t = zab.nil) := match t with
 | .nil => isTrue rfl
 | .mk .. => isFalse (fun h => by cases h)
def zdE (i : Bool) : Idt → Bool
 | .nil => !i
 | .mk .. => false
def zby : Idt → Nat
 | .nil => 0
 | .mk _ t _ u => max (zby t) (zby u) + 1
def nfI : Bool → Idt → Prop
 | true, .nil => True
 | true, .mk .. => False
 | false, .nil => True
 | false, .mk b l b2 r => nfI b l ∧ nfI b2 r ∧ ¬ (l = .nil ∧ r = .nil ∧ b = b2)
theorem zwF (i : Bool) : nfI i .nil := by cases i <;> trivial
theorem zv6 {i b c : Bool} {l r : Idt} (h : nfI i (.mk b l c r)) : i = false ∧ nfI b l ∧ nfI c r ∧ ¬ (l = .nil ∧ r = .nil ∧ b = c) := by
 cases i with
 | true => exact h.elim
 | false => exact ⟨rfl, h⟩
def bits : Nat → Bool → Idt → List Bool
 | 0, i, _ => [i]
 | d + 1, i, .nil => bits d i .nil ++ bits d i .nil
 | d + 1, i, .mk a t b u => bits d a t ++ bits d b u
def zwI (i : Bool) (t : Idt) (j : Bool) (u : Idt) : Bool × Idt := if t = .nil ∧ u = .nil ∧ i = j then (i, .nil) else (false, .mk i t j u)
theorem zqN {i : Bool} {t : Idt} : za0 i t = some (zdE i t) := by cases i <;> cases t <;> rfl
theorem zxb {i j : Bool} {t u : Idt} (h1 : nfI i t) (h2 : nfI j u) : zjB i t j u = some (zwI i t j u) := by
 unfold zjB zwI
 simp only [zqN, zbf, zfy, zkr, Option.bind_some]
 cases t with
 | nil =>
  cases u with
  | nil => cases i <;> cases j <;> rfl
  | mk => obtain ⟨rfl, -⟩ := zv6 h2; cases i <;> simp [zdE]
 | mk => obtain ⟨rfl, -⟩ := zv6 h1; simp [zdE]
theorem znN : ∀ {N : Nat} {i : Bool} {t : Idt}, zby t < N → zby t ≤ 100000 → zfY N i t = some (zby t : Int)
 | 0, i, t, hN, h => by omega
 | N + 1, i, t, hN, h => by
  unfold zfY zgQ
  cases t with
  | nil => rfl
  | mk b l b2 r =>
   simp only [zby] at hN h
   simp only [znN (N := N) (i := b) (t := l) (by omega) (by omega), znN (N := N) (i := b2) (t := r) (by omega) (by omega), Option.bind_some]
   have e : (if (zby l : Int) < (zby r : Int) then (zby r : Int) else (zby l : Int)) = ((max (zby l) (zby r) : Nat) : Int) := by split <;> omega
   rw [e, zes (by omega) (by omega)]
   simp only [zby]
   congr 1
   omega
def zjg : Bool → Idt → zai
 | true, _ => .mk 1 .nil .nil
 | false, .nil => .mk 0 .nil .nil
 | false, .mk b l b2 r => .mk 2 (zjg b l) (zjg b2 r)
def zww (i : Bool) (t : Idt) : Int := if i = true then 1 else if t = .nil then 0 else 2
theorem zpl (i : Bool) (t : Idt) : ∃ x y, zjg i t = .mk (zww i t) x y := by
 cases i <;> cases t <;> exact ⟨_, _, rfl⟩
theorem zu8 {v i : Nat} (hv : v < 2 ^ 64) (hi : i ≤ 64) : decide (iand .u64 (ishr .u64 (v : Int) (i : Int)) 1 = 1) = v.testBit i := by
 rw [zna (k := .u64) (show i ≤ 64 from hi)]
 have h1 : v / 2 ^ i < 2 ^ 64 := Nat.lt_of_le_of_lt (Nat.div_le_self _ _) hv
 have h2 := zsK (k := .u64) rfl (a := v / 2 ^ i) (b := 1) h1 (by decide)
 rw [show ((1 : Nat) : Int) = 1 from rfl] at h2
 rw [h2, Nat.and_one_is_mod, Nat.testBit_eq_decide_div_mod_eq]
 apply decide_eq_decide.2
 omega
theorem zvE {v m : Nat} {l : List Int} {B : List Bool} (hv : v < 2 ^ 64) (hm : m < 64) (hB : B.length ≤ 1000000) (h : Pk l B) :
  ∃ l', zaQ (v : Int) ((m : Int), (B.length : Int), l) = some (.inl ((m : Int) - 1, ((B.length + 1 : Nat) : Int), l')) ∧ Pk l' (B ++ [v.testBit m]) := by
 have hbt := zu8 hv (show m ≤ 64 by omega)
 have e1 : irem .i64 (B.length : Int) 8 = ((B.length % 8 : Nat) : Int) := zv2 (b := 8) (by omega)
 have e2 : iquo .i64 (B.length : Int) 8 = ((B.length / 8 : Nat) : Int) := zv1 (b := 8) (by omega)
 have e3 : isub .i64 (m : Int) 1 = (m : Int) - 1 := zia (by omega) (by omega)
 have e4 : iadd .i64 (B.length : Int) 1 = ((B.length + 1 : Nat) : Int) := by rw [zes (by omega) (by omega)]; omega
 have hl := h.len
 have c0 : (0 : Int) ≤ (m : Int) := by omega
 have c1 : (0 : Int) ≤ ((B.length % 8 : Nat) : Int) := by omega
 have c2 : (0 : Int) ≤ ((B.length / 8 : Nat) : Int) := by omega
 unfold zaQ
 simp only [e1, e2, e3, e4, dt c0, dt c1, dt c2, cond_true, Int.toNat_natCast, Nat.zero_add, hbt]
 by_cases h8 : B.length % 8 = 0
 ·have hr := h.room h8
  have hf : fits (l ++ [0]).length = true := zfX (by have := hr.len; omega)
  have c3 : ((B.length / 8 : Nat) : Int) < ((l ++ [0]).length : Int) := by have := hr.len; omega
  rw [dt (show ((B.length % 8 : Nat) : Int) = 0 by omega)]
  simp only [cond_true, hf, dt c3, Bool.and_self]
  cases hb : v.testBit m with
  | true => exact ⟨_, rfl, hr.yes⟩
  | false => exact ⟨_, rfl, hr.no⟩
 ·have hr := h.room' h8
  have c3 : ((B.length / 8 : Nat) : Int) < (l.length : Int) := by have := hr.len; omega
  rw [df (show ¬ ((B.length % 8 : Nat) : Int) = 0 by omega)]
  simp only [cond_false, cond_true, dt c3, Bool.and_self]
  cases hb : v.testBit m with
  | true => exact ⟨_, rfl, hr.yes⟩
  | false => exact ⟨_, rfl, hr.no⟩
theorem zv9 {v : Nat} (hv : v < 2 ^ 64) : ∀ (m : Nat) {l : List Int} {B : List Bool}, m ≤ 64 → B.length + m ≤ 1000000 → Pk l B →
  ∃ l', runL (zaQ (v : Int)) ((m : Int) - 1, (B.length : Int), l) = some (((B.length + m : Nat) : Int), l') ∧ Pk l' (B ++ zeu m v)
 | 0, l, B, hm, hB, h => by
  refine ⟨l, zaA ?_, by simpa [zeu] using h⟩
  simp [zaQ]
 | m + 1, l, B, hm, hB, h => by
  obtain ⟨l1, h1, p1⟩ := zvE hv (show m < 64 by omega) (by omega) h
  obtain ⟨l2, h2, p2⟩ := zv9 hv m (l := l1) (B := B ++ [v.testBit m]) (by omega) (by simp; omega) p1
  refine ⟨l2, ?_, by simpa [zeu] using p2⟩
  rw [show ((m + 1 : Nat) : Int) - 1 = (m : Int) by omega, za8 h1]
  rw [List.length_append, List.length_singleton] at h2
  rw [h2]
  congr 3
  omega
theorem zxp {v k : Nat} (hv : v < 2 ^ 64) (hk : k ≤ 64) {l : List Int} {B : List Bool} (hB : B.length + k ≤ 1000000) (h : Pk l B) :
  ∃ l', zay (v : Int) (k : Int) (B.length : Int) l = some (((B.length + k : Nat) : Int), l') ∧ Pk l' (B ++ zeu k v) := by
 obtain ⟨l', h1, h2⟩ := zv9 hv k hk hB h
 refine ⟨l', ?_, h2⟩
 unfold zay zex
 rw [if_neg (show ¬ (k : Int) < 0 by omega), if_neg (show ¬ (64 : Int) < k by omega)]
 simp only [Option.bind_some]
 rw [zia (by omega) (by omega), h1]
 rfl
theorem zut : ∀ (v k n : Int), zb8 v k n = zay v k n [] := by
 intro v k n
 have : zcW v = zaQ v := by
  funext s
  rcases s with ⟨i, n2, l⟩
  rfl
 unfold zb8 zay
 rw [this]
def zky (i : Bool) (t : zab) : Bool := match i, t with
 | false, .nil => true
 | _, _ => false
theorem zlm (i : Bool) (t : zab) : za0 i t = some (zky i t) := by
 cases i <;> cases t <;> rfl
def zgI : Bool → zab → List Bool
 | true, _ => zeu 2 0 ++ zeu 1 1
 | false, .nil => zeu 2 0 ++ zeu 1 0
 | false, .mk b l b2 r => if zky b l then zeu 2 1 ++ zgI b2 r else if zky b2 r then zeu 2 2 ++ zgI b l else zeu 2 3 ++ (zgI b l ++ zgI b2 r)
def zdO : zab → Nat
 | .nil => 0
 | .mk _ l _ r => max (zdO l) (zdO r) + 1
theorem zlz : ∀ {N : Nat} {i : Bool} {t : zab} {l : List Int} {B : List Bool}, zdO t < N → B.length + (zgI i t).length ≤ 900000 → Pk l B →
  ∃ l', zcj N i t (B.length : Int) l = some (((B ++ zgI i t).length : Int), l') ∧ Pk l' (B ++ zgI i t)
 | 0, i, t, l, B, hN, hB, h => by omega
 | N + 1, i, t, l, B, hN, hB, h => by
  have two : ∀ (v k : Nat) {l : List Int} {B : List Bool}, v < 4 → k ≤ 2 → B.length ≤ 900000 → Pk l B → ∃ l', zay (v : Int) (k : Int) (B.length : Int) l = some (((B ++ zeu k v).length : Int), l') ∧ Pk l' (B ++ zeu k v) := by
   intro v k l B hv hk hB h
   obtain ⟨l', h1, h2⟩ := zxp (v := v) (k := k) (Nat.lt_trans hv (by decide)) (by omega) (B := B) (by omega) h
   exact ⟨l', by rw [h1, List.length_append, za3], h2⟩
  unfold zcj zed zbf
  cases t with
  | nil =>
   cases i with
   | true =>
    simp only [zgI, List.length_append, za3] at hB
    obtain ⟨l1, h1, p1⟩ := two 0 2 (by decide) (by decide) (by omega) h
    obtain ⟨l2, h2, p2⟩ := two 1 1 (by decide) (by decide) (by simp [za3]; omega) p1
    simp only [zgI]
    rw [← List.append_assoc]
    refine ⟨l2, ?_, p2⟩
    simp only [zfh, zeC, zlm, zky, Option.bind_some, cond_true, cond_false]
    rw [show (0 : Int) = ((0 : Nat) : Int) from rfl, show (2 : Int) = ((2 : Nat) : Int) from rfl, show (1 : Int) = ((1 : Nat) : Int) from rfl, h1]
    simp only [Option.bind_some]
    rw [h2]
    rfl
   | false =>
    simp only [zgI, List.length_append, za3] at hB
    obtain ⟨l1, h1, p1⟩ := two 0 2 (by decide) (by decide) (by omega) h
    obtain ⟨l2, h2, p2⟩ := two 0 1 (by decide) (by decide) (by simp [za3]; omega) p1
    simp only [zgI]
    rw [← List.append_assoc]
    refine ⟨l2, ?_, p2⟩
    simp only [zfh, zeC, zlm, zky, Option.bind_some, cond_true, cond_false]
    rw [show (0 : Int) = ((0 : Nat) : Int) from rfl, show (2 : Int) = ((2 : Nat) : Int) from rfl, show (1 : Int) = ((1 : Nat) : Int) from rfl, h1]
    simp only [Option.bind_some]
    rw [h2]
    rfl
  | mk b t1 b2 t2 =>
   cases i with
   | true =>
    simp only [zgI, List.length_append, za3] at hB
    obtain ⟨l1, h1, p1⟩ := two 0 2 (by decide) (by decide) (by omega) h
    obtain ⟨l2, h2, p2⟩ := two 1 1 (by decide) (by decide) (by simp [za3]; omega) p1
    simp only [zgI]
    rw [← List.append_assoc]
    refine ⟨l2, ?_, p2⟩
    simp only [zfh, zeC, zlm, zky, Option.bind_some, cond_true, cond_false]
    rw [show (0 : Int) = ((0 : Nat) : Int) from rfl, show (2 : Int) = ((2 : Nat) : Int) from rfl, show (1 : Int) = ((1 : Nat) : Int) from rfl, h1]
    simp only [Option.bind_some]
    rw [h2]
    rfl
   | false =>
    simp only [zdO] at hN
    simp only [zfh, zeC, zlm, Option.bind_some, show zky false (zab.mk b t1 b2 t2) = false from rfl, cond_false]
    simp only [zgI] at hB ⊢
    cases hz : zky b t1 with
    | true =>
     simp only [hz, if_true, List.length_append, za3] at hB
     obtain ⟨l1, h1, p1⟩ := two 1 2 (by decide) (by decide) (by omega) h
     obtain ⟨l2, h2, p2⟩ := zlz (N := N) (i := b2) (t := t2) (by omega) (by simp [za3]; omega) p1
     simp only [if_true, cond_true]
     rw [← List.append_assoc]
     refine ⟨l2, ?_, p2⟩
     have h1' : zay 1 2 (B.length : Int) l = _ := h1
     rw [h1']
     simp only [Option.bind_some]
     rw [h2]
     rfl
    | false =>
     cases hz2 : zky b2 t2 with
     | true =>
      simp only [hz, hz2, if_true, if_false, Bool.false_eq_true, List.length_append, za3] at hB
      obtain ⟨l1, h1, p1⟩ := two 2 2 (by decide) (by decide) (by omega) h
      obtain ⟨l2, h2, p2⟩ := zlz (N := N) (i := b) (t := t1) (by omega) (by simp [za3]; omega) p1
      simp only [if_true, if_false, Bool.false_eq_true, cond_true, cond_false]
      rw [← List.append_assoc]
      refine ⟨l2, ?_, p2⟩
      have h1' : zay 2 2 (B.length : Int) l = _ := h1
      rw [h1']
      simp only [Option.bind_some]
      rw [h2]
      rfl
     | false =>
      simp only [hz, hz2, if_false, Bool.false_eq_true, List.length_append, za3] at hB
      obtain ⟨l1, h1, p1⟩ := two 3 2 (by decide) (by decide) (by omega) h
      obtain ⟨l2, h2, p2⟩ := zlz (N := N) (i := b) (t := t1) (by omega) (by simp [za3]; omega) p1
      obtain ⟨l3, h3, p3⟩ := zlz (N := N) (i := b2) (t := t2) (by omega) (by simp [za3]; omega) p2
      simp only [if_false, Bool.false_eq_true, cond_false]
      rw [← List.append_assoc, ← List.append_assoc]
      refine ⟨l3, ?_, p3⟩
      have h1' : zay 3 2 (B.length : Int) l = _ := h1
      rw [h1']
      simp only [Option.bind_some]
      rw [h2]
      simp only [Option.bind_some]
      rw [h3]
      rfl
structure Has (p : List Int) (n : Nat) (B : List Bool) : Prop where
 room : n + B.length ≤ 8 * p.length
 bit : ∀ i, i < B.length → (p.getD ((n + i) / 8) 0).toNat.testBit (7 - (n + i) % 8) = B.getD i false
theorem Pk.has {p : List Int} {A B C : List Bool} (h : Pk p (A ++ (B ++ C))) : Has p A.length B := by
 have hl := h.len
 simp only [List.length_append] at hl
 refine ⟨by omega, fun i hi => ?_⟩
 have := h.bit ((A.length + i) / 8) ((A.length + i) % 8) (Nat.mod_lt _ (by decide)) (by omega)
 rw [this, show 8 * ((A.length + i) / 8) + (A.length + i) % 8 = A.length + i by omega]
 simp only [List.getD]
 rw [List.getElem?_append_right (by omega), List.getElem?_append_left (by omega), show A.length + i - A.length = i by omega]
theorem Has.left {p : List Int} {n : Nat} {B C : List Bool} (h : Has p n (B ++ C)) : Has p n B := by
 have hr := h.room
 simp only [List.length_append] at hr
 refine ⟨by omega, fun i hi => ?_⟩
 rw [h.bit i (by simp; omega)]
 simp only [List.getD]
 rw [List.getElem?_append_left hi]
theorem Has.right {p : List Int} {n : Nat} {B C : List Bool} (h : Has p n (B ++ C)) : Has p (n + B.length) C := by
 have hr := h.room
 simp only [List.length_append] at hr
 refine ⟨by omega, fun i hi => ?_⟩
 have := h.bit (B.length + i) (by simp; omega)
 rw [show n + B.length + i = n + (B.length + i) by omega, this]
 simp only [List.getD]
 rw [List.getElem?_append_right (by omega), show B.length + i - B.length = i by omega]
theorem zvF {p : List Int} {n : Nat} (hb : Bytes p) (hn : n < 8 * p.length) (hp : p.length ≤ 100000) :
  IntKind.u64.wrap (iand .u8 (ishr .u8 (p.getD (n / 8) 0) (isub .i64 7 ((n % 8 : Nat) : Int))) 1) = (((p.getD (n / 8) 0).toNat.testBit (7 - n % 8)).toNat : Int) := by
 have h0 := hb.at (show n / 8 < p.length by omega)
 obtain ⟨c, hc⟩ : ∃ c : Nat, p.getD (n / 8) 0 = (c : Int) := ⟨_, (Int.toNat_of_nonneg h0.1).symm⟩
 have e1 : isub .i64 7 ((n % 8 : Nat) : Int) = ((7 - n % 8 : Nat) : Int) := by rw [zia (by omega) (by omega)]; omega
 have hc8 : c < 256 := by rw [hc] at h0; omega
 rw [e1, hc, zna (k := .u8) (show 7 - n % 8 ≤ 8 by omega)]
 have h1 : c / 2 ^ (7 - n % 8) < 2 ^ 8 := Nat.lt_of_le_of_lt (Nat.div_le_self _ _) hc8
 have h2 := zsK (k := .u8) rfl (a := c / 2 ^ (7 - n % 8)) (b := 1) h1 (by decide)
 rw [show ((1 : Nat) : Int) = 1 from rfl] at h2
 rw [h2, Nat.and_one_is_mod, Int.toNat_natCast, Nat.testBit_eq_decide_div_mod_eq, u64_in (by omega) (by omega)]
 rcases Nat.mod_two_eq_zero_or_one (c / 2 ^ (7 - n % 8)) with h | h <;> rw [h] <;> rfl
theorem zpR : ∀ {k v i : Nat}, i < k → (zeu k v).getD i false = v.testBit (k - 1 - i)
 | 0, v, i, h => by omega
 | k + 1, v, 0, h => by simp [zeu]
 | k + 1, v, i + 1, h => by
  rw [zeu, List.getD_cons_succ, zpR (by omega)]
  congr 1
  omega
theorem zwj (v m : Nat) : v / 2 ^ m = 2 * (v / 2 ^ (m + 1)) + (v.testBit m).toNat := by
 rw [Nat.testBit_eq_decide_div_mod_eq, Nat.pow_succ, ← Nat.div_div_eq_div_mul]
 rcases Nat.mod_two_eq_zero_or_one (v / 2 ^ m) with h | h
 ·have : decide (v / 2 ^ m % 2 = 1) = false := df (by omega)
  rw [this]; simp only [Bool.toNat_false]; omega
 ·have : decide (v / 2 ^ m % 2 = 1) = true := dt h
  rw [this]; simp only [Bool.toNat_true]; omega
theorem zv0 {p : List Int} {k v n : Nat} (hb : Bytes p) (hp : p.length ≤ 100000) (hk : k ≤ 64) (hv : v < 2 ^ k) (h : Has p n (zeu k v)) :
  ∀ (m j : Nat), j + m = k → runL (zbe (k : Int) p 0) (((v / 2 ^ m : Nat) : Int), (j : Int), ((n + j : Nat) : Int)) = some ((v : Int), ((n + k : Nat) : Int))
 | 0, j, hj => by
  obtain rfl : j = k := by omega
  refine zaA ?_
  simp [zbe]
 | m + 1, j, hj => by
  have hr := h.room
  rw [za3] at hr
  have ih := zv0 hb hp hk hv h m (j + 1) (by omega)
  have hbit := h.bit j (by rw [za3]; omega)
  rw [zpR (by omega), show k - 1 - j = m by omega] at hbit
  have hrb := zvF (n := n + j) hb (by omega) hp
  rw [hbit] at hrb
  rw [za8 (s' := (((v / 2 ^ m : Nat) : Int), ((j + 1 : Nat) : Int), ((n + (j + 1) : Nat) : Int))), ih]
  have e1 : iquo .i64 ((n + j : Nat) : Int) 8 = (((n + j) / 8 : Nat) : Int) := zv1 (b := 8) (by omega)
  have e2 : irem .i64 ((n + j : Nat) : Int) 8 = (((n + j) % 8 : Nat) : Int) := zv2 (b := 8) (by omega)
  have e3 : isub .i64 7 (((n + j) % 8 : Nat) : Int) = ((7 - (n + j) % 8 : Nat) : Int) := by rw [zia (by omega) (by omega)]; omega
  have e4 : iadd .i64 (j : Int) 1 = ((j + 1 : Nat) : Int) := by rw [zes (by omega) (by omega)]; omega
  have e5 : iadd .i64 ((n + j : Nat) : Int) 1 = ((n + (j + 1) : Nat) : Int) := by rw [zes (by omega) (by omega)]; omega
  have hq : v / 2 ^ (m + 1) < 2 ^ 63 := by
   have h1 : 2 ^ k = 2 ^ j * 2 ^ (m + 1) := by rw [← Nat.pow_add, hj]
   have h2 : v / 2 ^ (m + 1) < 2 ^ j := (Nat.div_lt_iff_lt_mul (Nat.two_pow_pos _)).2 (by rw [← h1]; exact hv)
   exact Nat.lt_of_lt_of_le h2 (Nat.pow_le_pow_right (by decide) (by omega))
  have e6 : ior .u64 (ishl .u64 ((v / 2 ^ (m + 1) : Nat) : Int) 1) ((v.testBit m).toNat : Int) = ((v / 2 ^ m : Nat) : Int) := by
   have h1 := zsL (k := .u64) rfl (a := v / 2 ^ (m + 1)) (n := 1) (by decide) (show _ < 2 ^ 64 by omega)
   rw [show ((1 : Nat) : Int) = 1 from rfl] at h1
   have hbl : (v.testBit m).toNat < 2 := by cases v.testBit m <;> decide
   rw [h1, zp5 (k := .u64) rfl (show _ < 2 ^ 64 by omega) (show _ < 2 ^ 64 by omega)]
   have h3 : v / 2 ^ (m + 1) * 2 ^ 1 ||| (v.testBit m).toNat = 2 * (v / 2 ^ (m + 1)) + (v.testBit m).toNat := by
    have := Nat.two_pow_add_eq_or_of_lt (i := 1) (b := (v.testBit m).toNat) (by simpa using hbl) (v / 2 ^ (m + 1))
    rw [Nat.mul_comm]
    simpa using this.symm
   rw [h3, ← zwj]
  unfold zbe
  simp only [e1, e2, e4, e5, Int.toNat_natCast, hrb, e6, dt (show (j : Int) < (k : Int) by omega), dt (show (0 : Int) ≤ (((n + j) / 8 : Nat) : Int) by omega), dt (show (((n + j) / 8 : Nat) : Int) < (p.length : Int) by omega), Bool.and_self, cond_true]
  rw [e3, dt (show (0 : Int) ≤ ((7 - (n + j) % 8 : Nat) : Int) by omega)]
  rfl
theorem zw7 {p : List Int} {k v n : Nat} (hb : Bytes p) (hp : p.length ≤ 100000) (hk : k ≤ 64) (hv : v < 2 ^ k) (h : Has p n (zeu k v)) :
  zb7 (k : Int) p (n : Int) 0 = some ((v : Int), ((n + k : Nat) : Int), 0) := by
 have hr := h.room
 rw [za3] at hr
 have hg := zv0 hb hp hk hv h k 0 (by omega)
 rw [Nat.div_eq_of_lt hv, Nat.add_zero] at hg
 have hg' : runL (zbe (k : Int) p 0) (0, 0, (n : Int)) = _ := hg
 unfold zb7 zex zb6 zcH
 rw [if_neg (show ¬ (k : Int) < 0 by omega), if_neg (show ¬ (64 : Int) < k by omega)]
 have e1 : isub .i64 (imul .i64 8 (p.length : Int)) (n : Int) = 8 * p.length - n := by
  rw [zt4 (by omega) (by omega), zia (by omega) (by omega)]
 simp only [Option.bind_some, decide_true, cond_true, e1, df (show ¬ (8 * (p.length : Int) - n < k) by omega), cond_false, hg']
def valB : List Bool → Nat
 | [] => 0
 | b :: l => (if b = true then 2 ^ l.length else 0) + valB l
theorem zoK : ∀ (l : List Bool), valB l < 2 ^ l.length
 | [] => by simp [valB]
 | b :: l => by
  have := zoK l
  simp only [valB, List.length_cons, Nat.pow_succ]
  split <;> omega
theorem znk : ∀ {k n m : Nat}, (∀ i, i < k → n.testBit i = m.testBit i) → zeu k n = zeu k m
 | 0, n, m, h => rfl
 | k + 1, n, m, h => by
  simp only [zeu]
  rw [h k (by omega), znk (fun i hi => h i (by omega))]
theorem zqA : ∀ (l : List Bool), zeu l.length (valB l) = l
 | [] => rfl
 | b :: l => by
  have ih := zqA l
  have hlt := zoK l
  simp only [List.length_cons, zeu, valB]
  cases b with
  | false =>
   simp only [Bool.false_eq_true, if_false, Nat.zero_add, ih]
   rw [Nat.testBit_lt_two_pow hlt]
  | true =>
   simp only [if_true]
   rw [Nat.testBit_two_pow_add_eq, Nat.testBit_lt_two_pow hlt, znk (k := l.length) (m := valB l) (fun i hi => Nat.testBit_two_pow_add_gt hi _), ih]
   rfl
structure Rem (p : List Int) (n : Nat) (L : List Bool) : Prop where
 has : Has p n L
 all : n + L.length = 8 * p.length
theorem Rem.cut {p : List Int} {n k : Nat} {L : List Bool} (h : Rem p n L) (hk : k ≤ L.length) : Rem p (n + k) (L.drop k) := by
 have e : L = L.take k ++ L.drop k := (List.take_append_drop k L).symm
 have hh := h.has
 rw [e] at hh
 have := hh.right
 rw [List.length_take, Nat.min_eq_left hk] at this
 exact ⟨this, by rw [List.length_drop]; have := h.all; omega⟩
theorem zuv {p : List Int} {n k : Nat} {L : List Bool} (hb : Bytes p) (hp : p.length ≤ 100000) (hk : k ≤ 64) (h : Rem p n L) (hL : k ≤ L.length) :
  zb7 (k : Int) p (n : Int) 0 = some ((valB (L.take k) : Int), ((n + k : Nat) : Int), 0) := by
 have e : L = L.take k ++ L.drop k := (List.take_append_drop k L).symm
 have hlen : (L.take k).length = k := by rw [List.length_take]; omega
 have hh := h.has
 rw [e] at hh
 have h1 := hh.left
 have hv := zoK (L.take k)
 rw [hlen] at hv
 rw [← zqA (L.take k), hlen] at h1
 exact zw7 hb hp hk hv h1
theorem zvG {p : List Int} {n k : Nat} {L : List Bool} (hp : p.length ≤ 100000) (hk : k ≤ 64) (h : Rem p n L) (hL : L.length < k) : zb7 (k : Int) p (n : Int) 0 = some (0, (n : Int), 6) := by
 have ha := h.all
 unfold zb7 zex zb6 zcH
 rw [if_neg (show ¬ (k : Int) < 0 by omega), if_neg (show ¬ (64 : Int) < k by omega)]
 have e1 : isub .i64 (imul .i64 8 (p.length : Int)) (n : Int) = 8 * p.length - n := by
  rw [zt4 (by omega) (by omega), zia (by omega) (by omega)]
 simp only [Option.bind_some, decide_true, cond_true, e1, dt (show 8 * (p.length : Int) - n < k by omega)]
 rfl
theorem zum {p : List Int} {e n er : Int} (he : e ≠ 0) : zb4 e p n er = some (false, e) := by
 unfold zb4 zb6 zbY
 simp only [Option.bind_some, df he, cond_false]
 cases decide (er = 0) <;> rfl
theorem zof {p : List Int} {n : Int} : zb4 0 p n 0 = some (true, 0) := rfl
theorem zwe {p : List Int} {k e n er : Int} (he : e ≠ 0) : zaU k e p n er = some (0, e, n, er) := by
 unfold zaU
 rw [zum he]
 rfl
theorem zvk {p : List Int} {c e n er : Int} (he : e ≠ 0) : zbY c e p n er = some e := by
 unfold zbY
 rw [df he]
 rfl
theorem zqj {p : List Int} {b : Bool} {e n er : Int} (he : e ≠ 0) : zaE b e p n er = some e := by
 unfold zaE
 cases b
 ·simp only [cond_false, zvk he, Option.bind_some]
 ·rfl
theorem ztN {p : List Int} {n k : Nat} {L : List Bool} (hb : Bytes p) (hp : p.length ≤ 100000) (hk : k ≤ 64) (h : Rem p n L) (hL : k ≤ L.length) :
  zaU (k : Int) 0 p (n : Int) 0 = some ((valB (L.take k) : Int), 0, ((n + k : Nat) : Int), 0) := by
 unfold zaU
 rw [zof]
 simp only [Option.bind_some, cond_true, zuv hb hp hk h hL, zof]
theorem zsu {p : List Int} {n k : Nat} {L : List Bool} (hp : p.length ≤ 100000) (hk : k ≤ 64) (h : Rem p n L) (hL : L.length < k) : zaU (k : Int) 0 p (n : Int) 0 = some (0, 6, (n : Int), 6) := by
 unfold zaU
 rw [zof]
 simp only [Option.bind_some, cond_true, zvG hp hk h hL]
 rfl
theorem zoL : ∀ (l : List Bool) (b : Bool), valB (l ++ [b]) = 2 * valB l + (if b = true then 1 else 0)
 | [], b => by cases b <;> rfl
 | a :: l, b => by
  have := zoL l b
  simp only [List.cons_append, valB, List.length_append, List.length_singleton, Nat.pow_succ, this]
  split <;> omega
theorem zs2 {B l2 : List Bool} {k n2 : Int} (hk : B.length ≤ 64) : ∀ (m j : Nat), j + m = B.length → runL (zcb k B (B.length : Int) l2 n2) ((valB (B.take j) : Int), (j : Int)) = some ((valB B : Nat) : Int)
 | 0, j, h => by
  refine zaA ?_
  unfold zcb
  dsimp only
  rw [df (show ¬ (j : Int) < (B.length : Int) by omega), cond_false, List.take_of_length_le (by omega)]
 | m + 1, j, h => by
  have hj : j < B.length := by omega
  rw [← zs2 hk m (j + 1) (by omega)]
  refine za8 ?_
  have hlt := zoK (B.take j)
  have h63 : 2 ^ (B.take j).length ≤ 2 ^ 63 := Nat.pow_le_pow_right (by decide) (by rw [List.length_take]; omega)
  have e1 : imul .u64 (valB (B.take j) : Int) 2 = ((2 * valB (B.take j) : Nat) : Int) := by
   generalize valB (B.take j) = x at *
   rw [imul, u64_in (by omega) (by omega)]; omega
  have e2 : B.getD j false = B[j] := by rw [List.getD_eq_getElem?_getD, List.getElem?_eq_getElem hj]; rfl
  have e3 : iadd .i64 (j : Int) 1 = ((j + 1 : Nat) : Int) := by rw [zes (by omega) (by omega)]; omega
  rw [List.take_succ_eq_append_getElem hj, zoL]
  unfold zcb
  simp only [Int.toNat_natCast, Nat.zero_add, dt (show (j : Int) < (B.length : Int) by omega), dt (show (0 : Int) ≤ (j : Int) by omega), Bool.and_self, cond_true, e1, e2, e3]
  generalize valB (B.take j) = x at *
  cases B[j] with
  | false => rfl
  | true =>
   simp only [cond_true, if_true]
   rw [zw9 (by omega) (by omega)]
   rfl
theorem zs1 {l : List Bool} {k c n2 : Nat} {n : Int} (hc : c ≤ l.length) (hk : c ≤ 64) : ∀ (m j : Nat), j + m = c → runL (zcK (c : Int) c (c : Int) n l) ((valB (l.take j) : Int), (j : Int)) = some ((valB (l.take c) : Nat) : Int)
 | 0, j, h => by
  refine zaA ?_
  unfold zcK
  dsimp only
  rw [df (show ¬ (j : Int) < (c : Int) by omega), cond_false, show j = c by omega]
 | m + 1, j, h => by
  have hj : j < l.length := by omega
  rw [← zs1 (k := k) (n2 := n2) hc hk m (j + 1) (by omega)]
  refine za8 ?_
  have hlt := zoK (l.take j)
  have h63 : 2 ^ (l.take j).length ≤ 2 ^ 63 := Nat.pow_le_pow_right (by decide) (by rw [List.length_take]; omega)
  have e1 : imul .u64 (valB (l.take j) : Int) 2 = ((2 * valB (l.take j) : Nat) : Int) := by
   generalize valB (l.take j) = x at *
   rw [imul, u64_in (by omega) (by omega)]; omega
  have e2 : l.getD j false = l[j] := by rw [List.getD_eq_getElem?_getD, List.getElem?_eq_getElem hj]; rfl
  have e3 : iadd .i64 (j : Int) 1 = ((j + 1 : Nat) : Int) := by rw [zes (by omega) (by omega)]; omega
  rw [List.take_succ_eq_append_getElem hj, zoL]
  unfold zcK
  simp only [Int.toNat_natCast, Nat.zero_add, dt (show (j : Int) < (c : Int) by omega), dt (show (0 : Int) ≤ (j : Int) by omega), Bool.and_self, cond_true, e1, e2, e3]
  generalize valB (l.take j) = x at *
  cases l[j] with
  | false => rfl
  | true =>
   simp only [cond_true, if_true]
   rw [zw9 (by omega) (by omega)]
   rfl
theorem zuE {k : Nat} (hk : k ≤ 64) : zf0 (k : Int) = some (k : Int) := by
 unfold zf0
 rw [df (show ¬ (k : Int) < 0 by omega), df (show ¬ (64 : Int) < (k : Int) by omega)]
 rfl
theorem zuu {k : Nat} {l : List Bool} (hk : k ≤ 64) (hl : l.length ≤ 1000000) : zdo (k : Int) l 0 = some (if l.length < k then (0, l, 6) else ((valB (l.take k) : Int), l.drop k, 0)) := by
 unfold zdo
 rw [zuE hk]
 simp only [Option.bind_some, decide_true, cond_true]
 by_cases h : l.length < k
 ·rw [if_pos h, dt (show (l.length : Int) < (k : Int) by omega), cond_true]
 ·have hlen : (l.take k).length = k := by rw [List.length_take]; omega
  have hg' : runL (zcb (k : Int) (l.take k) ((l.take k).length : Int) l 0) (0, 0) = some ((valB (l.take k) : Nat) : Int) := by
   have := zs2 (B := l.take k) (l2 := l) (k := (k : Int)) (n2 := 0) (by omega) (l.take k).length 0 (by omega)
   exact this
  have e1 : List.take ((k : Int) - 0).toNat l = l.take k := by rw [Int.sub_zero, Int.toNat_natCast]
  have e2 : List.take ((l.length : Int) - (k : Int)).toNat (List.drop ((k : Int)).toNat l) = l.drop k := by
   rw [Int.toNat_natCast]
   exact List.take_of_length_le (by rw [List.length_drop]; omega)
  rw [if_neg h, df (show ¬ (l.length : Int) < (k : Int) by omega), cond_false]
  simp only [e1, hg', Option.bind_some, e2, dt (Int.le_refl 0), dt (Nat.le_refl 0), dt (show (0 : Int) ≤ (k : Int) by omega), dt (show (k : Int) ≤ (l.length : Int) by omega), dt (Int.le_refl (l.length : Int)), decide_true, Bool.and_self, cond_true]
theorem zxM {k : Nat} {l : List Bool} (hk : k ≤ 64) (hl : l.length ≤ 1000000) : zjW (k : Int) 0 l = some (if l.length < k then (0, l, 6) else ((valB (l.take k) : Int), l.drop k, 0)) := by
 unfold zjW
 rw [zuE hk]
 simp only [Option.bind_some, decide_true, cond_true]
 by_cases h : l.length < k
 ·rw [if_pos h, dt (show (l.length : Int) < (k : Int) by omega), cond_true]
 ·have hg' : runL (zcK (k : Int) k (k : Int) 0 l) (0, 0) = some ((valB (l.take k) : Nat) : Int) := zs1 (k := 0) (n2 := 0) (by omega) hk k 0 (by omega)
  have e1 : ((k : Int) - 0).toNat = k := by rw [Int.sub_zero, Int.toNat_natCast]
  have e2 : List.take ((l.length : Int) - (k : Int)).toNat (List.drop (0 + ((k : Int)).toNat) l) = l.drop k := by
   rw [Int.toNat_natCast, Nat.zero_add]
   exact List.take_of_length_le (by rw [List.length_drop]; omega)
  rw [if_neg h, df (show ¬ (l.length : Int) < (k : Int) by omega), cond_false]
  simp only [e1, hg', Option.bind_some, e2, dt (Int.le_refl 0), dt (Nat.le_refl 0), dt (show (0 : Int) ≤ (k : Int) by omega), dt (show (k : Int) ≤ (l.length : Int) by omega), dt (Int.le_refl (l.length : Int)), decide_true, Bool.and_self, cond_true]
abbrev RI := (Bool × Idt × List Bool) ⊕ Int
def zob (rec_ : List Bool → RI) (a b : Bool) (l : List Bool) : RI :=
 match (if a = false then .inl (false, .nil, l) else rec_ l : RI) with
 | .inr e => .inr e
 | .inl (i, t, l1) =>
  match (if b = false then .inl (false, .nil, l1) else rec_ l1 : RI) with
  | .inr e => .inr e
  | .inl (j, u, l2) => if zdE i t = a ∨ zdE j u = b ∨ (i = true ∧ j = true) then .inr 6 else .inl (false, .mk i t j u, l2)
def decI : Nat → List Bool → RI
 | 0, l => match l with
  | false :: false :: c :: l => .inl (c, .nil, l)
  | [false, false] => .inr 6
  | _ :: _ :: _ => .inr 3
  | _ => .inr 6
 | k + 1, l => match l with
  | false :: false :: c :: l => .inl (c, .nil, l)
  | [false, false] => .inr 6
  | a :: b :: l => zob (decI k) a b l
  | _ => .inr 6
theorem zqk {N k : Nat} {i j : Bool} {t u : Idt} (hN : k + 1 < N) (hk : k ≤ 1000) (d1 : zby t ≤ k) (d2 : zby u ≤ k) : ∃ b v c, zdk N i t j u = some (b, v, c) ∧ zby v ≤ k + 1 := by
 have hp : ∃ b v, zjB i t j u = some (b, v) ∧ zby v ≤ k + 1 := by
  unfold zjB
  simp only [zqN, zbf, zfy, zkr, Option.bind_some]
  have hm : zby (.mk i t j u) ≤ k + 1 := by simp only [zby]; omega
  cases zdE i t <;> cases zdE j u <;> cases i <;> cases j <;> first | exact ⟨_, _, rfl, hm⟩ | exact ⟨_, _, rfl, Nat.zero_le _⟩
 obtain ⟨b, v, h1, h2⟩ := hp
 unfold zdk
 rw [h1]
 simp only [Option.bind_some, znN (N := N) (i := b) (t := v) (by omega) (by omega), zfy]
 cases decide ((16 : Int) < (zby v : Int))
 ·exact ⟨b, v, 0, rfl, h2⟩
 ·exact ⟨false, .nil, 3, rfl, Nat.zero_le _⟩
theorem zwJ {N : Nat} {i j : Bool} {t u : Idt} (h1 : nfI i t) (h2 : nfI j u) (h3 : ¬ (t = .nil ∧ u = .nil ∧ i = j)) (hd : zby t < 16) (hd2 : zby u < 16) (hN : 20 ≤ N) : zdk N i t j u = some (false, .mk i t j u, 0) := by
 unfold zdk
 rw [zxb h1 h2, zwI, if_neg h3]
 have hdp := znN (N := N) (i := false) (t := .mk i t j u) (by simp only [zby]; omega) (by simp only [zby]; omega)
 simp only [Option.bind_some, hdp, df (show ¬ (16 : Int) < ((zby (.mk i t j u) : Nat) : Int) by simp only [zby]; omega), cond_false]
theorem zpT : ∀ {k : Nat} {L : List Bool} {i : Bool} {t : Idt} {r : List Bool}, decI k L = .inl (i, t, r) → nfI i t ∧ zby t ≤ k ∧ r.length + 3 ≤ L.length := by
 have leaf : ∀ {k : Nat} {L : List Bool} {i : Bool} {t : Idt} {r : List Bool} {c : Bool} {l : List Bool}, L = false :: false :: c :: l → (Sum.inl (c, zab.nil, l) : RI) = .inl (i, t, r) → nfI i t ∧ zby t ≤ k ∧ r.length + 3 ≤ L.length := by
  rintro k L i t r c l rfl h
  cases h
  exact ⟨zwF _, Nat.zero_le _, by simp⟩
 intro k
 induction k with
 | zero =>
  intro L i t r h
  match L, h with
  | false :: false :: c :: l, h => exact leaf rfl h
  | [false, false], h => cases h
  | true :: b :: l, h => cases h
  | false :: true :: l, h => cases h
  | [a], h => cases a <;> cases h
  | [], h => cases h
 | succ k ih =>
  have node : ∀ {a b : Bool} {l : List Bool} {i : Bool} {t : Idt} {r : List Bool}, (a = true ∨ b = true) → zob (decI k) a b l = .inl (i, t, r) → nfI i t ∧ zby t ≤ k + 1 ∧ r.length + 3 ≤ l.length := by
   intro a b l i t r hab h
   unfold zob at h
   split at h
   ·cases h
   ·rename_i i1 t1 l1 h1
    split at h
    ·cases h
    ·rename_i j1 u1 l2 h2
     split at h
     ·cases h
     ·rename_i hc
      cases h
      have a1 : nfI i1 t1 ∧ zby t1 ≤ k ∧ l1.length ≤ l.length ∧ (a = true → l1.length + 3 ≤ l.length) := by
       cases a with
       | false => simp only [if_true] at h1; cases h1; exact ⟨trivial, Nat.zero_le _, Nat.le_refl _, fun h => by cases h⟩
       | true => simp only [Bool.true_eq_false, if_false] at h1; obtain ⟨x, y, z⟩ := ih h1; exact ⟨x, y, by omega, fun _ => z⟩
      have a2 : nfI j1 u1 ∧ zby u1 ≤ k ∧ r.length ≤ l1.length ∧ (b = true → r.length + 3 ≤ l1.length) := by
       cases b with
       | false => simp only [if_true] at h2; cases h2; exact ⟨trivial, Nat.zero_le _, Nat.le_refl _, fun h => by cases h⟩
       | true => simp only [Bool.true_eq_false, if_false] at h2; obtain ⟨x, y, z⟩ := ih h2; exact ⟨x, y, by omega, fun _ => z⟩
      refine ⟨⟨a1.1, a2.1, fun hx => ?_⟩, by simp only [zby]; omega, ?_⟩
      ·obtain ⟨rfl, rfl, rfl⟩ := hx
       apply hc
       cases i1 with
       | true => exact .inr (.inr ⟨rfl, rfl⟩)
       | false =>
        cases a with
        | true => exact .inl rfl
        | false =>
         cases b with
         | true => exact .inr (.inl rfl)
         | false => rcases hab with hab | hab <;> cases hab
      ·rcases hab with hab | hab
       ·have := a1.2.2.2 hab; omega
       ·have := a2.2.2.2 hab; omega
  intro L i t r h
  match L, h with
  | false :: false :: c :: l, h => exact leaf rfl h
  | [false, false], h => cases h
  | true :: b :: l, h =>
   obtain ⟨x, y, z⟩ := node (.inl rfl) (show zob (decI k) true b l = _ from h)
   exact ⟨x, y, by simp only [List.length_cons]; omega⟩
  | false :: true :: l, h =>
   obtain ⟨x, y, z⟩ := node (.inr rfl) (show zob (decI k) false true l = _ from h)
   exact ⟨x, y, by simp only [List.length_cons]; omega⟩
  | [a], h => cases a <;> cases h
  | [], h => cases h
def zwb (p : List Int) (k : Nat) : RI → Option (Bool × Idt × Int × Int × Int) → Prop
 | .inl (i, t, r), x => ∃ m : Nat, x = some (i, t, 0, (m : Int), 0) ∧ Rem p m r
 | .inr e, x => e ≠ 0 ∧ ∃ (i : Bool) (t : Idt) (m er : Int), x = some (i, t, e, m, er) ∧ zby t ≤ k
theorem ztM {x a : Bool} : (x == (!a)) = !(x == a) := by cases x <;> cases a <;> rfl
theorem zui {p : List Int} {b : Bool} {n er : Int} : zaE b 0 p n er = some (if b = true then 0 else 6) := by
 cases b <;> rfl
theorem zwK {p : List Int} (hb : Bytes p) (hp : p.length ≤ 100000) : ∀ {N k d n : Nat} {L : List Bool}, d + k = 16 → k + 30 < N → Rem p n L → zwb p k (decI k L) (zbh N (d : Int) 0 p (n : Int) 0)
 | 0, k, d, n, L, hd, hN, h => by omega
 | N + 1, k, d, n, L, hd, hN, h => by
  show zwb p k (decI k L) (zbo N (zbh N) (d : Int) 0 p (n : Int) 0)
  have short : L.length < 2 → decI k L = .inr 6 → zwb p k (decI k L) (zbo N (zbh N) (d : Int) 0 p (n : Int) 0) := by
   intro hl he
   rw [he]
   have g1 : zaU 2 0 p (n : Int) 0 = some (0, 6, (n : Int), 6) := zsu (k := 2) hp (by decide) h hl
   refine ⟨by decide, false, .nil, (n : Int), 6, ?_, Nat.zero_le _⟩
   unfold zbo
   simp only [zfy, Option.bind_some, g1, decide_true, cond_true, zwe (show (6 : Int) ≠ 0 by decide), df (show ¬ (0 : Int) = 1 by decide), cond_false]
  match L, h, short with
  | [], h, short => exact short (by simp) (by cases k <;> rfl)
  | [a], h, short => exact short (by simp) (by cases k <;> cases a <;> rfl)
  | a :: b :: l, h, short =>
   have hc2 := h.cut (k := 2) (by simp)
   have hc2' : Rem p (n + 2) l := hc2
   have g1 : zaU 2 0 p (n : Int) 0 = some ((valB [a, b] : Int), 0, ((n + 2 : Nat) : Int), 0) := ztN (k := 2) hb hp (by decide) h (by simp)
   by_cases hab : a = true ∨ b = true
   ·
    have q0 : decide (((valB [a, b] : Nat) : Int) = 0) = false := by cases a <;> cases b <;> first | rfl | (rcases hab with h | h <;> cases h)
    have q1 : decide (((valB [a, b] : Nat) : Int) = 1) = !a := by cases a <;> cases b <;> first | rfl | (rcases hab with h | h <;> cases h)
    have q2 : decide (((valB [a, b] : Nat) : Int) = 2) = !b := by cases a <;> cases b <;> first | rfl | (rcases hab with h | h <;> cases h)
    unfold zbo zem
    simp only [zfy, Option.bind_some, g1, q0, cond_false, q1, q2, Bool.not_not]
    generalize ((valB [a, b] : Nat) : Int) = q
    cases k with
    | zero =>
     have he : decI 0 (a :: b :: l) = .inr 3 := by cases a <;> cases b <;> first | rfl | (rcases hab with h | h <;> cases h)
     have n3 : (3 : Int) ≠ 0 := by decide
     obtain ⟨x, v, c, t1, t2⟩ := zqk (N := N) (k := 0) (i := false) (j := false) (t := .nil) (u := .nil) (by omega) (by omega) (by simp [zby]) (by simp [zby])
     rw [he]
     have hf : zbY 3 0 p ((n + 2 : Nat) : Int) 0 = some 3 := rfl
     have hv : zby v ≤ 0 := by
      have hp0 : zdk N false zab.nil false zab.nil = some (false, .nil, 0) := by
       unfold zdk
       have h1 : zjB false zab.nil false zab.nil = some (false, .nil) := rfl
       have h2 := znN (N := N) (i := false) (t := .nil) (by simp only [zby]; omega) (by simp [zby])
       rw [h1]
       simp only [Option.bind_some, h2]
       rfl
      rw [hp0] at t1
      cases t1
      exact Nat.le_refl _
     refine ⟨n3, x, v, ((n + 2 : Nat) : Int), 0, ?_, hv⟩
     simp only [dt (show (d : Int) = 16 by omega), cond_true, hf, Option.bind_some, zum n3, cond_false, zqN, zbf, zqj n3, t1]
     cases (zdE false zab.nil == !a) <;> cases (zdE false zab.nil == !b) <;> rfl
    | succ k =>
     have hdec : decI (k + 1) (a :: b :: l) = zob (decI k) a b l := by cases a <;> cases b <;> first | rfl | (rcases hab with h | h <;> cases h)
     rw [hdec]
     have ed : iadd .i64 (d : Int) 1 = ((d + 1 : Nat) : Int) := by rw [zes (by omega) (by omega)]; omega
     simp only [df (show ¬ (d : Int) = 16 by omega), cond_false, Option.bind_some, zof, cond_true, zqN, zbf]
     have left : ∃ x, zdu (zbh N) (d : Int) q a 0 p ((n + 2 : Nat) : Int) 0 = x ∧
       (match (if a = false then .inl (false, .nil, l) else decI k l : RI) with
       | .inl (i, t, l1) => ∃ m : Nat, x = some (0, (m : Int), 0, i, t) ∧ Rem p m l1 ∧ nfI i t ∧ zby t ≤ k
       | .inr e => e ≠ 0 ∧ ∃ (i : Bool) (t : Idt) (m er : Int), x = some (e, m, er, i, t) ∧ zby t ≤ k) := by
      refine ⟨_, rfl, ?_⟩
      unfold zdu
      cases a with
      | false => exact ⟨n + 2, rfl, hc2', trivial, Nat.zero_le _⟩
      | true =>
       have ih := zwK hb hp (N := N) (k := k) (d := d + 1) (n := n + 2) (L := l) (by omega) (by omega) hc2'
       simp only [Bool.true_eq_false, if_false, cond_true, ed]
       cases hq : decI k l with
       | inl z =>
        obtain ⟨i, t, l1⟩ := z
        rw [hq] at ih
        obtain ⟨m, e1, e2⟩ := ih
        obtain ⟨o1, o2, -⟩ := zpT hq
        exact ⟨m, by rw [e1]; rfl, e2, o1, o2⟩
       | inr e =>
        rw [hq] at ih
        obtain ⟨e0, i, t, m, er, e1, e2⟩ := ih
        exact ⟨e0, i, t, m, er, by rw [e1]; rfl, e2⟩
     obtain ⟨x, hx, left⟩ := left
     rw [hx]
     unfold zob
     cases hl : (if a = false then .inl (false, .nil, l) else decI k l : RI) with
     | inr e =>
      rw [hl] at left
      obtain ⟨e0, i, t, m, er, rfl, dt_⟩ := left
      obtain ⟨x, v, c, t1, t2⟩ := zqk (N := N) (k := k) (i := i) (j := false) (t := t) (u := .nil) (by omega) (by omega) dt_ (by simp [zby])
      refine ⟨e0, x, v, m, er, ?_, t2⟩
      simp only [Option.bind_some, zum e0, cond_false, zqj e0, t1]
      cases (zdE i t == !a) <;> cases (zdE false zab.nil == !b) <;> cases i <;> rfl
     | inl z =>
      obtain ⟨i, t, l1⟩ := z
      rw [hl] at left
      obtain ⟨m, rfl, hm, ni, di⟩ := left
      simp only [Option.bind_some, zof, cond_true]
      have right : ∃ x, zdv (zbh N) (d : Int) q b 0 p (m : Int) 0 i t = x ∧
        (match (if b = false then .inl (false, .nil, l1) else decI k l1 : RI) with
        | .inl (j, u, l2) => ∃ m : Nat, x = some (0, (m : Int), 0, j, u) ∧ Rem p m l2 ∧ nfI j u ∧ zby u ≤ k
        | .inr e => e ≠ 0 ∧ ∃ (j : Bool) (u : Idt) (m er : Int), x = some (e, m, er, j, u) ∧ zby u ≤ k) := by
       refine ⟨_, rfl, ?_⟩
       unfold zdv
       cases b with
       | false => exact ⟨m, rfl, hm, trivial, Nat.zero_le _⟩
       | true =>
        have ih := zwK hb hp (N := N) (k := k) (d := d + 1) (n := m) (L := l1) (by omega) (by omega) hm
        simp only [Bool.true_eq_false, if_false, cond_true, ed]
        cases hq : decI k l1 with
        | inl z =>
         obtain ⟨j, u, l2⟩ := z
         rw [hq] at ih
         obtain ⟨m, e1, e2⟩ := ih
         obtain ⟨o1, o2, -⟩ := zpT hq
         exact ⟨m, by rw [e1]; rfl, e2, o1, o2⟩
        | inr e =>
         rw [hq] at ih
         obtain ⟨e0, j, u, m, er, e1, e2⟩ := ih
         exact ⟨e0, j, u, m, er, by rw [e1]; rfl, e2⟩
      obtain ⟨x, hx, right⟩ := right
      rw [hx]
      cases hr : (if b = false then .inl (false, .nil, l1) else decI k l1 : RI) with
      | inr e =>
       rw [hr] at right
       obtain ⟨e0, j, u, m2, er, rfl, du⟩ := right
       obtain ⟨x, v, c, t1, t2⟩ := zqk (N := N) (k := k) (i := i) (j := j) (t := t) (u := u) (by omega) (by omega) di du
       refine ⟨e0, x, v, m2, er, ?_, t2⟩
       simp only [Option.bind_some, zqj e0, t1]
       cases (zdE i t == !a) <;> cases (zdE j u == !b) <;> cases i <;> rfl
      | inl z =>
       obtain ⟨j, u, l2⟩ := z
       rw [hr] at right
       obtain ⟨m2, rfl, hm2, nj, dj⟩ := right
       obtain ⟨x, v, c, t1, t2⟩ := zqk (N := N) (k := k) (i := i) (j := j) (t := t) (u := u) (by omega) (by omega) di dj
       by_cases hc : zdE i t = a ∨ zdE j u = b ∨ (i = true ∧ j = true)
       ·simp only [if_pos hc]
        refine ⟨by decide, x, v, (m2 : Int), 0, ?_, t2⟩
        simp only [Option.bind_some, zui, t1, ztM]
        rcases hc with hc | hc | ⟨rfl, rfl⟩
        ·subst hc
         simp only [beq_self_eq_true, Bool.not_true, cond_false, Bool.false_eq_true, if_false]
        ·subst hc
         simp only [beq_self_eq_true, Bool.not_true, cond_false, Bool.false_eq_true, if_false]
         cases (zdE i t == a) <;> rfl
        ·simp only [Bool.not_true, Bool.false_eq_true, if_false, cond_true]
         cases (zdE true t == a) <;> cases (zdE true u == b) <;> rfl
       ·simp only [if_neg hc]
        have c1 : (zdE i t == a) = false := by
         cases hz : zdE i t == a with
         | false => rfl
         | true => exact absurd (.inl (eq_of_beq hz)) hc
        have c2 : (zdE j u == b) = false := by
         cases hz : zdE j u == b with
         | false => rfl
         | true => exact absurd (.inr (.inl (eq_of_beq hz))) hc
        have c3 : ¬ (i = true ∧ j = true) := fun hx => hc (.inr (.inr hx))
        have hk := zwJ (N := N) ni nj (fun hx => by
         obtain ⟨rfl, rfl, rfl⟩ := hx
         cases i with
         | true => exact c3 ⟨rfl, rfl⟩
         | false =>
          cases a with
          | true => cases c1
          | false => cases b with
           | true => cases c2
           | false => rcases hab with h | h <;> cases h) (by omega) (by omega) (by omega)
        refine ⟨m2, ?_, hm2⟩
        simp only [Option.bind_some, zui, ztM, c1, c2, Bool.not_false, cond_true, hk, if_true]
        cases i with
        | false => rfl
        | true =>
         cases j with
         | true => exact absurd ⟨rfl, rfl⟩ c3
         | false => rfl
   ·obtain ⟨rfl, rfl⟩ : a = false ∧ b = false := by cases a <;> cases b <;> simp_all
    have g1' : zaU 2 0 p (n : Int) 0 = some (0, 0, ((n + 2 : Nat) : Int), 0) := g1
    cases l with
    | nil =>
     have he : decI k [false, false] = .inr 6 := by cases k <;> rfl
     rw [he]
     have g2 : zaU 1 0 p ((n + 2 : Nat) : Int) 0 = some (0, 6, ((n + 2 : Nat) : Int), 6) := zsu (k := 1) hp (by decide) hc2' (by simp)
     refine ⟨by decide, false, .nil, ((n + 2 : Nat) : Int), 6, ?_, Nat.zero_le _⟩
     unfold zbo
     simp only [zfy, Option.bind_some, g1', decide_true, cond_true, g2, df (show ¬ (0 : Int) = 1 by decide), cond_false]
    | cons c l =>
     have he : decI k (false :: false :: c :: l) = .inl (c, .nil, l) := by cases k <;> rfl
     rw [he]
     have g2 : zaU 1 0 p ((n + 2 : Nat) : Int) 0 = some ((valB [c] : Int), 0, ((n + 2 + 1 : Nat) : Int), 0) := ztN (k := 1) hb hp (by decide) hc2' (by simp)
     refine ⟨n + 2 + 1, ?_, hc2'.cut (k := 1) (by simp)⟩
     unfold zbo
     simp only [zfy, zkr, Option.bind_some, g1', decide_true, cond_true, g2]
     cases c <;> rfl
theorem zvs {a : Bool} {v : Idt} : decide (zww a v = 1) = a := by cases a <;> cases v <;> rfl
theorem zxg {a : Bool} {v : Idt} : decide (zww a v = 0) = zdE a v := by cases a <;> cases v <;> rfl
abbrev zrC : zai := zai.mk 0 zai.nil zai.nil
def zsr : RI → Option (zai × Int × List Bool × Int) → Prop
 | .inl (i, t, r), x => x = some (zjg i t, 0, r, 0)
 | .inr e, x => e ≠ 0 ∧ ∃ (l : List Bool) (er : Int), x = some (zrC, e, l, er)
theorem ztr {α : Type} {zi zj a b i j : Bool} {X Y : α} (fa : a = false → zi = true) (fb : b = false → zj = true) :
  (bif zi then (bif !a then (bif zj then (bif !b then (bif i then (bif j then X else Y) else Y) else X) else (bif i then (bif j then X else Y) else Y)) else X) else (bif zj then (bif !b then (bif i then (bif j then X else Y) else Y) else X) else (bif i then (bif j then X else Y) else Y))) =
   if zi = a ∨ zj = b ∨ (i = true ∧ j = true) then X else Y := by
 cases a <;> cases b <;> cases zi <;> cases zj <;> cases i <;> cases j <;> simp_all
theorem zs4 : ∀ {N k d : Nat} {L : List Bool}, d + k = 16 → k < N → L.length ≤ 1000000 → zsr (decI k L) (zba N (d : Int) L 0)
 | 0, k, d, L, hd, hN, hl => by omega
 | N + 1, k, d, L, hd, hN, hl => by
  show zsr (decI k L) (zbW (zba N) (d : Int) L 0)
  have n6 : ¬ (6 : Int) = 0 := by decide
  have short : L.length < 2 → decI k L = .inr 6 → zsr (decI k L) (zbW (zba N) (d : Int) L 0) := by
   intro hlt he
   rw [he]
   have g1 := zuu (k := 2) (l := L) (by decide) hl
   rw [if_pos hlt] at g1
   have g1' : zdo 2 L 0 = some (0, L, 6) := g1
   refine ⟨by decide, L, 6, ?_⟩
   unfold zbW
   simp only [g1', Option.bind_some, df n6, cond_false, zbN]
  match L, hl, short with
  | [], hl, short => exact short (by simp) (by cases k <;> rfl)
  | [a], hl, short => exact short (by simp) (by cases k <;> cases a <;> rfl)
  | a :: b :: l, hl, short =>
   simp only [List.length_cons] at hl
   have g1 : zdo 2 (a :: b :: l) 0 = some ((valB [a, b] : Int), l, 0) := by
    have := zuu (k := 2) (l := a :: b :: l) (by decide) (by simp only [List.length_cons]; omega)
    rw [if_neg (by simp)] at this
    exact this
   by_cases hab : a = true ∨ b = true
   ·have q0 : decide (((valB [a, b] : Nat) : Int) = 0) = false := by cases a <;> cases b <;> first | rfl | (rcases hab with h | h <;> cases h)
    have q1 : decide (((valB [a, b] : Nat) : Int) = 1) = !a := by cases a <;> cases b <;> first | rfl | (rcases hab with h | h <;> cases h)
    have q2 : decide (((valB [a, b] : Nat) : Int) = 2) = !b := by cases a <;> cases b <;> first | rfl | (rcases hab with h | h <;> cases h)
    unfold zbW zdC zbN
    simp only [Option.bind_some, g1, q0, cond_false, decide_true, cond_true, q1, q2, Bool.not_not]
    generalize ((valB [a, b] : Nat) : Int) = q
    cases k with
    | zero =>
     have he : decI 0 (a :: b :: l) = .inr 3 := by cases a <;> cases b <;> first | rfl | (rcases hab with h | h <;> cases h)
     rw [he, dt (show (d : Int) = 16 by omega)]
     exact ⟨by decide, l, 0, rfl⟩
    | succ k =>
     have hdec : decI (k + 1) (a :: b :: l) = zob (decI k) a b l := by cases a <;> cases b <;> first | rfl | (rcases hab with h | h <;> cases h)
     rw [hdec]
     have ed : iadd .i64 (d : Int) 1 = ((d + 1 : Nat) : Int) := by rw [zes (by omega) (by omega)]; omega
     rw [df (show ¬ (d : Int) = 16 by omega), cond_false]
     have left : ∃ x, zec (zba N) (d : Int) q zrC zrC a l 0 = x ∧
       (match (if a = false then .inl (false, .nil, l) else decI k l : RI) with
       | .inl (i, t, l1) => x = some (.inl (zjg i t, l1, 0)) ∧ l1.length ≤ l.length ∧ (a = false → zdE i t = true)
       | .inr e => e ≠ 0 ∧ ∃ (l' : List Bool) (er : Int), x = some (.inr (zrC, e, l', er))) := by
      refine ⟨_, rfl, ?_⟩
      unfold zec
      cases a with
      | false => exact ⟨rfl, Nat.le_refl _, fun _ => rfl⟩
      | true =>
       have ih := zs4 (N := N) (k := k) (d := d + 1) (L := l) (by omega) (by omega) (by omega)
       simp only [Bool.true_eq_false, if_false, cond_true, ed, zbN]
       cases hq : decI k l with
       | inl z =>
        obtain ⟨i, t, l1⟩ := z
        rw [hq] at ih
        have ih' : zba N ((d + 1 : Nat) : Int) l 0 = some (zjg i t, 0, l1, 0) := ih
        obtain ⟨o1, o2, o3⟩ := zpT hq
        exact ⟨by rw [ih']; rfl, by omega, fun h => by cases h⟩
       | inr e =>
        rw [hq] at ih
        obtain ⟨e0, l', er, e1⟩ := ih
        exact ⟨e0, l', er, by rw [e1]; simp only [Option.bind_some, df e0, cond_false]⟩
     obtain ⟨x, hx, left⟩ := left
     rw [hx]
     unfold zob
     cases hlq : (if a = false then .inl (false, .nil, l) else decI k l : RI) with
     | inr e =>
      rw [hlq] at left
      obtain ⟨e0, l', er, rfl⟩ := left
      exact ⟨e0, l', er, rfl⟩
     | inl z =>
      obtain ⟨i, t, l1⟩ := z
      rw [hlq] at left
      obtain ⟨rfl, hl1, fa⟩ := left
      simp only [Option.bind_some]
      have right : ∃ x, zee (zba N) (d : Int) q (zjg i t) zrC b l1 0 = x ∧
        (match (if b = false then .inl (false, .nil, l1) else decI k l1 : RI) with
        | .inl (j, u, l2) => x = some (.inl (zjg j u, l2, 0)) ∧ (b = false → zdE j u = true)
        | .inr e => e ≠ 0 ∧ ∃ (l' : List Bool) (er : Int), x = some (.inr (zrC, e, l', er))) := by
       refine ⟨_, rfl, ?_⟩
       unfold zee
       cases b with
       | false => exact ⟨rfl, fun _ => rfl⟩
       | true =>
        have ih := zs4 (N := N) (k := k) (d := d + 1) (L := l1) (by omega) (by omega) (by omega)
        simp only [Bool.true_eq_false, if_false, cond_true, ed, zbN]
        cases hq : decI k l1 with
        | inl z =>
         obtain ⟨j, u, l2⟩ := z
         rw [hq] at ih
         have ih' : zba N ((d + 1 : Nat) : Int) l1 0 = some (zjg j u, 0, l2, 0) := ih
         exact ⟨by rw [ih']; rfl, fun h => by cases h⟩
        | inr e =>
         rw [hq] at ih
         obtain ⟨e0, l', er, e1⟩ := ih
         exact ⟨e0, l', er, by rw [e1]; simp only [Option.bind_some, df e0, cond_false]⟩
      obtain ⟨x, hx, right⟩ := right
      rw [hx]
      cases hrq : (if b = false then .inl (false, .nil, l1) else decI k l1 : RI) with
      | inr e =>
       rw [hrq] at right
       obtain ⟨e0, l', er, rfl⟩ := right
       exact ⟨e0, l', er, rfl⟩
      | inl z =>
       obtain ⟨j, u, l2⟩ := z
       rw [hrq] at right
       obtain ⟨rfl, fb⟩ := right
       obtain ⟨x1, y1, f1⟩ := zpl i t
       obtain ⟨x2, y2, f2⟩ := zpl j u
       have hbody := ztr (zi := zdE i t) (zj := zdE j u) (a := a) (b := b) (i := i) (j := j) (X := (some (zrC, (6 : Int), l2, (0 : Int)) : Option (zai × Int × List Bool × Int))) (Y := some (zai.mk 2 (zjg i t) (zjg j u), 0, l2, 0)) fa fb
       have key : ∀ {X : Option (zai × Int × List Bool × Int)}, X = (if zdE i t = a ∨ zdE j u = b ∨ (i = true ∧ j = true) then some (zrC, (6 : Int), l2, (0 : Int)) else some (zai.mk 2 (zjg i t) (zjg j u), 0, l2, 0)) →
         zsr (if zdE i t = a ∨ zdE j u = b ∨ (i = true ∧ j = true) then .inr 6 else .inl (false, .mk i t j u, l2)) X := by
        intro X hX
        by_cases hc : zdE i t = a ∨ zdE j u = b ∨ (i = true ∧ j = true)
        ·rw [if_pos hc] at hX ⊢
         exact ⟨by decide, l2, 0, hX⟩
        ·rw [if_neg hc] at hX ⊢
         exact hX
       refine key ?_
       rw [← hbody, f1, f2]
       simp only [Option.bind_some, zxg, zvs]
   ·obtain ⟨rfl, rfl⟩ : a = false ∧ b = false := by cases a <;> cases b <;> simp_all
    have g1' : zdo 2 (false :: false :: l) 0 = some (0, l, 0) := g1
    cases l with
    | nil =>
     have he : decI k [false, false] = .inr 6 := by cases k <;> rfl
     rw [he]
     have g2 : zdo 1 [] 0 = some (0, [], 6) := zuu (k := 1) (l := []) (by decide) (by simp)
     refine ⟨by decide, [], 6, ?_⟩
     unfold zbW zdC zbN
     simp only [Option.bind_some, g1', decide_true, cond_true, g2, df n6, cond_false]
    | cons c l =>
     have he : decI k (false :: false :: c :: l) = .inl (c, .nil, l) := by cases k <;> rfl
     rw [he]
     have g2 : zdo 1 (c :: l) 0 = some ((valB [c] : Int), l, 0) := by
      have := zuu (k := 1) (l := c :: l) (by decide) (by simp only [List.length_cons] at hl ⊢; omega)
      rw [if_neg (by simp)] at this
      exact this
     show _ = _
     unfold zbW zdC
     simp only [Option.bind_some, g1', decide_true, cond_true, g2]
     cases c <;> rfl
theorem zxq {N : Nat} {L : List Bool} (hl : L.length ≤ 1000000) : zgA N 0 0 L = zba (N + 1) 0 L 0 := by
 show _ = zbW (zba N) 0 L 0
 have h1 := zxM (k := 2) (l := L) (by decide) hl
 have h2 := zuu (k := 2) (l := L) (by decide) hl
 have h1' : zjW 2 0 L = _ := h1
 have h2' : zdo 2 L 0 = _ := h2
 unfold zgA zbW
 rw [h1', h2']
 rfl
def zcZ : List Int → List Bool
 | [] => []
 | x :: p => zeu 8 x.toNat ++ zcZ p
theorem zgZ : ∀ (p : List Int), (zcZ p).length = 8 * p.length
 | [] => rfl
 | x :: p => by simp only [zcZ, List.length_append, za3, zgZ p, List.length_cons]; omega
theorem zph : ∀ (p q : List Int), zcZ (p ++ q) = zcZ p ++ zcZ q
 | [], q => rfl
 | x :: p, q => by simp only [List.cons_append, zcZ, zph p q, List.append_assoc]
theorem znl : ∀ {p : List Int} {i : Nat}, i < 8 * p.length → (p.getD (i / 8) 0).toNat.testBit (7 - i % 8) = (zcZ p).getD i false
 | [], i, h => by simp at h
 | x :: p, i, h => by
  simp only [zcZ]
  rw [List.getD_eq_getElem?_getD (l := zeu 8 x.toNat ++ zcZ p)]
  by_cases hi : i < 8
  ·rw [List.getElem?_append_left (by rw [za3]; exact hi), ← List.getD_eq_getElem?_getD, zpR hi, Nat.div_eq_of_lt hi, Nat.mod_eq_of_lt hi]
   rfl
  ·rw [List.getElem?_append_right (by rw [za3]; omega), za3, ← List.getD_eq_getElem?_getD, ← znl (p := p) (i := i - 8) (by simp only [List.length_cons] at h; omega)]
   rw [show i / 8 = (i - 8) / 8 + 1 by omega, show i % 8 = (i - 8) % 8 by omega, List.getD_cons_succ]
theorem zwN (p : List Int) : Rem p 0 (zcZ p) := by
 have hl := zgZ p
 refine ⟨⟨by omega, fun i hi => ?_⟩, by omega⟩
 rw [Nat.zero_add]
 exact znl (by omega)
theorem zu9 : ∀ x : Fin 256, ∀ k : Fin 8, decide (128 ≤ (x.val * 2 ^ k.val) % 256) = x.val.testBit (7 - k.val) := by decide +kernel
theorem ztf : ∀ {k j v : Nat}, j < k → (zeu k v).take (j + 1) = (zeu k v).take j ++ [v.testBit (k - 1 - j)] := by
 intro k j v h
 rw [List.take_succ_eq_append_getElem (by rw [za3]; exact h)]
 have := zpR (v := v) h
 rw [List.getD_eq_getElem?_getD, List.getElem?_eq_getElem (by rw [za3]; exact h)] at this
 simp only [Option.getD_some] at this
 rw [this]
theorem zsU {p : List Int} {n n2 : Int} {x : Nat} {l0 : List Bool} (hx : x < 256) (hl : l0.length ≤ 1000000) : ∀ (m k : Nat), k + m = 8 →
  runL (zbZ p n n2) (((x * 2 ^ k % 256 : Nat) : Int), (k : Int), l0 ++ (zeu 8 x).take k) = some (l0 ++ zeu 8 x)
 | 0, k, h => by
  obtain rfl : k = 8 := by omega
  refine zaA ?_
  unfold zbZ
  simp only [df (show ¬ ((8 : Nat) : Int) < 8 by decide), cond_false]
  rw [List.take_of_length_le (by rw [za3]; exact Nat.le_refl _)]
 | m + 1, k, h => by
  have hk : k < 8 := by omega
  rw [← zsU (p := p) (n := n) (n2 := n2) hx hl m (k + 1) (by omega)]
  refine za8 ?_
  have hb := zu9 ⟨x, hx⟩ ⟨k, hk⟩
  simp only at hb
  have e1 : imul .u8 ((x * 2 ^ k % 256 : Nat) : Int) 2 = ((x * 2 ^ (k + 1) % 256 : Nat) : Int) := by
   rw [Nat.pow_succ, ← Nat.mul_assoc]
   generalize x * 2 ^ k = w
   rw [imul, IntKind.wrap_u8]; omega
  have e2 : decide ((128 : Int) ≤ ((x * 2 ^ k % 256 : Nat) : Int)) = x.testBit (7 - k) := by
   rw [← hb]
   apply decide_eq_decide.2
   omega
  have e3 : iadd .i64 (k : Int) 1 = ((k + 1 : Nat) : Int) := by rw [zes (by omega) (by omega)]; omega
  have e4 : l0 ++ (zeu 8 x).take (k + 1) = (l0 ++ (zeu 8 x).take k) ++ [x.testBit (7 - k)] := by
   rw [ztf hk, List.append_assoc]
  unfold zbZ
  simp only [dt (show (k : Int) < 8 by omega), cond_true, e1, e2, e3]
  rw [zfX (by simp only [List.length_append, List.length_take, za3, List.length_singleton]; omega), cond_true, e4]
theorem zsT {p : List Int} (hb : Bytes p) (hp : p.length ≤ 10000) : ∀ (m j : Nat), j + m = p.length → runL (zcp p (p.length : Int)) ((j : Int), zcZ (p.take j)) = some (zcZ p)
 | 0, j, h => by
  refine zaA ?_
  unfold zcp
  dsimp only
  rw [df (show ¬ (j : Int) < (p.length : Int) by omega), cond_false, List.take_of_length_le (by omega)]
 | m + 1, j, h => by
  have hj : j < p.length := by omega
  rw [← zsT hb hp m (j + 1) (by omega)]
  refine za8 ?_
  have hx := hb.at hj
  have ex : p.getD j 0 = p[j] := by rw [List.getD_eq_getElem?_getD, List.getElem?_eq_getElem hj]; rfl
  rw [ex] at hx
  obtain ⟨v, hv⟩ : ∃ v : Nat, p[j] = (v : Int) := ⟨_, (Int.toNat_of_nonneg hx.1).symm⟩
  have hv256 : v < 256 := by omega
  have hr := zsU (p := p) (n := (p.length : Int)) (n2 := (j : Int)) (l0 := zcZ (p.take j)) hv256 (by rw [zgZ, List.length_take]; omega) 8 0 (by omega)
  rw [Nat.pow_zero, Nat.mul_one, Nat.mod_eq_of_lt hv256, List.take_zero, List.append_nil] at hr
  have hr' : runL (zbZ p (p.length : Int) (j : Int)) ((v : Int), 0, zcZ (p.take j)) = some (zcZ (p.take j) ++ zeu 8 v) := hr
  have e3 : iadd .i64 (j : Int) 1 = ((j + 1 : Nat) : Int) := by rw [zes (by omega) (by omega)]; omega
  have e4 : zcZ (p.take (j + 1)) = zcZ (p.take j) ++ zeu 8 v := by
   rw [List.take_succ_eq_append_getElem hj, zph]
   simp only [zcZ, List.append_nil, hv, Int.toNat_natCast]
  unfold zcp
  simp only [dt (show (j : Int) < (p.length : Int) by omega), dt (show (0 : Int) ≤ (j : Int) by omega), Bool.and_self, cond_true, Int.toNat_natCast, ex, hv, hr', Option.bind_some, e3, e4]
theorem zxL {p : List Int} (hb : Bytes p) (hp : p.length ≤ 10000) : zjD p = some (zcZ p) := by
 have h := zsT hb hp p.length 0 (by omega)
 have h' : runL (zcp p (p.length : Int)) (0, []) = _ := h
 unfold zjD
 rw [h']
 rfl
def endR (r : List Bool) : Int := if 8 ≤ r.length ∨ true ∈ r then 6 else 0
theorem zoM : ∀ {r : List Bool}, valB r = 0 ↔ ¬ true ∈ r
 | [] => by simp [valB]
 | b :: l => by
  have ih := zoM (r := l)
  have := Nat.two_pow_pos l.length
  cases b with
  | true => simp only [valB, if_true, List.mem_cons, true_or, not_true, iff_false]; omega
  | false => simp [valB, ih]
theorem zwl {p : List Int} {n : Nat} {r : List Bool} (hb : Bytes p) (hp : p.length ≤ 100000) (h : Rem p n r) : ∃ x, zev p (n : Int) 0 = some (endR r, x) := by
 have ha := h.all
 have e1 : isub .i64 (imul .i64 8 (p.length : Int)) (n : Int) = (r.length : Int) := by
  rw [zt4 (by omega) (by omega), zia (by omega) (by omega)]; omega
 unfold zev zb6 zcH
 simp only [Option.bind_some, decide_true, cond_true, e1]
 by_cases h8 : 8 ≤ r.length
 ·rw [dt (show (8 : Int) ≤ (r.length : Int) by omega)]
  exact ⟨6, by simp [endR, h8, zci]⟩
 ·rw [df (show ¬ (8 : Int) ≤ (r.length : Int) by omega)]
  have hg := zuv (k := r.length) hb hp (by omega) h (Nat.le_refl _)
  simp only [cond_false, hg, Option.bind_some, List.take_length]
  by_cases hz : valB r = 0
  ·have := zoM.1 hz
   exact ⟨0, by simp [endR, h8, this, hz]⟩
  ·have ht : true ∈ r := by
    rcases Classical.em (true ∈ r) with q | q
    ·exact q
    ·exact absurd (zoM.2 q) hz
   rw [df (show ¬ ((valB r : Nat) : Int) = 0 by omega)]
   exact ⟨6, by simp [endR, ht, zci]⟩
theorem zvT {l : List Bool} {n : Int} {l2 : List Bool} (hl : l.length ≤ 1000000) (hn : n = (l.length : Int)) : ∀ (m j : Nat) (e : Int), j + m = l.length → (e = 0 ∨ e = 6) →
  runL (zca l n l2) ((j : Int), e) = some (if e = 6 ∨ true ∈ l.drop j then 6 else 0)
 | 0, j, e, hj, he => by
  subst hn
  have hd : l.drop j = [] := List.drop_of_length_le (by omega)
  rw [hd]
  refine zaA ?_
  simp only [zca, df (show ¬ (j : Int) < (l.length : Int) by omega), cond_false]
  rcases he with rfl | rfl <;> simp
 | m + 1, j, e, hj, he => by
  subst hn
  have hlt : j < l.length := by omega
  have hd : l.drop j = l[j] :: l.drop (j + 1) := List.drop_eq_getElem_cons hlt
  have hg : l.getD j false = l[j] := by simp [List.getD, hlt]
  have hadd : iadd .i64 (j : Int) 1 = ((j + 1 : Nat) : Int) := by rw [zes (by omega) (by omega)]; omega
  rw [za8 (s' := (((j + 1 : Nat) : Int), if l[j] = true then 6 else e))]
  ·rw [zvT hl rfl m (j + 1) _ (by omega) (by split <;> simp [he]), hd]
   cases l[j] <;> simp
  ·simp only [zca, dt (show (j : Int) < (l.length : Int) by omega), dt (show (0 : Int) ≤ (j : Int) by omega), Bool.and_self, cond_true, Int.toNat_natCast, hg, hadd]
   cases l[j] <;> rfl
theorem ztQ {l : List Bool} {n : Int} {l2 : List Bool} (hl : l.length ≤ 1000000) (hn : n = (l.length : Int)) : ∀ (m j : Nat), j + m = l.length → runL (zcJ l n l2) (j : Int) = some ()
 | 0, j, hj => by
  subst hn
  refine zaA ?_
  simp only [zcJ, df (show ¬ (j : Int) < (l.length : Int) by omega), cond_false]
 | m + 1, j, hj => by
  subst hn
  have hadd : iadd .i64 (j : Int) 1 = ((j + 1 : Nat) : Int) := by rw [zes (by omega) (by omega)]; omega
  rw [za8 (s' := ((j + 1 : Nat) : Int))]
  ·exact ztQ hl rfl m (j + 1) (by omega)
  ·simp only [zcJ, dt (show (j : Int) < (l.length : Int) by omega), dt (show (0 : Int) ≤ (j : Int) by omega), Bool.and_self, cond_true, Int.toNat_natCast, hadd]
   cases l.getD j false <;> rfl
theorem rEnd {r : List Bool} (hl : r.length ≤ 1000000) : ∃ x, zlo r 0 = some (endR r, x) := by
 unfold zlo
 by_cases h8 : 8 ≤ r.length
 ·have h := ztQ (l2 := r) hl rfl r.length 0 (by omega)
  have h' : runL (zcJ r (r.length : Int) r) 0 = some () := h
  exact ⟨6, by simp only [decide_true, cond_true, dt (show (8 : Int) ≤ (r.length : Int) by omega), h', Option.bind_some]; simp [endR, h8]⟩
 ·have h := zvT (l2 := r) hl rfl r.length 0 0 (by omega) (.inl rfl)
  have h' : runL (zca r (r.length : Int) r) (0, 0) = _ := h
  refine ⟨endR r, ?_⟩
  simp only [decide_true, cond_true, df (show ¬ (8 : Int) ≤ (r.length : Int) by omega), cond_false, h', Option.bind_some]
  simp [endR, h8]
theorem zuZ (i : Bool) (t : Idt) : zky i t = zdE i t := by cases i <;> cases t <;> rfl
theorem zsx : ∀ {k : Nat} {L : List Bool} {i : Bool} {t : Idt} {r : List Bool}, decI k L = .inl (i, t, r) → L = zgI i t ++ r := by
 have leaf : ∀ {L : List Bool} {i : Bool} {t : Idt} {r : List Bool} {c : Bool} {l : List Bool}, L = false :: false :: c :: l → (Sum.inl (c, zab.nil, l) : RI) = .inl (i, t, r) → L = zgI i t ++ r := by
  rintro L i t r c l rfl h
  cases h
  cases i <;> rfl
 intro k
 induction k with
 | zero =>
  intro L i t r h
  match L, h with
  | false :: false :: c :: l, h => exact leaf rfl h
  | [false, false], h => cases h
  | true :: b :: l, h => cases h
  | false :: true :: l, h => cases h
  | [a], h => cases a <;> cases h
  | [], h => cases h
 | succ k ih =>
  have node : ∀ {a b : Bool} {l : List Bool} {i : Bool} {t : Idt} {r : List Bool}, (a = true ∨ b = true) → zob (decI k) a b l = .inl (i, t, r) → a :: b :: l = zgI i t ++ r := by
   intro a b l i t r hab h
   unfold zob at h
   split at h
   ·cases h
   ·rename_i i1 t1 l1 h1
    split at h
    ·cases h
    ·rename_i j1 u1 l2 h2
     split at h
     ·cases h
     ·rename_i hc
      cases h
      have c1 : ¬ zdE i1 t1 = a := fun q => hc (.inl q)
      have c2 : ¬ zdE j1 u1 = b := fun q => hc (.inr (.inl q))
      simp only [zgI, zuZ]
      cases a with
      | false =>
       cases b with
       | false => rcases hab with h | h <;> cases h
       | true =>
        simp only [if_true] at h1
        cases h1
        simp only [Bool.true_eq_false, if_false] at h2
        rw [show zdE false .nil = true from rfl, if_pos rfl, ih h2, List.append_assoc]
        rfl
      | true =>
       simp only [Bool.true_eq_false, if_false] at h1
       have z1 : zdE i1 t1 = false := by cases hz : zdE i1 t1 <;> simp_all
       cases b with
       | false =>
        simp only [if_true] at h2
        cases h2
        rw [z1, show zdE false .nil = true from rfl, if_neg (by decide), if_pos rfl, ih h1, List.append_assoc]
        rfl
       | true =>
        simp only [Bool.true_eq_false, if_false] at h2
        have z2 : zdE j1 u1 = false := by cases hz : zdE j1 u1 <;> simp_all
        rw [z1, z2, if_neg (by decide), if_neg (by decide), ih h1, ih h2, List.append_assoc, List.append_assoc]
        rfl
  intro L i t r h
  match L, h with
  | false :: false :: c :: l, h => exact leaf rfl h
  | [false, false], h => cases h
  | true :: b :: l, h => exact node (.inl rfl) h
  | false :: true :: l, h => exact node (.inr rfl) h
  | [a], h => cases a <;> cases h
  | [], h => cases h
theorem zpW : ∀ (t : Idt), zdO t = zby t
 | .nil => rfl
 | .mk b t c u => by simp only [zdO, zby, zpW t, zpW u]
theorem znB : ∀ {t : zab} {i : Bool}, (zgI i t).length + 2 ≤ 5 * 2 ^ zdO t
 | .nil, i => by cases i <;> simp [zgI, za3, zdO]
 | .mk b l b2 r, true => by
  have : 0 < 2 ^ zdO (.mk b l b2 r) := Nat.two_pow_pos _
  simp only [zgI, List.length_append, za3]
  omega
 | .mk b l b2 r, false => by
  have h1 := znB (t := l) (i := b)
  have h2 := znB (t := r) (i := b2)
  have p1 : 2 ^ zdO l ≤ 2 ^ (max (zdO l) (zdO r)) := Nat.pow_le_pow_right (by decide) (by omega)
  have p2 : 2 ^ zdO r ≤ 2 ^ (max (zdO l) (zdO r)) := Nat.pow_le_pow_right (by decide) (by omega)
  have p3 : 0 < 2 ^ (max (zdO l) (zdO r)) := Nat.two_pow_pos _
  simp only [zgI, zdO, Nat.pow_succ]
  split
  ·simp only [List.length_append, za3]; omega
  ·split <;> simp only [List.length_append, za3] <;> omega
end Go.Proofs.YtjjcmgdgifcmgaaGreat
