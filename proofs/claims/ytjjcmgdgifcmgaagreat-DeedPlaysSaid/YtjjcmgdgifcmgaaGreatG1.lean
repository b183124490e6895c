/- Chapter 07, ids: written and read, for the Deed seat (turned from wip/ev2 by mkDeed.py). Plain. -/
import Derived.Test.YtjjcmgdgifcmgaaGreatA6
import Derived.Test.YtjjcmgdgifcmgaaGreatQ3
set_option linter.unusedVariables false
set_option linter.unusedSimpArgs false
namespace Go.Proofs.YtjjcmgdgifcmgaaGreat
open Go.Ev Go.Lib
def mkS (l : List UInt8) : ByteArray := ⟨l.toArray⟩
theorem mkS_size (l : List UInt8) : (mkS l).size = l.length := by simp [mkS, ByteArray.size]
theorem mkS_app (l m : List UInt8) : mkS l ++ mkS m = mkS (l ++ m) := by
 apply ByteArray.ext
 simp [mkS, ByteArray.data_append]
theorem s40 : (⟨#[40]⟩ : ByteArray) = mkS [40] := rfl
theorem s41 : (⟨#[41]⟩ : ByteArray) = mkS [41] := rfl
theorem s44 : (⟨#[44]⟩ : ByteArray) = mkS [44] := rfl
theorem _root_.Go.Ev.Bytes.drop {l : List Int} (h : Bytes l) (n : Nat) : Bytes (l.drop n) := fun x hx => h x (List.mem_of_mem_drop hx)
theorem _root_.Go.Ev.Bytes.take {l : List Int} (h : Bytes l) (n : Nat) : Bytes (l.take n) := fun x hx => h x (List.mem_of_mem_take hx)
theorem take_drop1 (l : List Int) (k : Nat) : List.take ((l.length : Int) - k).toNat (List.drop k l) = List.drop k l := List.take_of_length_le (by simp)
theorem irem8 {b : Int} {c : Nat} (h : 0 ≤ b) : irem .u8 b (c : Int) = b % c := by rw [irem, Int.tmod_eq_emod_of_nonneg h]
abbrev Idt := T_id_halves
instance decNilI (t : Idt) : Decidable (t = T_id_halves.nil) := match t with
 | .nil => isTrue rfl
 | .mk .. => isFalse (fun h => by cases h)
def zeroI (i : Bool) : Idt → Bool
 | .nil => !i
 | .mk .. => false
def depthI : Idt → Nat
 | .nil => 0
 | .mk _ t _ u => max (depthI t) (depthI u) + 1
def nfI : Bool → Idt → Prop
 | true, .nil => True
 | true, .mk .. => False
 | false, .nil => True
 | false, .mk b l b2 r => nfI b l ∧ nfI b2 r ∧ ¬ (l = .nil ∧ r = .nil ∧ b = b2)
theorem nfI_nil (i : Bool) : nfI i .nil := by cases i <;> trivial
theorem nfI_mk {i b c : Bool} {l r : Idt} (h : nfI i (.mk b l c r)) : i = false ∧ nfI b l ∧ nfI c r ∧ ¬ (l = .nil ∧ r = .nil ∧ b = c) := by
 cases i with
 | true => exact h.elim
 | false => exact ⟨rfl, h⟩
def bits : Nat → Bool → Idt → List Bool
 | 0, i, _ => [i]
 | d + 1, i, .nil => bits d i .nil ++ bits d i .nil
 | d + 1, i, .mk a t b u => bits d a t ++ bits d b u
def pairF (i : Bool) (t : Idt) (j : Bool) (u : Idt) : Bool × Idt := if t = .nil ∧ u = .nil ∧ i = j then (i, .nil) else (false, .mk i t j u)
theorem pair_nf {i j : Bool} {t u : Idt} (h1 : nfI i t) (h2 : nfI j u) : nfI (pairF i t j u).1 (pairF i t j u).2 := by
 unfold pairF
 split
 ·exact nfI_nil i
 ·rename_i h; exact ⟨h1, h2, h⟩
theorem pair_depth (i j : Bool) (t u : Idt) : depthI (pairF i t j u).2 ≤ max (depthI t) (depthI u) + 1 := by
 unfold pairF
 split
 ·simp [depthI]
 ·exact Nat.le_refl _
theorem idZero {i : Bool} {t : Idt} : id_ID_IsZero i t = some (zeroI i t) := by cases i <;> cases t <;> rfl
theorem idpair {i j : Bool} {t u : Idt} (h1 : nfI i t) (h2 : nfI j u) : id_pair i t j u = some (pairF i t j u) := by
 unfold id_pair pairF
 simp only [idZero, id_ID_IsOne, id_Zero, id_One, Option.bind_some]
 cases t with
 | nil =>
  cases u with
  | nil => cases i <;> cases j <;> rfl
  | mk => obtain ⟨rfl, -⟩ := nfI_mk h2; cases i <;> simp [zeroI]
 | mk => obtain ⟨rfl, -⟩ := nfI_mk h1; simp [zeroI]
theorem idDepth : ∀ {N : Nat} {i : Bool} {t : Idt}, depthI t < N → depthI t ≤ 100000 → id_ID_Depth N i t = some (depthI t : Int)
 | 0, i, t, hN, h => by omega
 | N + 1, i, t, hN, h => by
  unfold id_ID_Depth id_ID_Depth_b
  cases t with
  | nil => rfl
  | mk b l b2 r =>
   simp only [depthI] at hN h
   simp only [idDepth (N := N) (i := b) (t := l) (by omega) (by omega), idDepth (N := N) (i := b2) (t := r) (by omega) (by omega), Option.bind_some]
   have e : (if (depthI l : Int) < (depthI r : Int) then (depthI r : Int) else (depthI l : Int)) = ((max (depthI l) (depthI r) : Nat) : Int) := by split <;> omega
   rw [e, iadd64 (by omega) (by omega)]
   simp only [depthI]
   congr 1
   omega
def fromI : Bool → Idt → T_kr01_ID
 | true, _ => .mk 1 .nil .nil
 | false, .nil => .mk 0 .nil .nil
 | false, .mk b l b2 r => .mk 2 (fromI b l) (fromI b2 r)
theorem pair_keep {i a b : Bool} {t u : Idt} (h : nfI i (.mk a t b u)) : pairF a t b u = (i, .mk a t b u) := by
 obtain ⟨rfl, -, -, h3⟩ := nfI_mk h
 rw [pairF, if_neg h3]
def textI : Bool → Idt → List UInt8
 | true, _ => [49]
 | false, .nil => [48]
 | false, .mk a t b u => [40] ++ textI a t ++ [44] ++ textI b u ++ [41]
theorem textI_len : ∀ {t : Idt} {i : Bool}, (textI i t).length + 3 ≤ 4 * 2 ^ depthI t
 | .nil, i => by cases i <;> simp [textI, depthI]
 | .mk a t b u, i => by
  have r1 := textI_len (t := t) (i := a)
  have r2 := textI_len (t := u) (i := b)
  have p1 : 2 ^ depthI t ≤ 2 ^ max (depthI t) (depthI u) := Nat.pow_le_pow_right (by decide) (by omega)
  have p2 : 2 ^ depthI u ≤ 2 ^ max (depthI t) (depthI u) := Nat.pow_le_pow_right (by decide) (by omega)
  have p3 := Nat.two_pow_pos (max (depthI t) (depthI u))
  cases i with
  | true => simp only [textI, depthI, Nat.pow_succ, List.length_singleton]; omega
  | false => simp only [textI, depthI, Nat.pow_succ, List.length_append, List.length_singleton]; omega
theorem idText : ∀ {N : Nat} {i : Bool} {t : Idt}, depthI t < N → nfI i t → depthI t ≤ 30 → id_ID_Text N i t = some (mkS (textI i t))
 | 0, i, t, hN, h, hd => by omega
 | N + 1, i, t, hN, h, hd => by
  unfold id_ID_Text id_ID_Text_b
  simp only [idZero, id_ID_IsOne, Option.bind_some]
  cases t with
  | nil => cases i <;> rfl
  | mk a t b u =>
   obtain ⟨rfl, n1, n2, n3⟩ := nfI_mk h
   simp only [depthI] at hN hd
   have l1 := textI_len (t := t) (i := a)
   have l2 := textI_len (t := u) (i := b)
   have p1 : 2 ^ depthI t ≤ 2 ^ 30 := Nat.pow_le_pow_right (by decide) (by omega)
   have p2 : 2 ^ depthI u ≤ 2 ^ 30 := Nat.pow_le_pow_right (by decide) (by omega)
   have r1 := idText (N := N) (by omega) n1 (by omega)
   have r2 := idText (N := N) (by omega) n2 (by omega)
   simp only [zeroI, cond_false, Option.bind_some, s40, s41, s44, mkS_app, mkS_size, List.length_append, List.length_singleton, r1, r2]
   rw [dt (by omega), cond_true, dt (by omega), cond_true, dt (by omega), cond_true, dt (by omega), cond_true]
   simp only [textI]
theorem rIText : ∀ {N : Nat} {i : Bool} {t : Idt}, depthI t < N → nfI i t → depthI t ≤ 30 → kr01_Text N (fromI i t) = some (mkS (textI i t))
 | 0, i, t, hN, h, hd => by omega
 | N + 1, i, t, hN, h, hd => by
  unfold kr01_Text kr01_Text_b
  cases t with
  | nil => cases i <;> rfl
  | mk a t b u =>
   obtain ⟨rfl, n1, n2, n3⟩ := nfI_mk h
   simp only [depthI] at hN hd
   have l1 := textI_len (t := t) (i := a)
   have l2 := textI_len (t := u) (i := b)
   have p1 : 2 ^ depthI t ≤ 2 ^ 30 := Nat.pow_le_pow_right (by decide) (by omega)
   have p2 : 2 ^ depthI u ≤ 2 ^ 30 := Nat.pow_le_pow_right (by decide) (by omega)
   have r1 := rIText (N := N) (by omega) n1 (by omega)
   have r2 := rIText (N := N) (by omega) n2 (by omega)
   have e2 : decide ((2 : Int) = 0) = false := rfl
   have e3 : decide ((2 : Int) = 1) = false := rfl
   simp only [fromI, e2, e3, cond_false, Option.bind_some, s40, s41, s44, mkS_app, mkS_size, List.length_append, List.length_singleton, r1, r2]
   rw [dt (by omega), cond_true, dt (by omega), cond_true, dt (by omega), cond_true, dt (by omega), cond_true]
   simp only [textI]
theorem rpair {i j : Bool} {t u : Idt} (h1 : nfI i t) (h2 : nfI j u) : kr01_Pair (fromI i t) (fromI j u) = some (fromI (pairF i t j u).1 (pairF i t j u).2) := by
 unfold kr01_Pair pairF
 cases t with
 | nil =>
  cases u with
  | nil => cases i <;> cases j <;> rfl
  | mk => obtain ⟨rfl, -⟩ := nfI_mk h2; cases i <;> rfl
 | mk =>
  obtain ⟨rfl, -⟩ := nfI_mk h1
  cases u with
  | nil => cases j <;> rfl
  | mk => obtain ⟨rfl, -⟩ := nfI_mk h2; rfl
theorem rmakeID : ∀ {N most : Nat} {p : List Int}, most < N → most ≤ 1000 → Bytes p → ∃ i t rest, kr01_Make N p (most : Int) = some (fromI i t, rest) ∧ nfI i t ∧ depthI t ≤ most ∧ Bytes rest
 | 0, most, p, hN, hm, h => by omega
 | N + 1, most, p, hN, hm, h => by
  unfold kr01_Make kr01_Make_b
  by_cases h0 : (p.length : Int) = 0
  ·rw [dt h0]
   exact ⟨false, .nil, [], rfl, trivial, Nat.zero_le _, fun x hx => by simp at hx⟩
  ·have hl : 0 < p.length := by omega
   have hb := h.at hl
   have leaf : ∀ q : List Int, Bytes q → ∃ i t rest, some (T_kr01_ID.mk (IntKind.i64.wrap (irem .u8 (p.getD 0 0) 2)) T_kr01_ID.nil T_kr01_ID.nil, q) = some (fromI i t, rest) ∧ nfI i t ∧ depthI t ≤ most ∧ Bytes rest := by
    intro q hq
    have e : IntKind.i64.wrap (irem .u8 (p.getD 0 0) 2) = p.getD 0 0 % 2 := by
     rw [show (2 : Int) = ((2 : Nat) : Int) from rfl, irem8 hb.1, i64_in (by omega) (by omega)]
    rw [e]
    rcases Int.emod_two_eq (p.getD 0 0) with h2 | h2
    ·exact ⟨false, .nil, q, by rw [h2]; rfl, trivial, Nat.zero_le _, hq⟩
    ·exact ⟨true, .nil, q, by rw [h2]; rfl, trivial, Nat.zero_le _, hq⟩
   have ht := take_drop1 p 1
   have ht' : List.take ((p.length : Int) - 1).toNat (List.drop 1 p) = List.drop 1 p := ht
   have hd := h.drop 1
   simp only [df h0, cond_false, ht', dt (show (0 : Int) < p.length by omega), dt (show (1 : Int) ≤ p.length by omega), dt (Int.le_refl (0 : Int)), dt (show (0 : Int) ≤ 1 by omega), dt (Int.le_refl (p.length : Int)), dt (show (p.length : Int) = p.length from rfl), Bool.and_self, cond_true]
   by_cases hm0 : (most : Int) = 0
   ·rw [dt hm0, cond_true]; exact leaf _ hd
   ·rw [df hm0, cond_false]
    by_cases h4 : irem .u8 (p.getD 0 0) 4 < 2
    ·rw [dt h4, cond_true]; exact leaf _ hd
    ·rw [df h4, cond_false]
     obtain ⟨m, rfl⟩ : ∃ m, most = m + 1 := ⟨most - 1, by omega⟩
     have em : isub .i64 ((m + 1 : Nat) : Int) 1 = (m : Int) := by rw [isub64 (by omega) (by omega)]; omega
     rw [em]
     obtain ⟨i, t, r1, q1, q2, q3, q4⟩ := rmakeID (N := N) (most := m) (by omega) (by omega) hd
     obtain ⟨j, u, r2, q5, q6, q7, q8⟩ := rmakeID (N := N) (most := m) (by omega) (by omega) q4
     rw [q1]
     simp only [Option.bind_some]
     rw [q5]
     simp only [Option.bind_some]
     rw [rpair q2 q6]
     refine ⟨_, _, r2, rfl, pair_nf q2 q6, ?_, q8⟩
     have := pair_depth i j t u
     omega
theorem ownI_eq : ∀ {N : Nat} {i : Bool} {t : Idt}, nfI i t → depthI t ≤ 16 → depthI t + 1 < N → kl15_own N (fromI i t) = some (i, t)
 | 0, i, t, hn, hd, hN => by omega
 | N + 1, i, t, hn, hd, hN => by
  unfold kl15_own kl15_own_b
  cases t with
  | nil => cases i <;> rfl
  | mk b l b2 r =>
   have hk := pair_keep hn
   have hdp := idDepth (N := N) (i := i) (t := .mk b l b2 r) (by omega) (by omega)
   obtain ⟨rfl, n1, n2, n3⟩ := nfI_mk hn
   simp only [depthI] at hN hd
   have r1 := ownI_eq (N := N) n1 (by omega) (by omega)
   have r2 := ownI_eq (N := N) n2 (by omega) (by omega)
   have e2 : decide ((2 : Int) = 0) = false := rfl
   have e3 : decide ((2 : Int) = 1) = false := rfl
   simp only [fromI, r1, r2, Option.bind_some, id_Pair, idpair n1 n2, hk, hdp, df (show ¬ (16 : Int) < ((depthI (.mk b l b2 r) : Nat) : Int) by simp only [depthI]; omega), cond_false, e2, e3]
theorem bit_test {v i : Nat} (hv : v < 2 ^ 64) (hi : i ≤ 64) : decide (iand .u64 (ishr .u64 (v : Int) (i : Int)) 1 = 1) = v.testBit i := by
 rw [ishr_nat (k := .u64) (show i ≤ 64 from hi)]
 have h1 : v / 2 ^ i < 2 ^ 64 := Nat.lt_of_le_of_lt (Nat.div_le_self _ _) hv
 have h2 := iand_nat (k := .u64) rfl (a := v / 2 ^ i) (b := 1) h1 (by decide)
 rw [show ((1 : Nat) : Int) = 1 from rfl] at h2
 rw [h2, Nat.and_one_is_mod, Nat.testBit_eq_decide_div_mod_eq]
 apply decide_eq_decide.2
 omega
theorem put_step {v m : Nat} {l : List Int} {B : List Bool} (hv : v < 2 ^ 64) (hm : m < 64) (hB : B.length ≤ 1000000) (h : Pk l B) :
  ∃ l', bits_Writer_Put_L0_3_step (v : Int) ((m : Int), (B.length : Int), l) = some (.inl ((m : Int) - 1, ((B.length + 1 : Nat) : Int), l')) ∧ Pk l' (B ++ [v.testBit m]) := by
 have hbt := bit_test hv (show m ≤ 64 by omega)
 have e1 : irem .i64 (B.length : Int) 8 = ((B.length % 8 : Nat) : Int) := irem64 (b := 8) (by omega)
 have e2 : iquo .i64 (B.length : Int) 8 = ((B.length / 8 : Nat) : Int) := iquo64 (b := 8) (by omega)
 have e3 : isub .i64 (m : Int) 1 = (m : Int) - 1 := isub64 (by omega) (by omega)
 have e4 : iadd .i64 (B.length : Int) 1 = ((B.length + 1 : Nat) : Int) := by rw [iadd64 (by omega) (by omega)]; omega
 have hl := h.len
 have c0 : (0 : Int) ≤ (m : Int) := by omega
 have c1 : (0 : Int) ≤ ((B.length % 8 : Nat) : Int) := by omega
 have c2 : (0 : Int) ≤ ((B.length / 8 : Nat) : Int) := by omega
 unfold bits_Writer_Put_L0_3_step
 simp only [e1, e2, e3, e4, dt c0, dt c1, dt c2, cond_true, Int.toNat_natCast, Nat.zero_add, hbt]
 by_cases h8 : B.length % 8 = 0
 ·have hr := h.room h8
  have hf : fits (l ++ [0]).length = true := fits_ok (by have := hr.len; omega)
  have c3 : ((B.length / 8 : Nat) : Int) < ((l ++ [0]).length : Int) := by have := hr.len; omega
  rw [dt (show ((B.length % 8 : Nat) : Int) = 0 by omega)]
  simp only [cond_true, hf, dt c3, Bool.and_self]
  cases hb : v.testBit m with
  | true => exact ⟨_, rfl, hr.yes⟩
  | false => exact ⟨_, rfl, hr.no⟩
 ·have hr := h.room' h8
  have c3 : ((B.length / 8 : Nat) : Int) < (l.length : Int) := by have := hr.len; omega
  rw [df (show ¬ ((B.length % 8 : Nat) : Int) = 0 by omega)]
  simp only [cond_false, cond_true, dt c3, Bool.and_self]
  cases hb : v.testBit m with
  | true => exact ⟨_, rfl, hr.yes⟩
  | false => exact ⟨_, rfl, hr.no⟩
theorem put_go {v : Nat} (hv : v < 2 ^ 64) : ∀ (m : Nat) {l : List Int} {B : List Bool}, m ≤ 64 → B.length + m ≤ 1000000 → Pk l B →
  ∃ l', runL (bits_Writer_Put_L0_3_step (v : Int)) ((m : Int) - 1, (B.length : Int), l) = some (((B.length + m : Nat) : Int), l') ∧ Pk l' (B ++ bitsN m v)
 | 0, l, B, hm, hB, h => by
  refine ⟨l, runL_done ?_, by simpa [bitsN] using h⟩
  simp [bits_Writer_Put_L0_3_step]
 | m + 1, l, B, hm, hB, h => by
  obtain ⟨l1, h1, p1⟩ := put_step hv (show m < 64 by omega) (by omega) h
  obtain ⟨l2, h2, p2⟩ := put_go hv m (l := l1) (B := B ++ [v.testBit m]) (by omega) (by simp; omega) p1
  refine ⟨l2, ?_, by simpa [bitsN] using p2⟩
  rw [show ((m + 1 : Nat) : Int) - 1 = (m : Int) by omega, runL_next h1]
  rw [List.length_append, List.length_singleton] at h2
  rw [h2]
  congr 3
  omega
theorem put_eq {v k : Nat} (hv : v < 2 ^ 64) (hk : k ≤ 64) {l : List Int} {B : List Bool} (hB : B.length + k ≤ 1000000) (h : Pk l B) :
  ∃ l', bits_Writer_Put_2 (v : Int) (k : Int) (B.length : Int) l = some (((B.length + k : Nat) : Int), l') ∧ Pk l' (B ++ bitsN k v) := by
 obtain ⟨l', h1, h2⟩ := put_go hv k hk hB h
 refine ⟨l', ?_, h2⟩
 unfold bits_Writer_Put_2 bits_within
 rw [if_neg (show ¬ (k : Int) < 0 by omega), if_neg (show ¬ (64 : Int) < k by omega)]
 simp only [Option.bind_some]
 rw [isub64 (by omega) (by omega), h1]
 rfl
theorem put_first : ∀ (v k n : Int), bits_Writer_Put v k n = bits_Writer_Put_2 v k n [] := by
 intro v k n
 have : bits_Writer_Put_L0_2_step v = bits_Writer_Put_L0_3_step v := by
  funext s
  rcases s with ⟨i, n2, l⟩
  rfl
 unfold bits_Writer_Put bits_Writer_Put_2
 rw [this]
def zeroID (i : Bool) (t : T_id_halves) : Bool := match i, t with
 | false, .nil => true
 | _, _ => false
theorem isZero_eq (i : Bool) (t : T_id_halves) : id_ID_IsZero i t = some (zeroID i t) := by
 cases i <;> cases t <;> rfl
def encID : Bool → T_id_halves → List Bool
 | true, _ => bitsN 2 0 ++ bitsN 1 1
 | false, .nil => bitsN 2 0 ++ bitsN 1 0
 | false, .mk b l b2 r => if zeroID b l then bitsN 2 1 ++ encID b2 r else if zeroID b2 r then bitsN 2 2 ++ encID b l else bitsN 2 3 ++ (encID b l ++ encID b2 r)
def depthID : T_id_halves → Nat
 | .nil => 0
 | .mk _ l _ r => max (depthID l) (depthID r) + 1
theorem putID_go : ∀ {N : Nat} {i : Bool} {t : T_id_halves} {l : List Int} {B : List Bool}, depthID t < N → B.length + (encID i t).length ≤ 900000 → Pk l B →
  ∃ l', code_PutID_2 N i t (B.length : Int) l = some (((B ++ encID i t).length : Int), l') ∧ Pk l' (B ++ encID i t)
 | 0, i, t, l, B, hN, hB, h => by omega
 | N + 1, i, t, l, B, hN, hB, h => by
  have two : ∀ (v k : Nat) {l : List Int} {B : List Bool}, v < 4 → k ≤ 2 → B.length ≤ 900000 → Pk l B → ∃ l', bits_Writer_Put_2 (v : Int) (k : Int) (B.length : Int) l = some (((B ++ bitsN k v).length : Int), l') ∧ Pk l' (B ++ bitsN k v) := by
   intro v k l B hv hk hB h
   obtain ⟨l', h1, h2⟩ := put_eq (v := v) (k := k) (Nat.lt_trans hv (by decide)) (by omega) (B := B) (by omega) h
   exact ⟨l', by rw [h1, List.length_append, bitsN_len], h2⟩
  unfold code_PutID_2 code_PutID_2_b id_ID_IsOne
  cases t with
  | nil =>
   cases i with
   | true =>
    simp only [encID, List.length_append, bitsN_len] at hB
    obtain ⟨l1, h1, p1⟩ := two 0 2 (by decide) (by decide) (by omega) h
    obtain ⟨l2, h2, p2⟩ := two 1 1 (by decide) (by decide) (by simp [bitsN_len]; omega) p1
    simp only [encID]
    rw [← List.append_assoc]
    refine ⟨l2, ?_, p2⟩
    simp only [id_ID_Left, id_ID_Right, isZero_eq, zeroID, Option.bind_some, cond_true, cond_false]
    rw [show (0 : Int) = ((0 : Nat) : Int) from rfl, show (2 : Int) = ((2 : Nat) : Int) from rfl, show (1 : Int) = ((1 : Nat) : Int) from rfl, h1]
    simp only [Option.bind_some]
    rw [h2]
    rfl
   | false =>
    simp only [encID, List.length_append, bitsN_len] at hB
    obtain ⟨l1, h1, p1⟩ := two 0 2 (by decide) (by decide) (by omega) h
    obtain ⟨l2, h2, p2⟩ := two 0 1 (by decide) (by decide) (by simp [bitsN_len]; omega) p1
    simp only [encID]
    rw [← List.append_assoc]
    refine ⟨l2, ?_, p2⟩
    simp only [id_ID_Left, id_ID_Right, isZero_eq, zeroID, Option.bind_some, cond_true, cond_false]
    rw [show (0 : Int) = ((0 : Nat) : Int) from rfl, show (2 : Int) = ((2 : Nat) : Int) from rfl, show (1 : Int) = ((1 : Nat) : Int) from rfl, h1]
    simp only [Option.bind_some]
    rw [h2]
    rfl
  | mk b t1 b2 t2 =>
   cases i with
   | true =>
    simp only [encID, List.length_append, bitsN_len] at hB
    obtain ⟨l1, h1, p1⟩ := two 0 2 (by decide) (by decide) (by omega) h
    obtain ⟨l2, h2, p2⟩ := two 1 1 (by decide) (by decide) (by simp [bitsN_len]; omega) p1
    simp only [encID]
    rw [← List.append_assoc]
    refine ⟨l2, ?_, p2⟩
    simp only [id_ID_Left, id_ID_Right, isZero_eq, zeroID, Option.bind_some, cond_true, cond_false]
    rw [show (0 : Int) = ((0 : Nat) : Int) from rfl, show (2 : Int) = ((2 : Nat) : Int) from rfl, show (1 : Int) = ((1 : Nat) : Int) from rfl, h1]
    simp only [Option.bind_some]
    rw [h2]
    rfl
   | false =>
    simp only [depthID] at hN
    simp only [id_ID_Left, id_ID_Right, isZero_eq, Option.bind_some, show zeroID false (T_id_halves.mk b t1 b2 t2) = false from rfl, cond_false]
    simp only [encID] at hB ⊢
    cases hz : zeroID b t1 with
    | true =>
     simp only [hz, if_true, List.length_append, bitsN_len] at hB
     obtain ⟨l1, h1, p1⟩ := two 1 2 (by decide) (by decide) (by omega) h
     obtain ⟨l2, h2, p2⟩ := putID_go (N := N) (i := b2) (t := t2) (by omega) (by simp [bitsN_len]; omega) p1
     simp only [if_true, cond_true]
     rw [← List.append_assoc]
     refine ⟨l2, ?_, p2⟩
     have h1' : bits_Writer_Put_2 1 2 (B.length : Int) l = _ := h1
     rw [h1']
     simp only [Option.bind_some]
     rw [h2]
     rfl
    | false =>
     cases hz2 : zeroID b2 t2 with
     | true =>
      simp only [hz, hz2, if_true, if_false, Bool.false_eq_true, List.length_append, bitsN_len] at hB
      obtain ⟨l1, h1, p1⟩ := two 2 2 (by decide) (by decide) (by omega) h
      obtain ⟨l2, h2, p2⟩ := putID_go (N := N) (i := b) (t := t1) (by omega) (by simp [bitsN_len]; omega) p1
      simp only [if_true, if_false, Bool.false_eq_true, cond_true, cond_false]
      rw [← List.append_assoc]
      refine ⟨l2, ?_, p2⟩
      have h1' : bits_Writer_Put_2 2 2 (B.length : Int) l = _ := h1
      rw [h1']
      simp only [Option.bind_some]
      rw [h2]
      rfl
     | false =>
      simp only [hz, hz2, if_false, Bool.false_eq_true, List.length_append, bitsN_len] at hB
      obtain ⟨l1, h1, p1⟩ := two 3 2 (by decide) (by decide) (by omega) h
      obtain ⟨l2, h2, p2⟩ := putID_go (N := N) (i := b) (t := t1) (by omega) (by simp [bitsN_len]; omega) p1
      obtain ⟨l3, h3, p3⟩ := putID_go (N := N) (i := b2) (t := t2) (by omega) (by simp [bitsN_len]; omega) p2
      simp only [if_false, Bool.false_eq_true, cond_false]
      rw [← List.append_assoc, ← List.append_assoc]
      refine ⟨l3, ?_, p3⟩
      have h1' : bits_Writer_Put_2 3 2 (B.length : Int) l = _ := h1
      rw [h1']
      simp only [Option.bind_some]
      rw [h2]
      simp only [Option.bind_some]
      rw [h3]
      rfl
structure Has (p : List Int) (n : Nat) (B : List Bool) : Prop where
 room : n + B.length ≤ 8 * p.length
 bit : ∀ i, i < B.length → (p.getD ((n + i) / 8) 0).toNat.testBit (7 - (n + i) % 8) = B.getD i false
theorem Pk.has {p : List Int} {A B C : List Bool} (h : Pk p (A ++ (B ++ C))) : Has p A.length B := by
 have hl := h.len
 simp only [List.length_append] at hl
 refine ⟨by omega, fun i hi => ?_⟩
 have := h.bit ((A.length + i) / 8) ((A.length + i) % 8) (Nat.mod_lt _ (by decide)) (by omega)
 rw [this, show 8 * ((A.length + i) / 8) + (A.length + i) % 8 = A.length + i by omega]
 simp only [List.getD]
 rw [List.getElem?_append_right (by omega), List.getElem?_append_left (by omega), show A.length + i - A.length = i by omega]
theorem Has.left {p : List Int} {n : Nat} {B C : List Bool} (h : Has p n (B ++ C)) : Has p n B := by
 have hr := h.room
 simp only [List.length_append] at hr
 refine ⟨by omega, fun i hi => ?_⟩
 rw [h.bit i (by simp; omega)]
 simp only [List.getD]
 rw [List.getElem?_append_left hi]
structure Rem (p : List Int) (n : Nat) (L : List Bool) : Prop where
 has : Has p n L
 all : n + L.length = 8 * p.length
theorem depth_is : ∀ (t : Idt), depthID t = depthI t
 | .nil => rfl
 | .mk b t c u => by simp only [depthID, depthI, depth_is t, depth_is u]
def fromID : Bool → T_id_halves → T_kr01_ID
 | true, _ => .mk 1 .nil .nil
 | false, .nil => .mk 0 .nil .nil
 | false, .mk b l b2 r => .mk 2 (fromID b l) (fromID b2 r)
def nfID : Bool → T_id_halves → Prop
 | true, .nil => True
 | true, .mk .. => False
 | false, .nil => True
 | false, .mk b l b2 r => nfID b l ∧ nfID b2 r ∧ ¬ (l = .nil ∧ r = .nil ∧ b = b2)
theorem encID_len : ∀ {t : T_id_halves} {i : Bool}, (encID i t).length + 2 ≤ 5 * 2 ^ depthID t
 | .nil, i => by cases i <;> simp [encID, bitsN_len, depthID]
 | .mk b l b2 r, true => by
  have : 0 < 2 ^ depthID (.mk b l b2 r) := Nat.two_pow_pos _
  simp only [encID, List.length_append, bitsN_len]
  omega
 | .mk b l b2 r, false => by
  have h1 := encID_len (t := l) (i := b)
  have h2 := encID_len (t := r) (i := b2)
  have p1 : 2 ^ depthID l ≤ 2 ^ (max (depthID l) (depthID r)) := Nat.pow_le_pow_right (by decide) (by omega)
  have p2 : 2 ^ depthID r ≤ 2 ^ (max (depthID l) (depthID r)) := Nat.pow_le_pow_right (by decide) (by omega)
  have p3 : 0 < 2 ^ (max (depthID l) (depthID r)) := Nat.two_pow_pos _
  simp only [encID, depthID, Nat.pow_succ]
  split
  ·simp only [List.length_append, bitsN_len]; omega
  ·split <;> simp only [List.length_append, bitsN_len] <;> omega
theorem rWithin {k : Nat} (hk : k ≤ 64) : kr05_within (k : Int) = some (k : Int) := by
 unfold kr05_within
 rw [df (show ¬ (k : Int) < 0 by omega), df (show ¬ (64 : Int) < (k : Int) by omega)]
 rfl
theorem rPut_go {l : List Bool} {k v : Nat} (hk : k ≤ 64) (hv : v < 2 ^ 64) : ∀ (m i : Nat), i + m = k → runL (kr05_Put_L0_2_step l (k : Int)) (((v / 2 ^ i : Nat) : Int), (i : Int), bitsN i v) = some (bitsN k v)
 | 0, i, hi => by
  obtain rfl : i = k := by omega
  refine runL_done ?_
  unfold kr05_Put_L0_2_step
  simp only [rWithin hk, Option.bind_some, df (show ¬ (i : Int) < (i : Int) by omega), cond_false]
 | m + 1, i, hi => by
  rw [← rPut_go hk hv m (i + 1) (by omega)]
  refine runL_next ?_
  have hd : v / 2 ^ i ≤ v := Nat.div_le_self _ _
  have e4 : decide (((v / 2 ^ i % 2 : Nat) : Int) = 1) = v.testBit i := by
   rw [Nat.testBit_eq_decide_div_mod_eq]
   apply decide_eq_decide.2
   omega
  have hqq : v / 2 ^ (i + 1) = v / 2 ^ i / 2 := by rw [Nat.pow_succ, Nat.div_div_eq_div_mul]
  rw [hqq]
  generalize v / 2 ^ i = q at *
  have e1 : iquo .u64 (q : Int) 2 = ((q / 2 : Nat) : Int) := by
   rw [iquo, Int.tdiv_eq_ediv_of_nonneg (by omega)]
   rw [show (2 : Int) = ((2 : Nat) : Int) from rfl, ← Int.natCast_ediv]
   exact u64_in (by omega) (by omega)
  have e2 : irem .u64 (q : Int) 2 = ((q % 2 : Nat) : Int) := by
   rw [irem, Int.tmod_eq_emod_of_nonneg (by omega)]; omega
  have e3 : iadd .i64 (i : Int) 1 = ((i + 1 : Nat) : Int) := by rw [iadd64 (by omega) (by omega)]; omega
  unfold kr05_Put_L0_2_step
  simp only [rWithin hk, Option.bind_some, dt (show (i : Int) < (k : Int) by omega), cond_true, e1, e2, e3, e4, List.take_length]
  have hb := bitsN_len i v
  cases i with
  | zero => rfl
  | succ i =>
   rw [show Nat.beq (bitsN (i + 1) v).length 0 = false by rw [hb]; rfl, cond_false, fits_ok (by rw [List.length_append, hb]; simp; omega)]
   rfl
theorem rPut {l : List Bool} {k v : Nat} (hk : k ≤ 64) (hv : v < 2 ^ 64) (hl : l.length ≤ 1000000) : kr05_Put l (v : Int) (k : Int) = some (l ++ bitsN k v) := by
 have h := rPut_go (l := l) hk hv k 0 (by omega)
 rw [Nat.pow_zero, Nat.div_one] at h
 have h' : runL (kr05_Put_L0_2_step l (k : Int)) ((v : Int), 0, []) = _ := h
 unfold kr05_Put
 rw [h']
 simp only [Option.bind_some, List.nil_append, List.take_length, List.length_append, bitsN_len]
 rw [fits_ok (by omega), fits_ok (by omega), fits_ok (by omega)]
 cases l with
 | nil => rfl
 | cons a l => rfl
theorem rPut' {l : List Bool} (k v : Nat) (hk : k ≤ 2) (hv : v < 4) (hl : l.length ≤ 900000) : kr05_Put l (v : Int) (k : Int) = some (l ++ bitsN k v) := rPut (by omega) (by omega) (by omega)
theorem fromID_mk (i : Bool) (t : T_id_halves) : ∃ x y, fromID i t = .mk (match i, t with | true, _ => 1 | false, .nil => 0 | false, .mk .. => 2) x y := by
 cases i <;> cases t <;> exact ⟨_, _, rfl⟩
theorem kind0 (i : Bool) (t : T_id_halves) : (decide ((match i, t with | true, _ => (1 : Int) | false, .nil => 0 | false, .mk .. => 2) = 0)) = zeroID i t := by
 cases i <;> cases t <;> rfl
theorem rID : ∀ {N : Nat} {t : T_id_halves} {i : Bool} {l : List Bool}, depthID t < N → nfID i t → l.length + (encID i t).length ≤ 800000 → kr07_ID N l (fromID i t) = some (l ++ encID i t)
 | 0, t, i, l, hN, hw, hl => by omega
 | N + 1, t, i, l, hN, hw, hl => by
  unfold kr07_ID kr07_ID_b
  cases t with
  | nil =>
   have q0 : ∀ {m : List Bool} (v : Nat), v < 4 → m.length ≤ 900000 → kr05_Put m (v : Int) 1 = some (m ++ bitsN 1 v) := fun v hv hm => rPut' 1 v (by decide) hv hm
   have q1 : kr05_Put l 0 2 = some (l ++ bitsN 2 0) := rPut' 2 0 (by decide) (by decide) (by omega)
   have q2 : kr05_Put (l ++ bitsN 2 0) 0 1 = some (l ++ bitsN 2 0 ++ bitsN 1 0) := q0 0 (by decide) (by simp [bitsN_len]; omega)
   have q3 : kr05_Put (l ++ bitsN 2 0) 1 1 = some (l ++ bitsN 2 0 ++ bitsN 1 1) := q0 1 (by decide) (by simp [bitsN_len]; omega)
   cases i with
   | true =>
    simp only [fromID, dt (show (1 : Int) < 2 by decide), cond_true, q1, Option.bind_some, show IntKind.u64.wrap 1 = 1 from u64_in (by omega) (by omega), q3, encID, List.append_assoc]
   | false =>
    simp only [fromID, dt (show (0 : Int) < 2 by decide), cond_true, q1, Option.bind_some, show IntKind.u64.wrap 0 = 0 from u64_in (by omega) (by omega), q2, encID, List.append_assoc]
  | mk b x b2 y =>
   cases i with
   | true => exact hw.elim
   | false =>
    simp only [depthID] at hN
    obtain ⟨g1, g2, g3⟩ := hw
    obtain ⟨x1, x2, hx⟩ := fromID_mk b x
    obtain ⟨y1, y2, hy⟩ := fromID_mk b2 y
    have kx := kind0 b x
    have ky := kind0 b2 y
    have r1 := fun {m : List Bool} (h : m.length + (encID b x).length ≤ 800000) => rID (N := N) (t := x) (i := b) (l := m) (by omega) g1 h
    have r2 := fun {m : List Bool} (h : m.length + (encID b2 y).length ≤ 800000) => rID (N := N) (t := y) (i := b2) (l := m) (by omega) g2 h
    have q1 : kr05_Put l 1 2 = some (l ++ bitsN 2 1) := rPut' 2 1 (by decide) (by decide) (by omega)
    have q2 : kr05_Put l 2 2 = some (l ++ bitsN 2 2) := rPut' 2 2 (by decide) (by decide) (by omega)
    have q3 : kr05_Put l 3 2 = some (l ++ bitsN 2 3) := rPut' 2 3 (by decide) (by decide) (by omega)
    have hl' := hl
    simp only [encID] at hl' ⊢
    rw [hx] at r1
    rw [hy] at r2
    simp only [fromID, hx, hy, df (show ¬ (2 : Int) < 2 by decide), cond_false, kx, ky]
    cases hz : zeroID b x with
    | true =>
     rw [hz] at hl'
     simp only [if_true, List.length_append, bitsN_len] at hl'
     simp only [cond_true, q1, Option.bind_some, r2 (m := l ++ bitsN 2 1) (by simp only [List.length_append, bitsN_len]; omega), if_true, List.append_assoc]
    | false =>
     cases hz2 : zeroID b2 y with
     | true =>
      rw [hz, hz2] at hl'
      simp only [if_true, Bool.false_eq_true, if_false, List.length_append, bitsN_len] at hl'
      simp only [cond_true, cond_false, q2, Option.bind_some, r1 (m := l ++ bitsN 2 2) (by simp only [List.length_append, bitsN_len]; omega), if_true, Bool.false_eq_true, if_false, List.append_assoc]
     | false =>
      rw [hz, hz2] at hl'
      simp only [if_true, Bool.false_eq_true, if_false, List.length_append, bitsN_len] at hl'
      simp only [cond_true, cond_false, q3, Option.bind_some, r1 (m := l ++ bitsN 2 3) (by simp only [List.length_append, bitsN_len]; omega), Bool.false_eq_true, if_false]
      rw [r2 (by simp only [List.length_append, bitsN_len]; omega)]
      simp only [Option.bind_some, List.append_assoc]
def bv (l : List Bool) (i : Nat) : Nat → Nat
 | 0 => 0
 | k + 1 => 2 * bv l i k + (l.getD (i + k) false).toNat
theorem bv_lt (l : List Bool) (i : Nat) : ∀ k, bv l i k < 2 ^ k
 | 0 => by simp [bv]
 | k + 1 => by
  have := bv_lt l i k
  rw [bv, Nat.pow_succ]
  cases l.getD (i + k) false <;> simp <;> omega
theorem bv_bit (l : List Bool) (i : Nat) : ∀ k j, j < k → (bv l i k).testBit (k - 1 - j) = l.getD (i + j) false
 | 0, j, h => by omega
 | k + 1, j, h => by
  rw [bv]
  have hb : (l.getD (i + k) false).toNat < 2 := by cases l.getD (i + k) false <;> decide
  rcases Nat.lt_or_eq_of_le (Nat.le_of_lt_succ h) with hj | rfl
  ·rw [show k + 1 - 1 - j = (k - 1 - j) + 1 by omega, Nat.testBit_succ, show (2 * bv l i k + (l.getD (i + k) false).toNat) / 2 = bv l i k by omega, bv_bit l i k j hj]
  ·rw [show j + 1 - 1 - j = 0 by omega, Nat.testBit_zero]
   cases l.getD (i + j) false with
   | true => simp
   | false => simp
theorem u8_in {n : Int} (h : 0 ≤ n) (h' : n < 256) : IntKind.u8.wrap n = n := IntWalk.u8_in n ⟨by omega, by omega⟩
theorem rByte_go {l : List Bool} {i : Nat} {m : List Int} (hl : l.length ≤ 1000000) (hi : i ≤ 1000000) : ∀ (r k : Nat), k + r = 8 → runL (kr05_Bytes_L1_3_step l (i : Int) m) ((bv l i k : Nat), (k : Int)) = some ((bv l i 8 : Nat) : Int)
 | 0, k, hk => by
  obtain rfl : k = 8 := by omega
  refine runL_done rfl
 | r + 1, k, hk => by
  rw [← rByte_go hl hi r (k + 1) (by omega)]
  refine runL_next ?_
  have hb := bv_lt l i k
  have h2 : 2 ^ k ≤ 2 ^ 7 := Nat.pow_le_pow_right (by decide) (by omega)
  have e1 : imul .u8 ((bv l i k : Nat) : Int) 2 = ((2 * bv l i k : Nat) : Int) := by rw [imul, u8_in (by omega) (by omega)]; omega
  have e2 : iadd .u8 ((2 * bv l i k : Nat) : Int) 1 = ((2 * bv l i k + 1 : Nat) : Int) := by rw [iadd, u8_in (by omega) (by omega)]; omega
  have e3 : iadd .i64 (k : Int) 1 = ((k + 1 : Nat) : Int) := by rw [iadd64 (by omega) (by omega)]; omega
  have e4 : iadd .i64 (i : Int) (k : Int) = ((i + k : Nat) : Int) := by rw [iadd64 (by omega) (by omega)]; omega
  unfold kr05_Bytes_L1_3_step
  simp only [dt (show (k : Int) < 8 by omega), cond_true, e1, e2, e3, e4, dt (show (0 : Int) ≤ ((i + k : Nat) : Int) by omega), Bool.true_and, Int.toNat_natCast]
  rw [bv]
  by_cases hlt : i + k < l.length
  ·rw [dt (show ((i + k : Nat) : Int) < (l.length : Int) by omega)]
   simp only [cond_true]
   cases hc : l.getD (i + k) false <;> rfl
  ·rw [df (show ¬ ((i + k : Nat) : Int) < (l.length : Int) by omega), getD_none (by omega)]
   rfl
def bytesTo (l : List Bool) (q : Nat) : List Int := (List.range q).map (fun j => ((bv l (8 * j) 8 : Nat) : Int))
theorem bytesTo_succ (l : List Bool) (q : Nat) : bytesTo l (q + 1) = bytesTo l q ++ [((bv l (8 * q) 8 : Nat) : Int)] := by
 simp [bytesTo, List.range_succ]
theorem bytesTo_len (l : List Bool) (q : Nat) : (bytesTo l q).length = q := by simp [bytesTo]
theorem rBytes_go {l : List Bool} (hl : l.length ≤ 900000) : ∀ (m q : Nat), q + m = (l.length + 7) / 8 → runL (kr05_Bytes_L0_2_step l) (((8 * q : Nat) : Int), bytesTo l q) = some (bytesTo l ((l.length + 7) / 8))
 | 0, q, hq => by
  obtain rfl : q = (l.length + 7) / 8 := by omega
  refine runL_done ?_
  unfold kr05_Bytes_L0_2_step
  simp only [df (show ¬ ((8 * ((l.length + 7) / 8) : Nat) : Int) < (l.length : Int) by omega), cond_false]
 | m + 1, q, hq => by
  rw [← rBytes_go hl m (q + 1) (by omega)]
  refine runL_next ?_
  have hb : runL (kr05_Bytes_L1_3_step l ((8 * q : Nat) : Int) (bytesTo l q)) (0, 0) = _ := rByte_go (i := 8 * q) (m := bytesTo l q) (by omega) (by omega) 8 0 (by omega)
  have e1 : iadd .i64 ((8 * q : Nat) : Int) 8 = ((8 * (q + 1) : Nat) : Int) := by rw [iadd64 (by omega) (by omega)]; omega
  unfold kr05_Bytes_L0_2_step
  simp only [dt (show ((8 * q : Nat) : Int) < (l.length : Int) by omega), cond_true, hb, Option.bind_some, e1]
  rw [fits_ok (by simp [bytesTo_len]; omega), cond_true, bytesTo_succ]
theorem rBytes {l : List Bool} (hl : l.length ≤ 900000) : ∃ m, kr05_Bytes l = some m ∧ Pk m l := by
 refine ⟨bytesTo l ((l.length + 7) / 8), ?_, ⟨bytesTo_len _ _, fun x hx => ?_, fun q j hj hq => ?_⟩⟩
 ·have h : runL (kr05_Bytes_L0_2_step l) (0, []) = _ := rBytes_go hl ((l.length + 7) / 8) 0 (by omega)
  unfold kr05_Bytes
  rw [h]
  rfl
 ·obtain ⟨j, -, rfl⟩ := List.mem_map.1 hx
  have := bv_lt l (8 * j) 8
  omega
 ·rw [bytesTo_len] at hq
  have hg : (bytesTo l ((l.length + 7) / 8)).getD q 0 = ((bv l (8 * q) 8 : Nat) : Int) := by
   simp [bytesTo, List.getD, hq]
  rw [hg, Int.toNat_natCast, show 7 - j = 8 - 1 - j by omega, bv_bit l (8 * q) 8 j hj]
end Go.Proofs.YtjjcmgdgifcmgaaGreat
