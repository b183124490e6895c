/- Chapter 07, ids: written and read, for the Deed seat (turned from wip/ev2 by mkDeed.py). Plain. -/
import Derived.Test.YtjjcmgdgifcmgaaA6
import Derived.Test.YtjjcmgdgifcmgaaQ3
set_option linter.unusedVariables false
set_option linter.unusedSimpArgs false
namespace Go.Proofs.Ytjjcmgdgifcmgaa
open Go.Ev Go.Lib

def mkS (l : List UInt8) : ByteArray := ⟨l.toArray⟩
theorem mkS_size (l : List UInt8) : (mkS l).size = l.length := by simp [mkS, ByteArray.size]
theorem mkS_app (l m : List UInt8) : mkS l ++ mkS m = mkS (l ++ m) := by
  apply ByteArray.ext
  simp [mkS, ByteArray.data_append]
theorem s40 : (⟨#[40]⟩ : ByteArray) = mkS [40] := rfl
theorem s41 : (⟨#[41]⟩ : ByteArray) = mkS [41] := rfl
theorem s44 : (⟨#[44]⟩ : ByteArray) = mkS [44] := rfl
theorem _root_.Go.Ev.Bytes.drop {l : List Int} (h : Bytes l) (n : Nat) : Bytes (l.drop n) := fun x hx => h x (List.mem_of_mem_drop hx)
theorem _root_.Go.Ev.Bytes.take {l : List Int} (h : Bytes l) (n : Nat) : Bytes (l.take n) := fun x hx => h x (List.mem_of_mem_take hx)
theorem take_drop1 (l : List Int) (k : Nat) : List.take ((l.length : Int) - k).toNat (List.drop k l) = List.drop k l := List.take_of_length_le (by simp)
theorem irem8 {b : Int} {c : Nat} (h : 0 ≤ b) : irem .u8 b (c : Int) = b % c := by rw [irem, Int.tmod_eq_emod_of_nonneg h]
abbrev Idt := T_id_halves
instance decNilI (t : Idt) : Decidable (t = T_id_halves.nil) := match t with
  | .nil => isTrue rfl
  | .mk .. => isFalse (fun h => by cases h)
def zeroI (i : Bool) : Idt → Bool
  | .nil => !i
  | .mk .. => false
def depthI : Idt → Nat
  | .nil => 0
  | .mk _ t _ u => max (depthI t) (depthI u) + 1
def nfI : Bool → Idt → Prop
  | true, .nil => True
  | true, .mk .. => False
  | false, .nil => True
  | false, .mk b l b2 r => nfI b l ∧ nfI b2 r ∧ ¬ (l = .nil ∧ r = .nil ∧ b = b2)
theorem nfI_nil (i : Bool) : nfI i .nil := by cases i <;> trivial
theorem nfI_mk {i b c : Bool} {l r : Idt} (h : nfI i (.mk b l c r)) : i = false ∧ nfI b l ∧ nfI c r ∧ ¬ (l = .nil ∧ r = .nil ∧ b = c) := by
  cases i with
  | true => exact h.elim
  | false => exact ⟨rfl, h⟩
def bits : Nat → Bool → Idt → List Bool
  | 0, i, _ => [i]
  | d + 1, i, .nil => bits d i .nil ++ bits d i .nil
  | d + 1, i, .mk a t b u => bits d a t ++ bits d b u
def pairF (i : Bool) (t : Idt) (j : Bool) (u : Idt) : Bool × Idt := if t = .nil ∧ u = .nil ∧ i = j then (i, .nil) else (false, .mk i t j u)
theorem pair_nf {i j : Bool} {t u : Idt} (h1 : nfI i t) (h2 : nfI j u) : nfI (pairF i t j u).1 (pairF i t j u).2 := by
  unfold pairF
  split
  · exact nfI_nil i
  · rename_i h; exact ⟨h1, h2, h⟩
theorem pair_depth (i j : Bool) (t u : Idt) : depthI (pairF i t j u).2 ≤ max (depthI t) (depthI u) + 1 := by
  unfold pairF
  split
  · simp [depthI]
  · exact Nat.le_refl _
theorem idZero {i : Bool} {t : Idt} : id_ID_IsZero i t = some (zeroI i t) := by cases i <;> cases t <;> rfl
theorem idpair {i j : Bool} {t u : Idt} (h1 : nfI i t) (h2 : nfI j u) : id_pair i t j u = some (pairF i t j u) := by
  unfold id_pair pairF
  simp only [idZero, id_ID_IsOne, id_Zero, id_One, Option.bind_some]
  cases t with
  | nil =>
    cases u with
    | nil => cases i <;> cases j <;> rfl
    | mk => obtain ⟨rfl, -⟩ := nfI_mk h2; cases i <;> simp [zeroI]
  | mk => obtain ⟨rfl, -⟩ := nfI_mk h1; simp [zeroI]
theorem idDepth : ∀ {N : Nat} {i : Bool} {t : Idt}, depthI t < N → depthI t ≤ 100000 → id_ID_Depth N i t = some (depthI t : Int)
  | 0, i, t, hN, h => by omega
  | N + 1, i, t, hN, h => by
    unfold id_ID_Depth id_ID_Depth_b
    cases t with
    | nil => rfl
    | mk b l b2 r =>
      simp only [depthI] at hN h
      simp only [idDepth (N := N) (i := b) (t := l) (by omega) (by omega), idDepth (N := N) (i := b2) (t := r) (by omega) (by omega), Option.bind_some]
      have e : (if (depthI l : Int) < (depthI r : Int) then (depthI r : Int) else (depthI l : Int)) = ((max (depthI l) (depthI r) : Nat) : Int) := by split <;> omega
      rw [e, iadd64 (by omega) (by omega)]
      simp only [depthI]
      congr 1
      omega
def fromI : Bool → Idt → T_kinfolkref01_ID
  | true, _ => .mk 1 .nil .nil
  | false, .nil => .mk 0 .nil .nil
  | false, .mk b l b2 r => .mk 2 (fromI b l) (fromI b2 r)
def kindI (i : Bool) (t : Idt) : Int := if i = true then 1 else if t = .nil then 0 else 2
theorem fromI_kind (i : Bool) (t : Idt) : ∃ x y, fromI i t = .mk (kindI i t) x y := by
  cases i <;> cases t <;> exact ⟨_, _, rfl⟩
theorem pair_keep {i a b : Bool} {t u : Idt} (h : nfI i (.mk a t b u)) : pairF a t b u = (i, .mk a t b u) := by
  obtain ⟨rfl, -, -, h3⟩ := nfI_mk h
  rw [pairF, if_neg h3]
def textI : Bool → Idt → List UInt8
  | true, _ => [49]
  | false, .nil => [48]
  | false, .mk a t b u => [40] ++ textI a t ++ [44] ++ textI b u ++ [41]
theorem textI_len : ∀ {t : Idt} {i : Bool}, (textI i t).length + 3 ≤ 4 * 2 ^ depthI t
  | .nil, i => by cases i <;> simp [textI, depthI]
  | .mk a t b u, i => by
    have r1 := textI_len (t := t) (i := a)
    have r2 := textI_len (t := u) (i := b)
    have p1 : 2 ^ depthI t ≤ 2 ^ max (depthI t) (depthI u) := Nat.pow_le_pow_right (by decide) (by omega)
    have p2 : 2 ^ depthI u ≤ 2 ^ max (depthI t) (depthI u) := Nat.pow_le_pow_right (by decide) (by omega)
    have p3 := Nat.two_pow_pos (max (depthI t) (depthI u))
    cases i with
    | true => simp only [textI, depthI, Nat.pow_succ, List.length_singleton]; omega
    | false => simp only [textI, depthI, Nat.pow_succ, List.length_append, List.length_singleton]; omega
theorem idText : ∀ {N : Nat} {i : Bool} {t : Idt}, depthI t < N → nfI i t → depthI t ≤ 30 → id_ID_Text N i t = some (mkS (textI i t))
  | 0, i, t, hN, h, hd => by omega
  | N + 1, i, t, hN, h, hd => by
    unfold id_ID_Text id_ID_Text_b
    simp only [idZero, id_ID_IsOne, Option.bind_some]
    cases t with
    | nil => cases i <;> rfl
    | mk a t b u =>
      obtain ⟨rfl, n1, n2, n3⟩ := nfI_mk h
      simp only [depthI] at hN hd
      have l1 := textI_len (t := t) (i := a)
      have l2 := textI_len (t := u) (i := b)
      have p1 : 2 ^ depthI t ≤ 2 ^ 30 := Nat.pow_le_pow_right (by decide) (by omega)
      have p2 : 2 ^ depthI u ≤ 2 ^ 30 := Nat.pow_le_pow_right (by decide) (by omega)
      have r1 := idText (N := N) (by omega) n1 (by omega)
      have r2 := idText (N := N) (by omega) n2 (by omega)
      simp only [zeroI, cond_false, Option.bind_some, s40, s41, s44, mkS_app, mkS_size, List.length_append, List.length_singleton, r1, r2]
      rw [dt (by omega), cond_true, dt (by omega), cond_true, dt (by omega), cond_true, dt (by omega), cond_true]
      simp only [textI]
theorem rIText : ∀ {N : Nat} {i : Bool} {t : Idt}, depthI t < N → nfI i t → depthI t ≤ 30 → kinfolkref01_Text N (fromI i t) = some (mkS (textI i t))
  | 0, i, t, hN, h, hd => by omega
  | N + 1, i, t, hN, h, hd => by
    unfold kinfolkref01_Text kinfolkref01_Text_b
    cases t with
    | nil => cases i <;> rfl
    | mk a t b u =>
      obtain ⟨rfl, n1, n2, n3⟩ := nfI_mk h
      simp only [depthI] at hN hd
      have l1 := textI_len (t := t) (i := a)
      have l2 := textI_len (t := u) (i := b)
      have p1 : 2 ^ depthI t ≤ 2 ^ 30 := Nat.pow_le_pow_right (by decide) (by omega)
      have p2 : 2 ^ depthI u ≤ 2 ^ 30 := Nat.pow_le_pow_right (by decide) (by omega)
      have r1 := rIText (N := N) (by omega) n1 (by omega)
      have r2 := rIText (N := N) (by omega) n2 (by omega)
      have e2 : decide ((2 : Int) = 0) = false := rfl
      have e3 : decide ((2 : Int) = 1) = false := rfl
      simp only [fromI, e2, e3, cond_false, Option.bind_some, s40, s41, s44, mkS_app, mkS_size, List.length_append, List.length_singleton, r1, r2]
      rw [dt (by omega), cond_true, dt (by omega), cond_true, dt (by omega), cond_true, dt (by omega), cond_true]
      simp only [textI]
theorem rpair {i j : Bool} {t u : Idt} (h1 : nfI i t) (h2 : nfI j u) : kinfolkref01_Pair (fromI i t) (fromI j u) = some (fromI (pairF i t j u).1 (pairF i t j u).2) := by
  unfold kinfolkref01_Pair pairF
  cases t with
  | nil =>
    cases u with
    | nil => cases i <;> cases j <;> rfl
    | mk => obtain ⟨rfl, -⟩ := nfI_mk h2; cases i <;> rfl
  | mk =>
    obtain ⟨rfl, -⟩ := nfI_mk h1
    cases u with
    | nil => cases j <;> rfl
    | mk => obtain ⟨rfl, -⟩ := nfI_mk h2; rfl
theorem rmakeID : ∀ {N most : Nat} {p : List Int}, most < N → most ≤ 1000 → Bytes p → ∃ i t rest, kinfolkref01_Make N p (most : Int) = some (fromI i t, rest) ∧ nfI i t ∧ depthI t ≤ most ∧ Bytes rest
  | 0, most, p, hN, hm, h => by omega
  | N + 1, most, p, hN, hm, h => by
    unfold kinfolkref01_Make kinfolkref01_Make_b
    by_cases h0 : (p.length : Int) = 0
    · rw [dt h0]
      exact ⟨false, .nil, [], rfl, trivial, Nat.zero_le _, fun x hx => by simp at hx⟩
    · have hl : 0 < p.length := by omega
      have hb := h.at hl
      have leaf : ∀ q : List Int, Bytes q → ∃ i t rest, some (T_kinfolkref01_ID.mk (IntKind.i64.wrap (irem .u8 (p.getD 0 0) 2)) T_kinfolkref01_ID.nil T_kinfolkref01_ID.nil, q) = some (fromI i t, rest) ∧ nfI i t ∧ depthI t ≤ most ∧ Bytes rest := by
        intro q hq
        have e : IntKind.i64.wrap (irem .u8 (p.getD 0 0) 2) = p.getD 0 0 % 2 := by
          rw [show (2 : Int) = ((2 : Nat) : Int) from rfl, irem8 hb.1, i64_in (by omega) (by omega)]
        rw [e]
        rcases Int.emod_two_eq (p.getD 0 0) with h2 | h2
        · exact ⟨false, .nil, q, by rw [h2]; rfl, trivial, Nat.zero_le _, hq⟩
        · exact ⟨true, .nil, q, by rw [h2]; rfl, trivial, Nat.zero_le _, hq⟩
      have ht := take_drop1 p 1
      have ht' : List.take ((p.length : Int) - 1).toNat (List.drop 1 p) = List.drop 1 p := ht
      have hd := h.drop 1
      simp only [df h0, cond_false, ht', dt (show (0 : Int) < p.length by omega), dt (show (1 : Int) ≤ p.length by omega), dt (Int.le_refl (0 : Int)), dt (show (0 : Int) ≤ 1 by omega), dt (Int.le_refl (p.length : Int)), dt (show (p.length : Int) = p.length from rfl), Bool.and_self, cond_true]
      by_cases hm0 : (most : Int) = 0
      · rw [dt hm0, cond_true]; exact leaf _ hd
      · rw [df hm0, cond_false]
        by_cases h4 : irem .u8 (p.getD 0 0) 4 < 2
        · rw [dt h4, cond_true]; exact leaf _ hd
        · rw [df h4, cond_false]
          obtain ⟨m, rfl⟩ : ∃ m, most = m + 1 := ⟨most - 1, by omega⟩
          have em : isub .i64 ((m + 1 : Nat) : Int) 1 = (m : Int) := by rw [isub64 (by omega) (by omega)]; omega
          rw [em]
          obtain ⟨i, t, r1, q1, q2, q3, q4⟩ := rmakeID (N := N) (most := m) (by omega) (by omega) hd
          obtain ⟨j, u, r2, q5, q6, q7, q8⟩ := rmakeID (N := N) (most := m) (by omega) (by omega) q4
          rw [q1]
          simp only [Option.bind_some]
          rw [q5]
          simp only [Option.bind_some]
          rw [rpair q2 q6]
          refine ⟨_, _, r2, rfl, pair_nf q2 q6, ?_, q8⟩
          have := pair_depth i j t u
          omega
theorem ownI_eq : ∀ {N : Nat} {i : Bool} {t : Idt}, nfI i t → depthI t ≤ 16 → depthI t + 1 < N → kinfolklaw15_own N (fromI i t) = some (i, t)
  | 0, i, t, hn, hd, hN => by omega
  | N + 1, i, t, hn, hd, hN => by
    unfold kinfolklaw15_own kinfolklaw15_own_b
    cases t with
    | nil => cases i <;> rfl
    | mk b l b2 r =>
      have hk := pair_keep hn
      have hdp := idDepth (N := N) (i := i) (t := .mk b l b2 r) (by omega) (by omega)
      obtain ⟨rfl, n1, n2, n3⟩ := nfI_mk hn
      simp only [depthI] at hN hd
      have r1 := ownI_eq (N := N) n1 (by omega) (by omega)
      have r2 := ownI_eq (N := N) n2 (by omega) (by omega)
      have e2 : decide ((2 : Int) = 0) = false := rfl
      have e3 : decide ((2 : Int) = 1) = false := rfl
      simp only [fromI, r1, r2, Option.bind_some, id_Pair, idpair n1 n2, hk, hdp, df (show ¬ (16 : Int) < ((depthI (.mk b l b2 r) : Nat) : Int) by simp only [depthI]; omega), cond_false, e2, e3]
theorem bit_test {v i : Nat} (hv : v < 2 ^ 64) (hi : i ≤ 64) : decide (iand .u64 (ishr .u64 (v : Int) (i : Int)) 1 = 1) = v.testBit i := by
  rw [ishr_nat (k := .u64) (show i ≤ 64 from hi)]
  have h1 : v / 2 ^ i < 2 ^ 64 := Nat.lt_of_le_of_lt (Nat.div_le_self _ _) hv
  have h2 := iand_nat (k := .u64) rfl (a := v / 2 ^ i) (b := 1) h1 (by decide)
  rw [show ((1 : Nat) : Int) = 1 from rfl] at h2
  rw [h2, Nat.and_one_is_mod, Nat.testBit_eq_decide_div_mod_eq]
  apply decide_eq_decide.2
  omega
theorem put_step {v m : Nat} {l : List Int} {B : List Bool} (hv : v < 2 ^ 64) (hm : m < 64) (hB : B.length ≤ 1000000) (h : Pk l B) :
    ∃ l', bits_Writer_Put_L0_3_step (v : Int) ((m : Int), (B.length : Int), l) = some (.inl ((m : Int) - 1, ((B.length + 1 : Nat) : Int), l')) ∧ Pk l' (B ++ [v.testBit m]) := by
  have hbt := bit_test hv (show m ≤ 64 by omega)
  have e1 : irem .i64 (B.length : Int) 8 = ((B.length % 8 : Nat) : Int) := irem64 (b := 8) (by omega)
  have e2 : iquo .i64 (B.length : Int) 8 = ((B.length / 8 : Nat) : Int) := iquo64 (b := 8) (by omega)
  have e3 : isub .i64 (m : Int) 1 = (m : Int) - 1 := isub64 (by omega) (by omega)
  have e4 : iadd .i64 (B.length : Int) 1 = ((B.length + 1 : Nat) : Int) := by rw [iadd64 (by omega) (by omega)]; omega
  have hl := h.len
  have c0 : (0 : Int) ≤ (m : Int) := by omega
  have c1 : (0 : Int) ≤ ((B.length % 8 : Nat) : Int) := by omega
  have c2 : (0 : Int) ≤ ((B.length / 8 : Nat) : Int) := by omega
  unfold bits_Writer_Put_L0_3_step
  simp only [e1, e2, e3, e4, dt c0, dt c1, dt c2, cond_true, Int.toNat_natCast, Nat.zero_add, hbt]
  by_cases h8 : B.length % 8 = 0
  · have hr := h.room h8
    have hf : fits (l ++ [0]).length = true := fits_ok (by have := hr.len; omega)
    have c3 : ((B.length / 8 : Nat) : Int) < ((l ++ [0]).length : Int) := by have := hr.len; omega
    rw [dt (show ((B.length % 8 : Nat) : Int) = 0 by omega)]
    simp only [cond_true, hf, dt c3, Bool.and_self]
    cases hb : v.testBit m with
    | true => exact ⟨_, rfl, hr.yes⟩
    | false => exact ⟨_, rfl, hr.no⟩
  · have hr := h.room' h8
    have c3 : ((B.length / 8 : Nat) : Int) < (l.length : Int) := by have := hr.len; omega
    rw [df (show ¬ ((B.length % 8 : Nat) : Int) = 0 by omega)]
    simp only [cond_false, cond_true, dt c3, Bool.and_self]
    cases hb : v.testBit m with
    | true => exact ⟨_, rfl, hr.yes⟩
    | false => exact ⟨_, rfl, hr.no⟩
theorem put_go {v : Nat} (hv : v < 2 ^ 64) : ∀ (m : Nat) {l : List Int} {B : List Bool}, m ≤ 64 → B.length + m ≤ 1000000 → Pk l B →
    ∃ l', runL (bits_Writer_Put_L0_3_step (v : Int)) ((m : Int) - 1, (B.length : Int), l) = some (((B.length + m : Nat) : Int), l') ∧ Pk l' (B ++ bitsN m v)
  | 0, l, B, hm, hB, h => by
    refine ⟨l, runL_done ?_, by simpa [bitsN] using h⟩
    simp [bits_Writer_Put_L0_3_step]
  | m + 1, l, B, hm, hB, h => by
    obtain ⟨l1, h1, p1⟩ := put_step hv (show m < 64 by omega) (by omega) h
    obtain ⟨l2, h2, p2⟩ := put_go hv m (l := l1) (B := B ++ [v.testBit m]) (by omega) (by simp; omega) p1
    refine ⟨l2, ?_, by simpa [bitsN] using p2⟩
    rw [show ((m + 1 : Nat) : Int) - 1 = (m : Int) by omega, runL_next h1]
    rw [List.length_append, List.length_singleton] at h2
    rw [h2]
    congr 3
    omega
theorem put_eq {v k : Nat} (hv : v < 2 ^ 64) (hk : k ≤ 64) {l : List Int} {B : List Bool} (hB : B.length + k ≤ 1000000) (h : Pk l B) :
    ∃ l', bits_Writer_Put_2 (v : Int) (k : Int) (B.length : Int) l = some (((B.length + k : Nat) : Int), l') ∧ Pk l' (B ++ bitsN k v) := by
  obtain ⟨l', h1, h2⟩ := put_go hv k hk hB h
  refine ⟨l', ?_, h2⟩
  unfold bits_Writer_Put_2 bits_within
  rw [if_neg (show ¬ (k : Int) < 0 by omega), if_neg (show ¬ (64 : Int) < k by omega)]
  simp only [Option.bind_some]
  rw [isub64 (by omega) (by omega), h1]
  rfl
theorem put_first : ∀ (v k n : Int), bits_Writer_Put v k n = bits_Writer_Put_2 v k n [] := by
  intro v k n
  have : bits_Writer_Put_L0_2_step v = bits_Writer_Put_L0_3_step v := by
    funext s
    rcases s with ⟨i, n2, l⟩
    rfl
  unfold bits_Writer_Put bits_Writer_Put_2
  rw [this]
def zeroID (i : Bool) (t : T_id_halves) : Bool := match i, t with
  | false, .nil => true
  | _, _ => false
theorem isZero_eq (i : Bool) (t : T_id_halves) : id_ID_IsZero i t = some (zeroID i t) := by
  cases i <;> cases t <;> rfl
def encID : Bool → T_id_halves → List Bool
  | true, _ => bitsN 2 0 ++ bitsN 1 1
  | false, .nil => bitsN 2 0 ++ bitsN 1 0
  | false, .mk b l b2 r => if zeroID b l then bitsN 2 1 ++ encID b2 r else if zeroID b2 r then bitsN 2 2 ++ encID b l else bitsN 2 3 ++ (encID b l ++ encID b2 r)
def depthID : T_id_halves → Nat
  | .nil => 0
  | .mk _ l _ r => max (depthID l) (depthID r) + 1
theorem putID_go : ∀ {N : Nat} {i : Bool} {t : T_id_halves} {l : List Int} {B : List Bool}, depthID t < N → B.length + (encID i t).length ≤ 900000 → Pk l B →
    ∃ l', code_PutID_2 N i t (B.length : Int) l = some (((B ++ encID i t).length : Int), l') ∧ Pk l' (B ++ encID i t)
  | 0, i, t, l, B, hN, hB, h => by omega
  | N + 1, i, t, l, B, hN, hB, h => by
    -- two bits, whatever they are
    have two : ∀ (v k : Nat) {l : List Int} {B : List Bool}, v < 4 → k ≤ 2 → B.length ≤ 900000 → Pk l B → ∃ l', bits_Writer_Put_2 (v : Int) (k : Int) (B.length : Int) l = some (((B ++ bitsN k v).length : Int), l') ∧ Pk l' (B ++ bitsN k v) := by
      intro v k l B hv hk hB h
      obtain ⟨l', h1, h2⟩ := put_eq (v := v) (k := k) (Nat.lt_trans hv (by decide)) (by omega) (B := B) (by omega) h
      exact ⟨l', by rw [h1, List.length_append, bitsN_len], h2⟩
    unfold code_PutID_2 code_PutID_2_b id_ID_IsOne
    cases t with
    | nil =>
      cases i with
      | true =>
        simp only [encID, List.length_append, bitsN_len] at hB
        obtain ⟨l1, h1, p1⟩ := two 0 2 (by decide) (by decide) (by omega) h
        obtain ⟨l2, h2, p2⟩ := two 1 1 (by decide) (by decide) (by simp [bitsN_len]; omega) p1
        simp only [encID]
        rw [← List.append_assoc]
        refine ⟨l2, ?_, p2⟩
        simp only [id_ID_Left, id_ID_Right, isZero_eq, zeroID, Option.bind_some, cond_true, cond_false]
        rw [show (0 : Int) = ((0 : Nat) : Int) from rfl, show (2 : Int) = ((2 : Nat) : Int) from rfl, show (1 : Int) = ((1 : Nat) : Int) from rfl, h1]
        simp only [Option.bind_some]
        rw [h2]
        rfl
      | false =>
        simp only [encID, List.length_append, bitsN_len] at hB
        obtain ⟨l1, h1, p1⟩ := two 0 2 (by decide) (by decide) (by omega) h
        obtain ⟨l2, h2, p2⟩ := two 0 1 (by decide) (by decide) (by simp [bitsN_len]; omega) p1
        simp only [encID]
        rw [← List.append_assoc]
        refine ⟨l2, ?_, p2⟩
        simp only [id_ID_Left, id_ID_Right, isZero_eq, zeroID, Option.bind_some, cond_true, cond_false]
        rw [show (0 : Int) = ((0 : Nat) : Int) from rfl, show (2 : Int) = ((2 : Nat) : Int) from rfl, show (1 : Int) = ((1 : Nat) : Int) from rfl, h1]
        simp only [Option.bind_some]
        rw [h2]
        rfl
    | mk b t1 b2 t2 =>
      cases i with
      | true =>
        simp only [encID, List.length_append, bitsN_len] at hB
        obtain ⟨l1, h1, p1⟩ := two 0 2 (by decide) (by decide) (by omega) h
        obtain ⟨l2, h2, p2⟩ := two 1 1 (by decide) (by decide) (by simp [bitsN_len]; omega) p1
        simp only [encID]
        rw [← List.append_assoc]
        refine ⟨l2, ?_, p2⟩
        simp only [id_ID_Left, id_ID_Right, isZero_eq, zeroID, Option.bind_some, cond_true, cond_false]
        rw [show (0 : Int) = ((0 : Nat) : Int) from rfl, show (2 : Int) = ((2 : Nat) : Int) from rfl, show (1 : Int) = ((1 : Nat) : Int) from rfl, h1]
        simp only [Option.bind_some]
        rw [h2]
        rfl
      | false =>
        simp only [depthID] at hN
        simp only [id_ID_Left, id_ID_Right, isZero_eq, Option.bind_some, show zeroID false (T_id_halves.mk b t1 b2 t2) = false from rfl, cond_false]
        simp only [encID] at hB ⊢
        cases hz : zeroID b t1 with
        | true =>
          simp only [hz, if_true, List.length_append, bitsN_len] at hB
          obtain ⟨l1, h1, p1⟩ := two 1 2 (by decide) (by decide) (by omega) h
          obtain ⟨l2, h2, p2⟩ := putID_go (N := N) (i := b2) (t := t2) (by omega) (by simp [bitsN_len]; omega) p1
          simp only [if_true, cond_true]
          rw [← List.append_assoc]
          refine ⟨l2, ?_, p2⟩
          have h1' : bits_Writer_Put_2 1 2 (B.length : Int) l = _ := h1
          rw [h1']
          simp only [Option.bind_some]
          rw [h2]
          rfl
        | false =>
          cases hz2 : zeroID b2 t2 with
          | true =>
            simp only [hz, hz2, if_true, if_false, Bool.false_eq_true, List.length_append, bitsN_len] at hB
            obtain ⟨l1, h1, p1⟩ := two 2 2 (by decide) (by decide) (by omega) h
            obtain ⟨l2, h2, p2⟩ := putID_go (N := N) (i := b) (t := t1) (by omega) (by simp [bitsN_len]; omega) p1
            simp only [if_true, if_false, Bool.false_eq_true, cond_true, cond_false]
            rw [← List.append_assoc]
            refine ⟨l2, ?_, p2⟩
            have h1' : bits_Writer_Put_2 2 2 (B.length : Int) l = _ := h1
            rw [h1']
            simp only [Option.bind_some]
            rw [h2]
            rfl
          | false =>
            simp only [hz, hz2, if_false, Bool.false_eq_true, List.length_append, bitsN_len] at hB
            obtain ⟨l1, h1, p1⟩ := two 3 2 (by decide) (by decide) (by omega) h
            obtain ⟨l2, h2, p2⟩ := putID_go (N := N) (i := b) (t := t1) (by omega) (by simp [bitsN_len]; omega) p1
            obtain ⟨l3, h3, p3⟩ := putID_go (N := N) (i := b2) (t := t2) (by omega) (by simp [bitsN_len]; omega) p2
            simp only [if_false, Bool.false_eq_true, cond_false]
            rw [← List.append_assoc, ← List.append_assoc]
            refine ⟨l3, ?_, p3⟩
            have h1' : bits_Writer_Put_2 3 2 (B.length : Int) l = _ := h1
            rw [h1']
            simp only [Option.bind_some]
            rw [h2]
            simp only [Option.bind_some]
            rw [h3]
            rfl
/-- These bits stand at that place. -/
structure Has (p : List Int) (n : Nat) (B : List Bool) : Prop where
  room : n + B.length ≤ 8 * p.length
  bit : ∀ i, i < B.length → (p.getD ((n + i) / 8) 0).toNat.testBit (7 - (n + i) % 8) = B.getD i false
theorem Pk.has {p : List Int} {A B C : List Bool} (h : Pk p (A ++ (B ++ C))) : Has p A.length B := by
  have hl := h.len
  simp only [List.length_append] at hl
  refine ⟨by omega, fun i hi => ?_⟩
  have := h.bit ((A.length + i) / 8) ((A.length + i) % 8) (Nat.mod_lt _ (by decide)) (by omega)
  rw [this, show 8 * ((A.length + i) / 8) + (A.length + i) % 8 = A.length + i by omega]
  simp only [List.getD]
  rw [List.getElem?_append_right (by omega), List.getElem?_append_left (by omega), show A.length + i - A.length = i by omega]
theorem Has.left {p : List Int} {n : Nat} {B C : List Bool} (h : Has p n (B ++ C)) : Has p n B := by
  have hr := h.room
  simp only [List.length_append] at hr
  refine ⟨by omega, fun i hi => ?_⟩
  rw [h.bit i (by simp; omega)]
  simp only [List.getD]
  rw [List.getElem?_append_left hi]
theorem Has.right {p : List Int} {n : Nat} {B C : List Bool} (h : Has p n (B ++ C)) : Has p (n + B.length) C := by
  have hr := h.room
  simp only [List.length_append] at hr
  refine ⟨by omega, fun i hi => ?_⟩
  have := h.bit (B.length + i) (by simp; omega)
  rw [show n + B.length + i = n + (B.length + i) by omega, this]
  simp only [List.getD]
  rw [List.getElem?_append_right (by omega), show B.length + i - B.length = i by omega]
theorem read_bit {p : List Int} {n : Nat} (hb : Bytes p) (hn : n < 8 * p.length) (hp : p.length ≤ 100000) :
    IntKind.u64.wrap (iand .u8 (ishr .u8 (p.getD (n / 8) 0) (isub .i64 7 ((n % 8 : Nat) : Int))) 1) = (((p.getD (n / 8) 0).toNat.testBit (7 - n % 8)).toNat : Int) := by
  have h0 := hb.at (show n / 8 < p.length by omega)
  obtain ⟨c, hc⟩ : ∃ c : Nat, p.getD (n / 8) 0 = (c : Int) := ⟨_, (Int.toNat_of_nonneg h0.1).symm⟩
  have e1 : isub .i64 7 ((n % 8 : Nat) : Int) = ((7 - n % 8 : Nat) : Int) := by rw [isub64 (by omega) (by omega)]; omega
  have hc8 : c < 256 := by rw [hc] at h0; omega
  rw [e1, hc, ishr_nat (k := .u8) (show 7 - n % 8 ≤ 8 by omega)]
  have h1 : c / 2 ^ (7 - n % 8) < 2 ^ 8 := Nat.lt_of_le_of_lt (Nat.div_le_self _ _) hc8
  have h2 := iand_nat (k := .u8) rfl (a := c / 2 ^ (7 - n % 8)) (b := 1) h1 (by decide)
  rw [show ((1 : Nat) : Int) = 1 from rfl] at h2
  rw [h2, Nat.and_one_is_mod, Int.toNat_natCast, Nat.testBit_eq_decide_div_mod_eq, u64_in (by omega) (by omega)]
  rcases Nat.mod_two_eq_zero_or_one (c / 2 ^ (7 - n % 8)) with h | h <;> rw [h] <;> rfl
theorem bits_at : ∀ {k v i : Nat}, i < k → (bitsN k v).getD i false = v.testBit (k - 1 - i)
  | 0, v, i, h => by omega
  | k + 1, v, 0, h => by simp [bitsN]
  | k + 1, v, i + 1, h => by
    rw [bitsN, List.getD_cons_succ, bits_at (by omega)]
    congr 1
    omega
theorem div_bit (v m : Nat) : v / 2 ^ m = 2 * (v / 2 ^ (m + 1)) + (v.testBit m).toNat := by
  rw [Nat.testBit_eq_decide_div_mod_eq, Nat.pow_succ, ← Nat.div_div_eq_div_mul]
  rcases Nat.mod_two_eq_zero_or_one (v / 2 ^ m) with h | h
  · have : decide (v / 2 ^ m % 2 = 1) = false := df (by omega)
    rw [this]; simp only [Bool.toNat_false]; omega
  · have : decide (v / 2 ^ m % 2 = 1) = true := dt h
    rw [this]; simp only [Bool.toNat_true]; omega
theorem get_go {p : List Int} {k v n : Nat} (hb : Bytes p) (hp : p.length ≤ 100000) (hk : k ≤ 64) (hv : v < 2 ^ k) (h : Has p n (bitsN k v)) :
    ∀ (m j : Nat), j + m = k → runL (bits_Reader_Get_L0_step (k : Int) p 0) (((v / 2 ^ m : Nat) : Int), (j : Int), ((n + j : Nat) : Int)) = some ((v : Int), ((n + k : Nat) : Int))
  | 0, j, hj => by
    obtain rfl : j = k := by omega
    refine runL_done ?_
    simp [bits_Reader_Get_L0_step]
  | m + 1, j, hj => by
    have hr := h.room
    rw [bitsN_len] at hr
    have ih := get_go hb hp hk hv h m (j + 1) (by omega)
    have hbit := h.bit j (by rw [bitsN_len]; omega)
    rw [bits_at (by omega), show k - 1 - j = m by omega] at hbit
    have hrb := read_bit (n := n + j) hb (by omega) hp
    rw [hbit] at hrb
    rw [runL_next (s' := (((v / 2 ^ m : Nat) : Int), ((j + 1 : Nat) : Int), ((n + (j + 1) : Nat) : Int))), ih]
    have e1 : iquo .i64 ((n + j : Nat) : Int) 8 = (((n + j) / 8 : Nat) : Int) := iquo64 (b := 8) (by omega)
    have e2 : irem .i64 ((n + j : Nat) : Int) 8 = (((n + j) % 8 : Nat) : Int) := irem64 (b := 8) (by omega)
    have e3 : isub .i64 7 (((n + j) % 8 : Nat) : Int) = ((7 - (n + j) % 8 : Nat) : Int) := by rw [isub64 (by omega) (by omega)]; omega
    have e4 : iadd .i64 (j : Int) 1 = ((j + 1 : Nat) : Int) := by rw [iadd64 (by omega) (by omega)]; omega
    have e5 : iadd .i64 ((n + j : Nat) : Int) 1 = ((n + (j + 1) : Nat) : Int) := by rw [iadd64 (by omega) (by omega)]; omega
    have hq : v / 2 ^ (m + 1) < 2 ^ 63 := by
      have h1 : 2 ^ k = 2 ^ j * 2 ^ (m + 1) := by rw [← Nat.pow_add, hj]
      have h2 : v / 2 ^ (m + 1) < 2 ^ j := (Nat.div_lt_iff_lt_mul (Nat.two_pow_pos _)).2 (by rw [← h1]; exact hv)
      exact Nat.lt_of_lt_of_le h2 (Nat.pow_le_pow_right (by decide) (by omega))
    have e6 : ior .u64 (ishl .u64 ((v / 2 ^ (m + 1) : Nat) : Int) 1) ((v.testBit m).toNat : Int) = ((v / 2 ^ m : Nat) : Int) := by
      have h1 := ishl_nat (k := .u64) rfl (a := v / 2 ^ (m + 1)) (n := 1) (by decide) (show _ < 2 ^ 64 by omega)
      rw [show ((1 : Nat) : Int) = 1 from rfl] at h1
      have hbl : (v.testBit m).toNat < 2 := by cases v.testBit m <;> decide
      rw [h1, ior_nat (k := .u64) rfl (show _ < 2 ^ 64 by omega) (show _ < 2 ^ 64 by omega)]
      have h3 : v / 2 ^ (m + 1) * 2 ^ 1 ||| (v.testBit m).toNat = 2 * (v / 2 ^ (m + 1)) + (v.testBit m).toNat := by
        have := Nat.two_pow_add_eq_or_of_lt (i := 1) (b := (v.testBit m).toNat) (by simpa using hbl) (v / 2 ^ (m + 1))
        rw [Nat.mul_comm]
        simpa using this.symm
      rw [h3, ← div_bit]
    unfold bits_Reader_Get_L0_step
    simp only [e1, e2, e4, e5, Int.toNat_natCast, hrb, e6, dt (show (j : Int) < (k : Int) by omega), dt (show (0 : Int) ≤ (((n + j) / 8 : Nat) : Int) by omega), dt (show (((n + j) / 8 : Nat) : Int) < (p.length : Int) by omega), Bool.and_self, cond_true]
    rw [e3, dt (show (0 : Int) ≤ ((7 - (n + j) % 8 : Nat) : Int) by omega)]
    rfl
theorem get_eq {p : List Int} {k v n : Nat} (hb : Bytes p) (hp : p.length ≤ 100000) (hk : k ≤ 64) (hv : v < 2 ^ k) (h : Has p n (bitsN k v)) :
    bits_Reader_Get (k : Int) p (n : Int) 0 = some ((v : Int), ((n + k : Nat) : Int), 0) := by
  have hr := h.room
  rw [bitsN_len] at hr
  have hg := get_go hb hp hk hv h k 0 (by omega)
  rw [Nat.div_eq_of_lt hv, Nat.add_zero] at hg
  have hg' : runL (bits_Reader_Get_L0_step (k : Int) p 0) (0, 0, (n : Int)) = _ := hg
  unfold bits_Reader_Get bits_within bits_Reader_Err bits_Reader_Left
  rw [if_neg (show ¬ (k : Int) < 0 by omega), if_neg (show ¬ (64 : Int) < k by omega)]
  have e1 : isub .i64 (imul .i64 8 (p.length : Int)) (n : Int) = 8 * p.length - n := by
    rw [imul64 (by omega) (by omega), isub64 (by omega) (by omega)]
  simp only [Option.bind_some, decide_true, cond_true, e1, df (show ¬ (8 * (p.length : Int) - n < k) by omega), cond_false, hg']
/-- The number that bits are. -/
def valB : List Bool → Nat
  | [] => 0
  | b :: l => (if b = true then 2 ^ l.length else 0) + valB l
theorem valB_lt : ∀ (l : List Bool), valB l < 2 ^ l.length
  | [] => by simp [valB]
  | b :: l => by
    have := valB_lt l
    simp only [valB, List.length_cons, Nat.pow_succ]
    split <;> omega
theorem bitsN_congr : ∀ {k n m : Nat}, (∀ i, i < k → n.testBit i = m.testBit i) → bitsN k n = bitsN k m
  | 0, n, m, h => rfl
  | k + 1, n, m, h => by
    simp only [bitsN]
    rw [h k (by omega), bitsN_congr (fun i hi => h i (by omega))]
theorem bitsN_val : ∀ (l : List Bool), bitsN l.length (valB l) = l
  | [] => rfl
  | b :: l => by
    have ih := bitsN_val l
    have hlt := valB_lt l
    simp only [List.length_cons, bitsN, valB]
    cases b with
    | false =>
      simp only [Bool.false_eq_true, if_false, Nat.zero_add, ih]
      rw [Nat.testBit_lt_two_pow hlt]
    | true =>
      simp only [if_true]
      rw [Nat.testBit_two_pow_add_eq, Nat.testBit_lt_two_pow hlt, bitsN_congr (k := l.length) (m := valB l) (fun i hi => Nat.testBit_two_pow_add_gt hi _), ih]
      rfl
/-- Just these bits are left. -/
structure Rem (p : List Int) (n : Nat) (L : List Bool) : Prop where
  has : Has p n L
  all : n + L.length = 8 * p.length
theorem Rem.cut {p : List Int} {n k : Nat} {L : List Bool} (h : Rem p n L) (hk : k ≤ L.length) : Rem p (n + k) (L.drop k) := by
  have e : L = L.take k ++ L.drop k := (List.take_append_drop k L).symm
  have hh := h.has
  rw [e] at hh
  have := hh.right
  rw [List.length_take, Nat.min_eq_left hk] at this
  exact ⟨this, by rw [List.length_drop]; have := h.all; omega⟩
theorem rem_get {p : List Int} {n k : Nat} {L : List Bool} (hb : Bytes p) (hp : p.length ≤ 100000) (hk : k ≤ 64) (h : Rem p n L) (hL : k ≤ L.length) :
    bits_Reader_Get (k : Int) p (n : Int) 0 = some ((valB (L.take k) : Int), ((n + k : Nat) : Int), 0) := by
  have e : L = L.take k ++ L.drop k := (List.take_append_drop k L).symm
  have hlen : (L.take k).length = k := by rw [List.length_take]; omega
  have hh := h.has
  rw [e] at hh
  have h1 := hh.left
  have hv := valB_lt (L.take k)
  rw [hlen] at hv
  rw [← bitsN_val (L.take k), hlen] at h1
  exact get_eq hb hp hk hv h1
theorem rem_none {p : List Int} {n k : Nat} {L : List Bool} (hp : p.length ≤ 100000) (hk : k ≤ 64) (h : Rem p n L) (hL : L.length < k) : bits_Reader_Get (k : Int) p (n : Int) 0 = some (0, (n : Int), 6) := by
  have ha := h.all
  unfold bits_Reader_Get bits_within bits_Reader_Err bits_Reader_Left
  rw [if_neg (show ¬ (k : Int) < 0 by omega), if_neg (show ¬ (64 : Int) < k by omega)]
  have e1 : isub .i64 (imul .i64 8 (p.length : Int)) (n : Int) = 8 * p.length - n := by
    rw [imul64 (by omega) (by omega), isub64 (by omega) (by omega)]
  simp only [Option.bind_some, decide_true, cond_true, e1, dt (show 8 * (p.length : Int) - n < k by omega)]
  rfl
theorem ok_bad {p : List Int} {e n er : Int} (he : e ≠ 0) : code_source_ok e p n er = some (false, e) := by
  unfold code_source_ok bits_Reader_Err code_source_fail
  simp only [Option.bind_some, df he, cond_false]
  cases decide (er = 0) <;> rfl
theorem ok_good {p : List Int} {n : Int} : code_source_ok 0 p n 0 = some (true, 0) := rfl
theorem bit_bad {p : List Int} {k e n er : Int} (he : e ≠ 0) : code_source_bit k e p n er = some (0, e, n, er) := by
  unfold code_source_bit
  rw [ok_bad he]
  rfl
theorem fail_bad {p : List Int} {c e n er : Int} (he : e ≠ 0) : code_source_fail c e p n er = some e := by
  unfold code_source_fail
  rw [df he]
  rfl
theorem must_bad {p : List Int} {b : Bool} {e n er : Int} (he : e ≠ 0) : code_source_must b e p n er = some e := by
  unfold code_source_must
  cases b
  · simp only [cond_false, fail_bad he, Option.bind_some]
  · rfl
theorem bit_rem {p : List Int} {n k : Nat} {L : List Bool} (hb : Bytes p) (hp : p.length ≤ 100000) (hk : k ≤ 64) (h : Rem p n L) (hL : k ≤ L.length) :
    code_source_bit (k : Int) 0 p (n : Int) 0 = some ((valB (L.take k) : Int), 0, ((n + k : Nat) : Int), 0) := by
  unfold code_source_bit
  rw [ok_good]
  simp only [Option.bind_some, cond_true, rem_get hb hp hk h hL, ok_good]
theorem bit_none {p : List Int} {n k : Nat} {L : List Bool} (hp : p.length ≤ 100000) (hk : k ≤ 64) (h : Rem p n L) (hL : L.length < k) : code_source_bit (k : Int) 0 p (n : Int) 0 = some (0, 6, (n : Int), 6) := by
  unfold code_source_bit
  rw [ok_good]
  simp only [Option.bind_some, cond_true, rem_none hp hk h hL]
  rfl
theorem valB_snoc : ∀ (l : List Bool) (b : Bool), valB (l ++ [b]) = 2 * valB l + (if b = true then 1 else 0)
  | [], b => by cases b <;> rfl
  | a :: l, b => by
    have := valB_snoc l b
    simp only [List.cons_append, valB, List.length_append, List.length_singleton, Nat.pow_succ, this]
    split <;> omega
theorem rget2_go {B l2 : List Bool} {k n2 : Int} (hk : B.length ≤ 64) : ∀ (m j : Nat), j + m = B.length → runL (kinfolkref05_Get_L0_2_step k B (B.length : Int) l2 n2) ((valB (B.take j) : Int), (j : Int)) = some ((valB B : Nat) : Int)
  | 0, j, h => by
    refine runL_done ?_
    unfold kinfolkref05_Get_L0_2_step
    dsimp only
    rw [df (show ¬ (j : Int) < (B.length : Int) by omega), cond_false, List.take_of_length_le (by omega)]
  | m + 1, j, h => by
    have hj : j < B.length := by omega
    rw [← rget2_go hk m (j + 1) (by omega)]
    refine runL_next ?_
    have hlt := valB_lt (B.take j)
    have h63 : 2 ^ (B.take j).length ≤ 2 ^ 63 := Nat.pow_le_pow_right (by decide) (by rw [List.length_take]; omega)
    have e1 : imul .u64 (valB (B.take j) : Int) 2 = ((2 * valB (B.take j) : Nat) : Int) := by
      generalize valB (B.take j) = x at *
      rw [imul, u64_in (by omega) (by omega)]; omega
    have e2 : B.getD j false = B[j] := by rw [List.getD_eq_getElem?_getD, List.getElem?_eq_getElem hj]; rfl
    have e3 : iadd .i64 (j : Int) 1 = ((j + 1 : Nat) : Int) := by rw [iadd64 (by omega) (by omega)]; omega
    rw [List.take_succ_eq_append_getElem hj, valB_snoc]
    unfold kinfolkref05_Get_L0_2_step
    simp only [Int.toNat_natCast, Nat.zero_add, dt (show (j : Int) < (B.length : Int) by omega), dt (show (0 : Int) ≤ (j : Int) by omega), Bool.and_self, cond_true, e1, e2, e3]
    generalize valB (B.take j) = x at *
    cases B[j] with
    | false => rfl
    | true =>
      simp only [cond_true, if_true]
      rw [iaddU (by omega) (by omega)]
      rfl
theorem rget1_go {l : List Bool} {k c n2 : Nat} {n : Int} (hc : c ≤ l.length) (hk : c ≤ 64) : ∀ (m j : Nat), j + m = c → runL (kinfolkref05_Get_L0_step (c : Int) c (c : Int) n l) ((valB (l.take j) : Int), (j : Int)) = some ((valB (l.take c) : Nat) : Int)
  | 0, j, h => by
    refine runL_done ?_
    unfold kinfolkref05_Get_L0_step
    dsimp only
    rw [df (show ¬ (j : Int) < (c : Int) by omega), cond_false, show j = c by omega]
  | m + 1, j, h => by
    have hj : j < l.length := by omega
    rw [← rget1_go (k := k) (n2 := n2) hc hk m (j + 1) (by omega)]
    refine runL_next ?_
    have hlt := valB_lt (l.take j)
    have h63 : 2 ^ (l.take j).length ≤ 2 ^ 63 := Nat.pow_le_pow_right (by decide) (by rw [List.length_take]; omega)
    have e1 : imul .u64 (valB (l.take j) : Int) 2 = ((2 * valB (l.take j) : Nat) : Int) := by
      generalize valB (l.take j) = x at *
      rw [imul, u64_in (by omega) (by omega)]; omega
    have e2 : l.getD j false = l[j] := by rw [List.getD_eq_getElem?_getD, List.getElem?_eq_getElem hj]; rfl
    have e3 : iadd .i64 (j : Int) 1 = ((j + 1 : Nat) : Int) := by rw [iadd64 (by omega) (by omega)]; omega
    rw [List.take_succ_eq_append_getElem hj, valB_snoc]
    unfold kinfolkref05_Get_L0_step
    simp only [Int.toNat_natCast, Nat.zero_add, dt (show (j : Int) < (c : Int) by omega), dt (show (0 : Int) ≤ (j : Int) by omega), Bool.and_self, cond_true, e1, e2, e3]
    generalize valB (l.take j) = x at *
    cases l[j] with
    | false => rfl
    | true =>
      simp only [cond_true, if_true]
      rw [iaddU (by omega) (by omega)]
      rfl
theorem rwithin {k : Nat} (hk : k ≤ 64) : kinfolkref05_within (k : Int) = some (k : Int) := by
  unfold kinfolkref05_within
  rw [df (show ¬ (k : Int) < 0 by omega), df (show ¬ (64 : Int) < (k : Int) by omega)]
  rfl
theorem rGet2 {k : Nat} {l : List Bool} (hk : k ≤ 64) (hl : l.length ≤ 1000000) : kinfolkref05_Get_2 (k : Int) l 0 = some (if l.length < k then (0, l, 6) else ((valB (l.take k) : Int), l.drop k, 0)) := by
  unfold kinfolkref05_Get_2
  rw [rwithin hk]
  simp only [Option.bind_some, decide_true, cond_true]
  by_cases h : l.length < k
  · rw [if_pos h, dt (show (l.length : Int) < (k : Int) by omega), cond_true]
  · have hlen : (l.take k).length = k := by rw [List.length_take]; omega
    have hg' : runL (kinfolkref05_Get_L0_2_step (k : Int) (l.take k) ((l.take k).length : Int) l 0) (0, 0) = some ((valB (l.take k) : Nat) : Int) := by
      have := rget2_go (B := l.take k) (l2 := l) (k := (k : Int)) (n2 := 0) (by omega) (l.take k).length 0 (by omega)
      exact this
    have e1 : List.take ((k : Int) - 0).toNat l = l.take k := by rw [Int.sub_zero, Int.toNat_natCast]
    have e2 : List.take ((l.length : Int) - (k : Int)).toNat (List.drop ((k : Int)).toNat l) = l.drop k := by
      rw [Int.toNat_natCast]
      exact List.take_of_length_le (by rw [List.length_drop]; omega)
    rw [if_neg h, df (show ¬ (l.length : Int) < (k : Int) by omega), cond_false]
    simp only [e1, hg', Option.bind_some, e2, dt (Int.le_refl 0), dt (Nat.le_refl 0), dt (show (0 : Int) ≤ (k : Int) by omega), dt (show (k : Int) ≤ (l.length : Int) by omega), dt (Int.le_refl (l.length : Int)), decide_true, Bool.and_self, cond_true]
theorem rGet1 {k : Nat} {l : List Bool} (hk : k ≤ 64) (hl : l.length ≤ 1000000) : kinfolkref05_Get (k : Int) 0 l = some (if l.length < k then (0, l, 6) else ((valB (l.take k) : Int), l.drop k, 0)) := by
  unfold kinfolkref05_Get
  rw [rwithin hk]
  simp only [Option.bind_some, decide_true, cond_true]
  by_cases h : l.length < k
  · rw [if_pos h, dt (show (l.length : Int) < (k : Int) by omega), cond_true]
  · have hg' : runL (kinfolkref05_Get_L0_step (k : Int) k (k : Int) 0 l) (0, 0) = some ((valB (l.take k) : Nat) : Int) := rget1_go (k := 0) (n2 := 0) (by omega) hk k 0 (by omega)
    have e1 : ((k : Int) - 0).toNat = k := by rw [Int.sub_zero, Int.toNat_natCast]
    have e2 : List.take ((l.length : Int) - (k : Int)).toNat (List.drop (0 + ((k : Int)).toNat) l) = l.drop k := by
      rw [Int.toNat_natCast, Nat.zero_add]
      exact List.take_of_length_le (by rw [List.length_drop]; omega)
    rw [if_neg h, df (show ¬ (l.length : Int) < (k : Int) by omega), cond_false]
    simp only [e1, hg', Option.bind_some, e2, dt (Int.le_refl 0), dt (Nat.le_refl 0), dt (show (0 : Int) ≤ (k : Int) by omega), dt (show (k : Int) ≤ (l.length : Int) by omega), dt (Int.le_refl (l.length : Int)), decide_true, Bool.and_self, cond_true]
abbrev RI := (Bool × Idt × List Bool) ⊕ Int
/-- A pair, of what its halves read. -/
def nodeI (rec_ : List Bool → RI) (a b : Bool) (l : List Bool) : RI :=
  match (if a = false then .inl (false, .nil, l) else rec_ l : RI) with
  | .inr e => .inr e
  | .inl (i, t, l1) =>
    match (if b = false then .inl (false, .nil, l1) else rec_ l1 : RI) with
    | .inr e => .inr e
    | .inl (j, u, l2) => if zeroI i t = a ∨ zeroI j u = b ∨ (i = true ∧ j = true) then .inr 6 else .inl (false, .mk i t j u, l2)
/-- The next share: so many levels may be below; where it ends, or the error. -/
def decI : Nat → List Bool → RI
  | 0, l => match l with
    | false :: false :: c :: l => .inl (c, .nil, l)
    | [false, false] => .inr 6
    | _ :: _ :: _ => .inr 3
    | _ => .inr 6
  | k + 1, l => match l with
    | false :: false :: c :: l => .inl (c, .nil, l)
    | [false, false] => .inr 6
    | a :: b :: l => nodeI (decI k) a b l
    | _ => .inr 6
theorem pairTot {N k : Nat} {i j : Bool} {t u : Idt} (hN : k + 1 < N) (hk : k ≤ 1000) (d1 : depthI t ≤ k) (d2 : depthI u ≤ k) : ∃ b v c, id_Pair N i t j u = some (b, v, c) ∧ depthI v ≤ k + 1 := by
  have hp : ∃ b v, id_pair i t j u = some (b, v) ∧ depthI v ≤ k + 1 := by
    unfold id_pair
    simp only [idZero, id_ID_IsOne, id_Zero, id_One, Option.bind_some]
    have hm : depthI (.mk i t j u) ≤ k + 1 := by simp only [depthI]; omega
    cases zeroI i t <;> cases zeroI j u <;> cases i <;> cases j <;> first | exact ⟨_, _, rfl, hm⟩ | exact ⟨_, _, rfl, Nat.zero_le _⟩
  obtain ⟨b, v, h1, h2⟩ := hp
  unfold id_Pair
  rw [h1]
  simp only [Option.bind_some, idDepth (N := N) (i := b) (t := v) (by omega) (by omega), id_Zero]
  cases decide ((16 : Int) < (depthI v : Int))
  · exact ⟨b, v, 0, rfl, h2⟩
  · exact ⟨false, .nil, 3, rfl, Nat.zero_le _⟩
theorem pair_ok {N : Nat} {i j : Bool} {t u : Idt} (h1 : nfI i t) (h2 : nfI j u) (h3 : ¬ (t = .nil ∧ u = .nil ∧ i = j)) (hd : depthI t < 16) (hd2 : depthI u < 16) (hN : 20 ≤ N) : id_Pair N i t j u = some (false, .mk i t j u, 0) := by
  unfold id_Pair
  rw [idpair h1 h2, pairF, if_neg h3]
  have hdp := idDepth (N := N) (i := false) (t := .mk i t j u) (by simp only [depthI]; omega) (by simp only [depthI]; omega)
  simp only [Option.bind_some, hdp, df (show ¬ (16 : Int) < ((depthI (.mk i t j u) : Nat) : Int) by simp only [depthI]; omega), cond_false]
theorem decI_ok : ∀ {k : Nat} {L : List Bool} {i : Bool} {t : Idt} {r : List Bool}, decI k L = .inl (i, t, r) → nfI i t ∧ depthI t ≤ k ∧ r.length + 3 ≤ L.length := by
  have leaf : ∀ {k : Nat} {L : List Bool} {i : Bool} {t : Idt} {r : List Bool} {c : Bool} {l : List Bool}, L = false :: false :: c :: l → (Sum.inl (c, T_id_halves.nil, l) : RI) = .inl (i, t, r) → nfI i t ∧ depthI t ≤ k ∧ r.length + 3 ≤ L.length := by
    rintro k L i t r c l rfl h
    cases h
    exact ⟨nfI_nil _, Nat.zero_le _, by simp⟩
  intro k
  induction k with
  | zero =>
    intro L i t r h
    match L, h with
    | false :: false :: c :: l, h => exact leaf rfl h
    | [false, false], h => cases h
    | true :: b :: l, h => cases h
    | false :: true :: l, h => cases h
    | [a], h => cases a <;> cases h
    | [], h => cases h
  | succ k ih =>
    have node : ∀ {a b : Bool} {l : List Bool} {i : Bool} {t : Idt} {r : List Bool}, (a = true ∨ b = true) → nodeI (decI k) a b l = .inl (i, t, r) → nfI i t ∧ depthI t ≤ k + 1 ∧ r.length + 3 ≤ l.length := by
      intro a b l i t r hab h
      unfold nodeI at h
      split at h
      · cases h
      · rename_i i1 t1 l1 h1
        split at h
        · cases h
        · rename_i j1 u1 l2 h2
          split at h
          · cases h
          · rename_i hc
            cases h
            have a1 : nfI i1 t1 ∧ depthI t1 ≤ k ∧ l1.length ≤ l.length ∧ (a = true → l1.length + 3 ≤ l.length) := by
              cases a with
              | false => simp only [if_true] at h1; cases h1; exact ⟨trivial, Nat.zero_le _, Nat.le_refl _, fun h => by cases h⟩
              | true => simp only [Bool.true_eq_false, if_false] at h1; obtain ⟨x, y, z⟩ := ih h1; exact ⟨x, y, by omega, fun _ => z⟩
            have a2 : nfI j1 u1 ∧ depthI u1 ≤ k ∧ r.length ≤ l1.length ∧ (b = true → r.length + 3 ≤ l1.length) := by
              cases b with
              | false => simp only [if_true] at h2; cases h2; exact ⟨trivial, Nat.zero_le _, Nat.le_refl _, fun h => by cases h⟩
              | true => simp only [Bool.true_eq_false, if_false] at h2; obtain ⟨x, y, z⟩ := ih h2; exact ⟨x, y, by omega, fun _ => z⟩
            refine ⟨⟨a1.1, a2.1, fun hx => ?_⟩, by simp only [depthI]; omega, ?_⟩
            · obtain ⟨rfl, rfl, rfl⟩ := hx
              apply hc
              cases i1 with
              | true => exact .inr (.inr ⟨rfl, rfl⟩)
              | false =>
                cases a with
                | true => exact .inl rfl
                | false =>
                  cases b with
                  | true => exact .inr (.inl rfl)
                  | false => rcases hab with hab | hab <;> cases hab
            · rcases hab with hab | hab
              · have := a1.2.2.2 hab; omega
              · have := a2.2.2.2 hab; omega
    intro L i t r h
    match L, h with
    | false :: false :: c :: l, h => exact leaf rfl h
    | [false, false], h => cases h
    | true :: b :: l, h =>
      obtain ⟨x, y, z⟩ := node (.inl rfl) (show nodeI (decI k) true b l = _ from h)
      exact ⟨x, y, by simp only [List.length_cons]; omega⟩
    | false :: true :: l, h =>
      obtain ⟨x, y, z⟩ := node (.inr rfl) (show nodeI (decI k) false true l = _ from h)
      exact ⟨x, y, by simp only [List.length_cons]; omega⟩
    | [a], h => cases a <;> cases h
    | [], h => cases h
def GoodI (p : List Int) (k : Nat) : RI → Option (Bool × Idt × Int × Int × Int) → Prop
  | .inl (i, t, r), x => ∃ m : Nat, x = some (i, t, 0, (m : Int), 0) ∧ Rem p m r
  | .inr e, x => e ≠ 0 ∧ ∃ (i : Bool) (t : Idt) (m er : Int), x = some (i, t, e, m, er) ∧ depthI t ≤ k
theorem beq_not {x a : Bool} : (x == (!a)) = !(x == a) := by cases x <;> cases a <;> rfl
theorem must_is {p : List Int} {b : Bool} {n er : Int} : code_source_must b 0 p n er = some (if b = true then 0 else 6) := by
  cases b <;> rfl
theorem progI {p : List Int} (hb : Bytes p) (hp : p.length ≤ 100000) : ∀ {N k d n : Nat} {L : List Bool}, d + k = 16 → k + 30 < N → Rem p n L → GoodI p k (decI k L) (code_source_id_2 N (d : Int) 0 p (n : Int) 0)
  | 0, k, d, n, L, hd, hN, h => by omega
  | N + 1, k, d, n, L, hd, hN, h => by
    show GoodI p k (decI k L) (code_source_id_2_b N (code_source_id_2 N) (d : Int) 0 p (n : Int) 0)
    -- two bits are lacking
    have short : L.length < 2 → decI k L = .inr 6 → GoodI p k (decI k L) (code_source_id_2_b N (code_source_id_2 N) (d : Int) 0 p (n : Int) 0) := by
      intro hl he
      rw [he]
      have g1 : code_source_bit 2 0 p (n : Int) 0 = some (0, 6, (n : Int), 6) := bit_none (k := 2) hp (by decide) h hl
      refine ⟨by decide, false, .nil, (n : Int), 6, ?_, Nat.zero_le _⟩
      unfold code_source_id_2_b
      simp only [id_Zero, Option.bind_some, g1, decide_true, cond_true, bit_bad (show (6 : Int) ≠ 0 by decide), df (show ¬ (0 : Int) = 1 by decide), cond_false]
    match L, h, short with
    | [], h, short => exact short (by simp) (by cases k <;> rfl)
    | [a], h, short => exact short (by simp) (by cases k <;> cases a <;> rfl)
    | a :: b :: l, h, short =>
      have hc2 := h.cut (k := 2) (by simp)
      have hc2' : Rem p (n + 2) l := hc2
      have g1 : code_source_bit 2 0 p (n : Int) 0 = some ((valB [a, b] : Int), 0, ((n + 2 : Nat) : Int), 0) := bit_rem (k := 2) hb hp (by decide) h (by simp)
      by_cases hab : a = true ∨ b = true
      · -- a pair
        have q0 : decide (((valB [a, b] : Nat) : Int) = 0) = false := by cases a <;> cases b <;> first | rfl | (rcases hab with h | h <;> cases h)
        have q1 : decide (((valB [a, b] : Nat) : Int) = 1) = !a := by cases a <;> cases b <;> first | rfl | (rcases hab with h | h <;> cases h)
        have q2 : decide (((valB [a, b] : Nat) : Int) = 2) = !b := by cases a <;> cases b <;> first | rfl | (rcases hab with h | h <;> cases h)
        unfold code_source_id_2_b code_source_id_C22
        simp only [id_Zero, Option.bind_some, g1, q0, cond_false, q1, q2, Bool.not_not]
        generalize ((valB [a, b] : Nat) : Int) = q
        cases k with
        | zero =>
          have he : decI 0 (a :: b :: l) = .inr 3 := by cases a <;> cases b <;> first | rfl | (rcases hab with h | h <;> cases h)
          have n3 : (3 : Int) ≠ 0 := by decide
          obtain ⟨x, v, c, t1, t2⟩ := pairTot (N := N) (k := 0) (i := false) (j := false) (t := .nil) (u := .nil) (by omega) (by omega) (by simp [depthI]) (by simp [depthI])
          rw [he]
          have hf : code_source_fail 3 0 p ((n + 2 : Nat) : Int) 0 = some 3 := rfl
          have hv : depthI v ≤ 0 := by
            have hp0 : id_Pair N false T_id_halves.nil false T_id_halves.nil = some (false, .nil, 0) := by
              unfold id_Pair
              have h1 : id_pair false T_id_halves.nil false T_id_halves.nil = some (false, .nil) := rfl
              have h2 := idDepth (N := N) (i := false) (t := .nil) (by simp only [depthI]; omega) (by simp [depthI])
              rw [h1]
              simp only [Option.bind_some, h2]
              rfl
            rw [hp0] at t1
            cases t1
            exact Nat.le_refl _
          refine ⟨n3, x, v, ((n + 2 : Nat) : Int), 0, ?_, hv⟩
          simp only [dt (show (d : Int) = 16 by omega), cond_true, hf, Option.bind_some, ok_bad n3, cond_false, idZero, id_ID_IsOne, must_bad n3, t1]
          cases (zeroI false T_id_halves.nil == !a) <;> cases (zeroI false T_id_halves.nil == !b) <;> rfl
        | succ k =>
          have hdec : decI (k + 1) (a :: b :: l) = nodeI (decI k) a b l := by cases a <;> cases b <;> first | rfl | (rcases hab with h | h <;> cases h)
          rw [hdec]
          have ed : iadd .i64 (d : Int) 1 = ((d + 1 : Nat) : Int) := by rw [iadd64 (by omega) (by omega)]; omega
          simp only [df (show ¬ (d : Int) = 16 by omega), cond_false, Option.bind_some, ok_good, cond_true, idZero, id_ID_IsOne]
          -- the left half
          have left : ∃ x, code_source_id_C30 (code_source_id_2 N) (d : Int) q a 0 p ((n + 2 : Nat) : Int) 0 = x ∧
              (match (if a = false then .inl (false, .nil, l) else decI k l : RI) with
              | .inl (i, t, l1) => ∃ m : Nat, x = some (0, (m : Int), 0, i, t) ∧ Rem p m l1 ∧ nfI i t ∧ depthI t ≤ k
              | .inr e => e ≠ 0 ∧ ∃ (i : Bool) (t : Idt) (m er : Int), x = some (e, m, er, i, t) ∧ depthI t ≤ k) := by
            refine ⟨_, rfl, ?_⟩
            unfold code_source_id_C30
            cases a with
            | false => exact ⟨n + 2, rfl, hc2', trivial, Nat.zero_le _⟩
            | true =>
              have ih := progI hb hp (N := N) (k := k) (d := d + 1) (n := n + 2) (L := l) (by omega) (by omega) hc2'
              simp only [Bool.true_eq_false, if_false, cond_true, ed]
              cases hq : decI k l with
              | inl z =>
                obtain ⟨i, t, l1⟩ := z
                rw [hq] at ih
                obtain ⟨m, e1, e2⟩ := ih
                obtain ⟨o1, o2, -⟩ := decI_ok hq
                exact ⟨m, by rw [e1]; rfl, e2, o1, o2⟩
              | inr e =>
                rw [hq] at ih
                obtain ⟨e0, i, t, m, er, e1, e2⟩ := ih
                exact ⟨e0, i, t, m, er, by rw [e1]; rfl, e2⟩
          obtain ⟨x, hx, left⟩ := left
          rw [hx]
          unfold nodeI
          cases hl : (if a = false then .inl (false, .nil, l) else decI k l : RI) with
          | inr e =>
            rw [hl] at left
            obtain ⟨e0, i, t, m, er, rfl, dt_⟩ := left
            obtain ⟨x, v, c, t1, t2⟩ := pairTot (N := N) (k := k) (i := i) (j := false) (t := t) (u := .nil) (by omega) (by omega) dt_ (by simp [depthI])
            refine ⟨e0, x, v, m, er, ?_, t2⟩
            simp only [Option.bind_some, ok_bad e0, cond_false, must_bad e0, t1]
            cases (zeroI i t == !a) <;> cases (zeroI false T_id_halves.nil == !b) <;> cases i <;> rfl
          | inl z =>
            obtain ⟨i, t, l1⟩ := z
            rw [hl] at left
            obtain ⟨m, rfl, hm, ni, di⟩ := left
            simp only [Option.bind_some, ok_good, cond_true]
            -- the right half
            have right : ∃ x, code_source_id_C40 (code_source_id_2 N) (d : Int) q b 0 p (m : Int) 0 i t = x ∧
                (match (if b = false then .inl (false, .nil, l1) else decI k l1 : RI) with
                | .inl (j, u, l2) => ∃ m : Nat, x = some (0, (m : Int), 0, j, u) ∧ Rem p m l2 ∧ nfI j u ∧ depthI u ≤ k
                | .inr e => e ≠ 0 ∧ ∃ (j : Bool) (u : Idt) (m er : Int), x = some (e, m, er, j, u) ∧ depthI u ≤ k) := by
              refine ⟨_, rfl, ?_⟩
              unfold code_source_id_C40
              cases b with
              | false => exact ⟨m, rfl, hm, trivial, Nat.zero_le _⟩
              | true =>
                have ih := progI hb hp (N := N) (k := k) (d := d + 1) (n := m) (L := l1) (by omega) (by omega) hm
                simp only [Bool.true_eq_false, if_false, cond_true, ed]
                cases hq : decI k l1 with
                | inl z =>
                  obtain ⟨j, u, l2⟩ := z
                  rw [hq] at ih
                  obtain ⟨m, e1, e2⟩ := ih
                  obtain ⟨o1, o2, -⟩ := decI_ok hq
                  exact ⟨m, by rw [e1]; rfl, e2, o1, o2⟩
                | inr e =>
                  rw [hq] at ih
                  obtain ⟨e0, j, u, m, er, e1, e2⟩ := ih
                  exact ⟨e0, j, u, m, er, by rw [e1]; rfl, e2⟩
            obtain ⟨x, hx, right⟩ := right
            rw [hx]
            cases hr : (if b = false then .inl (false, .nil, l1) else decI k l1 : RI) with
            | inr e =>
              rw [hr] at right
              obtain ⟨e0, j, u, m2, er, rfl, du⟩ := right
              obtain ⟨x, v, c, t1, t2⟩ := pairTot (N := N) (k := k) (i := i) (j := j) (t := t) (u := u) (by omega) (by omega) di du
              refine ⟨e0, x, v, m2, er, ?_, t2⟩
              simp only [Option.bind_some, must_bad e0, t1]
              cases (zeroI i t == !a) <;> cases (zeroI j u == !b) <;> cases i <;> rfl
            | inl z =>
              obtain ⟨j, u, l2⟩ := z
              rw [hr] at right
              obtain ⟨m2, rfl, hm2, nj, dj⟩ := right
              obtain ⟨x, v, c, t1, t2⟩ := pairTot (N := N) (k := k) (i := i) (j := j) (t := t) (u := u) (by omega) (by omega) di dj
              by_cases hc : zeroI i t = a ∨ zeroI j u = b ∨ (i = true ∧ j = true)
              · simp only [if_pos hc]
                refine ⟨by decide, x, v, (m2 : Int), 0, ?_, t2⟩
                simp only [Option.bind_some, must_is, t1, beq_not]
                rcases hc with hc | hc | ⟨rfl, rfl⟩
                · subst hc
                  simp only [beq_self_eq_true, Bool.not_true, cond_false, Bool.false_eq_true, if_false]
                · subst hc
                  simp only [beq_self_eq_true, Bool.not_true, cond_false, Bool.false_eq_true, if_false]
                  cases (zeroI i t == a) <;> rfl
                · simp only [Bool.not_true, Bool.false_eq_true, if_false, cond_true]
                  cases (zeroI true t == a) <;> cases (zeroI true u == b) <;> rfl
              · simp only [if_neg hc]
                have c1 : (zeroI i t == a) = false := by
                  cases hz : zeroI i t == a with
                  | false => rfl
                  | true => exact absurd (.inl (eq_of_beq hz)) hc
                have c2 : (zeroI j u == b) = false := by
                  cases hz : zeroI j u == b with
                  | false => rfl
                  | true => exact absurd (.inr (.inl (eq_of_beq hz))) hc
                have c3 : ¬ (i = true ∧ j = true) := fun hx => hc (.inr (.inr hx))
                have hk := pair_ok (N := N) ni nj (fun hx => by
                  obtain ⟨rfl, rfl, rfl⟩ := hx
                  cases i with
                  | true => exact c3 ⟨rfl, rfl⟩
                  | false =>
                    cases a with
                    | true => cases c1
                    | false => cases b with
                      | true => cases c2
                      | false => rcases hab with h | h <;> cases h) (by omega) (by omega) (by omega)
                refine ⟨m2, ?_, hm2⟩
                simp only [Option.bind_some, must_is, beq_not, c1, c2, Bool.not_false, cond_true, hk, if_true]
                cases i with
                | false => rfl
                | true =>
                  cases j with
                  | true => exact absurd ⟨rfl, rfl⟩ c3
                  | false => rfl
      · obtain ⟨rfl, rfl⟩ : a = false ∧ b = false := by cases a <;> cases b <;> simp_all
        have g1' : code_source_bit 2 0 p (n : Int) 0 = some (0, 0, ((n + 2 : Nat) : Int), 0) := g1
        cases l with
        | nil =>
          have he : decI k [false, false] = .inr 6 := by cases k <;> rfl
          rw [he]
          have g2 : code_source_bit 1 0 p ((n + 2 : Nat) : Int) 0 = some (0, 6, ((n + 2 : Nat) : Int), 6) := bit_none (k := 1) hp (by decide) hc2' (by simp)
          refine ⟨by decide, false, .nil, ((n + 2 : Nat) : Int), 6, ?_, Nat.zero_le _⟩
          unfold code_source_id_2_b
          simp only [id_Zero, Option.bind_some, g1', decide_true, cond_true, g2, df (show ¬ (0 : Int) = 1 by decide), cond_false]
        | cons c l =>
          have he : decI k (false :: false :: c :: l) = .inl (c, .nil, l) := by cases k <;> rfl
          rw [he]
          have g2 : code_source_bit 1 0 p ((n + 2 : Nat) : Int) 0 = some ((valB [c] : Int), 0, ((n + 2 + 1 : Nat) : Int), 0) := bit_rem (k := 1) hb hp (by decide) hc2' (by simp)
          refine ⟨n + 2 + 1, ?_, hc2'.cut (k := 1) (by simp)⟩
          unfold code_source_id_2_b
          simp only [id_Zero, id_One, Option.bind_some, g1', decide_true, cond_true, g2]
          cases c <;> rfl
theorem kind_one {a : Bool} {v : Idt} : decide (kindI a v = 1) = a := by cases a <;> cases v <;> rfl
theorem kind_z {a : Bool} {v : Idt} : decide (kindI a v = 0) = zeroI a v := by cases a <;> cases v <;> rfl
abbrev zeroR : T_kinfolkref01_ID := T_kinfolkref01_ID.mk 0 T_kinfolkref01_ID.nil T_kinfolkref01_ID.nil
def RGoodI : RI → Option (T_kinfolkref01_ID × Int × List Bool × Int) → Prop
  | .inl (i, t, r), x => x = some (fromI i t, 0, r, 0)
  | .inr e, x => e ≠ 0 ∧ ∃ (l : List Bool) (er : Int), x = some (zeroR, e, l, er)
theorem pair_check {α : Type} {zi zj a b i j : Bool} {X Y : α} (fa : a = false → zi = true) (fb : b = false → zj = true) :
    (bif zi then (bif !a then (bif zj then (bif !b then (bif i then (bif j then X else Y) else Y) else X) else (bif i then (bif j then X else Y) else Y)) else X) else (bif zj then (bif !b then (bif i then (bif j then X else Y) else Y) else X) else (bif i then (bif j then X else Y) else Y))) =
      if zi = a ∨ zj = b ∨ (i = true ∧ j = true) then X else Y := by
  cases a <;> cases b <;> cases zi <;> cases zj <;> cases i <;> cases j <;> simp_all
theorem rprogI : ∀ {N k d : Nat} {L : List Bool}, d + k = 16 → k < N → L.length ≤ 1000000 → RGoodI (decI k L) (kinfolkref07_GetID_4 N (d : Int) L 0)
  | 0, k, d, L, hd, hN, hl => by omega
  | N + 1, k, d, L, hd, hN, hl => by
    show RGoodI (decI k L) (kinfolkref07_GetID_4_b (kinfolkref07_GetID_4 N) (d : Int) L 0)
    have n6 : ¬ (6 : Int) = 0 := by decide
    have short : L.length < 2 → decI k L = .inr 6 → RGoodI (decI k L) (kinfolkref07_GetID_4_b (kinfolkref07_GetID_4 N) (d : Int) L 0) := by
      intro hlt he
      rw [he]
      have g1 := rGet2 (k := 2) (l := L) (by decide) hl
      rw [if_pos hlt] at g1
      have g1' : kinfolkref05_Get_2 2 L 0 = some (0, L, 6) := g1
      refine ⟨by decide, L, 6, ?_⟩
      unfold kinfolkref07_GetID_4_b
      simp only [g1', Option.bind_some, df n6, cond_false, kinfolkref01_Zero]
    match L, hl, short with
    | [], hl, short => exact short (by simp) (by cases k <;> rfl)
    | [a], hl, short => exact short (by simp) (by cases k <;> cases a <;> rfl)
    | a :: b :: l, hl, short =>
      simp only [List.length_cons] at hl
      have g1 : kinfolkref05_Get_2 2 (a :: b :: l) 0 = some ((valB [a, b] : Int), l, 0) := by
        have := rGet2 (k := 2) (l := a :: b :: l) (by decide) (by simp only [List.length_cons]; omega)
        rw [if_neg (by simp)] at this
        exact this
      by_cases hab : a = true ∨ b = true
      · have q0 : decide (((valB [a, b] : Nat) : Int) = 0) = false := by cases a <;> cases b <;> first | rfl | (rcases hab with h | h <;> cases h)
        have q1 : decide (((valB [a, b] : Nat) : Int) = 1) = !a := by cases a <;> cases b <;> first | rfl | (rcases hab with h | h <;> cases h)
        have q2 : decide (((valB [a, b] : Nat) : Int) = 2) = !b := by cases a <;> cases b <;> first | rfl | (rcases hab with h | h <;> cases h)
        unfold kinfolkref07_GetID_4_b kinfolkref07_GetID_C21 kinfolkref01_Zero
        simp only [Option.bind_some, g1, q0, cond_false, decide_true, cond_true, q1, q2, Bool.not_not]
        generalize ((valB [a, b] : Nat) : Int) = q
        cases k with
        | zero =>
          have he : decI 0 (a :: b :: l) = .inr 3 := by cases a <;> cases b <;> first | rfl | (rcases hab with h | h <;> cases h)
          rw [he, dt (show (d : Int) = 16 by omega)]
          exact ⟨by decide, l, 0, rfl⟩
        | succ k =>
          have hdec : decI (k + 1) (a :: b :: l) = nodeI (decI k) a b l := by cases a <;> cases b <;> first | rfl | (rcases hab with h | h <;> cases h)
          rw [hdec]
          have ed : iadd .i64 (d : Int) 1 = ((d + 1 : Nat) : Int) := by rw [iadd64 (by omega) (by omega)]; omega
          rw [df (show ¬ (d : Int) = 16 by omega), cond_false]
          have left : ∃ x, kinfolkref07_GetID_C45_2 (kinfolkref07_GetID_4 N) (d : Int) q zeroR zeroR a l 0 = x ∧
              (match (if a = false then .inl (false, .nil, l) else decI k l : RI) with
              | .inl (i, t, l1) => x = some (.inl (fromI i t, l1, 0)) ∧ l1.length ≤ l.length ∧ (a = false → zeroI i t = true)
              | .inr e => e ≠ 0 ∧ ∃ (l' : List Bool) (er : Int), x = some (.inr (zeroR, e, l', er))) := by
            refine ⟨_, rfl, ?_⟩
            unfold kinfolkref07_GetID_C45_2
            cases a with
            | false => exact ⟨rfl, Nat.le_refl _, fun _ => rfl⟩
            | true =>
              have ih := rprogI (N := N) (k := k) (d := d + 1) (L := l) (by omega) (by omega) (by omega)
              simp only [Bool.true_eq_false, if_false, cond_true, ed, kinfolkref01_Zero]
              cases hq : decI k l with
              | inl z =>
                obtain ⟨i, t, l1⟩ := z
                rw [hq] at ih
                have ih' : kinfolkref07_GetID_4 N ((d + 1 : Nat) : Int) l 0 = some (fromI i t, 0, l1, 0) := ih
                obtain ⟨o1, o2, o3⟩ := decI_ok hq
                exact ⟨by rw [ih']; rfl, by omega, fun h => by cases h⟩
              | inr e =>
                rw [hq] at ih
                obtain ⟨e0, l', er, e1⟩ := ih
                exact ⟨e0, l', er, by rw [e1]; simp only [Option.bind_some, df e0, cond_false]⟩
          obtain ⟨x, hx, left⟩ := left
          rw [hx]
          unfold nodeI
          cases hlq : (if a = false then .inl (false, .nil, l) else decI k l : RI) with
          | inr e =>
            rw [hlq] at left
            obtain ⟨e0, l', er, rfl⟩ := left
            exact ⟨e0, l', er, rfl⟩
          | inl z =>
            obtain ⟨i, t, l1⟩ := z
            rw [hlq] at left
            obtain ⟨rfl, hl1, fa⟩ := left
            simp only [Option.bind_some]
            have right : ∃ x, kinfolkref07_GetID_C58 (kinfolkref07_GetID_4 N) (d : Int) q (fromI i t) zeroR b l1 0 = x ∧
                (match (if b = false then .inl (false, .nil, l1) else decI k l1 : RI) with
                | .inl (j, u, l2) => x = some (.inl (fromI j u, l2, 0)) ∧ (b = false → zeroI j u = true)
                | .inr e => e ≠ 0 ∧ ∃ (l' : List Bool) (er : Int), x = some (.inr (zeroR, e, l', er))) := by
              refine ⟨_, rfl, ?_⟩
              unfold kinfolkref07_GetID_C58
              cases b with
              | false => exact ⟨rfl, fun _ => rfl⟩
              | true =>
                have ih := rprogI (N := N) (k := k) (d := d + 1) (L := l1) (by omega) (by omega) (by omega)
                simp only [Bool.true_eq_false, if_false, cond_true, ed, kinfolkref01_Zero]
                cases hq : decI k l1 with
                | inl z =>
                  obtain ⟨j, u, l2⟩ := z
                  rw [hq] at ih
                  have ih' : kinfolkref07_GetID_4 N ((d + 1 : Nat) : Int) l1 0 = some (fromI j u, 0, l2, 0) := ih
                  exact ⟨by rw [ih']; rfl, fun h => by cases h⟩
                | inr e =>
                  rw [hq] at ih
                  obtain ⟨e0, l', er, e1⟩ := ih
                  exact ⟨e0, l', er, by rw [e1]; simp only [Option.bind_some, df e0, cond_false]⟩
            obtain ⟨x, hx, right⟩ := right
            rw [hx]
            cases hrq : (if b = false then .inl (false, .nil, l1) else decI k l1 : RI) with
            | inr e =>
              rw [hrq] at right
              obtain ⟨e0, l', er, rfl⟩ := right
              exact ⟨e0, l', er, rfl⟩
            | inl z =>
              obtain ⟨j, u, l2⟩ := z
              rw [hrq] at right
              obtain ⟨rfl, fb⟩ := right
              obtain ⟨x1, y1, f1⟩ := fromI_kind i t
              obtain ⟨x2, y2, f2⟩ := fromI_kind j u
              have hbody := pair_check (zi := zeroI i t) (zj := zeroI j u) (a := a) (b := b) (i := i) (j := j) (X := (some (zeroR, (6 : Int), l2, (0 : Int)) : Option (T_kinfolkref01_ID × Int × List Bool × Int))) (Y := some (T_kinfolkref01_ID.mk 2 (fromI i t) (fromI j u), 0, l2, 0)) fa fb
              have key : ∀ {X : Option (T_kinfolkref01_ID × Int × List Bool × Int)}, X = (if zeroI i t = a ∨ zeroI j u = b ∨ (i = true ∧ j = true) then some (zeroR, (6 : Int), l2, (0 : Int)) else some (T_kinfolkref01_ID.mk 2 (fromI i t) (fromI j u), 0, l2, 0)) →
                  RGoodI (if zeroI i t = a ∨ zeroI j u = b ∨ (i = true ∧ j = true) then .inr 6 else .inl (false, .mk i t j u, l2)) X := by
                intro X hX
                by_cases hc : zeroI i t = a ∨ zeroI j u = b ∨ (i = true ∧ j = true)
                · rw [if_pos hc] at hX ⊢
                  exact ⟨by decide, l2, 0, hX⟩
                · rw [if_neg hc] at hX ⊢
                  exact hX
              refine key ?_
              rw [← hbody, f1, f2]
              simp only [Option.bind_some, kind_z, kind_one]
      · obtain ⟨rfl, rfl⟩ : a = false ∧ b = false := by cases a <;> cases b <;> simp_all
        have g1' : kinfolkref05_Get_2 2 (false :: false :: l) 0 = some (0, l, 0) := g1
        cases l with
        | nil =>
          have he : decI k [false, false] = .inr 6 := by cases k <;> rfl
          rw [he]
          have g2 : kinfolkref05_Get_2 1 [] 0 = some (0, [], 6) := rGet2 (k := 1) (l := []) (by decide) (by simp)
          refine ⟨by decide, [], 6, ?_⟩
          unfold kinfolkref07_GetID_4_b kinfolkref07_GetID_C21 kinfolkref01_Zero
          simp only [Option.bind_some, g1', decide_true, cond_true, g2, df n6, cond_false]
        | cons c l =>
          have he : decI k (false :: false :: c :: l) = .inl (c, .nil, l) := by cases k <;> rfl
          rw [he]
          have g2 : kinfolkref05_Get_2 1 (c :: l) 0 = some ((valB [c] : Int), l, 0) := by
            have := rGet2 (k := 1) (l := c :: l) (by decide) (by simp only [List.length_cons] at hl ⊢; omega)
            rw [if_neg (by simp)] at this
            exact this
          show _ = _
          unfold kinfolkref07_GetID_4_b kinfolkref07_GetID_C21
          simp only [Option.bind_some, g1', decide_true, cond_true, g2]
          cases c <;> rfl
theorem rGetID {N : Nat} {L : List Bool} (hl : L.length ≤ 1000000) : kinfolkref07_GetID_3 N 0 0 L = kinfolkref07_GetID_4 (N + 1) 0 L 0 := by
  show _ = kinfolkref07_GetID_4_b (kinfolkref07_GetID_4 N) 0 L 0
  have h1 := rGet1 (k := 2) (l := L) (by decide) hl
  have h2 := rGet2 (k := 2) (l := L) (by decide) hl
  have h1' : kinfolkref05_Get 2 0 L = _ := h1
  have h2' : kinfolkref05_Get_2 2 L 0 = _ := h2
  unfold kinfolkref07_GetID_3 kinfolkref07_GetID_4_b
  rw [h1', h2']
  rfl
def bitsOf : List Int → List Bool
  | [] => []
  | x :: p => bitsN 8 x.toNat ++ bitsOf p
theorem bitsOf_len : ∀ (p : List Int), (bitsOf p).length = 8 * p.length
  | [] => rfl
  | x :: p => by simp only [bitsOf, List.length_append, bitsN_len, bitsOf_len p, List.length_cons]; omega
theorem bitsOf_app : ∀ (p q : List Int), bitsOf (p ++ q) = bitsOf p ++ bitsOf q
  | [], q => rfl
  | x :: p, q => by simp only [List.cons_append, bitsOf, bitsOf_app p q, List.append_assoc]
theorem bitsOf_at : ∀ {p : List Int} {i : Nat}, i < 8 * p.length → (p.getD (i / 8) 0).toNat.testBit (7 - i % 8) = (bitsOf p).getD i false
  | [], i, h => by simp at h
  | x :: p, i, h => by
    simp only [bitsOf]
    rw [List.getD_eq_getElem?_getD (l := bitsN 8 x.toNat ++ bitsOf p)]
    by_cases hi : i < 8
    · rw [List.getElem?_append_left (by rw [bitsN_len]; exact hi), ← List.getD_eq_getElem?_getD, bits_at hi, Nat.div_eq_of_lt hi, Nat.mod_eq_of_lt hi]
      rfl
    · rw [List.getElem?_append_right (by rw [bitsN_len]; omega), bitsN_len, ← List.getD_eq_getElem?_getD, ← bitsOf_at (p := p) (i := i - 8) (by simp only [List.length_cons] at h; omega)]
      rw [show i / 8 = (i - 8) / 8 + 1 by omega, show i % 8 = (i - 8) % 8 by omega, List.getD_cons_succ]
theorem rem_all (p : List Int) : Rem p 0 (bitsOf p) := by
  have hl := bitsOf_len p
  refine ⟨⟨by omega, fun i hi => ?_⟩, by omega⟩
  rw [Nat.zero_add]
  exact bitsOf_at (by omega)
theorem byte_bit : ∀ x : Fin 256, ∀ k : Fin 8, decide (128 ≤ (x.val * 2 ^ k.val) % 256) = x.val.testBit (7 - k.val) := by decide +kernel
theorem bitsN_take : ∀ {k j v : Nat}, j < k → (bitsN k v).take (j + 1) = (bitsN k v).take j ++ [v.testBit (k - 1 - j)] := by
  intro k j v h
  rw [List.take_succ_eq_append_getElem (by rw [bitsN_len]; exact h)]
  have := bits_at (v := v) h
  rw [List.getD_eq_getElem?_getD, List.getElem?_eq_getElem (by rw [bitsN_len]; exact h)] at this
  simp only [Option.getD_some] at this
  rw [this]
theorem rbyte_go {p : List Int} {n n2 : Int} {x : Nat} {l0 : List Bool} (hx : x < 256) (hl : l0.length ≤ 1000000) : ∀ (m k : Nat), k + m = 8 →
    runL (kinfolkref05_Bits_L1_3_step p n n2) (((x * 2 ^ k % 256 : Nat) : Int), (k : Int), l0 ++ (bitsN 8 x).take k) = some (l0 ++ bitsN 8 x)
  | 0, k, h => by
    obtain rfl : k = 8 := by omega
    refine runL_done ?_
    unfold kinfolkref05_Bits_L1_3_step
    simp only [df (show ¬ ((8 : Nat) : Int) < 8 by decide), cond_false]
    rw [List.take_of_length_le (by rw [bitsN_len]; exact Nat.le_refl _)]
  | m + 1, k, h => by
    have hk : k < 8 := by omega
    rw [← rbyte_go (p := p) (n := n) (n2 := n2) hx hl m (k + 1) (by omega)]
    refine runL_next ?_
    have hb := byte_bit ⟨x, hx⟩ ⟨k, hk⟩
    simp only at hb
    have e1 : imul .u8 ((x * 2 ^ k % 256 : Nat) : Int) 2 = ((x * 2 ^ (k + 1) % 256 : Nat) : Int) := by
      rw [Nat.pow_succ, ← Nat.mul_assoc]
      generalize x * 2 ^ k = w
      rw [imul, IntKind.wrap_u8]; omega
    have e2 : decide ((128 : Int) ≤ ((x * 2 ^ k % 256 : Nat) : Int)) = x.testBit (7 - k) := by
      rw [← hb]
      apply decide_eq_decide.2
      omega
    have e3 : iadd .i64 (k : Int) 1 = ((k + 1 : Nat) : Int) := by rw [iadd64 (by omega) (by omega)]; omega
    have e4 : l0 ++ (bitsN 8 x).take (k + 1) = (l0 ++ (bitsN 8 x).take k) ++ [x.testBit (7 - k)] := by
      rw [bitsN_take hk, List.append_assoc]
    unfold kinfolkref05_Bits_L1_3_step
    simp only [dt (show (k : Int) < 8 by omega), cond_true, e1, e2, e3]
    rw [fits_ok (by simp only [List.length_append, List.length_take, bitsN_len, List.length_singleton]; omega), cond_true, e4]
theorem rbits_go {p : List Int} (hb : Bytes p) (hp : p.length ≤ 10000) : ∀ (m j : Nat), j + m = p.length → runL (kinfolkref05_Bits_L0_2_step p (p.length : Int)) ((j : Int), bitsOf (p.take j)) = some (bitsOf p)
  | 0, j, h => by
    refine runL_done ?_
    unfold kinfolkref05_Bits_L0_2_step
    dsimp only
    rw [df (show ¬ (j : Int) < (p.length : Int) by omega), cond_false, List.take_of_length_le (by omega)]
  | m + 1, j, h => by
    have hj : j < p.length := by omega
    rw [← rbits_go hb hp m (j + 1) (by omega)]
    refine runL_next ?_
    have hx := hb.at hj
    have ex : p.getD j 0 = p[j] := by rw [List.getD_eq_getElem?_getD, List.getElem?_eq_getElem hj]; rfl
    rw [ex] at hx
    obtain ⟨v, hv⟩ : ∃ v : Nat, p[j] = (v : Int) := ⟨_, (Int.toNat_of_nonneg hx.1).symm⟩
    have hv256 : v < 256 := by omega
    have hr := rbyte_go (p := p) (n := (p.length : Int)) (n2 := (j : Int)) (l0 := bitsOf (p.take j)) hv256 (by rw [bitsOf_len, List.length_take]; omega) 8 0 (by omega)
    rw [Nat.pow_zero, Nat.mul_one, Nat.mod_eq_of_lt hv256, List.take_zero, List.append_nil] at hr
    have hr' : runL (kinfolkref05_Bits_L1_3_step p (p.length : Int) (j : Int)) ((v : Int), 0, bitsOf (p.take j)) = some (bitsOf (p.take j) ++ bitsN 8 v) := hr
    have e3 : iadd .i64 (j : Int) 1 = ((j + 1 : Nat) : Int) := by rw [iadd64 (by omega) (by omega)]; omega
    have e4 : bitsOf (p.take (j + 1)) = bitsOf (p.take j) ++ bitsN 8 v := by
      rw [List.take_succ_eq_append_getElem hj, bitsOf_app]
      simp only [bitsOf, List.append_nil, hv, Int.toNat_natCast]
    unfold kinfolkref05_Bits_L0_2_step
    simp only [dt (show (j : Int) < (p.length : Int) by omega), dt (show (0 : Int) ≤ (j : Int) by omega), Bool.and_self, cond_true, Int.toNat_natCast, ex, hv, hr', Option.bind_some, e3, e4]
theorem rBits {p : List Int} (hb : Bytes p) (hp : p.length ≤ 10000) : kinfolkref05_Bits p = some (bitsOf p) := by
  have h := rbits_go hb hp p.length 0 (by omega)
  have h' : runL (kinfolkref05_Bits_L0_2_step p (p.length : Int)) (0, []) = _ := h
  unfold kinfolkref05_Bits
  rw [h']
  rfl
/-- What the decoder shows of its answer. -/
def partI : RI → Bool × Idt × Int
  | .inl (i, t, _) => (i, t, 0)
  | .inr e => (false, .nil, e)
theorem getID_is {N : Nat} {p : List Int} (hN : 100 ≤ N) (hb : Bytes p) (hp : p.length ≤ 10000) : ∃ m er : Int, code_GetID N p 0 0 = some ((partI (decI 16 (bitsOf p))).1, (partI (decI 16 (bitsOf p))).2.1, (partI (decI 16 (bitsOf p))).2.2, m, er) := by
  have h := progI hb (by omega) (N := N) (k := 16) (d := 0) (n := 0) (by omega) (by omega) (rem_all p)
  unfold code_GetID
  revert h
  cases hd : decI 16 (bitsOf p) with
  | inl x =>
    obtain ⟨i, t, r⟩ := x
    rintro ⟨m, h, -⟩
    have h' : code_source_id_2 N 0 0 p 0 0 = _ := h
    exact ⟨m, 0, by rw [h']; rfl⟩
  | inr e =>
    rintro ⟨he, i, t, m, er, h, -⟩
    have h' : code_source_id_2 N 0 0 p 0 0 = _ := h
    exact ⟨m, er, by rw [h']; simp only [Option.bind_some, df he, cond_false]; rfl⟩
theorem rGetID_is {N : Nat} {L : List Bool} (hN : 100 ≤ N) (hl : L.length ≤ 90000) : ∃ l er, kinfolkref07_GetID_3 N 0 0 L = some (fromI (partI (decI 16 L)).1 (partI (decI 16 L)).2.1, (partI (decI 16 L)).2.2, l, er) := by
  rw [rGetID (by omega)]
  have h := rprogI (N := N + 1) (k := 16) (d := 0) (L := L) (by omega) (by omega) (by omega)
  revert h
  cases hd : decI 16 L with
  | inl x => obtain ⟨i, t, r⟩ := x; intro h; exact ⟨r, 0, h⟩
  | inr e => rintro ⟨he, l, er, h⟩; exact ⟨l, er, h⟩
def endR (r : List Bool) : Int := if 8 ≤ r.length ∨ true ∈ r then 6 else 0
theorem valB_zero : ∀ {r : List Bool}, valB r = 0 ↔ ¬ true ∈ r
  | [] => by simp [valB]
  | b :: l => by
    have ih := valB_zero (r := l)
    have := Nat.two_pow_pos l.length
    cases b with
    | true => simp only [valB, if_true, List.mem_cons, true_or, not_true, iff_false]; omega
    | false => simp [valB, ih]
theorem endProg {p : List Int} {n : Nat} {r : List Bool} (hb : Bytes p) (hp : p.length ≤ 100000) (h : Rem p n r) : ∃ x, bits_Reader_End p (n : Int) 0 = some (endR r, x) := by
  have ha := h.all
  have e1 : isub .i64 (imul .i64 8 (p.length : Int)) (n : Int) = (r.length : Int) := by
    rw [imul64 (by omega) (by omega), isub64 (by omega) (by omega)]; omega
  unfold bits_Reader_End bits_Reader_Err bits_Reader_Left
  simp only [Option.bind_some, decide_true, cond_true, e1]
  by_cases h8 : 8 ≤ r.length
  · rw [dt (show (8 : Int) ≤ (r.length : Int) by omega)]
    exact ⟨6, by simp [endR, h8, bits_Reader_fail]⟩
  · rw [df (show ¬ (8 : Int) ≤ (r.length : Int) by omega)]
    have hg := rem_get (k := r.length) hb hp (by omega) h (Nat.le_refl _)
    simp only [cond_false, hg, Option.bind_some, List.take_length]
    by_cases hz : valB r = 0
    · have := valB_zero.1 hz
      exact ⟨0, by simp [endR, h8, this, hz]⟩
    · have ht : true ∈ r := by
        rcases Classical.em (true ∈ r) with q | q
        · exact q
        · exact absurd (valB_zero.2 q) hz
      rw [df (show ¬ ((valB r : Nat) : Int) = 0 by omega)]
      exact ⟨6, by simp [endR, ht, bits_Reader_fail]⟩
theorem end_go {l : List Bool} {n : Int} {l2 : List Bool} (hl : l.length ≤ 1000000) (hn : n = (l.length : Int)) : ∀ (m j : Nat) (e : Int), j + m = l.length → (e = 0 ∨ e = 6) →
    runL (kinfolkref05_End_L0_2_step l n l2) ((j : Int), e) = some (if e = 6 ∨ true ∈ l.drop j then 6 else 0)
  | 0, j, e, hj, he => by
    subst hn
    have hd : l.drop j = [] := List.drop_of_length_le (by omega)
    rw [hd]
    refine runL_done ?_
    simp only [kinfolkref05_End_L0_2_step, df (show ¬ (j : Int) < (l.length : Int) by omega), cond_false]
    rcases he with rfl | rfl <;> simp
  | m + 1, j, e, hj, he => by
    subst hn
    have hlt : j < l.length := by omega
    have hd : l.drop j = l[j] :: l.drop (j + 1) := List.drop_eq_getElem_cons hlt
    have hg : l.getD j false = l[j] := by simp [List.getD, hlt]
    have hadd : iadd .i64 (j : Int) 1 = ((j + 1 : Nat) : Int) := by rw [iadd64 (by omega) (by omega)]; omega
    rw [runL_next (s' := (((j + 1 : Nat) : Int), if l[j] = true then 6 else e))]
    · rw [end_go hl rfl m (j + 1) _ (by omega) (by split <;> simp [he]), hd]
      cases l[j] <;> simp
    · simp only [kinfolkref05_End_L0_2_step, dt (show (j : Int) < (l.length : Int) by omega), dt (show (0 : Int) ≤ (j : Int) by omega), Bool.and_self, cond_true, Int.toNat_natCast, hg, hadd]
      cases l[j] <;> rfl
theorem end0_go {l : List Bool} {n : Int} {l2 : List Bool} (hl : l.length ≤ 1000000) (hn : n = (l.length : Int)) : ∀ (m j : Nat), j + m = l.length → runL (kinfolkref05_End_L0_step l n l2) (j : Int) = some ()
  | 0, j, hj => by
    subst hn
    refine runL_done ?_
    simp only [kinfolkref05_End_L0_step, df (show ¬ (j : Int) < (l.length : Int) by omega), cond_false]
  | m + 1, j, hj => by
    subst hn
    have hadd : iadd .i64 (j : Int) 1 = ((j + 1 : Nat) : Int) := by rw [iadd64 (by omega) (by omega)]; omega
    rw [runL_next (s' := ((j + 1 : Nat) : Int))]
    · exact end0_go hl rfl m (j + 1) (by omega)
    · simp only [kinfolkref05_End_L0_step, dt (show (j : Int) < (l.length : Int) by omega), dt (show (0 : Int) ≤ (j : Int) by omega), Bool.and_self, cond_true, Int.toNat_natCast, hadd]
      cases l.getD j false <;> rfl
theorem rEnd {r : List Bool} (hl : r.length ≤ 1000000) : ∃ x, kinfolkref05_End r 0 = some (endR r, x) := by
  unfold kinfolkref05_End
  by_cases h8 : 8 ≤ r.length
  · have h := end0_go (l2 := r) hl rfl r.length 0 (by omega)
    have h' : runL (kinfolkref05_End_L0_step r (r.length : Int) r) 0 = some () := h
    exact ⟨6, by simp only [decide_true, cond_true, dt (show (8 : Int) ≤ (r.length : Int) by omega), h', Option.bind_some]; simp [endR, h8]⟩
  · have h := end_go (l2 := r) hl rfl r.length 0 0 (by omega) (.inl rfl)
    have h' : runL (kinfolkref05_End_L0_2_step r (r.length : Int) r) (0, 0) = _ := h
    refine ⟨endR r, ?_⟩
    simp only [decide_true, cond_true, df (show ¬ (8 : Int) ≤ (r.length : Int) by omega), cond_false, h', Option.bind_some]
    simp [endR, h8]
theorem zeroID_is (i : Bool) (t : Idt) : zeroID i t = zeroI i t := by cases i <;> cases t <;> rfl
theorem decI_enc : ∀ {k : Nat} {L : List Bool} {i : Bool} {t : Idt} {r : List Bool}, decI k L = .inl (i, t, r) → L = encID i t ++ r := by
  have leaf : ∀ {L : List Bool} {i : Bool} {t : Idt} {r : List Bool} {c : Bool} {l : List Bool}, L = false :: false :: c :: l → (Sum.inl (c, T_id_halves.nil, l) : RI) = .inl (i, t, r) → L = encID i t ++ r := by
    rintro L i t r c l rfl h
    cases h
    cases i <;> rfl
  intro k
  induction k with
  | zero =>
    intro L i t r h
    match L, h with
    | false :: false :: c :: l, h => exact leaf rfl h
    | [false, false], h => cases h
    | true :: b :: l, h => cases h
    | false :: true :: l, h => cases h
    | [a], h => cases a <;> cases h
    | [], h => cases h
  | succ k ih =>
    have node : ∀ {a b : Bool} {l : List Bool} {i : Bool} {t : Idt} {r : List Bool}, (a = true ∨ b = true) → nodeI (decI k) a b l = .inl (i, t, r) → a :: b :: l = encID i t ++ r := by
      intro a b l i t r hab h
      unfold nodeI at h
      split at h
      · cases h
      · rename_i i1 t1 l1 h1
        split at h
        · cases h
        · rename_i j1 u1 l2 h2
          split at h
          · cases h
          · rename_i hc
            cases h
            have c1 : ¬ zeroI i1 t1 = a := fun q => hc (.inl q)
            have c2 : ¬ zeroI j1 u1 = b := fun q => hc (.inr (.inl q))
            simp only [encID, zeroID_is]
            cases a with
            | false =>
              cases b with
              | false => rcases hab with h | h <;> cases h
              | true =>
                simp only [if_true] at h1
                cases h1
                simp only [Bool.true_eq_false, if_false] at h2
                rw [show zeroI false .nil = true from rfl, if_pos rfl, ih h2, List.append_assoc]
                rfl
            | true =>
              simp only [Bool.true_eq_false, if_false] at h1
              have z1 : zeroI i1 t1 = false := by cases hz : zeroI i1 t1 <;> simp_all
              cases b with
              | false =>
                simp only [if_true] at h2
                cases h2
                rw [z1, show zeroI false .nil = true from rfl, if_neg (by decide), if_pos rfl, ih h1, List.append_assoc]
                rfl
              | true =>
                simp only [Bool.true_eq_false, if_false] at h2
                have z2 : zeroI j1 u1 = false := by cases hz : zeroI j1 u1 <;> simp_all
                rw [z1, z2, if_neg (by decide), if_neg (by decide), ih h1, ih h2, List.append_assoc, List.append_assoc]
                rfl
    intro L i t r h
    match L, h with
    | false :: false :: c :: l, h => exact leaf rfl h
    | [false, false], h => cases h
    | true :: b :: l, h => exact node (.inl rfl) h
    | false :: true :: l, h => exact node (.inr rfl) h
    | [a], h => cases a <;> cases h
    | [], h => cases h
theorem depth_is : ∀ (t : Idt), depthID t = depthI t
  | .nil => rfl
  | .mk b t c u => by simp only [depthID, depthI, depth_is t, depth_is u]
def fromID : Bool → T_id_halves → T_kinfolkref01_ID
  | true, _ => .mk 1 .nil .nil
  | false, .nil => .mk 0 .nil .nil
  | false, .mk b l b2 r => .mk 2 (fromID b l) (fromID b2 r)
/-- As it is kept, no half of it in vain. -/
def nfID : Bool → T_id_halves → Prop
  | true, .nil => True
  | true, .mk .. => False
  | false, .nil => True
  | false, .mk b l b2 r => nfID b l ∧ nfID b2 r ∧ ¬ (l = .nil ∧ r = .nil ∧ b = b2)
theorem encID_len : ∀ {t : T_id_halves} {i : Bool}, (encID i t).length + 2 ≤ 5 * 2 ^ depthID t
  | .nil, i => by cases i <;> simp [encID, bitsN_len, depthID]
  | .mk b l b2 r, true => by
    have : 0 < 2 ^ depthID (.mk b l b2 r) := Nat.two_pow_pos _
    simp only [encID, List.length_append, bitsN_len]
    omega
  | .mk b l b2 r, false => by
    have h1 := encID_len (t := l) (i := b)
    have h2 := encID_len (t := r) (i := b2)
    have p1 : 2 ^ depthID l ≤ 2 ^ (max (depthID l) (depthID r)) := Nat.pow_le_pow_right (by decide) (by omega)
    have p2 : 2 ^ depthID r ≤ 2 ^ (max (depthID l) (depthID r)) := Nat.pow_le_pow_right (by decide) (by omega)
    have p3 : 0 < 2 ^ (max (depthID l) (depthID r)) := Nat.two_pow_pos _
    simp only [encID, depthID, Nat.pow_succ]
    split
    · simp only [List.length_append, bitsN_len]; omega
    · split <;> simp only [List.length_append, bitsN_len] <;> omega
theorem rWithin {k : Nat} (hk : k ≤ 64) : kinfolkref05_within (k : Int) = some (k : Int) := by
  unfold kinfolkref05_within
  rw [df (show ¬ (k : Int) < 0 by omega), df (show ¬ (64 : Int) < (k : Int) by omega)]
  rfl
theorem rPut_go {l : List Bool} {k v : Nat} (hk : k ≤ 64) (hv : v < 2 ^ 64) : ∀ (m i : Nat), i + m = k → runL (kinfolkref05_Put_L0_2_step l (k : Int)) (((v / 2 ^ i : Nat) : Int), (i : Int), bitsN i v) = some (bitsN k v)
  | 0, i, hi => by
    obtain rfl : i = k := by omega
    refine runL_done ?_
    unfold kinfolkref05_Put_L0_2_step
    simp only [rWithin hk, Option.bind_some, df (show ¬ (i : Int) < (i : Int) by omega), cond_false]
  | m + 1, i, hi => by
    rw [← rPut_go hk hv m (i + 1) (by omega)]
    refine runL_next ?_
    have hd : v / 2 ^ i ≤ v := Nat.div_le_self _ _
    have e4 : decide (((v / 2 ^ i % 2 : Nat) : Int) = 1) = v.testBit i := by
      rw [Nat.testBit_eq_decide_div_mod_eq]
      apply decide_eq_decide.2
      omega
    have hqq : v / 2 ^ (i + 1) = v / 2 ^ i / 2 := by rw [Nat.pow_succ, Nat.div_div_eq_div_mul]
    rw [hqq]
    generalize v / 2 ^ i = q at *
    have e1 : iquo .u64 (q : Int) 2 = ((q / 2 : Nat) : Int) := by
      rw [iquo, Int.tdiv_eq_ediv_of_nonneg (by omega)]
      rw [show (2 : Int) = ((2 : Nat) : Int) from rfl, ← Int.natCast_ediv]
      exact u64_in (by omega) (by omega)
    have e2 : irem .u64 (q : Int) 2 = ((q % 2 : Nat) : Int) := by
      rw [irem, Int.tmod_eq_emod_of_nonneg (by omega)]; omega
    have e3 : iadd .i64 (i : Int) 1 = ((i + 1 : Nat) : Int) := by rw [iadd64 (by omega) (by omega)]; omega
    unfold kinfolkref05_Put_L0_2_step
    simp only [rWithin hk, Option.bind_some, dt (show (i : Int) < (k : Int) by omega), cond_true, e1, e2, e3, e4, List.take_length]
    have hb := bitsN_len i v
    cases i with
    | zero => rfl
    | succ i =>
      rw [show Nat.beq (bitsN (i + 1) v).length 0 = false by rw [hb]; rfl, cond_false, fits_ok (by rw [List.length_append, hb]; simp; omega)]
      rfl
theorem rPut {l : List Bool} {k v : Nat} (hk : k ≤ 64) (hv : v < 2 ^ 64) (hl : l.length ≤ 1000000) : kinfolkref05_Put l (v : Int) (k : Int) = some (l ++ bitsN k v) := by
  have h := rPut_go (l := l) hk hv k 0 (by omega)
  rw [Nat.pow_zero, Nat.div_one] at h
  have h' : runL (kinfolkref05_Put_L0_2_step l (k : Int)) ((v : Int), 0, []) = _ := h
  unfold kinfolkref05_Put
  rw [h']
  simp only [Option.bind_some, List.nil_append, List.take_length, List.length_append, bitsN_len]
  rw [fits_ok (by omega), fits_ok (by omega), fits_ok (by omega)]
  cases l with
  | nil => rfl
  | cons a l => rfl
theorem rPut' {l : List Bool} (k v : Nat) (hk : k ≤ 2) (hv : v < 4) (hl : l.length ≤ 900000) : kinfolkref05_Put l (v : Int) (k : Int) = some (l ++ bitsN k v) := rPut (by omega) (by omega) (by omega)
theorem fromID_mk (i : Bool) (t : T_id_halves) : ∃ x y, fromID i t = .mk (match i, t with | true, _ => 1 | false, .nil => 0 | false, .mk .. => 2) x y := by
  cases i <;> cases t <;> exact ⟨_, _, rfl⟩
theorem kind0 (i : Bool) (t : T_id_halves) : (decide ((match i, t with | true, _ => (1 : Int) | false, .nil => 0 | false, .mk .. => 2) = 0)) = zeroID i t := by
  cases i <;> cases t <;> rfl
theorem rID : ∀ {N : Nat} {t : T_id_halves} {i : Bool} {l : List Bool}, depthID t < N → nfID i t → l.length + (encID i t).length ≤ 800000 → kinfolkref07_ID N l (fromID i t) = some (l ++ encID i t)
  | 0, t, i, l, hN, hw, hl => by omega
  | N + 1, t, i, l, hN, hw, hl => by
    unfold kinfolkref07_ID kinfolkref07_ID_b
    cases t with
    | nil =>
      have q0 : ∀ {m : List Bool} (v : Nat), v < 4 → m.length ≤ 900000 → kinfolkref05_Put m (v : Int) 1 = some (m ++ bitsN 1 v) := fun v hv hm => rPut' 1 v (by decide) hv hm
      have q1 : kinfolkref05_Put l 0 2 = some (l ++ bitsN 2 0) := rPut' 2 0 (by decide) (by decide) (by omega)
      have q2 : kinfolkref05_Put (l ++ bitsN 2 0) 0 1 = some (l ++ bitsN 2 0 ++ bitsN 1 0) := q0 0 (by decide) (by simp [bitsN_len]; omega)
      have q3 : kinfolkref05_Put (l ++ bitsN 2 0) 1 1 = some (l ++ bitsN 2 0 ++ bitsN 1 1) := q0 1 (by decide) (by simp [bitsN_len]; omega)
      cases i with
      | true =>
        simp only [fromID, dt (show (1 : Int) < 2 by decide), cond_true, q1, Option.bind_some, show IntKind.u64.wrap 1 = 1 from u64_in (by omega) (by omega), q3, encID, List.append_assoc]
      | false =>
        simp only [fromID, dt (show (0 : Int) < 2 by decide), cond_true, q1, Option.bind_some, show IntKind.u64.wrap 0 = 0 from u64_in (by omega) (by omega), q2, encID, List.append_assoc]
    | mk b x b2 y =>
      cases i with
      | true => exact hw.elim
      | false =>
        simp only [depthID] at hN
        obtain ⟨g1, g2, g3⟩ := hw
        obtain ⟨x1, x2, hx⟩ := fromID_mk b x
        obtain ⟨y1, y2, hy⟩ := fromID_mk b2 y
        have kx := kind0 b x
        have ky := kind0 b2 y
        have r1 := fun {m : List Bool} (h : m.length + (encID b x).length ≤ 800000) => rID (N := N) (t := x) (i := b) (l := m) (by omega) g1 h
        have r2 := fun {m : List Bool} (h : m.length + (encID b2 y).length ≤ 800000) => rID (N := N) (t := y) (i := b2) (l := m) (by omega) g2 h
        have q1 : kinfolkref05_Put l 1 2 = some (l ++ bitsN 2 1) := rPut' 2 1 (by decide) (by decide) (by omega)
        have q2 : kinfolkref05_Put l 2 2 = some (l ++ bitsN 2 2) := rPut' 2 2 (by decide) (by decide) (by omega)
        have q3 : kinfolkref05_Put l 3 2 = some (l ++ bitsN 2 3) := rPut' 2 3 (by decide) (by decide) (by omega)
        have hl' := hl
        simp only [encID] at hl' ⊢
        rw [hx] at r1
        rw [hy] at r2
        simp only [fromID, hx, hy, df (show ¬ (2 : Int) < 2 by decide), cond_false, kx, ky]
        cases hz : zeroID b x with
        | true =>
          rw [hz] at hl'
          simp only [if_true, List.length_append, bitsN_len] at hl'
          simp only [cond_true, q1, Option.bind_some, r2 (m := l ++ bitsN 2 1) (by simp only [List.length_append, bitsN_len]; omega), if_true, List.append_assoc]
        | false =>
          cases hz2 : zeroID b2 y with
          | true =>
            rw [hz, hz2] at hl'
            simp only [if_true, Bool.false_eq_true, if_false, List.length_append, bitsN_len] at hl'
            simp only [cond_true, cond_false, q2, Option.bind_some, r1 (m := l ++ bitsN 2 2) (by simp only [List.length_append, bitsN_len]; omega), if_true, Bool.false_eq_true, if_false, List.append_assoc]
          | false =>
            rw [hz, hz2] at hl'
            simp only [if_true, Bool.false_eq_true, if_false, List.length_append, bitsN_len] at hl'
            simp only [cond_true, cond_false, q3, Option.bind_some, r1 (m := l ++ bitsN 2 3) (by simp only [List.length_append, bitsN_len]; omega), Bool.false_eq_true, if_false]
            rw [r2 (by simp only [List.length_append, bitsN_len]; omega)]
            simp only [Option.bind_some, List.append_assoc]
/-- The number that k bits from place i on are. -/
def bv (l : List Bool) (i : Nat) : Nat → Nat
  | 0 => 0
  | k + 1 => 2 * bv l i k + (l.getD (i + k) false).toNat
theorem bv_lt (l : List Bool) (i : Nat) : ∀ k, bv l i k < 2 ^ k
  | 0 => by simp [bv]
  | k + 1 => by
    have := bv_lt l i k
    rw [bv, Nat.pow_succ]
    cases l.getD (i + k) false <;> simp <;> omega
theorem bv_bit (l : List Bool) (i : Nat) : ∀ k j, j < k → (bv l i k).testBit (k - 1 - j) = l.getD (i + j) false
  | 0, j, h => by omega
  | k + 1, j, h => by
    rw [bv]
    have hb : (l.getD (i + k) false).toNat < 2 := by cases l.getD (i + k) false <;> decide
    rcases Nat.lt_or_eq_of_le (Nat.le_of_lt_succ h) with hj | rfl
    · rw [show k + 1 - 1 - j = (k - 1 - j) + 1 by omega, Nat.testBit_succ, show (2 * bv l i k + (l.getD (i + k) false).toNat) / 2 = bv l i k by omega, bv_bit l i k j hj]
    · rw [show j + 1 - 1 - j = 0 by omega, Nat.testBit_zero]
      cases l.getD (i + j) false with
      | true => simp
      | false => simp
theorem u8_in {n : Int} (h : 0 ≤ n) (h' : n < 256) : IntKind.u8.wrap n = n := IntWalk.u8_in n ⟨by omega, by omega⟩
theorem rByte_go {l : List Bool} {i : Nat} {m : List Int} (hl : l.length ≤ 1000000) (hi : i ≤ 1000000) : ∀ (r k : Nat), k + r = 8 → runL (kinfolkref05_Bytes_L1_3_step l (i : Int) m) ((bv l i k : Nat), (k : Int)) = some ((bv l i 8 : Nat) : Int)
  | 0, k, hk => by
    obtain rfl : k = 8 := by omega
    refine runL_done rfl
  | r + 1, k, hk => by
    rw [← rByte_go hl hi r (k + 1) (by omega)]
    refine runL_next ?_
    have hb := bv_lt l i k
    have h2 : 2 ^ k ≤ 2 ^ 7 := Nat.pow_le_pow_right (by decide) (by omega)
    have e1 : imul .u8 ((bv l i k : Nat) : Int) 2 = ((2 * bv l i k : Nat) : Int) := by rw [imul, u8_in (by omega) (by omega)]; omega
    have e2 : iadd .u8 ((2 * bv l i k : Nat) : Int) 1 = ((2 * bv l i k + 1 : Nat) : Int) := by rw [iadd, u8_in (by omega) (by omega)]; omega
    have e3 : iadd .i64 (k : Int) 1 = ((k + 1 : Nat) : Int) := by rw [iadd64 (by omega) (by omega)]; omega
    have e4 : iadd .i64 (i : Int) (k : Int) = ((i + k : Nat) : Int) := by rw [iadd64 (by omega) (by omega)]; omega
    unfold kinfolkref05_Bytes_L1_3_step
    simp only [dt (show (k : Int) < 8 by omega), cond_true, e1, e2, e3, e4, dt (show (0 : Int) ≤ ((i + k : Nat) : Int) by omega), Bool.true_and, Int.toNat_natCast]
    rw [bv]
    by_cases hlt : i + k < l.length
    · rw [dt (show ((i + k : Nat) : Int) < (l.length : Int) by omega)]
      simp only [cond_true]
      cases hc : l.getD (i + k) false <;> rfl
    · rw [df (show ¬ ((i + k : Nat) : Int) < (l.length : Int) by omega), getD_none (by omega)]
      rfl
def bytesTo (l : List Bool) (q : Nat) : List Int := (List.range q).map (fun j => ((bv l (8 * j) 8 : Nat) : Int))
theorem bytesTo_succ (l : List Bool) (q : Nat) : bytesTo l (q + 1) = bytesTo l q ++ [((bv l (8 * q) 8 : Nat) : Int)] := by
  simp [bytesTo, List.range_succ]
theorem bytesTo_len (l : List Bool) (q : Nat) : (bytesTo l q).length = q := by simp [bytesTo]
theorem rBytes_go {l : List Bool} (hl : l.length ≤ 900000) : ∀ (m q : Nat), q + m = (l.length + 7) / 8 → runL (kinfolkref05_Bytes_L0_2_step l) (((8 * q : Nat) : Int), bytesTo l q) = some (bytesTo l ((l.length + 7) / 8))
  | 0, q, hq => by
    obtain rfl : q = (l.length + 7) / 8 := by omega
    refine runL_done ?_
    unfold kinfolkref05_Bytes_L0_2_step
    simp only [df (show ¬ ((8 * ((l.length + 7) / 8) : Nat) : Int) < (l.length : Int) by omega), cond_false]
  | m + 1, q, hq => by
    rw [← rBytes_go hl m (q + 1) (by omega)]
    refine runL_next ?_
    have hb : runL (kinfolkref05_Bytes_L1_3_step l ((8 * q : Nat) : Int) (bytesTo l q)) (0, 0) = _ := rByte_go (i := 8 * q) (m := bytesTo l q) (by omega) (by omega) 8 0 (by omega)
    have e1 : iadd .i64 ((8 * q : Nat) : Int) 8 = ((8 * (q + 1) : Nat) : Int) := by rw [iadd64 (by omega) (by omega)]; omega
    unfold kinfolkref05_Bytes_L0_2_step
    simp only [dt (show ((8 * q : Nat) : Int) < (l.length : Int) by omega), cond_true, hb, Option.bind_some, e1]
    rw [fits_ok (by simp [bytesTo_len]; omega), cond_true, bytesTo_succ]
theorem rBytes {l : List Bool} (hl : l.length ≤ 900000) : ∃ m, kinfolkref05_Bytes l = some m ∧ Pk m l := by
  refine ⟨bytesTo l ((l.length + 7) / 8), ?_, ⟨bytesTo_len _ _, fun x hx => ?_, fun q j hj hq => ?_⟩⟩
  · have h : runL (kinfolkref05_Bytes_L0_2_step l) (0, []) = _ := rBytes_go hl ((l.length + 7) / 8) 0 (by omega)
    unfold kinfolkref05_Bytes
    rw [h]
    rfl
  · obtain ⟨j, -, rfl⟩ := List.mem_map.1 hx
    have := bv_lt l (8 * j) 8
    omega
  · rw [bytesTo_len] at hq
    have hg : (bytesTo l ((l.length + 7) / 8)).getD q 0 = ((bv l (8 * q) 8 : Nat) : Int) := by
      simp [bytesTo, List.getD, hq]
    rw [hg, Int.toNat_natCast, show 7 - j = 8 - 1 - j by omega, bv_bit l (8 * q) 8 j hj]
end Go.Proofs.Ytjjcmgdgifcmgaa
