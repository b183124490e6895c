/- CodeWrites answers true. Plain. -/
import Derived.Test.YtjjakdmcnkldoaaB13
set_option linter.unusedVariables false
set_option linter.unusedSimpArgs false
namespace Go.Proofs.Ytjjakdmcnkldoaa
open Go.Ev

/-- The number that k bits from place i on are. -/
def bv (l : List Bool) (i : Nat) : Nat → Nat
  | 0 => 0
  | k + 1 => 2 * bv l i k + (l.getD (i + k) false).toNat
theorem bv_lt (l : List Bool) (i : Nat) : ∀ k, bv l i k < 2 ^ k
  | 0 => by simp [bv]
  | k + 1 => by
    have := bv_lt l i k
    rw [bv, Nat.pow_succ]
    cases l.getD (i + k) false <;> simp <;> omega
theorem bv_bit (l : List Bool) (i : Nat) : ∀ k j, j < k → (bv l i k).testBit (k - 1 - j) = l.getD (i + j) false
  | 0, j, h => by omega
  | k + 1, j, h => by
    rw [bv]
    have hb : (l.getD (i + k) false).toNat < 2 := by cases l.getD (i + k) false <;> decide
    rcases Nat.lt_or_eq_of_le (Nat.le_of_lt_succ h) with hj | rfl
    · rw [show k + 1 - 1 - j = (k - 1 - j) + 1 by omega, Nat.testBit_succ, show (2 * bv l i k + (l.getD (i + k) false).toNat) / 2 = bv l i k by omega, bv_bit l i k j hj]
    · rw [show j + 1 - 1 - j = 0 by omega, Nat.testBit_zero]
      cases l.getD (i + j) false with
      | true => simp
      | false => simp
theorem u8_in {n : Int} (h : 0 ≤ n) (h' : n < 256) : IntKind.u8.wrap n = n := IntWalk.u8_in n ⟨by omega, by omega⟩
theorem rByte_go {l : List Bool} {i : Nat} {m : List Int} (hl : l.length ≤ 1000000) (hi : i ≤ 1000000) : ∀ (r k : Nat), k + r = 8 → runL (kinfolkref05_Bytes_L1_3_step l (i : Int) m) ((bv l i k : Nat), (k : Int)) = some ((bv l i 8 : Nat) : Int)
  | 0, k, hk => by
    obtain rfl : k = 8 := by omega
    refine runL_done rfl
  | r + 1, k, hk => by
    rw [← rByte_go hl hi r (k + 1) (by omega)]
    refine runL_next ?_
    have hb := bv_lt l i k
    have h2 : 2 ^ k ≤ 2 ^ 7 := Nat.pow_le_pow_right (by decide) (by omega)
    have e1 : imul .u8 ((bv l i k : Nat) : Int) 2 = ((2 * bv l i k : Nat) : Int) := by rw [imul, u8_in (by omega) (by omega)]; omega
    have e2 : iadd .u8 ((2 * bv l i k : Nat) : Int) 1 = ((2 * bv l i k + 1 : Nat) : Int) := by rw [iadd, u8_in (by omega) (by omega)]; omega
    have e3 : iadd .i64 (k : Int) 1 = ((k + 1 : Nat) : Int) := by rw [iadd64 (by omega) (by omega)]; omega
    have e4 : iadd .i64 (i : Int) (k : Int) = ((i + k : Nat) : Int) := by rw [iadd64 (by omega) (by omega)]; omega
    unfold kinfolkref05_Bytes_L1_3_step
    simp only [dt (show (k : Int) < 8 by omega), cond_true, e1, e2, e3, e4, dt (show (0 : Int) ≤ ((i + k : Nat) : Int) by omega), Bool.true_and, Int.toNat_natCast]
    rw [bv]
    by_cases hlt : i + k < l.length
    · rw [dt (show ((i + k : Nat) : Int) < (l.length : Int) by omega)]
      simp only [cond_true]
      cases hc : l.getD (i + k) false <;> rfl
    · rw [df (show ¬ ((i + k : Nat) : Int) < (l.length : Int) by omega), getD_none (by omega)]
      rfl
def bytesTo (l : List Bool) (q : Nat) : List Int := (List.range q).map (fun j => ((bv l (8 * j) 8 : Nat) : Int))
theorem bytesTo_succ (l : List Bool) (q : Nat) : bytesTo l (q + 1) = bytesTo l q ++ [((bv l (8 * q) 8 : Nat) : Int)] := by
  simp [bytesTo, List.range_succ]
theorem bytesTo_len (l : List Bool) (q : Nat) : (bytesTo l q).length = q := by simp [bytesTo]
theorem rBytes_go {l : List Bool} (hl : l.length ≤ 900000) : ∀ (m q : Nat), q + m = (l.length + 7) / 8 → runL (kinfolkref05_Bytes_L0_2_step l) (((8 * q : Nat) : Int), bytesTo l q) = some (bytesTo l ((l.length + 7) / 8))
  | 0, q, hq => by
    obtain rfl : q = (l.length + 7) / 8 := by omega
    refine runL_done ?_
    unfold kinfolkref05_Bytes_L0_2_step
    simp only [df (show ¬ ((8 * ((l.length + 7) / 8) : Nat) : Int) < (l.length : Int) by omega), cond_false]
  | m + 1, q, hq => by
    rw [← rBytes_go hl m (q + 1) (by omega)]
    refine runL_next ?_
    have hb : runL (kinfolkref05_Bytes_L1_3_step l ((8 * q : Nat) : Int) (bytesTo l q)) (0, 0) = _ := rByte_go (i := 8 * q) (m := bytesTo l q) (by omega) (by omega) 8 0 (by omega)
    have e1 : iadd .i64 ((8 * q : Nat) : Int) 8 = ((8 * (q + 1) : Nat) : Int) := by rw [iadd64 (by omega) (by omega)]; omega
    unfold kinfolkref05_Bytes_L0_2_step
    simp only [dt (show ((8 * q : Nat) : Int) < (l.length : Int) by omega), cond_true, hb, Option.bind_some, e1]
    rw [fits_ok (by simp [bytesTo_len]; omega), cond_true, bytesTo_succ]
theorem rBytes {l : List Bool} (hl : l.length ≤ 900000) : ∃ m, kinfolkref05_Bytes l = some m ∧ Pk m l := by
  refine ⟨bytesTo l ((l.length + 7) / 8), ?_, ⟨bytesTo_len _ _, fun x hx => ?_, fun q j hj hq => ?_⟩⟩
  · have h : runL (kinfolkref05_Bytes_L0_2_step l) (0, []) = _ := rBytes_go hl ((l.length + 7) / 8) 0 (by omega)
    unfold kinfolkref05_Bytes
    rw [h]
    rfl
  · obtain ⟨j, -, rfl⟩ := List.mem_map.1 hx
    have := bv_lt l (8 * j) 8
    omega
  · rw [bytesTo_len] at hq
    have hg : (bytesTo l ((l.length + 7) / 8)).getD q 0 = ((bv l (8 * q) 8 : Nat) : Int) := by
      simp [bytesTo, List.getD, hq]
    rw [hg, Int.toNat_natCast, show 7 - j = 8 - 1 - j by omega, bv_bit l (8 * q) 8 j hj]
theorem codeWrites_true {N : Nat} {p q : List Int} (hN : 20 ≤ N) (hp : Bytes p) (hq : Bytes q) : kinfolklaw07_CodeWrites N p q = some true := by
  obtain ⟨i, t, e, u, m1, a1, a2, a3, a4, a5⟩ := made_eq hN hp hq
  have L1 := ev_le (e := e) a4
  have L3 := id_le (i := i) a2
  obtain ⟨l1, c1, k1⟩ := stampBytes (i := i) (e := e) hN a2 a4 a3
  obtain ⟨l2, c2, k2⟩ := idBytes (i := i) hN a2
  obtain ⟨l3, c3, k3⟩ := evBytes (e := e) hN a4 a3
  have n1 := k1.len
  have n2 := k2.len
  have n3 := k3.len
  simp only [List.length_append] at n1
  have len1 : l1.length ≤ 100000 := by omega
  have len2 : l2.length ≤ 100000 := by omega
  have len3 : l3.length ≤ 100000 := by omega
  -- a stamp is read again
  have H1 : Has l1 0 (encID i t ++ encEv e u) := Pk.has (A := []) (C := []) (by simpa using k1)
  have x1 := getID0 (N := N) k1.byte len1 (by omega) a1 (by omega) H1.left
  have H1r := H1.right
  rw [Nat.zero_add] at H1r
  have x2 := getEv_eq (N := N) k1.byte len1 (by omega) a3 (by omega) (by omega) H1r
  have x3 := end_eq len1 k1
  rw [List.length_append] at x3
  have R1 : code_ReadStamp N l1 = some (i, t, e, u, 0) := by
    unfold code_ReadStamp stamp_Stamp bits_NewReader
    simp only [fits_ok (show l1.length ≤ 536870912 by omega), cond_true, Option.bind_some, x1, decide_true, x2, x3]
  have H2 : Has l2 0 (encID i t) := Pk.has (A := []) (C := []) (by simpa using k2)
  have y1 := getID0 (N := N) k2.byte len2 (by omega) a1 (by omega) H2
  have R2 : code_ReadID N l2 = some (i, t, 0) := by
    unfold code_ReadID id_ID bits_NewReader
    simp only [fits_ok (show l2.length ≤ 536870912 by omega), cond_true, Option.bind_some, y1, decide_true, end_eq len2 k2]
  have H3 : Has l3 0 (encEv e u) := Pk.has (A := []) (C := []) (by simpa using k3)
  have z1 := getEv0 (N := N) k3.byte len3 (by omega) a3 (by omega) (by omega) H3
  have R3 : code_ReadEvent N l3 = some (e, u, 0) := by
    unfold code_ReadEvent event_Event bits_NewReader
    simp only [fits_ok (show l3.length ≤ 536870912 by omega), cond_true, Option.bind_some, z1, decide_true, end_eq len3 k3]
  -- the document's
  have s1 : kinfolkref07_ID N [] (fromID i t) = some (encID i t) := rID (N := N) (l := []) (by omega) a1 (by simp only [List.length_nil]; omega)
  have s2 : kinfolkref07_Event N (encID i t) (fromEv e u) = some (encID i t ++ encEv e u) := rEv (N := N) (by omega) a3 (by omega)
  have s3 : kinfolkref07_Event N [] (fromEv e u) = some (encEv e u) := rEv (N := N) (l := []) (by omega) a3 (by simp only [List.length_nil]; omega)
  have S1 : kinfolkref07_Stamp N (fromID i t) (fromEv e u) = some (encID i t ++ encEv e u) := by
    unfold kinfolkref07_Stamp
    simp only [s1, s2, Option.bind_some]
  obtain ⟨b1, B1, K1⟩ := rBytes (l := encID i t ++ encEv e u) (by simp only [List.length_append]; omega)
  obtain ⟨b2, B2, K2⟩ := rBytes (l := encID i t) (by omega)
  obtain ⟨b3, B3, K3⟩ := rBytes (l := encEv e u) (by omega)
  obtain rfl := K1.uniq k1
  obtain rfl := K2.uniq k2
  obtain rfl := K3.uniq k3
  have same : ∀ {l : List Int}, Bytes l → bytes_Equal l l = some true := fun h => by rw [eq_eq h h, dt rfl]
  obtain ⟨b, g1, g2⟩ := stampSame_eq hN a2 a2 a4 a4 a1.wf a1.wf a3 a3 a5 a5
  rw [g2.2 ⟨rfl, rfl, rfl, rfl⟩] at g1
  unfold kinfolklaw07_CodeWrites
  simp only [awake_eq hN, m1, Option.bind_some, cond_true, c1, c2, c3, R1, R2, R3, S1, s1, s3, B1, B2, B3, same K1.byte, same K2.byte, same K3.byte, decide_true, g1, idSame_self (N := N) (by omega) a1.wf, evSame_self (N := N) (by omega) a3 (by omega)]
end Go.Proofs.Ytjjakdmcnkldoaa
