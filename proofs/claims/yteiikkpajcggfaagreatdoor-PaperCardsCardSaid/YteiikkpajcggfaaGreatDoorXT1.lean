/- Texts as lists of bytes; the document's signs are the model's. Plain. -/
import Derived.Test.YteiikkpajcggfaaGreatDoorA6
import Derived.Test.YteiikkpajcggfaaGreatDoorQ3
import Derived.Lib.TrimUEq
import Derived.Lib.ValidLaws
set_option linter.unusedVariables false
set_option linter.unusedSimpArgs false
namespace Go.Proofs.YteiikkpajcggfaaGreatDoor
open Go.Ev Go.Lib
def mkS (l : List UInt8) : ByteArray := ⟨l.toArray⟩
theorem mkS_size (l : List UInt8) : (mkS l).size = l.length := by simp [mkS, ByteArray.size]
theorem mkS_list (l : List UInt8) : (mkS l).data.toList = l := by simp [mkS]
theorem mkS_app (l m : List UInt8) : mkS l ++ mkS m = mkS (l ++ m) := by
 apply ByteArray.ext
 simp [mkS, ByteArray.data_append]
theorem mkS_inj {l m : List UInt8} : mkS l = mkS m ↔ l = m := by
 constructor
 ·intro h
  have := congrArg (fun s => s.data.toList) h
  simpa [mkS] using this
 ·rintro rfl; rfl
theorem mkS_of (s : ByteArray) : mkS s.data.toList = s := by
 apply ByteArray.ext
 simp [mkS]
theorem mkS_get (l : List UInt8) (i : Nat) : (mkS l).data.getD i 0 = l.getD i 0 := by
 simp [mkS, Array.getD_eq_getD_getElem?, List.getD]
theorem mkS_ext (l : List UInt8) (a b : Nat) : (mkS l).extract a b = mkS ((l.take b).drop a) := by
 apply ByteArray.ext
 simp only [mkS, ByteArray.data_extract]
 apply Array.ext'
 simp only [Array.toList_extract, List.extract_eq_take_drop]
 rw [List.drop_take]
theorem mkS_dec (l : List UInt8) (k : Nat) : Utf8.decode (mkS l) k = decodeL (l.drop k) := by
 rw [← decodeL_drop, mkS_list]
theorem byte_lt (b : UInt8) : b.toNat < 256 := b.toNat_lt
theorem dec_at (l : List UInt8) (k : Nat) : decodeL (l.drop k) = decodeN (l.length - k) (l.getD k 0).toNat (l.getD (k + 1) 0).toNat (l.getD (k + 2) 0).toNat (l.getD (k + 3) 0).toNat := by
 rw [decodeL_N, List.length_drop, getD_dropU, getD_dropU, getD_dropU, getD_dropU, Nat.add_zero]
def goesOn (l : List UInt8) (k : Nat) : Bool := decide (k < l.length) && decide ((l.getD k 0).toNat / 64 = 2)
theorem step_on {l : List UInt8} {k i : Nat} {x n least : Int} (hx : 0 ≤ x ∧ x ≤ 100000000) (hi : (i : Int) < n) (hk : k + i ≤ 100000) (h : goesOn l (k + i) = true) :
  kinfolkref08_sign_L0_step (mkS l) (k : Int) n least (x, (i : Int)) = some (.inl (64 * x + (((l.getD (k + i) 0).toNat % 64 : Nat) : Int), ((i + 1 : Nat) : Int))) := by
 unfold goesOn at h
 simp only [Bool.and_eq_true, decide_eq_true_eq] at h
 have hb := byte_lt (l.getD (k + i) 0)
 have e1 : iadd .i64 (k : Int) (i : Int) = ((k + i : Nat) : Int) := by rw [iadd64 (by omega) (by omega)]; omega
 have e2 : iadd .i64 (i : Int) 1 = ((i + 1 : Nat) : Int) := by rw [iadd64 (by omega) (by omega)]; omega
 unfold kinfolkref08_sign_L0_step
 simp only [e1, e2, Int.toNat_natCast, mkS_get, mkS_size]
 generalize (l.getD (k + i) 0).toNat = b at *
 have e3 : isub .i64 (iadd .i64 (imul .i64 64 x) (IntKind.i64.wrap (b : Int))) 128 = 64 * x + ((b % 64 : Nat) : Int) := by
  rw [i64_in (by omega) (by omega), imul64 (by omega) (by omega), iadd64 (by omega) (by omega), isub64 (by omega) (by omega)]
  omega
 rw [dt hi, df (by omega), dt (by omega : (0 : Int) ≤ ((k + i : Nat) : Int)), dt (by omega : ((k + i : Nat) : Int) < (l.length : Int)), df (by omega : ¬ (b : Int) < 128), df (by omega : ¬ (191 : Int) < (b : Int)), e3]
 rfl
theorem step_off {l : List UInt8} {k i : Nat} {x n least : Int} (hi : (i : Int) < n) (hk : k + i ≤ 100000) (h : goesOn l (k + i) = false) :
  kinfolkref08_sign_L0_step (mkS l) (k : Int) n least (x, (i : Int)) = some (.inr (.inl ())) := by
 have hb := byte_lt (l.getD (k + i) 0)
 have e1 : iadd .i64 (k : Int) (i : Int) = ((k + i : Nat) : Int) := by rw [iadd64 (by omega) (by omega)]; omega
 have e2 : iadd .i64 (i : Int) 1 = ((i + 1 : Nat) : Int) := by rw [iadd64 (by omega) (by omega)]; omega
 unfold kinfolkref08_sign_L0_step
 simp only [e1, e2, Int.toNat_natCast, mkS_get, mkS_size]
 unfold goesOn at h
 generalize (l.getD (k + i) 0).toNat = b at *
 rw [dt hi]
 by_cases h1 : k + i < l.length
 ·rw [dt h1, Bool.true_and, decide_eq_false_iff_not] at h
  rw [df (by omega), dt (by omega : (0 : Int) ≤ ((k + i : Nat) : Int)), dt (by omega : ((k + i : Nat) : Int) < (l.length : Int))]
  by_cases h2 : b < 128
  ·rw [dt (by omega : (b : Int) < 128)]; rfl
  ·rw [df (by omega : ¬ (b : Int) < 128), dt (by omega : (191 : Int) < (b : Int))]; rfl
 ·rw [dt (by omega : (l.length : Int) ≤ ((k + i : Nat) : Int))]; rfl
theorem step_end {l : List UInt8} {k : Int} {x n least : Int} : kinfolkref08_sign_L0_step (mkS l) k n least (x, n) = some (.inr (.inr x)) := by
 unfold kinfolkref08_sign_L0_step
 simp only [df (by omega : ¬ n < n), cond_false]
theorem loop_eq (s : ByteArray) (k least : Int) : kinfolkref08_sign_L0_2_step s k = kinfolkref08_sign_L0_step s k 4 least := by
 funext z
 obtain ⟨x, i⟩ := z
 rfl
theorem loop1 {l : List UInt8} {k : Nat} {x least : Int} {n i : Nat} (hx : 0 ≤ x ∧ x ≤ 100000000) (hi : i < n) (hk : k + i ≤ 100000) :
  runL (kinfolkref08_sign_L0_step (mkS l) (k : Int) (n : Int) least) (x, (i : Int)) =
   if goesOn l (k + i) = true then runL (kinfolkref08_sign_L0_step (mkS l) (k : Int) (n : Int) least) (64 * x + (((l.getD (k + i) 0).toNat % 64 : Nat) : Int), ((i + 1 : Nat) : Int)) else some (.inl ()) := by
 by_cases h : goesOn l (k + i) = true
 ·rw [if_pos h, runL_next (step_on hx (by omega) hk h)]
 ·rw [if_neg h, runL_done (step_off (by omega) hk (by simpa using h))]
theorem loopE {l : List UInt8} {k : Int} {x least : Int} {n : Int} : runL (kinfolkref08_sign_L0_step (mkS l) k n least) (x, n) = some (.inr x) := runL_done step_end
theorem loopE3 {l : List UInt8} {k : Int} {x least : Int} : runL (kinfolkref08_sign_L0_step (mkS l) k 3 least) (x, ((2 + 1 : Nat) : Int)) = some (.inr x) := runL_done step_end
theorem goes_iff {l : List UInt8} {k j : Nat} : goesOn l (k + j) = true ↔ j < l.length - k ∧ (l.getD (k + j) 0).toNat / 64 = 2 := by
 unfold goesOn
 simp only [Bool.and_eq_true, decide_eq_true_eq]
 omega
def sgn (d : Nat × Nat) : Int × Int × Bool := if d = (65533, 1) then (0, 1, false) else ((d.1 : Int), (d.2 : Int), true)
theorem sgn_bad : sgn (65533, 1) = (0, 1, false) := if_pos rfl
theorem signL2 {l : List UInt8} {k : Nat} (hk : k < l.length) (hl : l.length ≤ 1000) (x least : Int) (hx : 0 ≤ x ∧ x ≤ 100) : runL (kinfolkref08_sign_L0_step (mkS l) (k : Int) 2 least) (x, 1) = some (if goesOn l (k + 1) = true then .inr (64 * x + (((l.getD (k + 1) 0).toNat % 64 : Nat) : Int)) else .inl ()) := by
 have hb1 := byte_lt (l.getD (k + 1) 0)
 have hb2 := byte_lt (l.getD (k + 2) 0)
 have := loop1 (l := l) (k := k) (x := x) (least := least) (n := 2) (i := 1) (by omega) (by omega) (by omega)
 refine this.trans ?_
 split
 ·exact loopE
 ·rfl
theorem signL3 {l : List UInt8} {k : Nat} (hk : k < l.length) (hl : l.length ≤ 1000) (x least : Int) (hx : 0 ≤ x ∧ x ≤ 100) : runL (kinfolkref08_sign_L0_step (mkS l) (k : Int) 3 least) (x, 1) = some (if goesOn l (k + 1) = true ∧ goesOn l (k + 2) = true then .inr (64 * (64 * x + (((l.getD (k + 1) 0).toNat % 64 : Nat) : Int)) + (((l.getD (k + 2) 0).toNat % 64 : Nat) : Int)) else .inl ()) := by
 have hb1 := byte_lt (l.getD (k + 1) 0)
 have hb2 := byte_lt (l.getD (k + 2) 0)
 refine (loop1 (l := l) (k := k) (x := x) (least := least) (n := 3) (i := 1) (by omega) (by omega) (by omega)).trans ?_
 by_cases h1 : goesOn l (k + 1) = true
 ·rw [if_pos h1]
  refine (loop1 (l := l) (k := k) (least := least) (n := 3) (i := 2) (by omega) (by omega) (by omega)).trans ?_
  by_cases h2 : goesOn l (k + 2) = true
  ·rw [if_pos h2, if_pos ⟨h1, h2⟩]; exact loopE
  ·rw [if_neg h2, if_neg (fun h => h2 h.2)]
 ·rw [if_neg h1, if_neg (fun h => h1 h.1)]
theorem signL4 {l : List UInt8} {k : Nat} (hk : k < l.length) (hl : l.length ≤ 1000) (x least : Int) (hx : 0 ≤ x ∧ x ≤ 100) : runL (kinfolkref08_sign_L0_step (mkS l) (k : Int) 4 least) (x, 1) = some (if goesOn l (k + 1) = true ∧ goesOn l (k + 2) = true ∧ goesOn l (k + 3) = true then .inr (64 * (64 * (64 * x + (((l.getD (k + 1) 0).toNat % 64 : Nat) : Int)) + (((l.getD (k + 2) 0).toNat % 64 : Nat) : Int)) + (((l.getD (k + 3) 0).toNat % 64 : Nat) : Int)) else .inl ()) := by
 have hb1 := byte_lt (l.getD (k + 1) 0)
 have hb2 := byte_lt (l.getD (k + 2) 0)
 refine (loop1 (l := l) (k := k) (x := x) (least := least) (n := 4) (i := 1) (by omega) (by omega) (by omega)).trans ?_
 by_cases h1 : goesOn l (k + 1) = true
 ·rw [if_pos h1]
  refine (loop1 (l := l) (k := k) (least := least) (n := 4) (i := 2) (by omega) (by omega) (by omega)).trans ?_
  by_cases h2 : goesOn l (k + 2) = true
  ·rw [if_pos h2]
   refine (loop1 (l := l) (k := k) (least := least) (n := 4) (i := 3) (by omega) (by omega) (by omega)).trans ?_
   by_cases h3 : goesOn l (k + 3) = true
   ·rw [if_pos h3, if_pos ⟨h1, h2, h3⟩]; exact loopE
   ·rw [if_neg h3, if_neg (fun h => h3 h.2.2)]
  ·rw [if_neg h2, if_neg (fun h => h2 h.2.1)]
 ·rw [if_neg h1, if_neg (fun h => h1 h.1)]
theorem sign_0 {l : List UInt8} {k : Nat} (hk : k < l.length) (hl : l.length ≤ 1000) (h0 : (l.getD k 0).toNat < 128) : kinfolkref08_sign_2 (mkS l) (k : Int) = some (sgn (decodeL (l.drop k))) := by
 rw [dec_at]
 have hb0 := byte_lt (l.getD k 0)
 have hb1 := byte_lt (l.getD (k + 1) 0)
 have hb2 := byte_lt (l.getD (k + 2) 0)
 have hb3 := byte_lt (l.getD (k + 3) 0)
 have g1 := goes_iff (l := l) (k := k) (j := 1)
 have g2 := goes_iff (l := l) (k := k) (j := 2)
 have g3 := goes_iff (l := l) (k := k) (j := 3)
 have L2 := signL2 (l := l) (k := k) hk hl
 have L3 := signL3 (l := l) (k := k) hk hl
 have L4 := signL4 (l := l) (k := k) hk hl
 unfold kinfolkref08_sign_2
 simp only [Int.toNat_natCast, mkS_get, mkS_size, loop_eq _ _ 65536]
 generalize (l.getD k 0).toNat = b0 at *
 generalize (l.getD (k + 1) 0).toNat = b1 at *
 generalize (l.getD (k + 2) 0).toNat = b2 at *
 generalize (l.getD (k + 3) 0).toNat = b3 at *
 have hw : IntKind.i64.wrap (b0 : Int) = (b0 : Int) := i64_in (by omega) (by omega)
 rw [hw, dt (by omega : (0 : Int) ≤ (k : Int)), dt (by omega : (k : Int) < (l.length : Int))]
 simp only [Bool.and_true, cond_true]
 unfold decodeN
 rw [dt (by omega : (b0 : Int) < 128), if_pos h0, cond_true, sgn, if_neg (fun h => by simp only [Prod.mk.injEq] at h; omega)]
 rfl
theorem sign_A {l : List UInt8} {k : Nat} (hk : k < l.length) (hl : l.length ≤ 1000) (h0 : ¬ (l.getD k 0).toNat < 128) (hA : 192 ≤ (l.getD k 0).toNat ∧ (l.getD k 0).toNat < 224) : kinfolkref08_sign_2 (mkS l) (k : Int) = some (sgn (decodeL (l.drop k))) := by
 rw [dec_at]
 have hb0 := byte_lt (l.getD k 0)
 have hb1 := byte_lt (l.getD (k + 1) 0)
 have hb2 := byte_lt (l.getD (k + 2) 0)
 have hb3 := byte_lt (l.getD (k + 3) 0)
 have g1 := goes_iff (l := l) (k := k) (j := 1)
 have g2 := goes_iff (l := l) (k := k) (j := 2)
 have g3 := goes_iff (l := l) (k := k) (j := 3)
 have L2 := signL2 (l := l) (k := k) hk hl
 have L3 := signL3 (l := l) (k := k) hk hl
 have L4 := signL4 (l := l) (k := k) hk hl
 unfold kinfolkref08_sign_2
 simp only [Int.toNat_natCast, mkS_get, mkS_size, loop_eq _ _ 65536]
 generalize (l.getD k 0).toNat = b0 at *
 generalize (l.getD (k + 1) 0).toNat = b1 at *
 generalize (l.getD (k + 2) 0).toNat = b2 at *
 generalize (l.getD (k + 3) 0).toNat = b3 at *
 have hw : IntKind.i64.wrap (b0 : Int) = (b0 : Int) := i64_in (by omega) (by omega)
 rw [hw, dt (by omega : (0 : Int) ≤ (k : Int)), dt (by omega : (k : Int) < (l.length : Int))]
 simp only [Bool.and_true, cond_true]
 unfold decodeN
 rw [df (by omega : ¬ (b0 : Int) < 128), if_neg h0, cond_false]
 rw [dt (by omega : (192 : Int) ≤ (b0 : Int)), cond_true]
 unfold kinfolkref08_sign_C20
 rw [dt (by omega : (b0 : Int) < 224), cond_true]
 simp only [Option.bind_some]
 have e1 : isub .i64 (b0 : Int) 192 = ((b0 % 32 : Nat) : Int) := by rw [isub64 (by omega) (by omega)]; omega
 rw [e1, L2 _ _ (by omega)]
 by_cases h1 : goesOn l (k + 1) = true
 ·have h1' := g1.1 h1
  rw [if_pos h1, if_pos ⟨by omega, by omega, h1'.2⟩]
  simp only [Option.bind_some]
  by_cases h2 : b0 % 32 * 64 + b1 % 64 ≥ 128
  ·rw [if_pos h2, df (by omega), df (by omega), df (by omega)]
   simp only [cond_false]
   rw [sgn, if_neg (fun h => by simp only [Prod.mk.injEq] at h; omega)]
   simp only [Option.some.injEq, Prod.mk.injEq, and_true]
   omega
  ·rw [if_neg h2, dt (by omega), cond_true, sgn_bad]
 ·rw [if_neg h1, if_neg (fun h => h1 (g1.2 ⟨by omega, h.2.2⟩)), if_neg (show ¬ (b0 / 16 = 14 ∧ (1 < l.length - k ∧ b1 / 64 = 2) ∧ (2 < l.length - k ∧ b2 / 64 = 2)) from by omega), if_neg (show ¬ (b0 / 8 = 30 ∧ (1 < l.length - k ∧ b1 / 64 = 2) ∧ (2 < l.length - k ∧ b2 / 64 = 2) ∧ (3 < l.length - k ∧ b3 / 64 = 2)) from by omega), sgn_bad]
  rfl
theorem sign_B {l : List UInt8} {k : Nat} (hk : k < l.length) (hl : l.length ≤ 1000) (h0 : ¬ (l.getD k 0).toNat < 128) (hA : ¬ (192 ≤ (l.getD k 0).toNat ∧ (l.getD k 0).toNat < 224)) (hB : 224 ≤ (l.getD k 0).toNat ∧ (l.getD k 0).toNat < 240) : kinfolkref08_sign_2 (mkS l) (k : Int) = some (sgn (decodeL (l.drop k))) := by
 rw [dec_at]
 have hb0 := byte_lt (l.getD k 0)
 have hb1 := byte_lt (l.getD (k + 1) 0)
 have hb2 := byte_lt (l.getD (k + 2) 0)
 have hb3 := byte_lt (l.getD (k + 3) 0)
 have g1 := goes_iff (l := l) (k := k) (j := 1)
 have g2 := goes_iff (l := l) (k := k) (j := 2)
 have g3 := goes_iff (l := l) (k := k) (j := 3)
 have L2 := signL2 (l := l) (k := k) hk hl
 have L3 := signL3 (l := l) (k := k) hk hl
 have L4 := signL4 (l := l) (k := k) hk hl
 unfold kinfolkref08_sign_2
 simp only [Int.toNat_natCast, mkS_get, mkS_size, loop_eq _ _ 65536]
 generalize (l.getD k 0).toNat = b0 at *
 generalize (l.getD (k + 1) 0).toNat = b1 at *
 generalize (l.getD (k + 2) 0).toNat = b2 at *
 generalize (l.getD (k + 3) 0).toNat = b3 at *
 have hw : IntKind.i64.wrap (b0 : Int) = (b0 : Int) := i64_in (by omega) (by omega)
 rw [hw, dt (by omega : (0 : Int) ≤ (k : Int)), dt (by omega : (k : Int) < (l.length : Int))]
 simp only [Bool.and_true, cond_true]
 unfold decodeN
 rw [df (by omega : ¬ (b0 : Int) < 128), if_neg h0, cond_false]
 have e1 : isub .i64 (b0 : Int) 224 = ((b0 % 16 : Nat) : Int) := by rw [isub64 (by omega) (by omega)]; omega
 rw [dt (by omega : (192 : Int) ≤ (b0 : Int)), cond_true]
 unfold kinfolkref08_sign_C20 kinfolkref08_sign_C29
 rw [df (by omega : ¬ (b0 : Int) < 224), cond_false, dt (by omega : (224 : Int) ≤ (b0 : Int)), cond_true, dt (by omega : (b0 : Int) < 240), cond_true]
 simp only [Option.bind_some]
 rw [e1, L3 _ _ (by omega), if_neg (show ¬ (b0 / 32 = 6 ∧ (1 < l.length - k ∧ b1 / 64 = 2)) from by omega)]
 by_cases h1 : goesOn l (k + 1) = true ∧ goesOn l (k + 2) = true
 ·have h1' := g1.1 h1.1
  have h2' := g2.1 h1.2
  rw [if_pos h1, if_pos ⟨by omega, ⟨by omega, h1'.2⟩, by omega, h2'.2⟩]
  simp only [Option.bind_some]
  by_cases h2 : b0 % 16 * 4096 + b1 % 64 * 64 + b2 % 64 ≥ 2048 ∧ (b0 % 16 * 4096 + b1 % 64 * 64 + b2 % 64 < 55296 ∨ (57344 ≤ b0 % 16 * 4096 + b1 % 64 * 64 + b2 % 64 ∧ b0 % 16 * 4096 + b1 % 64 * 64 + b2 % 64 ≤ 1114111))
  ·rw [if_pos h2, df (by omega), df (by omega)]
   simp only [cond_false]
   rw [sgn, if_neg (fun h => by simp only [Prod.mk.injEq] at h; omega)]
   by_cases h3 : 55296 ≤ b0 % 16 * 4096 + b1 % 64 * 64 + b2 % 64
   ·rw [dt (by omega), df (by omega)]
    simp only [cond_false, cond_true, Option.some.injEq, Prod.mk.injEq, and_true]
    omega
   ·rw [df (by omega)]
    simp only [cond_false, Option.some.injEq, Prod.mk.injEq, and_true]
    omega
  ·rw [if_neg h2]
   by_cases h3 : b0 % 16 * 4096 + b1 % 64 * 64 + b2 % 64 < 2048
   ·rw [dt (by omega), cond_true, sgn_bad]
   ·rw [df (by omega), df (by omega), dt (by omega), dt (by omega), sgn_bad]; rfl
 ·rw [if_neg h1, if_neg (fun h => h1 ⟨g1.2 ⟨by omega, h.2.1.2⟩, g2.2 ⟨by omega, h.2.2.2⟩⟩), if_neg (show ¬ (b0 / 8 = 30 ∧ (1 < l.length - k ∧ b1 / 64 = 2) ∧ (2 < l.length - k ∧ b2 / 64 = 2) ∧ (3 < l.length - k ∧ b3 / 64 = 2)) from by omega), sgn_bad]
  rfl
theorem tailC (X M M2 M3 M4 : Int) : ((some (Sum.inr X) : Option (Unit ⊕ Int)).bind fun z_ => match z_ with | .inl _ => some ((0:Int), (1:Int), false) | .inr n4 => bif decide (n4 < M) then some (0, 1, false) else bif decide (M2 < n4) then some (0, 1, false) else bif decide (M3 ≤ n4) then bif decide (n4 < M4) then some (0, 1, false) else some (n4, 4, true) else some (n4, 4, true)) = (bif decide (X < M) then some ((0 : Int), (1 : Int), false) else bif decide (M2 < X) then some (0, 1, false) else bif decide (M3 ≤ X) then bif decide (X < M4) then some (0, 1, false) else some (X, 4, true) else some (X, 4, true)) := rfl
theorem sign_C {l : List UInt8} {k : Nat} (hk : k < l.length) (hl : l.length ≤ 1000) (h0 : ¬ (l.getD k 0).toNat < 128) (hA : ¬ (192 ≤ (l.getD k 0).toNat ∧ (l.getD k 0).toNat < 224)) (hB : ¬ (224 ≤ (l.getD k 0).toNat ∧ (l.getD k 0).toNat < 240)) (hC : 240 ≤ (l.getD k 0).toNat ∧ (l.getD k 0).toNat < 248) : kinfolkref08_sign_2 (mkS l) (k : Int) = some (sgn (decodeL (l.drop k))) := by
 rw [dec_at]
 have hb0 := byte_lt (l.getD k 0)
 have hb1 := byte_lt (l.getD (k + 1) 0)
 have hb2 := byte_lt (l.getD (k + 2) 0)
 have hb3 := byte_lt (l.getD (k + 3) 0)
 have g1 := goes_iff (l := l) (k := k) (j := 1)
 have g2 := goes_iff (l := l) (k := k) (j := 2)
 have g3 := goes_iff (l := l) (k := k) (j := 3)
 have L2 := signL2 (l := l) (k := k) hk hl
 have L3 := signL3 (l := l) (k := k) hk hl
 have L4 := signL4 (l := l) (k := k) hk hl
 unfold kinfolkref08_sign_2
 simp only [Int.toNat_natCast, mkS_get, mkS_size, loop_eq _ _ 65536]
 generalize (l.getD k 0).toNat = b0 at *
 generalize (l.getD (k + 1) 0).toNat = b1 at *
 generalize (l.getD (k + 2) 0).toNat = b2 at *
 generalize (l.getD (k + 3) 0).toNat = b3 at *
 have hw : IntKind.i64.wrap (b0 : Int) = (b0 : Int) := i64_in (by omega) (by omega)
 rw [hw, dt (by omega : (0 : Int) ≤ (k : Int)), dt (by omega : (k : Int) < (l.length : Int))]
 simp only [Bool.and_true, cond_true]
 unfold decodeN
 rw [df (by omega : ¬ (b0 : Int) < 128), if_neg h0, cond_false]
 have e1 : isub .i64 (b0 : Int) 240 = ((b0 % 8 : Nat) : Int) := by rw [isub64 (by omega) (by omega)]; omega
 rw [dt (by omega : (192 : Int) ≤ (b0 : Int)), cond_true]
 unfold kinfolkref08_sign_C20 kinfolkref08_sign_C29
 rw [df (by omega : ¬ (b0 : Int) < 224), cond_false, dt (by omega : (224 : Int) ≤ (b0 : Int)), cond_true, df (by omega : ¬ (b0 : Int) < 240), cond_false, dt (by omega : (240 : Int) ≤ (b0 : Int)), cond_true, dt (by omega : (b0 : Int) < 248), cond_true]
 generalize hM : (65536 : Int) = M, hM2 : (1114111 : Int) = M2, hM3 : (55296 : Int) = M3, hM4 : (57344 : Int) = M4
 simp only [Option.bind_some]
 rw [e1, L4 _ _ (by omega), if_neg (show ¬ (b0 / 32 = 6 ∧ (1 < l.length - k ∧ b1 / 64 = 2)) from by omega), if_neg (show ¬ (b0 / 16 = 14 ∧ (1 < l.length - k ∧ b1 / 64 = 2) ∧ (2 < l.length - k ∧ b2 / 64 = 2)) from by omega)]
 by_cases h1 : goesOn l (k + 1) = true ∧ goesOn l (k + 2) = true ∧ goesOn l (k + 3) = true
 ·have h1' := g1.1 h1.1
  have h2' := g2.1 h1.2.1
  have h3' := g3.1 h1.2.2
  rw [if_pos h1, if_pos ⟨by omega, ⟨by omega, h1'.2⟩, ⟨by omega, h2'.2⟩, by omega, h3'.2⟩]
  generalize hX : 64 * (64 * (64 * ((b0 % 8 : Nat) : Int) + ((b1 % 64 : Nat) : Int)) + ((b2 % 64 : Nat) : Int)) + ((b3 % 64 : Nat) : Int) = X
  refine (tailC X M M2 M3 M4).trans ?_
  by_cases h2 : b0 % 8 * 262144 + b1 % 64 * 4096 + b2 % 64 * 64 + b3 % 64 ≥ 65536 ∧ (b0 % 8 * 262144 + b1 % 64 * 4096 + b2 % 64 * 64 + b3 % 64 < 55296 ∨ (57344 ≤ b0 % 8 * 262144 + b1 % 64 * 4096 + b2 % 64 * 64 + b3 % 64 ∧ b0 % 8 * 262144 + b1 % 64 * 4096 + b2 % 64 * 64 + b3 % 64 ≤ 1114111))
  ·rw [if_pos h2, df (by omega), df (by omega)]
   rw [cond_false, cond_false, sgn, if_neg (fun h => by simp only [Prod.mk.injEq] at h; omega), dt (by omega), df (by omega)]
   rw [cond_true, cond_false]
   exact congrArg some (Prod.ext_iff.2 ⟨by omega, rfl⟩)
  ·rw [if_neg h2]
   by_cases h3 : b0 % 8 * 262144 + b1 % 64 * 4096 + b2 % 64 * 64 + b3 % 64 < 65536
   ·rw [dt (by omega), cond_true, sgn_bad]
   ·rw [df (by omega), dt (by omega), sgn_bad, cond_false, cond_true]
 ·rw [if_neg h1, if_neg (fun h => h1 ⟨g1.2 ⟨by omega, h.2.1.2⟩, g2.2 ⟨by omega, h.2.2.1.2⟩, g3.2 ⟨by omega, h.2.2.2.2⟩⟩), sgn_bad]
  rfl
theorem sign_D {l : List UInt8} {k : Nat} (hk : k < l.length) (hl : l.length ≤ 1000) (h0 : ¬ (l.getD k 0).toNat < 128) (hA : ¬ (192 ≤ (l.getD k 0).toNat ∧ (l.getD k 0).toNat < 224)) (hB : ¬ (224 ≤ (l.getD k 0).toNat ∧ (l.getD k 0).toNat < 240)) (hC : ¬ (240 ≤ (l.getD k 0).toNat ∧ (l.getD k 0).toNat < 248)) : kinfolkref08_sign_2 (mkS l) (k : Int) = some (sgn (decodeL (l.drop k))) := by
 rw [dec_at]
 have hb0 := byte_lt (l.getD k 0)
 have hb1 := byte_lt (l.getD (k + 1) 0)
 have hb2 := byte_lt (l.getD (k + 2) 0)
 have hb3 := byte_lt (l.getD (k + 3) 0)
 have g1 := goes_iff (l := l) (k := k) (j := 1)
 have g2 := goes_iff (l := l) (k := k) (j := 2)
 have g3 := goes_iff (l := l) (k := k) (j := 3)
 have L2 := signL2 (l := l) (k := k) hk hl
 have L3 := signL3 (l := l) (k := k) hk hl
 have L4 := signL4 (l := l) (k := k) hk hl
 unfold kinfolkref08_sign_2
 simp only [Int.toNat_natCast, mkS_get, mkS_size, loop_eq _ _ 65536]
 generalize (l.getD k 0).toNat = b0 at *
 generalize (l.getD (k + 1) 0).toNat = b1 at *
 generalize (l.getD (k + 2) 0).toNat = b2 at *
 generalize (l.getD (k + 3) 0).toNat = b3 at *
 have hw : IntKind.i64.wrap (b0 : Int) = (b0 : Int) := i64_in (by omega) (by omega)
 rw [hw, dt (by omega : (0 : Int) ≤ (k : Int)), dt (by omega : (k : Int) < (l.length : Int))]
 simp only [Bool.and_true, cond_true]
 unfold decodeN
 rw [df (by omega : ¬ (b0 : Int) < 128), if_neg h0, cond_false]
 rw [if_neg (show ¬ (b0 / 32 = 6 ∧ (1 < l.length - k ∧ b1 / 64 = 2)) from by omega), if_neg (show ¬ (b0 / 16 = 14 ∧ (1 < l.length - k ∧ b1 / 64 = 2) ∧ (2 < l.length - k ∧ b2 / 64 = 2)) from by omega), if_neg (show ¬ (b0 / 8 = 30 ∧ (1 < l.length - k ∧ b1 / 64 = 2) ∧ (2 < l.length - k ∧ b2 / 64 = 2) ∧ (3 < l.length - k ∧ b3 / 64 = 2)) from by omega)]
 by_cases hD : 192 ≤ b0
 ·rw [dt (by omega : (192 : Int) ≤ (b0 : Int)), cond_true]
  unfold kinfolkref08_sign_C20 kinfolkref08_sign_C29
  rw [df (by omega : ¬ (b0 : Int) < 224), cond_false, dt (by omega : (224 : Int) ≤ (b0 : Int)), cond_true, df (by omega : ¬ (b0 : Int) < 240), cond_false, dt (by omega : (240 : Int) ≤ (b0 : Int)), cond_true, df (by omega : ¬ (b0 : Int) < 248), cond_false, sgn_bad]
  rfl
 ·rw [df (by omega : ¬ (192 : Int) ≤ (b0 : Int)), cond_false, df (by omega : ¬ (224 : Int) ≤ (b0 : Int)), cond_false, df (by omega : ¬ (240 : Int) ≤ (b0 : Int)), cond_false, sgn_bad]
theorem sign_eq {l : List UInt8} {k : Nat} (hk : k < l.length) (hl : l.length ≤ 1000) : kinfolkref08_sign_2 (mkS l) (k : Int) = some (sgn (decodeL (l.drop k))) := by
 by_cases h0 : (l.getD k 0).toNat < 128
 ·exact sign_0 hk hl h0
 by_cases hA : 192 ≤ (l.getD k 0).toNat ∧ (l.getD k 0).toNat < 224
 ·exact sign_A hk hl h0 hA
 by_cases hB : 224 ≤ (l.getD k 0).toNat ∧ (l.getD k 0).toNat < 240
 ·exact sign_B hk hl h0 hA hB
 by_cases hC : 240 ≤ (l.getD k 0).toNat ∧ (l.getD k 0).toNat < 248
 ·exact sign_C hk hl h0 hA hB hC
 ·exact sign_D hk hl h0 hA hB hC
end Go.Proofs.YteiikkpajcggfaaGreatDoor
