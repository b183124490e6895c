/- Numbers that are told as naturals. No program in sight. -/
import Derived.Test.YtjjakdmcnkldoaaQEvZ
import Derived.IntWalk
set_option linter.unusedVariables false
set_option linter.unusedSimpArgs false
namespace Go.Ev

theorem pow_cast (n : Nat) : (2 : Int) ^ n = ((2 ^ n : Nat) : Int) := by simp
theorem wrap_nat {k : IntKind} (hs : k.signed = false) {a : Nat} (ha : a < 2 ^ k.bits) : k.wrap (a : Int) = (a : Int) := by
  unfold IntKind.wrap
  have h : (a : Int) % (2 ^ k.bits : Int) = (a : Int) := by
    rw [pow_cast]
    exact Int.emod_eq_of_lt (by omega) (by exact_mod_cast ha)
  simp [h, hs]
theorem ofInt_toNat {n a : Nat} (ha : a < 2 ^ n) : (BitVec.ofInt n (a : Int)).toNat = a := by
  rw [BitVec.ofInt_natCast, BitVec.toNat_ofNat, Nat.mod_eq_of_lt ha]
theorem ixor_nat {k : IntKind} (hs : k.signed = false) {a b : Nat} (ha : a < 2 ^ k.bits) (hb : b < 2 ^ k.bits) : ixor k a b = ((a ^^^ b : Nat) : Int) := by
  unfold ixor
  rw [BitVec.toNat_xor, ofInt_toNat ha, ofInt_toNat hb]
  exact wrap_nat hs (Nat.xor_lt_two_pow ha hb)
theorem iand_nat {k : IntKind} (hs : k.signed = false) {a b : Nat} (ha : a < 2 ^ k.bits) (hb : b < 2 ^ k.bits) : iand k a b = ((a &&& b : Nat) : Int) := by
  unfold iand
  rw [BitVec.toNat_and, ofInt_toNat ha, ofInt_toNat hb]
  exact wrap_nat hs (Nat.and_lt_two_pow a hb)
theorem ior_nat {k : IntKind} (hs : k.signed = false) {a b : Nat} (ha : a < 2 ^ k.bits) (hb : b < 2 ^ k.bits) : ior k a b = ((a ||| b : Nat) : Int) := by
  unfold ior
  rw [BitVec.toNat_or, ofInt_toNat ha, ofInt_toNat hb]
  exact wrap_nat hs (Nat.or_lt_two_pow ha hb)
theorem ishr_nat {k : IntKind} {a n : Nat} (hn : n ≤ k.bits) : ishr k a n = ((a / 2 ^ n : Nat) : Int) := by
  unfold ishr
  rw [Int.toNat_natCast, Nat.min_eq_left hn, pow_cast]
  exact Int.ofNat_fdiv a (2 ^ n) |>.symm
theorem ishl_nat {k : IntKind} (hs : k.signed = false) {a n : Nat} (hn : n ≤ k.bits) (h : a * 2 ^ n < 2 ^ k.bits) : ishl k a n = ((a * 2 ^ n : Nat) : Int) := by
  unfold ishl
  rw [Int.toNat_natCast, Nat.min_eq_left hn, pow_cast]
  have := wrap_nat hs h
  push_cast at this ⊢
  exact this
end Go.Ev
