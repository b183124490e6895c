/- Quoting, on the program's side; the example; the first law. Plain. -/
import Derived.Test.YteiikkpajcggfaaGreatDoorXT2
set_option linter.unusedVariables false
set_option linter.unusedSimpArgs false
namespace Go.Proofs.YteiikkpajcggfaaGreatDoor
open Go.Ev Go.Lib
def bI (l : List UInt8) : List Int := l.map fun b => (b.toNat : Int)
theorem bI_mk (l : List UInt8) : bytesL (mkS l) = bI l := by unfold bytesL bI; rw [mkS_list]
theorem bI_len (l : List UInt8) : (bI l).length = l.length := by simp [bI]
theorem bI_app (l m : List UInt8) : bI (l ++ m) = bI l ++ bI m := by simp [bI]
theorem strOf_bI (l : List UInt8) : strOf (bI l) = mkS l := by
 unfold strOf bI mkS
 congr 2
 rw [List.map_map]
 conv => rhs; rw [← List.map_id l]
 congr 1
 funext b
 simp
theorem strOf_take (l : List UInt8) : strOf (List.take (bI l).length (bI l)) = mkS l := by rw [List.take_length, strOf_bI]
theorem bI_get {l : List UInt8} {i : Nat} (h : i < l.length) : (bI l).getD i 0 = ((l.getD i 0).toNat : Int) := by
 simp [bI, List.getD, h]
def hexD (n : Nat) : UInt8 := ([48, 49, 50, 51, 52, 53, 54, 55, 56, 57, 97, 98, 99, 100, 101, 102] : List UInt8).getD n 0
theorem hx1 : ∀ b : Fin 256, (((⟨#[48, 49, 50, 51, 52, 53, 54, 55, 56, 57, 97, 98, 99, 100, 101, 102]⟩ : ByteArray).data.getD ((ishr .u8 (b.val : Int) 4)).toNat 0).toNat : Int) = ((hexD (b.val / 16)).toNat : Int) := by decide +kernel
theorem hx2 : ∀ b : Fin 256, (((⟨#[48, 49, 50, 51, 52, 53, 54, 55, 56, 57, 97, 98, 99, 100, 101, 102]⟩ : ByteArray).data.getD ((iand .u8 (b.val : Int) 15)).toNat 0).toNat : Int) = ((hexD (b.val % 16)).toNat : Int) := by decide +kernel
theorem hr1 : ∀ b : Fin 256, (decide ((0 : Int) ≤ (ishr .u8 (b.val : Int) 4)) && decide (((ishr .u8 (b.val : Int) 4) : Int) < ((⟨#[48, 49, 50, 51, 52, 53, 54, 55, 56, 57, 97, 98, 99, 100, 101, 102]⟩ : ByteArray).size : Int))) = true := by decide +kernel
theorem hr2 : ∀ b : Fin 256, (decide ((0 : Int) ≤ (iand .u8 (b.val : Int) 15)) && decide (((iand .u8 (b.val : Int) 15) : Int) < ((⟨#[48, 49, 50, 51, 52, 53, 54, 55, 56, 57, 97, 98, 99, 100, 101, 102]⟩ : ByteArray).size : Int))) = true := by decide +kernel
theorem drop_cons' {l : List UInt8} {i : Nat} (h : i < l.length) : l.drop i = l.getD i 0 :: l.drop (i + 1) := by
 rw [List.drop_eq_getElem_cons h]
 simp [List.getD, h]
end Go.Proofs.YteiikkpajcggfaaGreatDoor
