/- Texts as lists of bytes; the document's signs are the model's. Plain. -/
import Derived.Test.YteiikkpajcggfaaGreatDoorA6
import Derived.Test.YteiikkpajcggfaaGreatDoorQ3
import Derived.Lib.TrimUEq
import Derived.Lib.ValidLaws
set_option linter.unusedVariables false
set_option linter.unusedSimpArgs false
namespace Go.Proofs.YteiikkpajcggfaaGreatDoor
open Go.Ev Go.Lib
def mkS (l : List UInt8) : ByteArray := ⟨l.toArray⟩
theorem mkS_size (l : List UInt8) : (mkS l).size = l.length := by simp [mkS, ByteArray.size]
theorem mkS_list (l : List UInt8) : (mkS l).data.toList = l := by simp [mkS]
theorem mkS_inj {l m : List UInt8} : mkS l = mkS m ↔ l = m := by
 constructor
 ·intro h
  have := congrArg (fun s => s.data.toList) h
  simpa [mkS] using this
 ·rintro rfl; rfl
theorem mkS_of (s : ByteArray) : mkS s.data.toList = s := by
 apply ByteArray.ext
 simp [mkS]
theorem mkS_get (l : List UInt8) (i : Nat) : (mkS l).data.getD i 0 = l.getD i 0 := by
 simp [mkS, Array.getD_eq_getD_getElem?, List.getD]
theorem mkS_ext (l : List UInt8) (a b : Nat) : (mkS l).extract a b = mkS ((l.take b).drop a) := by
 apply ByteArray.ext
 simp only [mkS, ByteArray.data_extract]
 apply Array.ext'
 simp only [Array.toList_extract, List.extract_eq_take_drop]
 rw [List.drop_take]
theorem mkS_dec (l : List UInt8) (k : Nat) : Utf8.decode (mkS l) k = decodeL (l.drop k) := by
 rw [← decodeL_drop, mkS_list]
theorem dec_at (l : List UInt8) (k : Nat) : decodeL (l.drop k) = decodeN (l.length - k) (l.getD k 0).toNat (l.getD (k + 1) 0).toNat (l.getD (k + 2) 0).toNat (l.getD (k + 3) 0).toNat := by
 rw [decodeL_N, List.length_drop, getD_dropU, getD_dropU, getD_dropU, getD_dropU, Nat.add_zero]
end Go.Proofs.YteiikkpajcggfaaGreatDoor
