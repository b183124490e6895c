/- Chapter 15: an id written: the program's bytes are the document's. Plain. -/
import Derived.Test.YtjjcmgdgifcmgaaGreatG2
set_option linter.unusedVariables false
set_option linter.unusedSimpArgs false
namespace Go.Proofs.YtjjcmgdgifcmgaaGreat
open Go.Ev Go.Lib
theorem putID_first {N : Nat} {i : Bool} {t : T_id_halves} {n : Int} : code_PutID N i t n = code_PutID_2 (N + 1) i t n [] := by
 show _ = code_PutID_2_b (code_PutID_2 N) i t n []
 unfold code_PutID code_PutID_2_b
 simp only [put_first]
theorem idBytes15 {N : Nat} {i : Bool} {t : T_id_halves} (hN : 100 ≤ N) (hn : nfID i t) (hd : depthID t ≤ 16) :
  ∃ m, code_ID N i t = some m ∧ kr07_ID N [] (fromID i t) = some (encID i t) ∧ kr05_Bytes (encID i t) = some m ∧ Pk m (encID i t) ∧ m.length ≤ 60000 := by
 have hl : (encID i t).length ≤ 400000 := by
  have h1 := encID_len (t := t) (i := i)
  have h2 : 2 ^ depthID t ≤ 2 ^ 16 := Nat.pow_le_pow_right (by decide) hd
  have h3 : (2 : Nat) ^ 16 = 65536 := by decide
  omega
 obtain ⟨m, h1, h2⟩ := rBytes (l := encID i t) (by omega)
 have hp0 : Pk [] [] := ⟨rfl, fun x hx => (by cases hx), fun q j _ hq => absurd hq (Nat.not_lt_zero _)⟩
 obtain ⟨l', h3, h4⟩ := putID_go (N := N + 1) (i := i) (t := t) (l := []) (B := []) (by omega) (by simp; omega) hp0
 rw [List.nil_append] at h3 h4
 have he : l' = m := h4.uniq h2
 subst he
 have hlen : l'.length ≤ 60000 := by rw [h4.len]; omega
 refine ⟨l', ?_, ?_, h1, h4, hlen⟩
 ·unfold code_ID bits_NewWriter
  rw [putID_first]
  have h3' : code_PutID_2 (N + 1) i t 0 [] = _ := h3
  simp only [Option.bind_some, h3', bits_Writer_Bytes, List.take_length]
  rw [fits_ok (by omega)]
  rfl
 ·have := rID (N := N) (t := t) (i := i) (l := []) (by omega) hn (by simp; omega)
  simpa using this
end Go.Proofs.YtjjcmgdgifcmgaaGreat
