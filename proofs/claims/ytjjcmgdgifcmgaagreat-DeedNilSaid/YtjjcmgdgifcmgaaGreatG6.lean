/- Chapter 15: an id written: the program's bytes are the document's. Plain. -/
import Derived.Test.YtjjcmgdgifcmgaaGreatG2
set_option linter.unusedVariables false
set_option linter.unusedSimpArgs false
namespace Go.Proofs.YtjjcmgdgifcmgaaGreat
open Go.Ev Go.Lib
theorem zqi {N : Nat} {i : Bool} {t : zad} {n : Int} : zgP N i t n = zcc (N + 1) i t n [] := by
 show _ = zdN (zcc N) i t n []
 unfold zgP zdN
 simp only [zsF]
theorem zsd {N : Nat} {i : Bool} {t : zad} (hN : 100 ≤ N) (hn : nfID i t) (hd : zc3 t ≤ 16) :
  ∃ m, zlU N i t = some m ∧ zjI N [] (ziv i t) = some (zeO i t) ∧ zfX (zeO i t) = some m ∧ Pk m (zeO i t) ∧ m.length ≤ 60000 := by
 have hl : (zeO i t).length ≤ 400000 := by
  have h1 := zlY (t := t) (i := i)
  have h2 : 2 ^ zc3 t ≤ 2 ^ 16 := Nat.pow_le_pow_right (by decide) hd
  have h3 : (2 : Nat) ^ 16 = 65536 := by decide
  omega
 obtain ⟨m, h1, h2⟩ := zvk (l := zeO i t) (by omega)
 have hp0 : Pk [] [] := ⟨rfl, fun x hx => (by cases hx), fun q j _ hq => absurd hq (Nat.not_lt_zero _)⟩
 obtain ⟨l', h3, h4⟩ := zkp (N := N + 1) (i := i) (t := t) (l := []) (B := []) (by omega) (by simp; omega) hp0
 rw [List.nil_append] at h3 h4
 have he : l' = m := h4.uniq h2
 subst he
 have hlen : l'.length ≤ 60000 := by rw [h4.len]; omega
 refine ⟨l', ?_, ?_, h1, h4, hlen⟩
 ·unfold zlU zfo
  rw [zqi]
  have h3' : zcc (N + 1) i t 0 [] = _ := h3
  simp only [Option.bind_some, h3', zec, List.take_length]
  rw [zdg (by omega)]
  rfl
 ·have := rID (N := N) (t := t) (i := i) (l := []) (by omega) hn (by simp; omega)
  simpa using this
end Go.Proofs.YtjjcmgdgifcmgaaGreat
