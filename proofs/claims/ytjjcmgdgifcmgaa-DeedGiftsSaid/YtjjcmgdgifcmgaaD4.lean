/- Chapter 15: an id read whole: the program's reader and the document's. Plain. -/
import Derived.Test.YtjjcmgdgifcmgaaD1
set_option linter.unusedVariables false
set_option linter.unusedSimpArgs false
namespace Go.Proofs.Ytjjcmgdgifcmgaa
open Go.Ev Go.Lib

/-- An id out of bytes, whole. -/
def readI15 (p : List Int) : Bool × Idt × Int :=
  match decI 16 (bitsOf p) with
  | .inr e => (false, .nil, e)
  | .inl (i, t, r) => if endR r = 0 then (i, t, 0) else (false, .nil, endR r)
theorem progID15 {N : Nat} {p : List Int} (hN : 100 ≤ N) (hb : Bytes p) (hp : p.length ≤ 10000) : code_ReadID N p = some (readI15 p) := by
  have h := progI hb (by omega) (N := N) (k := 16) (d := 0) (n := 0) (by omega) (by omega) (rem_all p)
  unfold code_ReadID code_GetID readI15 bits_NewReader
  rw [fits_ok (by omega)]
  revert h
  cases hd : decI 16 (bitsOf p) with
  | inr e =>
    rintro ⟨he, i, t, m, er, h, -⟩
    have h' : code_source_id_2 N 0 0 p 0 0 = _ := h
    rw [h']
    simp only [Option.bind_some, cond_true, df he, cond_false, id_Zero, code_whole_id_ID]
  | inl x =>
    obtain ⟨i, t, r⟩ := x
    rintro ⟨m, h, hr⟩
    have h' : code_source_id_2 N 0 0 p 0 0 = _ := h
    rw [h']
    obtain ⟨x, hx⟩ := endProg hb (by omega) hr
    simp only [Option.bind_some, cond_true, decide_true, code_whole_id_ID, hx]
    by_cases hz : endR r = 0
    · rw [dt hz, if_pos hz]; rfl
    · rw [df hz, if_neg hz]; rfl
theorem rprogID15 {N : Nat} {p : List Int} (hN : 100 ≤ N) (hb : Bytes p) (hp : p.length ≤ 10000) : kinfolkref15_ReadID N p = some (fromI (readI15 p).1 (readI15 p).2.1, (readI15 p).2.2) := by
  have hL : (bitsOf p).length ≤ 80000 := by rw [bitsOf_len]; omega
  have h := rprogI (N := N + 1) (k := 16) (d := 0) (L := bitsOf p) (by omega) (by omega) (by omega)
  unfold kinfolkref15_ReadID readI15
  rw [rBits hb hp]
  simp only [Option.bind_some]
  rw [rGetID (by omega)]
  revert h
  cases hd : decI 16 (bitsOf p) with
  | inr e =>
    rintro ⟨he, l, er, h⟩
    have h' : kinfolkref07_GetID_4 (N + 1) 0 (bitsOf p) 0 = _ := h
    rw [h']
    simp only [Option.bind_some, df he, cond_false]
    rfl
  | inl x =>
    obtain ⟨i, t, r⟩ := x
    intro h
    have h' : kinfolkref07_GetID_4 (N + 1) 0 (bitsOf p) 0 = _ := h
    rw [h']
    have hr : r.length ≤ 1000000 := by
      have := congrArg List.length (decI_enc hd)
      rw [List.length_append] at this
      omega
    obtain ⟨x, hx⟩ := rEnd hr
    simp only [Option.bind_some, decide_true, cond_true, hx]
    by_cases hz : endR r = 0
    · rw [dt hz, if_pos hz]; rfl
    · rw [df hz, if_neg hz]; rfl
end Go.Proofs.Ytjjcmgdgifcmgaa
