/- Chapter 15: an id read whole: the program's reader and the document's. Plain. -/
import Derived.Test.YtjjcmgdgifcmgaaGreatG2
set_option linter.unusedVariables false
set_option linter.unusedSimpArgs false
namespace Go.Proofs.YtjjcmgdgifcmgaaGreat
open Go.Ev Go.Lib
def zd4 (p : List Int) : Bool × Idt × Int :=
 match decI 16 (zcZ p) with
 | .inr e => (false, .nil, e)
 | .inl (i, t, r) => if endR r = 0 then (i, t, 0) else (false, .nil, endR r)
theorem zvC {N : Nat} {p : List Int} (hN : 100 ≤ N) (hb : Bytes p) (hp : p.length ≤ 10000) : zg1 N p = some (zd4 p) := by
 have h := zwK hb (by omega) (N := N) (k := 16) (d := 0) (n := 0) (by omega) (by omega) (zwN p)
 unfold zg1 zjU zd4 zgh
 rw [zfX (by omega)]
 revert h
 cases hd : decI 16 (zcZ p) with
 | inr e =>
  rintro ⟨he, i, t, m, er, h, -⟩
  have h' : zbh N 0 0 p 0 0 = _ := h
  rw [h']
  simp only [Option.bind_some, cond_true, df he, cond_false, zfy, zea]
 | inl x =>
  obtain ⟨i, t, r⟩ := x
  rintro ⟨m, h, hr⟩
  have h' : zbh N 0 0 p 0 0 = _ := h
  rw [h']
  obtain ⟨x, hx⟩ := zwl hb (by omega) hr
  simp only [Option.bind_some, cond_true, decide_true, zea, hx]
  by_cases hz : endR r = 0
  ·rw [dt hz, if_pos hz]; rfl
  ·rw [df hz, if_neg hz]; rfl
theorem zuB {N : Nat} {p : List Int} (hN : 100 ≤ N) (hb : Bytes p) (hp : p.length ≤ 10000) : zhf N p = some (zjg (zd4 p).1 (zd4 p).2.1, (zd4 p).2.2) := by
 have hL : (zcZ p).length ≤ 80000 := by rw [zgZ]; omega
 have h := zs4 (N := N + 1) (k := 16) (d := 0) (L := zcZ p) (by omega) (by omega) (by omega)
 unfold zhf zd4
 rw [zxL hb hp]
 simp only [Option.bind_some]
 rw [zxq (by omega)]
 revert h
 cases hd : decI 16 (zcZ p) with
 | inr e =>
  rintro ⟨he, l, er, h⟩
  have h' : zba (N + 1) 0 (zcZ p) 0 = _ := h
  rw [h']
  simp only [Option.bind_some, df he, cond_false]
  rfl
 | inl x =>
  obtain ⟨i, t, r⟩ := x
  intro h
  have h' : zba (N + 1) 0 (zcZ p) 0 = _ := h
  rw [h']
  have hr : r.length ≤ 1000000 := by
   have := congrArg List.length (zsx hd)
   rw [List.length_append] at this
   omega
  obtain ⟨x, hx⟩ := rEnd hr
  simp only [Option.bind_some, decide_true, cond_true, hx]
  by_cases hz : endR r = 0
  ·rw [dt hz, if_pos hz]; rfl
  ·rw [df hz, if_neg hz]; rfl
end Go.Proofs.YtjjcmgdgifcmgaaGreat
