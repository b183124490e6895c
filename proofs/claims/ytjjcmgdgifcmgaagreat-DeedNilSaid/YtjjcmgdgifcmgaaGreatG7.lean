/- Chapter 15: a gift written: the program's bytes are the document's. Plain. -/
import Derived.Test.YtjjcmgdgifcmgaaGreatG6
set_option linter.unusedVariables false
set_option linter.unusedSimpArgs false
namespace Go.Proofs.YtjjcmgdgifcmgaaGreat
open Go.Ev Go.Lib
def jl15 : zaq → List Int | .mk l => l
theorem zpb {r : List zaq} (hr : r.length ≤ 1000) : ∀ (m k : Nat) (l : List Int), k + m = r.length → (l ++ (r.drop k).flatMap jl15).length ≤ 10000000 →
  runL (zbX r (r.length : Int)) ((k : Int), l) = some (l ++ (r.drop k).flatMap jl15)
 | 0, k, l, hk, hl => by
  rw [List.drop_of_length_le (by omega)]
  refine zbi ?_
  unfold zbX
  simp only [df (show ¬ (k : Int) < (r.length : Int) by omega), cond_false, List.flatMap_nil, List.append_nil]
 | m + 1, k, l, hk, hl => by
  have hkr : k < r.length := by omega
  have hd : r.drop k = r[k] :: r.drop (k + 1) := List.drop_eq_getElem_cons hkr
  cases hx : r[k] with
  | mk x =>
   rw [hx] at hd
   rw [hd] at hl ⊢
   simp only [List.flatMap_cons, jl15] at hl ⊢
   have hg : r[k]? = some (.mk x) := by rw [List.getElem?_eq_getElem hkr, hx]
   have ih := zpb hr m (k + 1) (l ++ x) (by omega) (by rw [List.append_assoc]; exact hl)
   rw [List.append_assoc] at ih
   rw [← ih]
   refine zbw ?_
   unfold zbX
   have hf : fits (l ++ x).length = true := zdg (by simp only [List.length_append] at hl ⊢; omega)
   have e1 : iadd .i64 (k : Int) 1 = ((k + 1 : Nat) : Int) := by rw [zj3 (by omega) (by omega)]; simp
   simp only [dt (show (k : Int) < (r.length : Int) by omega), cond_true, List.length_map, decide_eq_true (show (0 : Int) ≤ (k : Int) by omega), Bool.and_self, Int.toNat_natCast, hg, Option.bind_some, hf, e1]
theorem zsj {r : List zaq} (hr : r.length ≤ 1000) (hl : (r.flatMap jl15).length ≤ 10000000) : zdx r = some (r.flatMap jl15) := by
 have h := zpb hr r.length 0 [] (by omega) (by simpa using hl)
 have h' : runL (zbX r (r.length : Int)) (0, []) = _ := h
 unfold zdx
 rw [List.length_map, h']
 simp
theorem zhL {N : Nat} (hN : 100 ≤ N) {n : Int} (h0 : 0 ≤ n) (h1 : n < 18446744073709551616) : zcz N n = some (W.varint n) := by
 obtain ⟨m, rfl⟩ : ∃ m : Nat, n = m := ⟨n.toNat, by omega⟩
 rw [W.num_vnat (f := 9) (i := 0) (by omega) (by omega) (by omega)]
 simp [W.varint]
theorem zui (n : Int) : 0 ≤ IntKind.u64.wrap n ∧ IntKind.u64.wrap n < 18446744073709551616 := by
 simp only [IntKind.wrap, IntKind.bits, IntKind.signed]
 simp
 omega
end Go.Proofs.YtjjcmgdgifcmgaaGreat
