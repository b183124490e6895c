/- Chapter 15: the law, plain. -/
import Derived.Test.YtjjcmgdgifcmgaaD10
import Derived.Test.YtjjcmgdgifcmgaaD3
set_option linter.unusedVariables false
set_option linter.unusedSimpArgs false
namespace Go.Proofs.Ytjjcmgdgifcmgaa
open Go.Ev Go.Lib

theorem and4 {a b c d : Bool} (h1 : a = true) (h2 : b = true) (h3 : c = true) (h4 : d = true) : (a && b && c && d) = true := by rw [h1, h2, h3, h4]; rfl
theorem clone15 {l : List Int} (h : l.length ≤ 1000) : slices_Clone_byte l = some () := by
  unfold slices_Clone_byte
  rw [if_pos (fits_ok (by omega))]
theorem gifts15 {N : Nat} (hN : 100 ≤ N) {front share : List Int} (hf : Bytes front) (hs : Bytes share) {no f to : Int} (h0 : 0 ≤ no) (h1 : no < 18446744073709551616) : kinfolklaw15_DeedGifts N front no f to share = some true := by
  obtain ⟨i, t, hm, hn, hd⟩ := made15 hN hs
  unfold kinfolklaw15_DeedGifts
  rw [awake15]
  simp only [Option.bind_some, cond_true, hm]
  rw [and4 (by simp) (by split <;> simp <;> omega) (by split <;> simp <;> omega) (by simp)]
  have hFl : (List.take ((if (20 : Int) < ((front).length : Int) then 20 else ((front).length : Int)) - 0).toNat front).length ≤ 20 := by
    rw [List.length_take]; split <;> omega
  have hFb : Bytes (List.take ((if (20 : Int) < ((front).length : Int) then 20 else ((front).length : Int)) - 0).toNat front) := fun x hx => hf x (List.mem_of_mem_take hx)
  generalize List.take ((if (20 : Int) < ((front).length : Int) then 20 else ((front).length : Int)) - 0).toNat front = F at hFl hFb ⊢
  obtain ⟨l, p1, p2, p3, p4⟩ := putGift15 (N := N) (p := F) (no := no) (from_ := f) (to := to) hN (by omega) h0 h1 hn hd
  obtain ⟨a, b, c, j, u, at2, e, g1, g2, g3, g4⟩ := gift15n (N := N) (p := l) hN p4 (by omega)
  obtain ⟨bb, r1, r2⟩ := right15 no f to i t
  have e1 : List.take ((F.length : Int) - 0).toNat (F ++ [90]) = F := by simp
  have e2 : List.drop (0 + ((F.length : Int)).toNat) (F ++ l) = l := by simp
  have e3 : List.drop ((F.length : Int)).toNat (F ++ l) = l := by simp
  have e4 : List.take (((F ++ l).length : Int) - (F.length : Int)).toNat l = l := List.take_of_length_le (by rw [List.length_append]; omega)
  have e5 : (F ++ [90]).getD ((F.length : Int)).toNat 0 = 90 := by simp [List.getD]
  have hj := join15 (r := [E_L_uint8.mk F, E_L_uint8.mk l]) (by simp) (by simp only [List.flatMap_cons, List.flatMap_nil, jl15, List.length_append, List.length_nil]; omega)
  simp only [List.flatMap_cons, List.flatMap_nil, jl15, List.append_nil] at hj
  have hw : wire_Of l = some () := by unfold wire_Of; rw [fits_ok (by omega)]; rfl
  simp only [cond_true, clone15 (show F.length ≤ 1000 by omega), Option.bind_some, List.take_length, e1, p2, e2, e4, hw, g1, e3, g2, p1, hj, W.same_eq (a := F ++ l) (b := F ++ l) (by rw [List.length_append]; omega), e5, W.err_eq, decide_true, same15 hN a b c g3 g4, r1, r2]
  rw [fits_ok (by rw [List.length_append]; simp; omega)]
  simp [List.length_append]
  have q1 : (F.length : Int) ≤ (F.length : Int) + 1 := by omega
  have q2 : (F.length : Int) ≤ (F.length : Int) + (l.length : Int) := by omega
  have q3 : (F.length : Int) < (F.length : Int) + 1 := by omega
  simp only [dt q1, dt q2, dt q3, cond_true]
end Go.Proofs.Ytjjcmgdgifcmgaa
