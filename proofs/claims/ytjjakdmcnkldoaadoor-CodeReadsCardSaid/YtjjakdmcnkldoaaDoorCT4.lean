/- The law's own trees; awake; the laws of the counting trees. Plain. -/
import Derived.Test.YtjjakdmcnkldoaaDoorCT3
set_option linter.unusedVariables false
set_option linter.unusedSimpArgs false
namespace Go.Proofs.YtjjakdmcnkldoaaDoor
open Go.Ev Go.Lib
theorem _root_.Go.Ev.Bytes.drop {l : List Int} (h : Bytes l) (n : Nat) : Bytes (l.drop n) := fun x hx => h x (List.mem_of_mem_drop hx)
theorem _root_.Go.Ev.Bytes.take {l : List Int} (h : Bytes l) (n : Nat) : Bytes (l.take n) := fun x hx => h x (List.mem_of_mem_take hx)
theorem take_drop1 (l : List Int) (k : Nat) : List.take ((l.length : Int) - k).toNat (List.drop k l) = List.drop k l := List.take_of_length_le (by simp)
theorem irem8 {b : Int} {c : Nat} (h : 0 ≤ b) : irem .u8 b (c : Int) = b % c := by rw [irem, Int.tmod_eq_emod_of_nonneg h]
theorem iquo8 {b : Int} (h : 0 ≤ b ∧ b < 256) : iquo .u8 b 4 = b / 4 := by
  rw [iquo, Int.tdiv_eq_ediv_of_nonneg h.1, IntKind.wrap_u8]; omega
theorem node_keep {n a b : Int} {t u : Tr} (h : nf n (.mk a t b u)) : nodeE n a t b u = (n, .mk a t b u) := by
  obtain ⟨h0, h1, h2, h3, h4⟩ := h
  have := h1.base
  have := h2.base
  rw [nodeE_mk h4, show min a b = 0 by omega, Int.add_zero, Int.sub_zero, Int.sub_zero]
end Go.Proofs.YtjjakdmcnkldoaaDoor
