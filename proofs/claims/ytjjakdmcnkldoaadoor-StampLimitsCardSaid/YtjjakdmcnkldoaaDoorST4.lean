/- The law's own trees; awake; the laws of the counting trees. Plain. -/
import Derived.Test.YtjjakdmcnkldoaaDoorST3
set_option linter.unusedVariables false
set_option linter.unusedSimpArgs false
namespace Go.Proofs.YtjjakdmcnkldoaaDoor
open Go.Ev Go.Lib
theorem _root_.Go.Ev.Bytes.drop {l : List Int} (h : Bytes l) (n : Nat) : Bytes (l.drop n) := fun x hx => h x (List.mem_of_mem_drop hx)
theorem _root_.Go.Ev.Bytes.take {l : List Int} (h : Bytes l) (n : Nat) : Bytes (l.take n) := fun x hx => h x (List.mem_of_mem_take hx)
theorem take_drop1 (l : List Int) (k : Nat) : List.take ((l.length : Int) - k).toNat (List.drop k l) = List.drop k l := List.take_of_length_le (by simp)
theorem irem8 {b : Int} {c : Nat} (h : 0 ≤ b) : irem .u8 b (c : Int) = b % c := by rw [irem, Int.tmod_eq_emod_of_nonneg h]
theorem iquo8 {b : Int} (h : 0 ≤ b ∧ b < 256) : iquo .u8 b 4 = b / 4 := by
  rw [iquo, Int.tdiv_eq_ediv_of_nonneg h.1, IntKind.wrap_u8]; omega
theorem rmakeEv : ∀ {N most : Nat} {p : List Int}, most + 1 < N → most ≤ 1000 → Bytes p → ∃ e t rest, kinfolkref02_Make N p (most : Int) = some (fromEv e t, rest) ∧ nf e t ∧ depthE t ≤ most ∧ maxE e t ≤ 3 * most + 7 ∧ Bytes rest
  | 0, most, p, hN, hm, h => by omega
  | N + 1, most, p, hN, hm, h => by
    unfold kinfolkref02_Make kinfolkref02_Make_b kinfolkref02_Leaf
    by_cases h0 : (p.length : Int) = 0
    · rw [dt h0]
      exact ⟨0, .nil, [], rfl, Int.le_refl 0, Nat.zero_le _, by simp only [maxE]; omega, fun x hx => by simp at hx⟩
    · have hl : 0 < p.length := by omega
      have hb := h.at hl
      have e8 : IntKind.u64.wrap (irem .u8 (iquo .u8 (p.getD 0 0) 4) 8) = p.getD 0 0 / 4 % 8 := by
        rw [iquo8 hb, show (8 : Int) = ((8 : Nat) : Int) from rfl, irem8 (by omega), u64_in (by omega) (by omega)]
      have e4 : IntKind.u64.wrap (irem .u8 (iquo .u8 (p.getD 0 0) 4) 4) = p.getD 0 0 / 4 % 4 := by
        rw [iquo8 hb, show (4 : Int) = ((4 : Nat) : Int) from rfl, irem8 (by omega), u64_in (by omega) (by omega)]
      have leaf : ∀ q : List Int, Bytes q → ∃ e t rest, some (T_kinfolkref02_Event.mk (p.getD 0 0 / 4 % 8) T_kinfolkref02_Event.nil T_kinfolkref02_Event.nil, q) = some (fromEv e t, rest) ∧ nf e t ∧ depthE t ≤ most ∧ maxE e t ≤ 3 * most + 7 ∧ Bytes rest :=
        fun q hq => ⟨p.getD 0 0 / 4 % 8, .nil, q, rfl, by simp only [nf]; omega, Nat.zero_le _, by simp only [maxE]; omega, hq⟩
      have ht := take_drop1 p 1
      have ht' : List.take ((p.length : Int) - 1).toNat (List.drop 1 p) = List.drop 1 p := ht
      have hd := h.drop 1
      simp only [df h0, cond_false, ht', e8, e4, dt (show (0 : Int) < p.length by omega), dt (show (1 : Int) ≤ p.length by omega), dt (Int.le_refl (0 : Int)), dt (show (0 : Int) ≤ 1 by omega), dt (Int.le_refl (p.length : Int)), dt (show (p.length : Int) = p.length from rfl), Bool.and_self, cond_true, Option.bind_some]
      by_cases hm0 : (most : Int) = 0
      · rw [dt hm0, cond_true]; exact leaf _ hd
      · rw [df hm0, cond_false]
        by_cases h4 : irem .u8 (p.getD 0 0) 4 < 2
        · rw [dt h4, cond_true]; exact leaf _ hd
        · rw [df h4, cond_false]
          obtain ⟨m, rfl⟩ : ∃ m, most = m + 1 := ⟨most - 1, by omega⟩
          have em : isub .i64 ((m + 1 : Nat) : Int) 1 = (m : Int) := by rw [isub64 (by omega) (by omega)]; omega
          rw [em]
          obtain ⟨e, t, r1, q1, q2, q3, q4, q5⟩ := rmakeEv (N := N) (most := m) (by omega) (by omega) hd
          obtain ⟨f, u, r2, s1, s2, s3, s4, s5⟩ := rmakeEv (N := N) (most := m) (by omega) (by omega) q5
          have hn := rNode (N := N) (n := p.getD 0 0 / 4 % 4) (by omega) (by omega) q2 s2 (by omega) (by omega) (by omega)
          rw [q1]
          simp only [Option.bind_some]
          rw [s1]
          simp only [Option.bind_some]
          rw [hn]
          refine ⟨_, _, r2, rfl, node_nf (by omega) q2 s2, ?_, ?_, s5⟩
          · have := node_depth (p.getD 0 0 / 4 % 4) e f t u; omega
          · rw [node_max]; omega
theorem node_keep {n a b : Int} {t u : Tr} (h : nf n (.mk a t b u)) : nodeE n a t b u = (n, .mk a t b u) := by
  obtain ⟨h0, h1, h2, h3, h4⟩ := h
  have := h1.base
  have := h2.base
  rw [nodeE_mk h4, show min a b = 0 by omega, Int.add_zero, Int.sub_zero, Int.sub_zero]
end Go.Proofs.YtjjakdmcnkldoaaDoor
