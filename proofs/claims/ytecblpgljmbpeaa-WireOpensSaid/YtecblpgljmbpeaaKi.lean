/- What wire's inner functions do: numbers. -/
import Derived.Test.YtecblpgljmbpeaaKh
namespace Go.Proofs.Ytecblpgljmbpeaa
open Go.Ev

theorem or128_all : ((List.range 256).all fun x => Nat.beq (x ||| 128) (x % 128 + 128)) = true := by kernel_rfl
theorem or128 (x : Nat) (h : x < 256) : x ||| 128 = x % 128 + 128 :=
  Nat.eq_of_beq_eq_true (List.all_eq_true.1 or128_all x (List.mem_range.2 h))
theorem vbyte (n : Nat) : ior .u8 (IntKind.u8.wrap (n : Int)) 128 = ((n % 128 + 128 : Nat) : Int) := by
  have h1 : IntKind.u8.wrap (n : Int) = ((n % 256 : Nat) : Int) := by rw [IntKind.wrap_u8]; omega
  have h2 := ior_nat (k := .u8) rfl (a := n % 256) (b := 128) (show n % 256 < 2 ^ 8 by omega) (by decide)
  rw [h1, show (128 : Int) = ((128 : Nat) : Int) from rfl, h2, or128 _ (by omega)]
  omega
theorem vshift (n : Nat) : ishr .u64 (n : Int) 7 = ((n / 128 : Nat) : Int) := by
  have := ishr_nat (k := .u64) (a := n) (n := 7) (by decide)
  simpa using this
theorem vnat_small {f n : Nat} (h : n < 128) : vnat f n = [(n : Int)] := by
  cases f with
  | zero => rfl
  | succ f => simp [vnat, h]
theorem loop32 : ∀ (f n : Nat) (l : List Int), n < 128 ^ (f + 1) → l.length + f ≤ 536870912 →
    ∃ (m : List Int) (z : Nat), z < 128 ∧ LR 32 0 (S32 l n) (.exit 0) (E32 m z) ∧ m ++ [(z : Int)] = l ++ vnat f n
  | f, n, l, h, hl => by
    by_cases hn : n < 128
    · refine ⟨l, n, hn, loop_last (Says.of (f32_out l n) ⟨by simp; omega, trivial⟩) (by simp), by rw [vnat_small hn]⟩
    · match f, h, hl with
      | 0, h, hl => simp at h; omega
      | f + 1, h, hl =>
        have hp : 128 ^ (f + 1 + 1) = 128 ^ (f + 1) * 128 := Nat.pow_succ ..
        obtain ⟨m, z, h1, h2, h3⟩ := loop32 f (n / 128) (l ++ [((n % 128 + 128 : Nat) : Int)]) (by omega) (by simp; omega)
        refine ⟨m, z, h1, ?_, ?_⟩
        · refine loop_next (Says.of (f32_round l n) ⟨by simp; omega, by simp, fits_of (by simp; omega), rfl, trivial⟩) ?_
          rw [vbyte, vshift, show l.length + 1 = (l ++ [((n % 128 + 128 : Nat) : Int)]).length by simp]
          exact h2
        · rw [h3, vnat, if_neg hn]; simp
theorem num_runs {l : List Int} {t : Bool} {n : Nat} (hn : n < 18446744073709551616) (hl : l.length + 10 ≤ 536870912) :
    Runs Try.prog 32 [.one (.pv (.ints .u8 l t)), .one (.pv (.int .u64 n))] [] [] ([.one (.own 0 0 (l ++ varint n).length false)], [], [.ints .u8 (l ++ varint n)]) := by
  have e : List.take ((l.length : Int) - 0).toNat l = l := List.take_of_length_le (by omega)
  have hs : (decide ((0 : Int) ≤ 0) && decide ((0 : Int) ≤ ((l).length : Int)) && decide ((((l).length : Int) : Int) ≤ ((l).length : Int)) && decide ((((l).length : Int) : Int) = ((l).length : Int))) = true := by simp
  unfold varint
  rw [Int.toNat_natCast]
  by_cases h : n < 128
  · have hw : IntKind.u8.wrap (n : Int) = (n : Int) := IntWalk.u8_in _ ⟨by omega, by omega⟩
    have H := f32_small l t n
    rw [e, hw] at H
    rw [vnat_small h]
    have hx : LR 32 0 (S32t l n) (.exit 0) (E32t l n) := loop_last (Says.of (f32_out0 l n) ⟨by simp; omega, trivial⟩) (by simp)
    exact runs_of (Says.of H ⟨hs, hx, rfl, fits_of (by simp; omega), trivial⟩)
  · obtain ⟨m, z, h1, h2, h3⟩ := loop32 8 (n / 128) (l ++ [((n % 128 + 128 : Nat) : Int)]) (by omega) (by simp; omega)
    have hv : l ++ vnat 9 n = m ++ [(z : Int)] := by rw [h3, vnat, if_neg h]; simp
    have hx : LR 32 0 (S32t l n) (.exit 0) (E32 m z) := by
      refine loop_next (Says.of (f32_first l n) ⟨by simp; omega, rfl, fits_of (by simp; omega), rfl, trivial⟩) ?_
      rw [vbyte, vshift]
      exact h2
    have hw : IntKind.u8.wrap (z : Int) = (z : Int) := IntWalk.u8_in _ ⟨by omega, by omega⟩
    have hm : m.length + 1 ≤ l.length + 10 := by
      have := congrArg List.length hv
      simp only [List.length_append, List.length_cons, List.length_nil] at this
      have h9 : ∀ f n, (vnat f n).length ≤ f + 1 := by
        intro f
        induction f with
        | zero => intro n; simp [vnat]
        | succ f ih => intro n; unfold vnat; split <;> simp; exact ih _
      have := h9 9 n
      omega
    have H := f32_big l m t n z
    rw [e, hw] at H
    rw [hv, List.length_append]
    exact runs_of (Says.of H ⟨hs, hx, by simp, fits_of (by simp; omega), trivial⟩)
theorem awake_runs : Runs Try.prog 9 [] [] [] ([.one (.pv (.bool true))], [], []) := by
  have hn : Runs Try.prog 32 [.one (.pv .nils), .one (.pv (.int .u64 300))] [] [] ([.one (.own 0 0 (varint 300).length false)], [], [.ints .u8 (varint 300)]) := by
    refine (num_runs (l := []) (t := true) (n := 300) (by decide) (by decide)).args fun x vals hr => ?_
    match vals, hr with
    | [v, u], hr => exact ⟨nils_ints hr.1, hr.2⟩
  have H := f9_fn
  rw [List.take_length] at H
  have hs := same_runs (l := varint 300) (m := [172, 2]) (t := false) (u := true) (by decide)
  have hd : decide (varint 300 = [172, 2]) = true := by decide
  rw [hd] at H hs
  have hw : decide (wsum [49, 50, 51, 52, 53, 54, 55, 56, 57] = 3421780262) = true := by kernel_rfl
  exact runs_of (Says.of H ⟨sum_runs (by decide), hw, hn, hs, trivial⟩)
end Go.Proofs.Ytecblpgljmbpeaa
