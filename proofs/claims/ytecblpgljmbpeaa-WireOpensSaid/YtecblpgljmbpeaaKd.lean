/- What wire's inner functions do: copies, bytes of a number, likeness. -/
import Derived.Test.YtecblpgljmbpeaaKc
namespace Go.Proofs.Ytecblpgljmbpeaa
open Go.Ev

theorem nbeq_ne {n : Nat} (h : n ≠ 0) : (!(Nat.beq n 0)) = true := by
  cases n with
  | zero => exact (h rfl).elim
  | succ n => rfl
theorem fits_of {n : Nat} (h : n ≤ 536870912) : fits n = true := by simp [fits, h]
/-! ### lay, Four -/
theorem lay_byte {n : Int} (h0 : 0 ≤ n) (h1 : n < 4294967296) {i : Nat} (hi : i < 4) : IntKind.u8.wrap (ishr .u32 n (imul .i64 8 i)) = (four4 n).getD i 0 := by
  obtain ⟨k, rfl⟩ : ∃ k : Nat, n = k := ⟨n.toNat, by omega⟩
  have h2 : imul .i64 8 (i : Int) = ((8 * i : Nat) : Int) := by rw [imul, i64_in (by omega) (by omega)]; simp
  rw [h2, ishr_nat (k := .u32) (show 8 * i ≤ 32 by omega), IntKind.wrap_u8]
  match i, hi with
  | 0, _ => simp [four4]
  | 1, _ => simp [four4]
  | 2, _ => simp [four4]
  | 3, _ => simp [four4]
theorem four4_drop (n : Int) {i : Nat} (hi : i < 4) : (four4 n).drop i = (four4 n).getD i 0 :: (four4 n).drop (i + 1) := drop_cons (by simpa [four4] using hi)
theorem loop39 {n : Int} (h0 : 0 ≤ n) (h1 : n < 4294967296) : ∀ (m i : Nat) (l : List Int), i + m = 4 → l.length + m ≤ 536870912 → LR 39 0 (S39 l l.length n i) (.exit 0) (E39 (l ++ (four4 n).drop i) (l.length + m) n 4)
  | 0, i, l, hi, hl => by
    obtain rfl : i = 4 := by omega
    have : l ++ (four4 n).drop 4 = l := by simp [four4]
    rw [this]
    exact loop_last (Says.of (f39_out l l.length n 4) ⟨by decide, trivial⟩) (by simp)
  | m + 1, i, l, hi, hl => by
    have ih := loop39 h0 h1 m (i + 1) (l ++ [(four4 n).getD i 0]) (by omega) (by simp; omega)
    have e : iadd .i64 (i : Int) 1 = ((i + 1 : Nat) : Int) := by rw [iadd, i64_in (by omega) (by omega)]; simp
    refine loop_next (Says.of (f39_round l l.length n i) ⟨by simp; omega, by rw [imul, i64_in (by omega) (by omega)]; simp; omega, by simp, fits_of (by simp; omega), trivial⟩) ?_
    rw [e, lay_byte h0 h1 (show i < 4 by omega), four4_drop n (show i < 4 by omega)]
    simp only [List.length_append, List.length_cons, List.length_nil, Nat.zero_add, List.append_assoc, List.cons_append, List.nil_append] at ih
    rw [show l.length + (m + 1) = l.length + 1 + m by omega]
    exact ih
theorem lay_runs {l : List Int} {n : Int} (h0 : 0 ≤ n) (h1 : n < 4294967296) (hl : l.length + 4 ≤ 536870912) :
    Runs Try.prog 39 [.one (.pv (.ints .u8 l true)), .one (.pv (.int .u32 n))] [] [] ([.one (.own 0 0 (l.length + 4) false)], [], [.ints .u8 (l ++ four4 n)]) := by
  have ih := loop39 h0 h1 3 1 (l ++ [(four4 n).getD 0 0]) (by omega) (by simp; omega)
  have hfirst : LR 39 0 (S39a l n 0) (.exit 0) (E39 (l ++ four4 n) (l.length + 4) n 4) := by
    refine loop_next (Says.of (f39_first l n 0) ⟨by simp, by decide, rfl, fits_of (by simp; omega), trivial⟩) ?_
    have e2 : IntKind.u8.wrap (ishr .u32 n (imul .i64 8 0)) = (four4 n).getD 0 0 := lay_byte h0 h1 (i := 0) (by omega)
    rw [e2]
    simp only [List.length_append, List.length_cons, List.length_nil, Nat.zero_add, List.append_assoc, List.cons_append, List.nil_append] at ih
    have e : (four4 n).getD 0 0 :: (four4 n).drop 1 = four4 n := rfl
    rw [e] at ih
    have e3 : iadd .i64 0 1 = ((1 : Nat) : Int) := by decide
    rw [show l.length + 4 = l.length + 1 + 3 by omega, e3]
    simpa only [List.length_append, List.length_cons, List.length_nil, Nat.zero_add] using ih
  exact runs_of (Says.of (f39_fn l n) ⟨hfirst, trivial⟩)
theorem Four_runs {n : Int} (h0 : 0 ≤ n) (h1 : n < 4294967296) : Runs Try.prog 40 [.one (.pv (.int .u32 n))] [] [] ([.one (.own 0 0 4 true)], [], [.ints .u8 (four4 n)]) := by
  have e : [(IntKind.u8.wrap n), (IntKind.u8.wrap (iquo .u32 n 256)), (IntKind.u8.wrap (iquo .u32 n 65536)), (IntKind.u8.wrap (iquo .u32 n 16777216))] = four4 n := by
    simp only [iquo, IntWalk.u32_quo n 256 ⟨h0, by omega, by omega⟩, IntWalk.u32_quo n 65536 ⟨h0, by omega, by omega⟩, IntWalk.u32_quo n 16777216 ⟨h0, by omega, by omega⟩, IntKind.wrap_u8, four4]
  rw [← e]
  exact runs_of (Says.of (f40_fn n) ⟨rfl, rfl, rfl, trivial⟩)

/-! ### cut -/
theorem cut_runs {l : List Int} {t : Bool} {k : Int} (h0 : 0 ≤ k) (h1 : k ≤ 536870912) :
    Runs Try.prog 10 [.one (.bor (.ints .u8 l t)), .one (.pv (.int .i64 k))] [] [] ([.one (.own 0 0 (l.take k.toNat).length false)], [], [.ints .u8 (l.take k.toNat)]) := by
  have e : List.take ((if (k : Int) < ((l).length : Int) then k else ((l).length : Int)) - 0).toNat l = l.take k.toNat := by
    split
    · simp
    · rw [List.take_of_length_le (by omega), List.take_of_length_le (by omega)]
  have hb : (decide ((0 : Int) ≤ 0) && decide ((0 : Int) ≤ (if (k : Int) < ((l).length : Int) then k else ((l).length : Int))) && decide (((if (k : Int) < ((l).length : Int) then k else ((l).length : Int)) : Int) ≤ ((l).length : Int)) && decide (((if (k : Int) < ((l).length : Int) then k else ((l).length : Int)) : Int) = (if (k : Int) < ((l).length : Int) then k else ((l).length : Int)))) = true := by
    simp only [Bool.and_eq_true, decide_eq_true_eq, and_true]
    split <;> omega
  have H1 := f10_all l t k
  have H2 := f10_none l t k
  rw [e] at H1 H2
  rw [List.nil_append] at H1
  by_cases hn : (l.take k.toNat).length = 0
  · have e2 : l.take k.toNat = [] := List.eq_nil_of_length_eq_zero hn
    rw [e2] at H2 ⊢
    exact runs_of (Says.of H2 ⟨hb, rfl, trivial⟩)
  · refine runs_of (Says.of H1 ⟨hb, ?_, fits_of (by rw [List.length_take]; omega), trivial⟩)
    exact nbeq_ne hn

/-! ### Same -/
theorem loop15 {l m : List Int} {t u : Bool} (hlen : l.length = m.length) (hl : l.length ≤ 1000000000) : ∀ (j i : Nat), i + j = l.length → l.drop i = m.drop i → LR 15 0 (S15 l m t u i) (.exit 0) (E15 l m t u l.length)
  | 0, i, h, he => by
    obtain rfl : i = l.length := by omega
    exact loop_last (Says.of (f15_out l m t u (l.length : Nat)) ⟨by simp, trivial⟩) (by simp)
  | j + 1, i, h, he => by
    rw [drop_cons (l := l) (by omega), drop_cons (l := m) (by omega)] at he
    obtain ⟨h1, h2⟩ := List.cons.inj he
    have ih := loop15 (t := t) (u := u) hlen hl j (i + 1) (by omega) h2
    have e : iadd .i64 (i : Int) 1 = ((i + 1 : Nat) : Int) := by rw [iadd, i64_in (by omega) (by omega)]; simp
    refine loop_next (Says.of (f15_round l m t u i) ⟨by simp; omega, by simp; omega, by simp; omega, by simpa using h1, trivial⟩) ?_
    rw [e]
    exact ih
theorem loop15n {l m : List Int} {t u : Bool} (hlen : l.length = m.length) (hl : l.length ≤ 1000000000) : ∀ (j i : Nat), i + j = l.length → l.drop i ≠ m.drop i → LR 15 0 (S15 l m t u i) .ret ⟨[(4, pbool false)], [], []⟩
  | 0, i, h, he => by
    obtain rfl : i = l.length := by omega
    rw [List.drop_length, hlen, List.drop_length] at he
    exact (he rfl).elim
  | j + 1, i, h, he => by
    by_cases h1 : l.getD i 0 = m.getD i 0
    · rw [drop_cons (l := l) (by omega), drop_cons (l := m) (by omega), h1] at he
      have ih := loop15n (t := t) (u := u) hlen hl j (i + 1) (by omega) (fun h2 => he (by rw [h2]))
      have e : iadd .i64 (i : Int) 1 = ((i + 1 : Nat) : Int) := by rw [iadd, i64_in (by omega) (by omega)]; simp
      refine loop_next (Says.of (f15_round l m t u i) ⟨by simp; omega, by simp; omega, by simp; omega, by simpa using h1, trivial⟩) ?_
      rw [e]
      exact ih
    · exact loop_last (Says.of (f15_not l m t u i) ⟨by simp; omega, by simp; omega, by simp; omega, by simpa using h1, trivial⟩) (by simp)
theorem same_runs {l m : List Int} {t u : Bool} (hl : l.length ≤ 1000000000) : Runs Try.prog 15 [.one (.bor (.ints .u8 l t)), .one (.bor (.ints .u8 m u))] [] [] ([.one (.pv (.bool (decide (l = m))))], [], []) := by
  by_cases hlen : l.length = m.length
  · by_cases he : l = m
    · rw [show decide (l = m) = true by simpa using he]
      exact runs_of (Says.of (f15_same l m t u) ⟨by simp [hlen], loop15 hlen hl l.length 0 (by omega) (by rw [he]), trivial⟩)
    · rw [show decide (l = m) = false by simpa using he]
      exact runs_of (Says.of (f15_diff l m t u) ⟨by simp [hlen], loop15n hlen hl l.length 0 (by omega) (by simpa using he), trivial⟩)
  · rw [show decide (l = m) = false by simpa using fun h => hlen (by rw [h])]
    exact runs_of (Says.of (f15_len l m t u) ⟨by simp; omega, trivial⟩)

/-! ### bytes.Clone -/
theorem clone_runs {l : List Int} {t : Bool} (hl : l.length ≤ 536870912) : Runs Try.prog 37 [.one (.pv (.ints .u8 l t))] [] [] ([.one (.pv (.ints .u8 l false))], [], []) := by
  cases l with
  | nil =>
    have h1 : Runs Try.prog 37 [.one (.pv .nils)] [] [] ([.one (.pv (.ints .u8 [] false))], [], []) := by
      have h0 : Runs Try.prog 37 [.one (.pv .nils)] [] [] ([.one (.pv .nils)], [], []) := runs_of (Says.of f37_nil ⟨rfl, trivial⟩)
      refine h0.res rfl (Nat.zero_le _) fun y v hs hv => ⟨y, rfl, Ext.refl y, rfl, hs, nils_ints hv⟩
    have h2 : Runs Try.prog 37 [.one (.pv .emp)] [] [] ([.one (.pv (.ints .u8 [] false))], [], []) :=
      Runs.close0 (rw := .ints .u8 []) (runs_of (Says.of f37_emp ⟨rfl, rfl, trivial⟩)) rfl
    refine h1.split h2 fun x vals hr => ?_
    match vals, hr with
    | [v], hr =>
      rcases rep_empty hr.1 with h | h
      · exact .inl ⟨h, trivial⟩
      · exact .inr ⟨h, trivial⟩
  | cons a l =>
    have H := f37_fn (a :: l) t
    rw [List.nil_append] at H
    exact Runs.close0 (rw := .ints .u8 (a :: l)) (runs_of (Says.of H ⟨nbeq_ne (by simp), rfl, nbeq_ne (by simp), fits_of hl, trivial⟩)) rfl
end Go.Proofs.Ytecblpgljmbpeaa
