/- What wire's inner functions do: joining, frames. -/
import Derived.Test.YtecblpgljmbpeaaKe
namespace Go.Proofs.Ytecblpgljmbpeaa
open Go.Ev

/-! ### Join -/
def jn (ls : List (List Int × Bool)) : List Int := (ls.map Prod.fst).flatten
theorem jn_cons (z : List Int × Bool) (ls : List (List Int × Bool)) : jn (z :: ls) = z.1 ++ jn ls := by simp [jn]
theorem ent_at {ls : List (List Int × Bool)} {i : Nat} (h : i < ls.length) : (ls.map ent).getD ((i : Nat) : Int).toNat [] = [.ints .u8 (ls[i]).1 (ls[i]).2] := by
  simp [List.getD, h, ent]
theorem loop33 {ls : List (List Int × Bool)} (hl : ls.length ≤ 1000000000) : ∀ (m i : Nat) (l : List Int), i + m = ls.length → l.length + (jn (ls.drop i)).length ≤ 536870912 →
    LR 33 0 (S33 ls l i) (.exit 0) (E33 ls (l ++ jn (ls.drop i)) (ls.map ent).length)
  | 0, i, l, h, hb => by
    have e : ((i : Nat) : Int) = ((ls.map ent).length : Int) := by simp; omega
    rw [show ls.drop i = [] from List.drop_eq_nil_of_le (by omega), show jn [] = [] from rfl, List.append_nil, e]
    exact loop_last (Says.of (f33_ob ls l _) ⟨by simp, trivial⟩) (by simp)
  | m + 1, i, l, h, hb => by
    have hi : i < ls.length := by omega
    rw [List.drop_eq_getElem_cons hi, jn_cons] at hb ⊢
    simp only [List.length_append] at hb
    have ih := loop33 hl m (i + 1) (l ++ (ls[i]).1) (by omega) (by simp only [List.length_append]; omega)
    have e : iadd .i64 (i : Int) 1 = ((i + 1 : Nat) : Int) := by rw [iadd, i64_in (by omega) (by omega)]; simp
    refine loop_next (Says.of (f33_b ls l (ls[i]).1 (ls[i]).2 i) ⟨by simp; omega, by simp; omega, ent_at hi, by simp, fits_of (by simp only [List.length_append]; omega), trivial⟩) ?_
    rw [e, ← List.append_assoc, ← List.length_append]
    exact ih
theorem loop33n {ls : List (List Int × Bool)} (hl : ls.length ≤ 1000000000) : ∀ (m i : Nat), i + m = ls.length → (jn (ls.drop i)).length ≤ 536870912 →
    (jn (ls.drop i) = [] → LR 33 0 (S33n ls i) (.exit 0) (E33n ls (ls.map ent).length)) ∧ (jn (ls.drop i) ≠ [] → LR 33 0 (S33n ls i) (.exit 0) (E33 ls (jn (ls.drop i)) (ls.map ent).length))
  | 0, i, h, hb => by
    have e : ((i : Nat) : Int) = ((ls.map ent).length : Int) := by simp; omega
    rw [show ls.drop i = [] from List.drop_eq_nil_of_le (by omega), show jn [] = [] from rfl, e]
    exact ⟨fun _ => loop_last (Says.of (f33_on ls _) ⟨by simp, trivial⟩) (by simp), fun h => (h rfl).elim⟩
  | m + 1, i, h, hb => by
    have hi : i < ls.length := by omega
    rw [List.drop_eq_getElem_cons hi, jn_cons] at hb ⊢
    simp only [List.length_append] at hb
    have e : iadd .i64 (i : Int) 1 = ((i + 1 : Nat) : Int) := by rw [iadd, i64_in (by omega) (by omega)]; simp
    by_cases h0 : (ls[i]).1.length = 0
    · have h1 : (ls[i]).1 = [] := List.eq_nil_of_length_eq_zero h0
      have ih := loop33n hl m (i + 1) (by omega) (by omega)
      have hs : ∀ {E : St}, LR 33 0 (S33n ls ((i + 1 : Nat) : Int)) (.exit 0) E → LR 33 0 (S33n ls i) (.exit 0) E := by
        intro E hE
        refine loop_next (Says.of (f33_ne ls (ls[i]).1 (ls[i]).2 i) ⟨by simp; omega, by simp; omega, ent_at hi, by rw [h0]; rfl, trivial⟩) ?_
        rw [e]
        exact hE
      rw [h1, List.nil_append]
      exact ⟨fun hh => hs (ih.1 hh), fun hh => hs (ih.2 hh)⟩
    · refine ⟨fun hh => absurd (by rw [(List.append_eq_nil_iff.1 hh).1]; rfl) h0, fun _ => ?_⟩
      have ih := loop33 hl m (i + 1) (ls[i]).1 (by omega) (by omega)
      refine loop_next (Says.of (f33_nn ls (ls[i]).1 (ls[i]).2 i) ⟨by simp; omega, by simp; omega, ent_at hi, nbeq_ne h0, fits_of (by simp only [List.nil_append]; omega), trivial⟩) ?_
      rw [e, List.nil_append]
      exact ih
theorem join_runs {ls : List (List Int × Bool)} (hl : ls.length ≤ 1000000000) (hb : (jn ls).length ≤ 536870912) : Runs Try.prog 33 [.one (.pv (.recs 1 (ls.map ent) true))] [] [] ([.one (.pv (.ints .u8 (jn ls) false))], [], []) := by
  have h := loop33n hl ls.length 0 (by omega) hb
  rw [List.drop_zero] at h
  by_cases he : jn ls = []
  · have h0 : Runs Try.prog 33 [.one (.pv (.recs 1 (ls.map ent) true))] [] [] ([.one (.pv .nils)], [], []) := runs_of (Says.of (f33_fn ls) ⟨h.1 he, trivial⟩)
    rw [he]
    exact h0.res rfl (Nat.zero_le _) fun y v hs hv => ⟨y, rfl, Ext.refl y, rfl, hs, nils_ints hv⟩
  · exact Runs.close0 (rw := .ints .u8 (jn ls)) (runs_of (Says.of (f33_fb ls (jn ls)) ⟨h.2 he, trivial⟩)) rfl

/-! ### Frame -/
theorem four4_bytes (n : Int) : Bytes (four4 n) := by
  intro x hx
  simp only [four4, List.mem_cons, List.not_mem_nil, or_false] at hx
  rcases hx with rfl | rfl | rfl | rfl <;> omega
theorem Bytes.app {l m : List Int} (h : Bytes l) (k : Bytes m) : Bytes (l ++ m) := by
  intro x hx
  rcases List.mem_append.1 hx with hx | hx
  · exact h x hx
  · exact k x hx
theorem Bytes.take {l : List Int} (h : Bytes l) (n : Nat) : Bytes (l.take n) := fun x hx => h x (List.mem_of_mem_take hx)
theorem Bytes.drop {l : List Int} (h : Bytes l) (n : Nat) : Bytes (l.drop n) := fun x hx => h x (List.mem_of_mem_drop hx)
theorem wsum_range {l : List Int} (h : Bytes l) : 0 ≤ wsum l ∧ wsum l < 4294967296 := by
  obtain ⟨e, hb⟩ := bytes_nat h
  rw [e, wsum_nat hb]
  unfold nsum
  omega
theorem rsum_runs' {l : List Int} {t : Bool} (h : Bytes l) (hl : l.length ≤ 1000000000) : Runs Try.prog 12 [.one (.pv (.ints .u8 l t))] [] [] ([.one (.pv (.int .u32 (wsum l)))], [], []) := by
  rw [sums_one h]; exact rsum_runs hl
/-- A frame. -/
def frame (l : List Int) : List Int := four4 l.length ++ four4 (wsum (four4 l.length ++ l)) ++ l
theorem four4_len (n : Int) : (four4 n).length = 4 := rfl
theorem lay_nil {n : Int} (h0 : 0 ≤ n) (h1 : n < 4294967296) : Runs Try.prog 39 [.one (.pv .nils), .one (.pv (.int .u32 n))] [] [] ([.one (.own 0 0 4 false)], [], [.ints .u8 (four4 n)]) := by
  refine (lay_runs (l := []) h0 h1 (by decide)).args fun x vals hr => ?_
  match vals, hr with
  | [v, u], hr => exact ⟨nils_ints hr.1, hr.2⟩
theorem frame_runs {l : List Int} {t : Bool} (h : Bytes l) (hl : l.length ≤ 100000000) : Runs Try.prog 16 [.one (.pv (.ints .u8 l t))] [] [] ([.one (.own 0 0 (8 + l.length) false)], [], [.ints .u8 (frame l)]) := by
  have hw : IntKind.u32.wrap (l.length : Int) = l.length := IntWalk.u32_in _ ⟨by omega, by omega⟩
  have hbs : Bytes (four4 l.length ++ l) := (four4_bytes _).app h
  by_cases h0 : l.length = 0
  · have hnil : l = [] := List.eq_nil_of_length_eq_zero h0
    have H := f16_0 l t
    rw [hw] at H
    have hws := wsum_range (four4_bytes l.length)
    have e : frame l = (four4 l.length ++ four4 (wsum (four4 l.length))) ++ l := by simp [frame, hnil]
    rw [e]
    refine runs_of (Says.of H ⟨lay_nil (by omega) (by omega), rfl, rfl, by rw [h0]; rfl, sum_runs (by simp [four4_len]), lay_runs hws.1 hws.2 (by simp [four4_len]), by simp [four4_len], fits_of (by simp [four4_len]; omega), trivial⟩)
  · have H := f16_1 l t
    rw [hw] at H
    have hws := wsum_range hbs
    refine runs_of (Says.of H ⟨lay_nil (by omega) (by omega), rfl, rfl, nbeq_ne h0, fits_of (by simp [four4_len]; omega), ?_, lay_runs hws.1 hws.2 (by simp [four4_len]), by simp [four4_len], fits_of (by simp [four4_len]; omega), trivial⟩)
    rw [List.take_length]
    exact sum_runs (by simp [four4_len]; omega)
theorem rframe_runs {l : List Int} {t : Bool} (h : Bytes l) (hl : l.length ≤ 100000000) : Runs Try.prog 17 [.one (.pv (.ints .u8 l t))] [] [] ([.one (.pv (.ints .u8 (frame l) false))], [], []) := by
  have hw : IntKind.u32.wrap (l.length : Int) = l.length := IntWalk.u32_in _ ⟨by omega, by omega⟩
  have hbs : Bytes (four4 l.length ++ l) := (four4_bytes _).app h
  have hws := wsum_range hbs
  have H := f17_fn l t
  rw [hw] at H
  have j1 := join_runs (ls := [(four4 l.length, true), (l, t)]) (by simp) (by simp [jn, four4_len]; omega)
  have j2 := join_runs (ls := [(four4 l.length, true), (four4 (wsum (four4 l.length ++ l)), true), (l, t)]) (by simp) (by simp [jn, four4_len]; omega)
  simp only [jn, List.map_cons, List.map_nil, List.flatten_cons, List.flatten_nil, List.append_nil, ent] at j1 j2
  rw [← List.append_assoc] at j2
  exact runs_of (Says.of H ⟨Four_runs (by omega) (by omega), j1, rsum_runs' hbs (by simp [four4_len]; omega), Four_runs hws.1 hws.2, j2, trivial⟩)
end Go.Proofs.Ytecblpgljmbpeaa
