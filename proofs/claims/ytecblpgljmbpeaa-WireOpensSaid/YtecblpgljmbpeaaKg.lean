/- What wire's inner functions do: opening. -/
import Derived.Test.YtecblpgljmbpeaaKf
namespace Go.Proofs.Ytecblpgljmbpeaa
open Go.Ev

theorem take4_range {l : List Int} (h : Bytes l) : 0 ≤ take4 l ∧ take4 l < 4294967296 := by
  rw [← take4_eq h]
  have := take4n_lt h 4
  constructor
  · omega
  · have h2 : (2 : Nat) ^ (8 * 4) = 4294967296 := by decide
    omega
def body (l : List Int) : List Int := List.take (take4 l).toNat (List.drop 8 l)
/-- What stands in front is opened. -/
def opened (l : List Int) : List Int × Int × Int :=
  if (l.length : Int) < 8 then ([], 0, 6) else if 1048576 < take4 l then ([], 0, 9) else if (l.length : Int) < 8 + take4 l then ([], 0, 6) else
  if take4 (List.drop 4 l) = wsum (List.take 4 l ++ body l) then (body l, 8 + take4 l, 0) else ([], 0, 13)
theorem tup_nils {y : Cx} {b c : AV} {v : Value} (h : RepS y (tupOf [.one (.pv .nils), b, c]) v) : RepS y (tupOf [.one (.pv (.ints .u8 [] false)), b, c]) v := by
  obtain ⟨vs, hv, h⟩ := h
  refine ⟨vs, hv, ?_⟩
  cases hvs : vs.toList with
  | nil => rw [hvs] at h; exact h.elim
  | cons u us => rw [hvs] at h; exact ⟨nils_ints h.1, h.2⟩
def openRes (z : List Int × Int × Int) : Res := ([.one (.pv (.ints .u8 z.1 false)), .one (.pv (.int .i64 z.2.1)), .one (.pv (.int .i64 z.2.2))], [], [])
theorem open_err {f : FuncId} {xs : List AV} {n e : Int} (h : Runs Try.prog f xs [] [] ([.one (.pv .nils), .one (.pv (.int .i64 n)), .one (.pv (.int .i64 e))], [], [])) : Runs Try.prog f xs [] [] (openRes ([], n, e)) :=
  h.res rfl (Nat.zero_le _) fun y _ hs hv => ⟨y, rfl, Ext.refl y, rfl, hs, tup_nils hv⟩
section
variable {l : List Int} {t : Bool} (h : Bytes l) (hl : l.length ≤ 100000000)
include h hl
theorem wopen_runs : Runs Try.prog 13 [.one (.pv (.ints .u8 l t))] [] [] (openRes (opened l)) := by
  unfold opened
  by_cases h1 : (l.length : Int) < 8
  · rw [if_pos h1]
    exact open_err (runs_of (Says.of (f13_short l t) ⟨by simpa using h1, trivial⟩))
  rw [if_neg h1]
  obtain ⟨ht0, ht1⟩ := take4_range h
  have htk := take_runs (t := t) h (by omega) (by omega)
  by_cases h2 : 1048576 < take4 l
  · rw [if_pos h2]
    exact open_err (runs_of (Says.of (f13_long l t) ⟨by simpa using h1, htk, by simpa using h2, trivial⟩))
  rw [if_neg h2]
  have e1 : IntKind.i64.wrap (take4 l) = take4 l := i64_in (by omega) (by omega)
  have e2 : iadd .i64 8 (take4 l) = 8 + take4 l := i64_in (by omega) (by omega)
  have e2' : isub .i64 (l.length : Int) 8 = (l.length : Int) - 8 := i64_in (by omega) (by omega)
  have e3 : (8 + take4 l - 8).toNat = (take4 l).toNat := by congr 1; omega
  have e4 : List.take ((l.length : Int) - 4).toNat (List.drop 4 l) = List.drop 4 l := List.take_of_length_le (by rw [List.length_drop]; omega)
  by_cases h3 : (l.length : Int) < 8 + take4 l
  · rw [if_pos h3]
    have H := f13_less l t
    rw [e1, e2'] at H
    exact open_err (runs_of (Says.of H ⟨by simpa using h1, htk, by simpa using h2, by simp; omega, trivial⟩))
  rw [if_neg h3]
  have htk4 := take_runs (t := t) (h.drop 4) (by rw [List.length_drop]; omega) (by rw [List.length_drop]; omega)
  have hbl : (body l).length = (take4 l).toNat := by unfold body; rw [List.length_take, List.length_drop]; omega
  have hb : Bytes (body l) := (h.drop 8).take _
  have hs1 : (decide ((0 : Int) ≤ 8) && decide ((8 : Int) ≤ (8 + take4 l)) && decide (((8 + take4 l) : Int) ≤ ((l).length : Int)) && decide (((8 + take4 l) : Int) = (8 + take4 l))) = true := by simp; omega
  have hs2 : (decide ((0 : Int) ≤ 4) && decide ((4 : Int) ≤ ((l).length : Int)) && decide ((((l).length : Int) : Int) ≤ ((l).length : Int)) && decide ((((l).length : Int) : Int) = ((l).length : Int))) = true := by simp; omega
  have hs3 : (decide ((0 : Int) ≤ 0) && decide ((0 : Int) ≤ 4) && decide ((4 : Int) ≤ ((l).length : Int)) && decide ((4 : Int) = 4)) = true := by simp; omega
  have hsm : Runs Try.prog 11 [.one (.pv (.ints .u8 (List.take 4 l ++ body l) false))] [] [] ([.one (.pv (.int .u32 (wsum (List.take 4 l ++ body l))))], [], []) := sum_runs (by simp [hbl]; omega)
  have hcl := clone_runs (l := body l) (t := false) (by omega)
  by_cases h0 : (body l).length = 0
  · have hnil : body l = [] := List.eq_nil_of_length_eq_zero h0
    have hsm2 : Runs Try.prog 11 [.one (.pv (.ints .u8 (List.take 4 l) true))] [] [] ([.one (.pv (.int .u32 (wsum (List.take 4 l))))], [], []) := sum_runs (by simp; omega)
    have e5 : List.take 4 l ++ body l = List.take 4 l := by rw [hnil, List.append_nil]
    rw [e5]
    by_cases h4 : take4 (List.drop 4 l) = wsum (List.take 4 l)
    · rw [if_pos h4]
      have H := f13_ok0 l t
      rw [e1, e2', e2, e3, e4] at H
      refine runs_of (Says.of H ⟨by simpa using h1, htk, by simpa using h2, by simp; omega, hs1, hcl, hs2, hs3, htk4, by unfold body at h0; rw [h0]; rfl, hsm2, by simpa using h4, trivial⟩)
    · rw [if_neg h4]
      have H := f13_bad0 l t
      rw [e1, e2', e2, e3, e4] at H
      exact open_err (runs_of (Says.of H ⟨by simpa using h1, htk, by simpa using h2, by simp; omega, hs1, hcl, hs2, hs3, htk4, by unfold body at h0; rw [h0]; rfl, hsm2, by simpa using h4, trivial⟩))
  · have hf : fits (List.take 4 l ++ body l).length = true := fits_of (by simp [hbl]; omega)
    by_cases h4 : take4 (List.drop 4 l) = wsum (List.take 4 l ++ body l)
    · rw [if_pos h4]
      have H := f13_ok1 l t
      rw [e1, e2', e2, e3, e4] at H
      rw [List.take_length] at H
      exact runs_of (Says.of H ⟨by simpa using h1, htk, by simpa using h2, by simp; omega, hs1, hcl, hs2, hs3, htk4, nbeq_ne h0, hf, hsm, by simpa [body] using h4, trivial⟩)
    · rw [if_neg h4]
      have H := f13_bad1 l t
      rw [e1, e2', e2, e3, e4] at H
      rw [List.take_length] at H
      exact open_err (runs_of (Says.of H ⟨by simpa using h1, htk, by simpa using h2, by simp; omega, hs1, hcl, hs2, hs3, htk4, nbeq_ne h0, hf, hsm, by simpa [body] using h4, trivial⟩))
theorem ropen_runs : Runs Try.prog 14 [.one (.pv (.ints .u8 l t))] [] [] (openRes (opened l)) := by
  unfold opened
  by_cases h1 : (l.length : Int) < 8
  · rw [if_pos h1]
    exact open_err (runs_of (Says.of (f14_short l t) ⟨by simpa using h1, trivial⟩))
  rw [if_neg h1]
  obtain ⟨ht0, ht1⟩ := take4_range h
  have htk := four_runs (t := t) h (by omega) (by omega)
  by_cases h2 : 1048576 < take4 l
  · rw [if_pos h2]
    exact open_err (runs_of (Says.of (f14_long l t) ⟨by simpa using h1, htk, by simpa using h2, trivial⟩))
  rw [if_neg h2]
  have e1 : IntKind.i64.wrap (take4 l) = take4 l := i64_in (by omega) (by omega)
  have e2 : iadd .i64 8 (take4 l) = 8 + take4 l := i64_in (by omega) (by omega)
  have e3 : (8 + take4 l - 8).toNat = (take4 l).toNat := by congr 1; omega
  have e4 : List.take ((l.length : Int) - 4).toNat (List.drop 4 l) = List.drop 4 l := List.take_of_length_le (by rw [List.length_drop]; omega)
  by_cases h3 : (l.length : Int) < 8 + take4 l
  · rw [if_pos h3]
    have H := f14_less l t
    rw [e1, e2] at H
    exact open_err (runs_of (Says.of H ⟨by simpa using h1, htk, by simpa using h2, by simpa using h3, trivial⟩))
  rw [if_neg h3]
  have htk4 := four_runs (t := t) (h.drop 4) (by rw [List.length_drop]; omega) (by rw [List.length_drop]; omega)
  have hbl : (body l).length = (take4 l).toNat := by unfold body; rw [List.length_take, List.length_drop]; omega
  have hb : Bytes (body l) := (h.drop 8).take _
  have hs1 : (decide ((0 : Int) ≤ 8) && decide ((8 : Int) ≤ (8 + take4 l)) && decide (((8 + take4 l) : Int) ≤ ((l).length : Int)) && decide (((8 + take4 l) : Int) = (8 + take4 l))) = true := by simp; omega
  have hs2 : (decide ((0 : Int) ≤ 4) && decide ((4 : Int) ≤ ((l).length : Int)) && decide ((((l).length : Int) : Int) ≤ ((l).length : Int)) && decide ((((l).length : Int) : Int) = ((l).length : Int))) = true := by simp; omega
  have hs3 : (decide ((0 : Int) ≤ 0) && decide ((0 : Int) ≤ 4) && decide ((4 : Int) ≤ ((l).length : Int)) && decide ((4 : Int) = 4)) = true := by simp; omega
  have hsm : Runs Try.prog 12 [.one (.pv (.ints .u8 (List.take 4 l ++ body l) false))] [] [] ([.one (.pv (.int .u32 (wsum (List.take 4 l ++ body l))))], [], []) := rsum_runs' ((h.take 4).app hb) (by simp [hbl]; omega)
  have j1 := join_runs (ls := [(List.take 4 l, false), (body l, false)]) (by simp) (by simp [jn, hbl]; omega)
  have j2 := join_runs (ls := [(body l, false)]) (by simp) (by simp [jn, hbl]; omega)
  simp only [jn, List.map_cons, List.map_nil, List.flatten_cons, List.flatten_nil, List.append_nil, ent] at j1 j2
  by_cases h4 : take4 (List.drop 4 l) = wsum (List.take 4 l ++ body l)
  · rw [if_pos h4]
    have H := f14_ok l t
    rw [e1, e2, e3, e4] at H
    exact runs_of (Says.of H ⟨by simpa using h1, htk, by simpa using h2, by simpa using h3, hs2, hs3, hs1, htk4, j1, hsm, htk4, j1, hsm, rfl, by simpa [body] using h4, hs1, j2, trivial⟩)
  · rw [if_neg h4]
    have H := f14_bad l t
    rw [e1, e2, e3, e4] at H
    exact open_err (runs_of (Says.of H ⟨by simpa using h1, htk, by simpa using h2, by simpa using h3, hs2, hs3, hs1, htk4, j1, hsm, htk4, j1, hsm, rfl, by simpa [body] using h4, trivial⟩))
end
end Go.Proofs.Ytecblpgljmbpeaa
