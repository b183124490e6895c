/- The law WireOpens answers true. -/
import Derived.Test.YtecblpgljmbpeaaKj
namespace Go.Proofs.Ytecblpgljmbpeaa
open Go.Ev

theorem opened_len (l : List Int) : (opened l).1.length ≤ l.length := by
  unfold opened
  split
  · simp
  · split
    · simp
    · split
      · simp
      · split
        · unfold body; simp only [List.length_take, List.length_drop]; omega
        · simp
theorem wireOpens_runs {l : List Int} {t : Bool} (h : Bytes l) : Runs Try.prog 4 [.one (.pv (.ints .u8 l t))] [] [] ([.one (.pv (.bool true))], [], []) := by
  have H := f4_fn l t
  have hc1 := cut_runs (l := l) (t := t) (k := 300) (by decide) (by decide)
  have hpl : (List.take 300 l).length ≤ 300 := by simp; omega
  have hpb : Bytes (List.take 300 l) := h.take 300
  rw [show (300 : Int).toNat = 300 from rfl] at hc1
  generalize List.take 300 l = p at H hc1 hpl hpb
  have e1 : List.take p.length p = p := List.take_length
  have e2 : List.take 300 p = p := List.take_of_length_le hpl
  have e3 : List.take ((p.length : Int) - 0).toNat (p ++ [90]) = p := by
    rw [show ((p.length : Int) - 0).toNat = p.length by omega, List.take_left']
    rfl
  have e4 : List.take (p.length + 1) (p ++ [90]) = p ++ [90] := List.take_of_length_le (by simp)
  rw [e1, e2, e3, e4, e3] at H
  have hc2 := cut_runs (l := p) (t := false) (k := 300) (by decide) (by decide)
  rw [show (300 : Int).toNat = 300 from rfl, e2] at hc2
  have hg : decide (((p ++ [90]).getD ((p.length : Int)).toNat 0 : Int) = 90) = true := by simp [List.getD]
  rw [hg] at H
  have ho := opened_len p
  refine runs_of (Says.of H ⟨awake_runs, rfl, hc1, hc2, by simp, fits_of (by simp; omega), by simp; omega, wopen_runs hpb (by omega), ropen_runs hpb (by omega), by simp, by simp, same_runs (by omega), by simp, by simp; omega, same_runs (by omega), by simp, by simp; omega, trivial⟩)
end Go.Proofs.Ytecblpgljmbpeaa
