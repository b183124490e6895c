/- Chapter 15: a gift read, its id as it is kept; the same; what is made. Plain. -/
import Derived.Test.YtjjcmgdgifcmgaaGreatG8
set_option linter.unusedVariables false
set_option linter.unusedSimpArgs false
namespace Go.Proofs.YtjjcmgdgifcmgaaGreat
open Go.Ev Go.Lib
theorem zsT {N : Nat} (hN : 100 ≤ N) (no f to : Int) {i : Bool} {t : Idt} (hn : nfI i t) (hd : zbv t ≤ 16) : zfy N no f to i t no f to (zeh i t) = some true := by
 unfold zfy
 simp only [decide_true, cond_true, zse (N := N) (by omega) hn (by omega), zsI (N := N) (by omega) hn (by omega), Option.bind_some]
theorem zub {N : Nat} (hN : 100 ≤ N) {p : List Int} (hb : Bytes p) : ∃ i t, zfx N p = some (i, t, zeh i t) ∧ nfI i t ∧ zbv t ≤ 16 := by
 have key : ∀ q : List Int, Bytes q → ∃ i t, ((zfz N q 5).bind fun (t, l_) => (zhl N t).bind fun (b, t2) => some (b, t2, t)) = some (i, t, zeh i t) ∧ nfI i t ∧ zbv t ≤ 16 := by
  intro q hq
  obtain ⟨i, t, rest, h1, h2, h3, _⟩ := zqm (N := N) (most := 5) (p := q) (by omega) (by omega) hq
  have h1 : zfz N q 5 = _ := h1
  have h4 := zqh (N := N) h2 (by omega) (by omega)
  exact ⟨i, t, by rw [h1]; simp only [Option.bind_some, h4], h2, by omega⟩
 obtain ⟨i, t, h1, h2, h3⟩ := key (List.take ((if (30 : Int) < ((p).length : Int) then 30 else ((p).length : Int)) - 0).toNat p) (fun x hx => hb x (List.mem_of_mem_take hx))
 refine ⟨i, t, ?_, h2, h3⟩
 unfold zfx
 have hc : ∀ {a b c d : Bool}, a = true → b = true → c = true → d = true → (a && b && c && d) = true := by intro a b c d h1 h2 h3 h4; rw [h1, h2, h3, h4]; rfl
 rw [hc (by simp) (by split <;> simp <;> omega) (by split <;> simp <;> omega) (by simp)]
 exact h1
end Go.Proofs.YtjjcmgdgifcmgaaGreat
