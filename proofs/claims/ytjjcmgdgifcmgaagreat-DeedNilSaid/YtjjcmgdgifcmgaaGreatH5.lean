/- Chapter 15: every script of acts. Plain. -/
import Derived.Test.YtjjcmgdgifcmgaaGreatH4
set_option linter.unusedVariables false
set_option linter.unusedSimpArgs false
namespace Go.Proofs.YtjjcmgdgifcmgaaGreat
open Go.Ev Go.Lib
theorem zt3 : zbr [] = some () := zn7 (by simp)
theorem zuJ (n n2 : Int) (m : List (Int × Int)) (m2 : List ((Int × Int) × Int)) : zcx n n2 m m2 = some () := by simp [zcx, zt3]
theorem zqA (to n n2 : Int) (m : List (Int × Int)) (m2 : List ((Int × Int) × Int)) : zeP to n n2 m m2 = some (0, 0, 0, false, zad.nil, false) := by
 have h : runL (zcu to (((List.map zaa.pv [])).length : Int) n n2 m m2) 0 = some (.inr ()) := zbi (by simp [zcu])
 unfold zeP
 rw [h, zuJ]
 rfl
theorem zul : zgX = some true := by
 have g : zbL 2 true zad.nil 0 0 [] [] = some (.inr (1, 1, [.mk 1 0 2 true .nil], [(2, 1)])) := by
  obtain ⟨b, hR, _⟩ := zoD 1 0 2 true .nil
  unfold zbL
  have h1 : iadd .u64 0 1 = 1 := rfl
  have hr : zbC 1 0 2 true zad.nil = some true := rfl
  simp only [zdt, zdu, Option.bind_some, zqA, h1, hr, cond_true, cond_false, zuJ]
  rfl
 have d : zbV 1 0 1 [.mk 1 0 2 true .nil] [(2, 1)] [] = some (0, []) := by
  rw [zrZ (by simp)]
  rfl
 have v : zcr 2 0 1 [] [(2, 1)] [] = some true := by
  simp [zcr, mget]
 simp only [zgX, zgw, zdK, g, Option.bind_some, decide_true, cond_true, d, v, zgn (show ([] : List zaa).length ≤ 1000 by simp)]
 rfl
def zm4 : zao → List Int | .mk _ _ _ _ l => l
end Go.Proofs.YtjjcmgdgifcmgaaGreat
