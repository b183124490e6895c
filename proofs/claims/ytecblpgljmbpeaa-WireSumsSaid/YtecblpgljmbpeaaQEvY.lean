/- Names for what a walk tells; how its equations are used. No program in sight. -/
import Derived.Test.YtecblpgljmbpeaaQEvX
import Derived.KernelRfl
set_option linter.unusedVariables false
set_option linter.unusedSimpArgs false
namespace Go.Ev

abbrev iadd (k : IntKind) (x y : Int) : Int := k.wrap (x + y)
abbrev isub (k : IntKind) (x y : Int) : Int := k.wrap (x - y)
abbrev imul (k : IntKind) (x y : Int) : Int := k.wrap (x * y)
def iand (k : IntKind) (x y : Int) : Int := k.wrap (BitVec.ofInt k.bits x &&& BitVec.ofInt k.bits y).toNat
def ior (k : IntKind) (x y : Int) : Int := k.wrap (BitVec.ofInt k.bits x ||| BitVec.ofInt k.bits y).toNat
def ixor (k : IntKind) (x y : Int) : Int := k.wrap (BitVec.ofInt k.bits x ^^^ BitVec.ofInt k.bits y).toNat
def iandnot (k : IntKind) (x y : Int) : Int := k.wrap (BitVec.ofInt k.bits x &&& ~~~ BitVec.ofInt k.bits y).toNat
def ishl (k : IntKind) (a b : Int) : Int := k.wrap (a * 2 ^ (min b.toNat k.bits))
def ishr (k : IntKind) (a b : Int) : Int := a.fdiv (2 ^ (min b.toNat k.bits))
abbrev iquo (k : IntKind) (a b : Int) : Int := k.wrap (a.tdiv b)
abbrev irem (k : IntKind) (a b : Int) : Int := a.tmod b

/-- All of them. -/
@[reducible] def All : List Prop → Prop
  | [] => True
  | p :: l => p ∧ All l
theorem all_mem : ∀ {l : List Prop}, All l → ∀ p ∈ l, p
  | [], _, p, h => by cases h
  | a :: l, h, p, hm => by
    rcases List.mem_cons.1 hm with rfl | hm
    · exact h.1
    · exact all_mem h.2 p hm
theorem Says.of {R : Type} {a : Ans R} {r : R} {ps : List Prop} (h : a = some (r, ps)) (hp : All ps) : Says a r := ⟨ps, h, all_mem hp⟩
theorem and_true' {p : Prop} : (p ∧ True) ↔ p := by simp
end Go.Ev
