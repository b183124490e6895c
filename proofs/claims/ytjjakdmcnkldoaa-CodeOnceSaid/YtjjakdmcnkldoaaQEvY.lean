/- Names for what a walk tells; how its equations are used. No program in sight. -/
import Derived.Test.YtjjakdmcnkldoaaQEvX
import Derived.KernelRfl
set_option linter.unusedVariables false
set_option linter.unusedSimpArgs false
namespace Go.Ev

abbrev iadd (k : IntKind) (x y : Int) : Int := k.wrap (x + y)
abbrev isub (k : IntKind) (x y : Int) : Int := k.wrap (x - y)
abbrev imul (k : IntKind) (x y : Int) : Int := k.wrap (x * y)
def iand (k : IntKind) (x y : Int) : Int := k.wrap (BitVec.ofInt k.bits x &&& BitVec.ofInt k.bits y).toNat
def ior (k : IntKind) (x y : Int) : Int := k.wrap (BitVec.ofInt k.bits x ||| BitVec.ofInt k.bits y).toNat
def ixor (k : IntKind) (x y : Int) : Int := k.wrap (BitVec.ofInt k.bits x ^^^ BitVec.ofInt k.bits y).toNat
def iandnot (k : IntKind) (x y : Int) : Int := k.wrap (BitVec.ofInt k.bits x &&& ~~~ BitVec.ofInt k.bits y).toNat
def ishl (k : IntKind) (a b : Int) : Int := k.wrap (a * 2 ^ (min b.toNat k.bits))
def ishr (k : IntKind) (a b : Int) : Int := a.fdiv (2 ^ (min b.toNat k.bits))
abbrev iquo (k : IntKind) (a b : Int) : Int := k.wrap (a.tdiv b)
abbrev irem (k : IntKind) (a b : Int) : Int := a.tmod b

/-- All of them. -/
@[reducible] def All : List Prop → Prop
  | [] => True
  | p :: l => p ∧ All l
def obs : List Prop → List Ob
  | [] => []
  | p :: l => .p p :: obs l
theorem all_obs : ∀ {l : List Prop}, All l → ∀ o ∈ obs l, o.holds
  | [], _, o, h => by cases h
  | p :: l, h, o, hm => by
    rcases List.mem_cons.1 hm with rfl | hm
    · exact h.1
    · exact all_obs h.2 o hm
theorem Says.of {R : Type} {a : Ans R} {r : R} {ps : List Prop} (h : a = some (r, obs ps)) (hp : All ps) : Says a r := ⟨_, h, all_obs hp⟩
/-! What is told, apart from which states are one; and that they are. -/
def props : List Ob → List Prop
  | [] => []
  | .p q :: l => q :: props l
  | .e _ _ :: l => props l
def lefts : List Ob → List St
  | [] => []
  | .p _ :: l => lefts l
  | .e s _ :: l => s :: lefts l
def rights : List Ob → List St
  | [] => []
  | .p _ :: l => rights l
  | .e _ s :: l => s :: rights l
def ansP {R : Type} (a : Ans R) : Option (R × List Prop) := match a with | some (r, l) => some (r, props l) | none => none
def ansL {R : Type} (a : Ans R) : List St := match a with | some (_, l) => lefts l | none => []
def ansR {R : Type} (a : Ans R) : List St := match a with | some (_, l) => rights l | none => []
@[reducible] def both {R : Type} (a : Ans R) (r : R) (ps : List Prop) : Prop := ansP a = some (r, ps) ∧ ansL a = ansR a
theorem holds_both : ∀ {l : List Ob}, All (props l) → lefts l = rights l → ∀ o ∈ l, o.holds
  | [], _, _, o, h => by cases h
  | .p q :: l, h1, h2, o, hm => by
    rcases List.mem_cons.1 hm with rfl | hm
    · exact h1.1
    · exact holds_both h1.2 h2 o hm
  | .e s s' :: l, h1, h2, o, hm => by
    simp only [lefts, rights, List.cons.injEq] at h2
    rcases List.mem_cons.1 hm with rfl | hm
    · exact h2.1
    · exact holds_both (l := l) h1 h2.2 o hm
theorem Says.of2 {R : Type} {a : Ans R} {r : R} {ps : List Prop} (h : both a r ps) (hp : All ps) : Says a r := by
  obtain ⟨h1, h2⟩ := h
  cases a with
  | none => cases h1
  | some z =>
    obtain ⟨r', l⟩ := z
    simp only [ansP, Option.some.injEq, Prod.mk.injEq] at h1
    obtain ⟨rfl, rfl⟩ := h1
    exact ⟨l, rfl, holds_both hp h2⟩
theorem and_true' {p : Prop} : (p ∧ True) ↔ p := by simp
end Go.Ev
