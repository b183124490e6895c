/- A script and what is told along it, as one. -/
import Derived.Test.YtjjakdmcnkldoaaDoorHQ3
set_option linter.unusedVariables false
namespace Go.Ev
structure Tell (sc : List Ev) (Q : Prop) : Prop where
  pf : Q
@[reducible] def Tell.ev {sc : List Ev} {Q : Prop} (_ : Tell sc Q) : List Ev := sc
theorem tN : Tell [] True := ⟨trivial⟩
theorem tO {sc : List Ev} {p Q : Prop} (h : p) (t : Tell sc Q) : Tell sc (p ∧ Q) := ⟨h, t.pf⟩
theorem tE {sc : List Ev} {Q : Prop} (e : Ev) (t : Tell sc Q) : Tell (e :: sc) Q := ⟨t.pf⟩
theorem tT {sc : List Ev} {p Q : Prop} (h : p) (t : Tell sc Q) : Tell (.br true :: sc) (p ∧ Q) := ⟨h, t.pf⟩
theorem tF {sc : List Ev} {p Q : Prop} (h : p) (t : Tell sc Q) : Tell (.br false :: sc) (p ∧ Q) := ⟨h, t.pf⟩
theorem tR {sc : List Ev} {Q : Prop} {P : Program} {f : FuncId} {as : List AV} {objs : List Obj} {rows : List Row} {res : Res} (h : Runs P f as objs rows res) (t : Tell sc Q) : Tell (.res res :: sc) (Runs P f as objs rows res ∧ Q) := ⟨h, t.pf⟩
theorem tL {sc : List Ev} {Q : Prop} {P : Program} {nt m : Nat} {c : Code} {s s' : St} {e : Ex} (h : LRuns P nt m c s e s') (t : Tell sc Q) : Tell (.lp e s' :: sc) (LRuns P nt m c s e s' ∧ Q) := ⟨h, t.pf⟩
end Go.Ev
