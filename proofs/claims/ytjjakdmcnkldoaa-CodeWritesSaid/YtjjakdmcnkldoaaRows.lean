/-
  No cell of these rows narrows 'for every input' (looked for: loops, veiled, ifaces, maps, wideKeys, modest, calm, conditions, laid).
  DERIVED. THE GIVEN ROWS OF THIS SEAT. 3 by the template 'for every input the law returns true; each argument reads behind the call as it read before'; 0 by the template 'total and deterministic' (their statements: YtjjakdmcnkldoaaTotals.lean).
  GIVEN WITH THE SEED: the statements are not yours to turn. If you find one false, say at which input.
  Laid BY PROGRAM, IN A SANDBOX (cutbox-rows.mjs): the forced cells as the released guide's own fill.sh prints them over the translation 92a45fa1f91d9893… (all of the seat's roots in one cut). By AI agents, Wed Nov 11 2026. No macro, syntax, notation, axiom, sorry.
-/
import Derived.Test.YtjjakdmcnkldoaaChecked
import GoSem.Claim
import GoSem.ClaimJoined
import GoSem.ClaimMapViews
import Derived.JoinedTies
import Derived.KernelRfl
namespace Go.Proofs.Ytjjakdmcnkldoaa
/- THE CELL 'sum', in the pinned program and in every row, IS THE sha256 OF THE DUMP (.gsa) THAT YtjjakdmcnkldoaaProg.lean LOADS. Nothing in Lean hashes anything: it is a label: what it is worth is what the hold of that sum in a sandbox is worth. -/
noncomputable def Try.pinned : Pinned := { name := "ytjjakdmcnkldoaa", sum := "92a45fa1f91d98930ed4aa3322b2a143707fe345e50e6fcaf599e793b990fc52", checked := Try.checked }
namespace Rows
def none {H : Type} : Left H := { results := [], args := [] }

/-- 'kinfolklaw07.CodeOnce': WHATEVER THE INPUT: true; the input reads as it did. -/
def codeOnceSpec : ChangeSpec := { name := "codeOnce", fn := fun _ => fun
  | [d1, d2, d3, d4, d5] => { results := [.lit (.bool true)], args := [d1, d2, d3, d4, d5] }
  | _ => none }
def codeOnceRow : OpenClaim := { program := "ytjjakdmcnkldoaa", sum := "92a45fa1f91d98930ed4aa3322b2a143707fe345e50e6fcaf599e793b990fc52", func := "kinfolk/kinfolklaw07.CodeOnce", spec := "codeOnce", recurses := true, apart := false }
def CodeOnceSaid : Prop := codeOnceRow.holds Try.pinned (OpenSpec.ofChange codeOnceSpec)

/-- ITS FALSE NEIGHBOUR: 'it returns false'. Refute it at one input. -/
def codeOnceWrong : ChangeSpec := { name := "codeOnce", fn := fun _ => fun
  | [d1, d2, d3, d4, d5] => { results := [.lit (.bool false)], args := [d1, d2, d3, d4, d5] }
  | _ => none }
def CodeOnceWrongFalsely : Prop := codeOnceRow.holds Try.pinned (OpenSpec.ofChange codeOnceWrong)

/-- 'kinfolklaw07.CodeRows': WHATEVER THE INPUT: true; the input reads as it did. -/
def codeRowsSpec : ChangeSpec := { name := "codeRows", fn := fun _ => fun
  | [d1, d2, d3, d4] => { results := [.lit (.bool true)], args := [d1, d2, d3, d4] }
  | _ => none }
def codeRowsRow : OpenClaim := { program := "ytjjakdmcnkldoaa", sum := "92a45fa1f91d98930ed4aa3322b2a143707fe345e50e6fcaf599e793b990fc52", func := "kinfolk/kinfolklaw07.CodeRows", spec := "codeRows", recurses := true, apart := false }
def CodeRowsSaid : Prop := codeRowsRow.holds Try.pinned (OpenSpec.ofChange codeRowsSpec)

/-- ITS FALSE NEIGHBOUR: 'it returns false'. Refute it at one input. -/
def codeRowsWrong : ChangeSpec := { name := "codeRows", fn := fun _ => fun
  | [d1, d2, d3, d4] => { results := [.lit (.bool false)], args := [d1, d2, d3, d4] }
  | _ => none }
def CodeRowsWrongFalsely : Prop := codeRowsRow.holds Try.pinned (OpenSpec.ofChange codeRowsWrong)

/-- 'kinfolklaw07.CodeWrites': WHATEVER THE INPUT: true; the input reads as it did. -/
def codeWritesSpec : ChangeSpec := { name := "codeWrites", fn := fun _ => fun
  | [d1, d2] => { results := [.lit (.bool true)], args := [d1, d2] }
  | _ => none }
def codeWritesRow : OpenClaim := { program := "ytjjakdmcnkldoaa", sum := "92a45fa1f91d98930ed4aa3322b2a143707fe345e50e6fcaf599e793b990fc52", func := "kinfolk/kinfolklaw07.CodeWrites", spec := "codeWrites", recurses := true, apart := false }
def CodeWritesSaid : Prop := codeWritesRow.holds Try.pinned (OpenSpec.ofChange codeWritesSpec)

/-- ITS FALSE NEIGHBOUR: 'it returns false'. Refute it at one input. -/
def codeWritesWrong : ChangeSpec := { name := "codeWrites", fn := fun _ => fun
  | [d1, d2] => { results := [.lit (.bool false)], args := [d1, d2] }
  | _ => none }
def CodeWritesWrongFalsely : Prop := codeWritesRow.holds Try.pinned (OpenSpec.ofChange codeWritesWrong)

/- THE SECOND FORM. 'bulk': how many values and letters a reading holds, each counted each time it is reached (what is shared counts as often as it is met; a slice's spare places count too). A statement '..UptoSaid' is the law's where the arguments, and the package variables that the reading takes, are together of bulk at most 1048576: NARROWER than '..Said'. Prove '..Said' where nothing that the law and all that it calls make is longer than what came in: it says more and counts as full. Else prove '..UptoSaid'. A law counts once. -/
mutual
def uptoBulk {H : Type} : DataW H → Nat
  | .lit (.string bytes) => bytes.length + 1
  | .lit _ => 1
  | .nil => 1
  | .ptr d => uptoBulk d + 1
  | .slice elems spare => uptoBulkAll elems + uptoBulkAll spare + 1
  | .agg parts => uptoBulkAll parts + 1
  | .iface _ d => uptoBulk d + 1
  | .map entries => uptoBulkEntries entries + 1
  | .held _ => 1
def uptoBulkAll {H : Type} : List (DataW H) → Nat
  | [] => 0
  | d :: r => uptoBulk d + uptoBulkAll r
def uptoBulkEntries {H : Type} : List (Lit × DataW H) → Nat
  | [] => 0
  | x :: r => uptoBulkEntry x + uptoBulkEntries r
def uptoBulkEntry {H : Type} : Lit × DataW H → Nat
  | (.string bytes, d) => bytes.length + uptoBulk d + 1
  | (_, d) => uptoBulk d + 1
 end
def uptoSmall : (H : Type) → List (DataW H) → Bool := fun _ ds => decide (uptoBulkAll ds ≤ 1048576)
def OpenSpec.upto (s : _root_.Go.ChangeSpec) : _root_.Go.OpenSpec := { _root_.Go.OpenSpec.ofChange s with cond := some uptoSmall }

/-- 'kinfolklaw07.CodeOnce', WHERE WHAT IT READS IS OF BULK AT MOST 1048576: true; the input reads as it did. -/
def codeOnceUptoRow : OpenClaim := { program := "ytjjakdmcnkldoaa", sum := "92a45fa1f91d98930ed4aa3322b2a143707fe345e50e6fcaf599e793b990fc52", func := "kinfolk/kinfolklaw07.CodeOnce", spec := "codeOnce", recurses := true, apart := false, narrowed := true }
def CodeOnceUptoSaid : Prop := codeOnceUptoRow.holds Try.pinned (OpenSpec.upto codeOnceSpec)

/-- 'kinfolklaw07.CodeRows', WHERE WHAT IT READS IS OF BULK AT MOST 1048576: true; the input reads as it did. -/
def codeRowsUptoRow : OpenClaim := { program := "ytjjakdmcnkldoaa", sum := "92a45fa1f91d98930ed4aa3322b2a143707fe345e50e6fcaf599e793b990fc52", func := "kinfolk/kinfolklaw07.CodeRows", spec := "codeRows", recurses := true, apart := false, narrowed := true }
def CodeRowsUptoSaid : Prop := codeRowsUptoRow.holds Try.pinned (OpenSpec.upto codeRowsSpec)

/-- 'kinfolklaw07.CodeWrites', WHERE WHAT IT READS IS OF BULK AT MOST 1048576: true; the input reads as it did. -/
def codeWritesUptoRow : OpenClaim := { program := "ytjjakdmcnkldoaa", sum := "92a45fa1f91d98930ed4aa3322b2a143707fe345e50e6fcaf599e793b990fc52", func := "kinfolk/kinfolklaw07.CodeWrites", spec := "codeWrites", recurses := true, apart := false, narrowed := true }
def CodeWritesUptoSaid : Prop := codeWritesUptoRow.holds Try.pinned (OpenSpec.upto codeWritesSpec)

end Rows
end Go.Proofs.Ytjjakdmcnkldoaa
