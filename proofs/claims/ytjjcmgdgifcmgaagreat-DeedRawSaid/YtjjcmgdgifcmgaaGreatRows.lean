/-
  No cell of these rows narrows 'for every input' (looked for: loops, veiled, ifaces, maps, wideKeys, modest, calm, conditions, laid).
  DERIVED. THE GIVEN ROWS OF THIS SEAT. 4 by the template 'for every input the law returns true; each argument reads behind the call as it read before'; 0 by the template 'total and deterministic' (their statements: YtjjcmgdgifcmgaaGreatTotals.lean).
  GIVEN WITH THE SEED: the statements are not yours to turn. If you find one false, say at which input.
  Laid BY PROGRAM, IN A SANDBOX (cutbox-rows.mjs): the forced cells as the released guide's own fill.sh prints them over the translation dcc70eee36e8bbc9… (all of the seat's roots in one cut). By AI agents, Wed Nov 11 2026. No macro, syntax, notation, axiom, sorry.
-/
import Derived.Test.YtjjcmgdgifcmgaaGreatChecked
import GoSem.Claim
import GoSem.ClaimJoined
import GoSem.ClaimMapViews
import Derived.JoinedTies
import Derived.KernelRfl
namespace Go.Proofs.YtjjcmgdgifcmgaaGreat
/- THE CELL 'sum', in the pinned program and in every row, IS THE sha256 OF THE DUMP (.gsa) THAT YtjjcmgdgifcmgaaGreatProg.lean LOADS. Nothing in Lean hashes anything: it is a label: what it is worth is what the hold of that sum in a sandbox is worth. -/
noncomputable def Tryz.pinned : Pinned := { name := "ytjjcmgdgifcmgaagreat", sum := "dcc70eee36e8bbc90f8a629a122629c89aae9dfbb9478c25a1b12025754edeaf", checked := Tryz.checked }
namespace Rows
def none {H : Type} : Left H := { results := [], args := [] }

/-- 'kinfolklaw15.DeedPlays': WHATEVER THE INPUT: true; the input reads as it did. -/
def deedPlaysSpec : ChangeSpec := { name := "deedPlays", fn := fun _ => fun
  | [d1, d2] => { results := [.lit (.bool true)], args := [d1, d2] }
  | _ => none }
def deedPlaysRow : OpenClaim := { program := "ytjjcmgdgifcmgaagreat", sum := "dcc70eee36e8bbc90f8a629a122629c89aae9dfbb9478c25a1b12025754edeaf", func := "kinfolk/kinfolklaw15.DeedPlays", spec := "deedPlays", unfollowed := true, recurses := true, plainKeys := false, apart := false }
def DeedPlaysSaid : Prop := deedPlaysRow.holds Tryz.pinned (OpenSpec.ofChange deedPlaysSpec)

/-- ITS FALSE NEIGHBOUR: 'it returns false'. Refute it at one input. -/
def deedPlaysWrong : ChangeSpec := { name := "deedPlays", fn := fun _ => fun
  | [d1, d2] => { results := [.lit (.bool false)], args := [d1, d2] }
  | _ => none }
def DeedPlaysWrongFalsely : Prop := deedPlaysRow.holds Tryz.pinned (OpenSpec.ofChange deedPlaysWrong)

/-- 'kinfolklaw15.DeedNil': WHATEVER THE INPUT: true; the input reads as it did. -/
def deedNilSpec : ChangeSpec := { name := "deedNil", fn := fun _ => fun
  | [d1, d2, d3, d4] => { results := [.lit (.bool true)], args := [d1, d2, d3, d4] }
  | _ => none }
def deedNilRow : OpenClaim := { program := "ytjjcmgdgifcmgaagreat", sum := "dcc70eee36e8bbc90f8a629a122629c89aae9dfbb9478c25a1b12025754edeaf", func := "kinfolk/kinfolklaw15.DeedNil", spec := "deedNil", inPlace := ["maps.clone"], unfollowed := true, recurses := true, plainKeys := false, apart := false }
def DeedNilSaid : Prop := deedNilRow.holds Tryz.pinned (OpenSpec.ofChange deedNilSpec)

/-- ITS FALSE NEIGHBOUR: 'it returns false'. Refute it at one input. -/
def deedNilWrong : ChangeSpec := { name := "deedNil", fn := fun _ => fun
  | [d1, d2, d3, d4] => { results := [.lit (.bool false)], args := [d1, d2, d3, d4] }
  | _ => none }
def DeedNilWrongFalsely : Prop := deedNilRow.holds Tryz.pinned (OpenSpec.ofChange deedNilWrong)

/-- 'kinfolklaw15.DeedRaw': WHATEVER THE INPUT: true; the input reads as it did. -/
def deedRawSpec : ChangeSpec := { name := "deedRaw", fn := fun _ => fun
  | [d] => { results := [.lit (.bool true)], args := [d] }
  | _ => none }
def deedRawRow : OpenClaim := { program := "ytjjcmgdgifcmgaagreat", sum := "dcc70eee36e8bbc90f8a629a122629c89aae9dfbb9478c25a1b12025754edeaf", func := "kinfolk/kinfolklaw15.DeedRaw", spec := "deedRaw", unfollowed := true, recurses := true, plainKeys := false, apart := false }
def DeedRawSaid : Prop := deedRawRow.holds Tryz.pinned (OpenSpec.ofChange deedRawSpec)

/-- ITS FALSE NEIGHBOUR: 'it returns false'. Refute it at one input. -/
def deedRawWrong : ChangeSpec := { name := "deedRaw", fn := fun _ => fun
  | [d] => { results := [.lit (.bool false)], args := [d] }
  | _ => none }
def DeedRawWrongFalsely : Prop := deedRawRow.holds Tryz.pinned (OpenSpec.ofChange deedRawWrong)

/-- 'kinfolklaw15.DeedReads': WHATEVER THE INPUT: true; the input reads as it did. -/
def deedReadsSpec : ChangeSpec := { name := "deedReads", fn := fun _ => fun
  | [d1, d2, d3, d4, d5] => { results := [.lit (.bool true)], args := [d1, d2, d3, d4, d5] }
  | _ => none }
def deedReadsRow : OpenClaim := { program := "ytjjcmgdgifcmgaagreat", sum := "dcc70eee36e8bbc90f8a629a122629c89aae9dfbb9478c25a1b12025754edeaf", func := "kinfolk/kinfolklaw15.DeedReads", spec := "deedReads", unfollowed := true, recurses := true, plainKeys := false, apart := false }
def DeedReadsSaid : Prop := deedReadsRow.holds Tryz.pinned (OpenSpec.ofChange deedReadsSpec)

/-- ITS FALSE NEIGHBOUR: 'it returns false'. Refute it at one input. -/
def deedReadsWrong : ChangeSpec := { name := "deedReads", fn := fun _ => fun
  | [d1, d2, d3, d4, d5] => { results := [.lit (.bool false)], args := [d1, d2, d3, d4, d5] }
  | _ => none }
def DeedReadsWrongFalsely : Prop := deedReadsRow.holds Tryz.pinned (OpenSpec.ofChange deedReadsWrong)

/- THE SECOND FORM. 'bulk': how many values and letters a reading holds, each counted each time it is reached (what is shared counts as often as it is met; a slice's spare places count too). A statement '..UptoSaid' is the law's where the arguments, and the package variables that the reading takes, are together of bulk at most 1048576: NARROWER than '..Said'. Prove '..Said' where nothing that the law and all that it calls make is longer than what came in: it says more and counts as full. Else prove '..UptoSaid'. A law counts once. -/
mutual
def uptoBulk {H : Type} : DataW H → Nat
  | .lit (.string bytes) => bytes.length + 1
  | .lit _ => 1
  | .nil => 1
  | .ptr d => uptoBulk d + 1
  | .slice elems spare => uptoBulkAll elems + uptoBulkAll spare + 1
  | .agg parts => uptoBulkAll parts + 1
  | .iface _ d => uptoBulk d + 1
  | .map entries => uptoBulkEntries entries + 1
  | .held _ => 1
def uptoBulkAll {H : Type} : List (DataW H) → Nat
  | [] => 0
  | d :: r => uptoBulk d + uptoBulkAll r
def uptoBulkEntries {H : Type} : List (Lit × DataW H) → Nat
  | [] => 0
  | x :: r => uptoBulkEntry x + uptoBulkEntries r
def uptoBulkEntry {H : Type} : Lit × DataW H → Nat
  | (.string bytes, d) => bytes.length + uptoBulk d + 1
  | (_, d) => uptoBulk d + 1
 end
def uptoSmall : (H : Type) → List (DataW H) → Bool := fun _ ds => decide (uptoBulkAll ds ≤ 1048576)
def OpenSpec.upto (s : _root_.Go.ChangeSpec) : _root_.Go.OpenSpec := { _root_.Go.OpenSpec.ofChange s with cond := some uptoSmall }

/-- 'kinfolklaw15.DeedPlays', WHERE WHAT IT READS IS OF BULK AT MOST 1048576: true; the input reads as it did. -/
def deedPlaysUptoRow : OpenClaim := { program := "ytjjcmgdgifcmgaagreat", sum := "dcc70eee36e8bbc90f8a629a122629c89aae9dfbb9478c25a1b12025754edeaf", func := "kinfolk/kinfolklaw15.DeedPlays", spec := "deedPlays", unfollowed := true, recurses := true, plainKeys := false, apart := false, narrowed := true }
def DeedPlaysUptoSaid : Prop := deedPlaysUptoRow.holds Tryz.pinned (OpenSpec.upto deedPlaysSpec)

/-- 'kinfolklaw15.DeedNil', WHERE WHAT IT READS IS OF BULK AT MOST 1048576: true; the input reads as it did. -/
def deedNilUptoRow : OpenClaim := { program := "ytjjcmgdgifcmgaagreat", sum := "dcc70eee36e8bbc90f8a629a122629c89aae9dfbb9478c25a1b12025754edeaf", func := "kinfolk/kinfolklaw15.DeedNil", spec := "deedNil", inPlace := ["maps.clone"], unfollowed := true, recurses := true, plainKeys := false, apart := false, narrowed := true }
def DeedNilUptoSaid : Prop := deedNilUptoRow.holds Tryz.pinned (OpenSpec.upto deedNilSpec)

/-- 'kinfolklaw15.DeedRaw', WHERE WHAT IT READS IS OF BULK AT MOST 1048576: true; the input reads as it did. -/
def deedRawUptoRow : OpenClaim := { program := "ytjjcmgdgifcmgaagreat", sum := "dcc70eee36e8bbc90f8a629a122629c89aae9dfbb9478c25a1b12025754edeaf", func := "kinfolk/kinfolklaw15.DeedRaw", spec := "deedRaw", unfollowed := true, recurses := true, plainKeys := false, apart := false, narrowed := true }
def DeedRawUptoSaid : Prop := deedRawUptoRow.holds Tryz.pinned (OpenSpec.upto deedRawSpec)

/-- 'kinfolklaw15.DeedReads', WHERE WHAT IT READS IS OF BULK AT MOST 1048576: true; the input reads as it did. -/
def deedReadsUptoRow : OpenClaim := { program := "ytjjcmgdgifcmgaagreat", sum := "dcc70eee36e8bbc90f8a629a122629c89aae9dfbb9478c25a1b12025754edeaf", func := "kinfolk/kinfolklaw15.DeedReads", spec := "deedReads", unfollowed := true, recurses := true, plainKeys := false, apart := false, narrowed := true }
def DeedReadsUptoSaid : Prop := deedReadsUptoRow.holds Tryz.pinned (OpenSpec.upto deedReadsSpec)

end Rows
end Go.Proofs.YtjjcmgdgifcmgaaGreat
