/-
  No cell of these rows narrows 'for every input' (looked for: loops, veiled, ifaces, maps, wideKeys, modest, calm, conditions, laid).
  DERIVED. THE GIVEN ROWS OF THIS SEAT. 2 by the template 'for every input the law returns true; each argument reads behind the call as it read before'; 0 by the template 'total and deterministic' (their statements: YtjjcmgdgifcmgaaTotals.lean).
  GIVEN WITH THE SEED: the statements are not yours to turn. If you find one false, say at which input.
  Laid BY PROGRAM, IN A SANDBOX (cutbox-rows.mjs): the forced cells as the released guide's own fill.sh prints them over the translation 710933a65c936681… (all of the seat's roots in one cut). By AI agents, Wed Nov 11 2026. No macro, syntax, notation, axiom, sorry.
-/
import Derived.Test.YtjjcmgdgifcmgaaChecked
import GoSem.Claim
import GoSem.ClaimJoined
import GoSem.ClaimMapViews
import Derived.JoinedTies
import Derived.KernelRfl
namespace Go.Proofs.Ytjjcmgdgifcmgaa
/- THE CELL 'sum', in the pinned program and in every row, IS THE sha256 OF THE DUMP (.gsa) THAT YtjjcmgdgifcmgaaProg.lean LOADS. Nothing in Lean hashes anything: it is a label: what it is worth is what the hold of that sum in a sandbox is worth. -/
noncomputable def Try.pinned : Pinned := { name := "ytjjcmgdgifcmgaa", sum := "710933a65c9366818c6530959099ec822c09ec42d0547cbf3257d6b0280fe9d4", checked := Try.checked }
namespace Rows
def none {H : Type} : Left H := { results := [], args := [] }

/-- 'kinfolklaw15.DeedGifts': WHATEVER THE INPUT: true; the input reads as it did. -/
def deedGiftsSpec : ChangeSpec := { name := "deedGifts", fn := fun _ => fun
  | [d1, d2, d3, d4, d5] => { results := [.lit (.bool true)], args := [d1, d2, d3, d4, d5] }
  | _ => none }
def deedGiftsRow : OpenClaim := { program := "ytjjcmgdgifcmgaa", sum := "710933a65c9366818c6530959099ec822c09ec42d0547cbf3257d6b0280fe9d4", func := "kinfolk/kinfolklaw15.DeedGifts", spec := "deedGifts", unfollowed := true, recurses := true, plainKeys := false, apart := false }
def DeedGiftsSaid : Prop := deedGiftsRow.holds Try.pinned (OpenSpec.ofChange deedGiftsSpec)

/-- ITS FALSE NEIGHBOUR: 'it returns false'. Refute it at one input. -/
def deedGiftsWrong : ChangeSpec := { name := "deedGifts", fn := fun _ => fun
  | [d1, d2, d3, d4, d5] => { results := [.lit (.bool false)], args := [d1, d2, d3, d4, d5] }
  | _ => none }
def DeedGiftsWrongFalsely : Prop := deedGiftsRow.holds Try.pinned (OpenSpec.ofChange deedGiftsWrong)

/-- 'kinfolklaw15.DeedOnce': WHATEVER THE INPUT: true; the input reads as it did. -/
def deedOnceSpec : ChangeSpec := { name := "deedOnce", fn := fun _ => fun
  | [d1, d2, d3, d4] => { results := [.lit (.bool true)], args := [d1, d2, d3, d4] }
  | _ => none }
def deedOnceRow : OpenClaim := { program := "ytjjcmgdgifcmgaa", sum := "710933a65c9366818c6530959099ec822c09ec42d0547cbf3257d6b0280fe9d4", func := "kinfolk/kinfolklaw15.DeedOnce", spec := "deedOnce", unfollowed := true, recurses := true, plainKeys := false, apart := false }
def DeedOnceSaid : Prop := deedOnceRow.holds Try.pinned (OpenSpec.ofChange deedOnceSpec)

/-- ITS FALSE NEIGHBOUR: 'it returns false'. Refute it at one input. -/
def deedOnceWrong : ChangeSpec := { name := "deedOnce", fn := fun _ => fun
  | [d1, d2, d3, d4] => { results := [.lit (.bool false)], args := [d1, d2, d3, d4] }
  | _ => none }
def DeedOnceWrongFalsely : Prop := deedOnceRow.holds Try.pinned (OpenSpec.ofChange deedOnceWrong)

/- THE SECOND FORM. 'bulk': how many values and letters a reading holds, each counted each time it is reached (what is shared counts as often as it is met; a slice's spare places count too). A statement '..UptoSaid' is the law's where the arguments, and the package variables that the reading takes, are together of bulk at most 1048576: NARROWER than '..Said'. Prove '..Said' where nothing that the law and all that it calls make is longer than what came in: it says more and counts as full. Else prove '..UptoSaid'. A law counts once. -/
mutual
def uptoBulk {H : Type} : DataW H → Nat
  | .lit (.string bytes) => bytes.length + 1
  | .lit _ => 1
  | .nil => 1
  | .ptr d => uptoBulk d + 1
  | .slice elems spare => uptoBulkAll elems + uptoBulkAll spare + 1
  | .agg parts => uptoBulkAll parts + 1
  | .iface _ d => uptoBulk d + 1
  | .map entries => uptoBulkEntries entries + 1
  | .held _ => 1
def uptoBulkAll {H : Type} : List (DataW H) → Nat
  | [] => 0
  | d :: r => uptoBulk d + uptoBulkAll r
def uptoBulkEntries {H : Type} : List (Lit × DataW H) → Nat
  | [] => 0
  | x :: r => uptoBulkEntry x + uptoBulkEntries r
def uptoBulkEntry {H : Type} : Lit × DataW H → Nat
  | (.string bytes, d) => bytes.length + uptoBulk d + 1
  | (_, d) => uptoBulk d + 1
 end
def uptoSmall : (H : Type) → List (DataW H) → Bool := fun _ ds => decide (uptoBulkAll ds ≤ 1048576)
def OpenSpec.upto (s : _root_.Go.ChangeSpec) : _root_.Go.OpenSpec := { _root_.Go.OpenSpec.ofChange s with cond := some uptoSmall }

/-- 'kinfolklaw15.DeedGifts', WHERE WHAT IT READS IS OF BULK AT MOST 1048576: true; the input reads as it did. -/
def deedGiftsUptoRow : OpenClaim := { program := "ytjjcmgdgifcmgaa", sum := "710933a65c9366818c6530959099ec822c09ec42d0547cbf3257d6b0280fe9d4", func := "kinfolk/kinfolklaw15.DeedGifts", spec := "deedGifts", unfollowed := true, recurses := true, plainKeys := false, apart := false, narrowed := true }
def DeedGiftsUptoSaid : Prop := deedGiftsUptoRow.holds Try.pinned (OpenSpec.upto deedGiftsSpec)

/-- 'kinfolklaw15.DeedOnce', WHERE WHAT IT READS IS OF BULK AT MOST 1048576: true; the input reads as it did. -/
def deedOnceUptoRow : OpenClaim := { program := "ytjjcmgdgifcmgaa", sum := "710933a65c9366818c6530959099ec822c09ec42d0547cbf3257d6b0280fe9d4", func := "kinfolk/kinfolklaw15.DeedOnce", spec := "deedOnce", unfollowed := true, recurses := true, plainKeys := false, apart := false, narrowed := true }
def DeedOnceUptoSaid : Prop := deedOnceUptoRow.holds Try.pinned (OpenSpec.upto deedOnceSpec)

end Rows
end Go.Proofs.Ytjjcmgdgifcmgaa
