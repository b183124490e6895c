/-
  NARROWER THAN 'FOR EVERY INPUT', by the rows' own cells (each row's printed sentence says how): StampGrows: laid · StampFills: laid · StampLimits: laid · StampTicks: laid · StampOrders: laid · StampForks: laid · StampJoins: laid · EventTexts: laid · EventLimits: laid · EventForms: laid · EventJoins: laid · EventHalves: laid · EventLeq: laid · CodeParts: laid · CodeReads: laid.
  DERIVED. THE GIVEN ROWS OF THIS SEAT. 15 by the template 'for every input the law returns true; each argument reads behind the call as it read before'; 0 by the template 'total and deterministic' (their statements: YtjjakdmcnkldoaaDoorTotals.lean).
  GIVEN WITH THE SEED: the statements are not yours to turn. If you find one false, say at which input.
  Laid BY PROGRAM, IN A SANDBOX (cutbox-rows.mjs): the forced cells as the released guide's own fill.sh prints them over the translation 2246f07c6d951f4d… (all of the seat's roots in one cut). By AI agents, Wed Nov 11 2026. No macro, syntax, notation, axiom, sorry.
-/
import Derived.Test.YtjjakdmcnkldoaaDoorChecked
import GoSem.Claim
import GoSem.ClaimJoined
import GoSem.ClaimMapViews
import Derived.JoinedTies
import Derived.KernelRfl
namespace Go.Proofs.YtjjakdmcnkldoaaDoor
/- THE CELL 'sum', in the pinned program and in every row, IS THE sha256 OF THE DUMP (.gsa) THAT YtjjakdmcnkldoaaDoorProg.lean LOADS. Nothing in Lean hashes anything: it is a label: what it is worth is what the hold of that sum in a sandbox is worth. -/
noncomputable def Tryd.pinned : Pinned := { name := "ytjjakdmcnkldoaadoor", sum := "2246f07c6d951f4d3c00150c8463f5b61da632a5213cfaf2970bed06f0bc28e4", checked := Tryd.checked }
namespace Rows
def none {H : Type} : Left H := { results := [], args := [] }

/- WHAT THE LISTED PACKAGE-LEVEL VARIABLES READ AS WHEN THE CALL BEGINS. Each datum BY PROGRAM (the guide's laid-datum.mjs) off the statement by which the dump's own 'gosem.cut.vars' lays the variable. In a bare row this is a premise. The card (YtjjakdmcnkldoaaDoorCards.lean) ties it to the program's text. -/
def laid_math_bits_deBruijn32tab {H : Type} : DataW H := .agg [.lit (.int .u8 0), .lit (.int .u8 1), .lit (.int .u8 28), .lit (.int .u8 2), .lit (.int .u8 29), .lit (.int .u8 14), .lit (.int .u8 24), .lit (.int .u8 3), .lit (.int .u8 30), .lit (.int .u8 22), .lit (.int .u8 20), .lit (.int .u8 15), .lit (.int .u8 25), .lit (.int .u8 17), .lit (.int .u8 4), .lit (.int .u8 8), .lit (.int .u8 31), .lit (.int .u8 27), .lit (.int .u8 13), .lit (.int .u8 23), .lit (.int .u8 21), .lit (.int .u8 19), .lit (.int .u8 16), .lit (.int .u8 7), .lit (.int .u8 26), .lit (.int .u8 12), .lit (.int .u8 18), .lit (.int .u8 6), .lit (.int .u8 11), .lit (.int .u8 5), .lit (.int .u8 10), .lit (.int .u8 9)]
def laid_math_bits_deBruijn64tab {H : Type} : DataW H := .agg [.lit (.int .u8 0), .lit (.int .u8 1), .lit (.int .u8 56), .lit (.int .u8 2), .lit (.int .u8 57), .lit (.int .u8 49), .lit (.int .u8 28), .lit (.int .u8 3), .lit (.int .u8 61), .lit (.int .u8 58), .lit (.int .u8 42), .lit (.int .u8 50), .lit (.int .u8 38), .lit (.int .u8 29), .lit (.int .u8 17), .lit (.int .u8 4), .lit (.int .u8 62), .lit (.int .u8 47), .lit (.int .u8 59), .lit (.int .u8 36), .lit (.int .u8 45), .lit (.int .u8 43), .lit (.int .u8 51), .lit (.int .u8 22), .lit (.int .u8 53), .lit (.int .u8 39), .lit (.int .u8 33), .lit (.int .u8 30), .lit (.int .u8 24), .lit (.int .u8 18), .lit (.int .u8 12), .lit (.int .u8 5), .lit (.int .u8 63), .lit (.int .u8 55), .lit (.int .u8 48), .lit (.int .u8 27), .lit (.int .u8 60), .lit (.int .u8 41), .lit (.int .u8 37), .lit (.int .u8 16), .lit (.int .u8 46), .lit (.int .u8 35), .lit (.int .u8 44), .lit (.int .u8 21), .lit (.int .u8 52), .lit (.int .u8 32), .lit (.int .u8 23), .lit (.int .u8 11), .lit (.int .u8 54), .lit (.int .u8 26), .lit (.int .u8 40), .lit (.int .u8 15), .lit (.int .u8 34), .lit (.int .u8 20), .lit (.int .u8 31), .lit (.int .u8 10), .lit (.int .u8 25), .lit (.int .u8 14), .lit (.int .u8 19), .lit (.int .u8 9), .lit (.int .u8 13), .lit (.int .u8 8), .lit (.int .u8 7), .lit (.int .u8 6)]
def laid_internal_strconv_uint64pow10 {H : Type} : DataW H := .agg [.lit (.int .u64 1), .lit (.int .u64 10), .lit (.int .u64 100), .lit (.int .u64 1000), .lit (.int .u64 10000), .lit (.int .u64 100000), .lit (.int .u64 1000000), .lit (.int .u64 10000000), .lit (.int .u64 100000000), .lit (.int .u64 1000000000), .lit (.int .u64 10000000000), .lit (.int .u64 100000000000), .lit (.int .u64 1000000000000), .lit (.int .u64 10000000000000), .lit (.int .u64 100000000000000), .lit (.int .u64 1000000000000000), .lit (.int .u64 10000000000000000), .lit (.int .u64 100000000000000000), .lit (.int .u64 1000000000000000000), .lit (.int .u64 10000000000000000000)]
def laid_strconv_ErrRange {H : Type} : DataW H := .iface "*errors.errorString" (.ptr (.agg [.lit (.string [118, 97, 108, 117, 101, 32, 111, 117, 116, 32, 111, 102, 32, 114, 97, 110, 103, 101])]))
def laid_strconv_ErrSyntax {H : Type} : DataW H := .iface "*errors.errorString" (.ptr (.agg [.lit (.string [105, 110, 118, 97, 108, 105, 100, 32, 115, 121, 110, 116, 97, 120])]))

/-- 'kinfolklaw04.StampGrows': WHATEVER THE INPUT: true; the input reads as it did. -/
def stampGrowsSpec : ChangeSpec := { name := "stampGrows", fn := fun _ => fun
  | [d1, d2] => { results := [.lit (.bool true)], args := [d1, d2] }
  | _ => none }
def stampGrowsRow : OpenClaim := { program := "ytjjakdmcnkldoaadoor", sum := "2246f07c6d951f4d3c00150c8463f5b61da632a5213cfaf2970bed06f0bc28e4", func := "kinfolk/kinfolklaw04.StampGrows", spec := "stampGrows", recurses := true, named := ["internal/strconv.uint64pow10", "math/bits.deBruijn32tab", "math/bits.deBruijn64tab"], apart := false, laid := [("math/bits.deBruijn32tab", laid_math_bits_deBruijn32tab), ("math/bits.deBruijn64tab", laid_math_bits_deBruijn64tab), ("internal/strconv.uint64pow10", laid_internal_strconv_uint64pow10)] }
def StampGrowsSaid : Prop := stampGrowsRow.holds Tryd.pinned (OpenSpec.ofChange stampGrowsSpec)

/-- ITS FALSE NEIGHBOUR: 'it returns false'. Refute it at one input. -/
def stampGrowsWrong : ChangeSpec := { name := "stampGrows", fn := fun _ => fun
  | [d1, d2] => { results := [.lit (.bool false)], args := [d1, d2] }
  | _ => none }
def StampGrowsWrongFalsely : Prop := stampGrowsRow.holds Tryd.pinned (OpenSpec.ofChange stampGrowsWrong)

/-- 'kinfolklaw04.StampFills': WHATEVER THE INPUT: true; the input reads as it did. -/
def stampFillsSpec : ChangeSpec := { name := "stampFills", fn := fun _ => fun
  | [d1, d2] => { results := [.lit (.bool true)], args := [d1, d2] }
  | _ => none }
def stampFillsRow : OpenClaim := { program := "ytjjakdmcnkldoaadoor", sum := "2246f07c6d951f4d3c00150c8463f5b61da632a5213cfaf2970bed06f0bc28e4", func := "kinfolk/kinfolklaw04.StampFills", spec := "stampFills", recurses := true, named := ["internal/strconv.uint64pow10", "math/bits.deBruijn32tab", "math/bits.deBruijn64tab"], apart := false, laid := [("math/bits.deBruijn32tab", laid_math_bits_deBruijn32tab), ("math/bits.deBruijn64tab", laid_math_bits_deBruijn64tab), ("internal/strconv.uint64pow10", laid_internal_strconv_uint64pow10)] }
def StampFillsSaid : Prop := stampFillsRow.holds Tryd.pinned (OpenSpec.ofChange stampFillsSpec)

/-- ITS FALSE NEIGHBOUR: 'it returns false'. Refute it at one input. -/
def stampFillsWrong : ChangeSpec := { name := "stampFills", fn := fun _ => fun
  | [d1, d2] => { results := [.lit (.bool false)], args := [d1, d2] }
  | _ => none }
def StampFillsWrongFalsely : Prop := stampFillsRow.holds Tryd.pinned (OpenSpec.ofChange stampFillsWrong)

/-- 'kinfolklaw04.StampLimits': WHATEVER THE INPUT: true; the input reads as it did. -/
def stampLimitsSpec : ChangeSpec := { name := "stampLimits", fn := fun _ => fun
  | [d1, d2] => { results := [.lit (.bool true)], args := [d1, d2] }
  | _ => none }
def stampLimitsRow : OpenClaim := { program := "ytjjakdmcnkldoaadoor", sum := "2246f07c6d951f4d3c00150c8463f5b61da632a5213cfaf2970bed06f0bc28e4", func := "kinfolk/kinfolklaw04.StampLimits", spec := "stampLimits", recurses := true, named := ["internal/strconv.uint64pow10", "math/bits.deBruijn32tab", "math/bits.deBruijn64tab"], apart := false, laid := [("math/bits.deBruijn32tab", laid_math_bits_deBruijn32tab), ("math/bits.deBruijn64tab", laid_math_bits_deBruijn64tab), ("internal/strconv.uint64pow10", laid_internal_strconv_uint64pow10)] }
def StampLimitsSaid : Prop := stampLimitsRow.holds Tryd.pinned (OpenSpec.ofChange stampLimitsSpec)

/-- ITS FALSE NEIGHBOUR: 'it returns false'. Refute it at one input. -/
def stampLimitsWrong : ChangeSpec := { name := "stampLimits", fn := fun _ => fun
  | [d1, d2] => { results := [.lit (.bool false)], args := [d1, d2] }
  | _ => none }
def StampLimitsWrongFalsely : Prop := stampLimitsRow.holds Tryd.pinned (OpenSpec.ofChange stampLimitsWrong)

/-- 'kinfolklaw04.StampTicks': WHATEVER THE INPUT: true; the input reads as it did. -/
def stampTicksSpec : ChangeSpec := { name := "stampTicks", fn := fun _ => fun
  | [d1, d2] => { results := [.lit (.bool true)], args := [d1, d2] }
  | _ => none }
def stampTicksRow : OpenClaim := { program := "ytjjakdmcnkldoaadoor", sum := "2246f07c6d951f4d3c00150c8463f5b61da632a5213cfaf2970bed06f0bc28e4", func := "kinfolk/kinfolklaw04.StampTicks", spec := "stampTicks", recurses := true, named := ["internal/strconv.uint64pow10", "math/bits.deBruijn32tab", "math/bits.deBruijn64tab"], apart := false, laid := [("math/bits.deBruijn32tab", laid_math_bits_deBruijn32tab), ("math/bits.deBruijn64tab", laid_math_bits_deBruijn64tab), ("internal/strconv.uint64pow10", laid_internal_strconv_uint64pow10)] }
def StampTicksSaid : Prop := stampTicksRow.holds Tryd.pinned (OpenSpec.ofChange stampTicksSpec)

/-- ITS FALSE NEIGHBOUR: 'it returns false'. Refute it at one input. -/
def stampTicksWrong : ChangeSpec := { name := "stampTicks", fn := fun _ => fun
  | [d1, d2] => { results := [.lit (.bool false)], args := [d1, d2] }
  | _ => none }
def StampTicksWrongFalsely : Prop := stampTicksRow.holds Tryd.pinned (OpenSpec.ofChange stampTicksWrong)

/-- 'kinfolklaw04.StampOrders': WHATEVER THE INPUT: true; the input reads as it did. -/
def stampOrdersSpec : ChangeSpec := { name := "stampOrders", fn := fun _ => fun
  | [d] => { results := [.lit (.bool true)], args := [d] }
  | _ => none }
def stampOrdersRow : OpenClaim := { program := "ytjjakdmcnkldoaadoor", sum := "2246f07c6d951f4d3c00150c8463f5b61da632a5213cfaf2970bed06f0bc28e4", func := "kinfolk/kinfolklaw04.StampOrders", spec := "stampOrders", recurses := true, named := ["internal/strconv.uint64pow10", "math/bits.deBruijn32tab", "math/bits.deBruijn64tab"], apart := false, laid := [("math/bits.deBruijn32tab", laid_math_bits_deBruijn32tab), ("math/bits.deBruijn64tab", laid_math_bits_deBruijn64tab), ("internal/strconv.uint64pow10", laid_internal_strconv_uint64pow10)] }
def StampOrdersSaid : Prop := stampOrdersRow.holds Tryd.pinned (OpenSpec.ofChange stampOrdersSpec)

/-- ITS FALSE NEIGHBOUR: 'it returns false'. Refute it at one input. -/
def stampOrdersWrong : ChangeSpec := { name := "stampOrders", fn := fun _ => fun
  | [d] => { results := [.lit (.bool false)], args := [d] }
  | _ => none }
def StampOrdersWrongFalsely : Prop := stampOrdersRow.holds Tryd.pinned (OpenSpec.ofChange stampOrdersWrong)

/-- 'kinfolklaw04.StampForks': WHATEVER THE INPUT: true; the input reads as it did. -/
def stampForksSpec : ChangeSpec := { name := "stampForks", fn := fun _ => fun
  | [d1, d2] => { results := [.lit (.bool true)], args := [d1, d2] }
  | _ => none }
def stampForksRow : OpenClaim := { program := "ytjjakdmcnkldoaadoor", sum := "2246f07c6d951f4d3c00150c8463f5b61da632a5213cfaf2970bed06f0bc28e4", func := "kinfolk/kinfolklaw04.StampForks", spec := "stampForks", recurses := true, named := ["internal/strconv.uint64pow10", "math/bits.deBruijn32tab", "math/bits.deBruijn64tab"], apart := false, laid := [("math/bits.deBruijn32tab", laid_math_bits_deBruijn32tab), ("math/bits.deBruijn64tab", laid_math_bits_deBruijn64tab), ("internal/strconv.uint64pow10", laid_internal_strconv_uint64pow10)] }
def StampForksSaid : Prop := stampForksRow.holds Tryd.pinned (OpenSpec.ofChange stampForksSpec)

/-- ITS FALSE NEIGHBOUR: 'it returns false'. Refute it at one input. -/
def stampForksWrong : ChangeSpec := { name := "stampForks", fn := fun _ => fun
  | [d1, d2] => { results := [.lit (.bool false)], args := [d1, d2] }
  | _ => none }
def StampForksWrongFalsely : Prop := stampForksRow.holds Tryd.pinned (OpenSpec.ofChange stampForksWrong)

/-- 'kinfolklaw04.StampJoins': WHATEVER THE INPUT: true; the input reads as it did. -/
def stampJoinsSpec : ChangeSpec := { name := "stampJoins", fn := fun _ => fun
  | [d1, d2, d3, d4] => { results := [.lit (.bool true)], args := [d1, d2, d3, d4] }
  | _ => none }
def stampJoinsRow : OpenClaim := { program := "ytjjakdmcnkldoaadoor", sum := "2246f07c6d951f4d3c00150c8463f5b61da632a5213cfaf2970bed06f0bc28e4", func := "kinfolk/kinfolklaw04.StampJoins", spec := "stampJoins", recurses := true, named := ["internal/strconv.uint64pow10", "math/bits.deBruijn32tab", "math/bits.deBruijn64tab"], apart := false, laid := [("math/bits.deBruijn32tab", laid_math_bits_deBruijn32tab), ("math/bits.deBruijn64tab", laid_math_bits_deBruijn64tab), ("internal/strconv.uint64pow10", laid_internal_strconv_uint64pow10)] }
def StampJoinsSaid : Prop := stampJoinsRow.holds Tryd.pinned (OpenSpec.ofChange stampJoinsSpec)

/-- ITS FALSE NEIGHBOUR: 'it returns false'. Refute it at one input. -/
def stampJoinsWrong : ChangeSpec := { name := "stampJoins", fn := fun _ => fun
  | [d1, d2, d3, d4] => { results := [.lit (.bool false)], args := [d1, d2, d3, d4] }
  | _ => none }
def StampJoinsWrongFalsely : Prop := stampJoinsRow.holds Tryd.pinned (OpenSpec.ofChange stampJoinsWrong)

/-- 'kinfolklaw02.EventTexts': WHATEVER THE INPUT: true; the input reads as it did. -/
def eventTextsSpec : ChangeSpec := { name := "eventTexts", fn := fun _ => fun
  | [d] => { results := [.lit (.bool true)], args := [d] }
  | _ => none }
def eventTextsRow : OpenClaim := { program := "ytjjakdmcnkldoaadoor", sum := "2246f07c6d951f4d3c00150c8463f5b61da632a5213cfaf2970bed06f0bc28e4", func := "kinfolk/kinfolklaw02.EventTexts", spec := "eventTexts", recurses := true, named := ["strconv.ErrSyntax", "strconv.ErrRange", "internal/strconv.uint64pow10", "math/bits.deBruijn32tab", "math/bits.deBruijn64tab"], apart := false, laid := [("math/bits.deBruijn32tab", laid_math_bits_deBruijn32tab), ("math/bits.deBruijn64tab", laid_math_bits_deBruijn64tab), ("internal/strconv.uint64pow10", laid_internal_strconv_uint64pow10), ("strconv.ErrRange", laid_strconv_ErrRange), ("strconv.ErrSyntax", laid_strconv_ErrSyntax)] }
def EventTextsSaid : Prop := eventTextsRow.holds Tryd.pinned (OpenSpec.ofChange eventTextsSpec)

/-- ITS FALSE NEIGHBOUR: 'it returns false'. Refute it at one input. -/
def eventTextsWrong : ChangeSpec := { name := "eventTexts", fn := fun _ => fun
  | [d] => { results := [.lit (.bool false)], args := [d] }
  | _ => none }
def EventTextsWrongFalsely : Prop := eventTextsRow.holds Tryd.pinned (OpenSpec.ofChange eventTextsWrong)

/-- 'kinfolklaw02.EventLimits': WHATEVER THE INPUT: true; the input reads as it did. -/
def eventLimitsSpec : ChangeSpec := { name := "eventLimits", fn := fun _ => fun
  | [d1, d2, d3] => { results := [.lit (.bool true)], args := [d1, d2, d3] }
  | _ => none }
def eventLimitsRow : OpenClaim := { program := "ytjjakdmcnkldoaadoor", sum := "2246f07c6d951f4d3c00150c8463f5b61da632a5213cfaf2970bed06f0bc28e4", func := "kinfolk/kinfolklaw02.EventLimits", spec := "eventLimits", recurses := true, named := ["strconv.ErrSyntax", "strconv.ErrRange", "internal/strconv.uint64pow10", "math/bits.deBruijn32tab", "math/bits.deBruijn64tab"], apart := false, laid := [("math/bits.deBruijn32tab", laid_math_bits_deBruijn32tab), ("math/bits.deBruijn64tab", laid_math_bits_deBruijn64tab), ("internal/strconv.uint64pow10", laid_internal_strconv_uint64pow10), ("strconv.ErrRange", laid_strconv_ErrRange), ("strconv.ErrSyntax", laid_strconv_ErrSyntax)] }
def EventLimitsSaid : Prop := eventLimitsRow.holds Tryd.pinned (OpenSpec.ofChange eventLimitsSpec)

/-- ITS FALSE NEIGHBOUR: 'it returns false'. Refute it at one input. -/
def eventLimitsWrong : ChangeSpec := { name := "eventLimits", fn := fun _ => fun
  | [d1, d2, d3] => { results := [.lit (.bool false)], args := [d1, d2, d3] }
  | _ => none }
def EventLimitsWrongFalsely : Prop := eventLimitsRow.holds Tryd.pinned (OpenSpec.ofChange eventLimitsWrong)

/-- 'kinfolklaw02.EventForms': WHATEVER THE INPUT: true; the input reads as it did. -/
def eventFormsSpec : ChangeSpec := { name := "eventForms", fn := fun _ => fun
  | [d1, d2, d3] => { results := [.lit (.bool true)], args := [d1, d2, d3] }
  | _ => none }
def eventFormsRow : OpenClaim := { program := "ytjjakdmcnkldoaadoor", sum := "2246f07c6d951f4d3c00150c8463f5b61da632a5213cfaf2970bed06f0bc28e4", func := "kinfolk/kinfolklaw02.EventForms", spec := "eventForms", recurses := true, named := ["strconv.ErrSyntax", "strconv.ErrRange", "internal/strconv.uint64pow10", "math/bits.deBruijn32tab", "math/bits.deBruijn64tab"], apart := false, laid := [("math/bits.deBruijn32tab", laid_math_bits_deBruijn32tab), ("math/bits.deBruijn64tab", laid_math_bits_deBruijn64tab), ("internal/strconv.uint64pow10", laid_internal_strconv_uint64pow10), ("strconv.ErrRange", laid_strconv_ErrRange), ("strconv.ErrSyntax", laid_strconv_ErrSyntax)] }
def EventFormsSaid : Prop := eventFormsRow.holds Tryd.pinned (OpenSpec.ofChange eventFormsSpec)

/-- ITS FALSE NEIGHBOUR: 'it returns false'. Refute it at one input. -/
def eventFormsWrong : ChangeSpec := { name := "eventForms", fn := fun _ => fun
  | [d1, d2, d3] => { results := [.lit (.bool false)], args := [d1, d2, d3] }
  | _ => none }
def EventFormsWrongFalsely : Prop := eventFormsRow.holds Tryd.pinned (OpenSpec.ofChange eventFormsWrong)

/-- 'kinfolklaw02.EventJoins': WHATEVER THE INPUT: true; the input reads as it did. -/
def eventJoinsSpec : ChangeSpec := { name := "eventJoins", fn := fun _ => fun
  | [d1, d2, d3] => { results := [.lit (.bool true)], args := [d1, d2, d3] }
  | _ => none }
def eventJoinsRow : OpenClaim := { program := "ytjjakdmcnkldoaadoor", sum := "2246f07c6d951f4d3c00150c8463f5b61da632a5213cfaf2970bed06f0bc28e4", func := "kinfolk/kinfolklaw02.EventJoins", spec := "eventJoins", recurses := true, named := ["strconv.ErrSyntax", "strconv.ErrRange", "internal/strconv.uint64pow10", "math/bits.deBruijn32tab", "math/bits.deBruijn64tab"], apart := false, laid := [("math/bits.deBruijn32tab", laid_math_bits_deBruijn32tab), ("math/bits.deBruijn64tab", laid_math_bits_deBruijn64tab), ("internal/strconv.uint64pow10", laid_internal_strconv_uint64pow10), ("strconv.ErrRange", laid_strconv_ErrRange), ("strconv.ErrSyntax", laid_strconv_ErrSyntax)] }
def EventJoinsSaid : Prop := eventJoinsRow.holds Tryd.pinned (OpenSpec.ofChange eventJoinsSpec)

/-- ITS FALSE NEIGHBOUR: 'it returns false'. Refute it at one input. -/
def eventJoinsWrong : ChangeSpec := { name := "eventJoins", fn := fun _ => fun
  | [d1, d2, d3] => { results := [.lit (.bool false)], args := [d1, d2, d3] }
  | _ => none }
def EventJoinsWrongFalsely : Prop := eventJoinsRow.holds Tryd.pinned (OpenSpec.ofChange eventJoinsWrong)

/-- 'kinfolklaw02.EventHalves': WHATEVER THE INPUT: true; the input reads as it did. -/
def eventHalvesSpec : ChangeSpec := { name := "eventHalves", fn := fun _ => fun
  | [d1, d2] => { results := [.lit (.bool true)], args := [d1, d2] }
  | _ => none }
def eventHalvesRow : OpenClaim := { program := "ytjjakdmcnkldoaadoor", sum := "2246f07c6d951f4d3c00150c8463f5b61da632a5213cfaf2970bed06f0bc28e4", func := "kinfolk/kinfolklaw02.EventHalves", spec := "eventHalves", unfollowed := true, recurses := true, named := ["strconv.ErrSyntax", "strconv.ErrRange", "internal/strconv.uint64pow10", "math/bits.deBruijn32tab", "math/bits.deBruijn64tab"], apart := false, laid := [("math/bits.deBruijn32tab", laid_math_bits_deBruijn32tab), ("math/bits.deBruijn64tab", laid_math_bits_deBruijn64tab), ("internal/strconv.uint64pow10", laid_internal_strconv_uint64pow10), ("strconv.ErrRange", laid_strconv_ErrRange), ("strconv.ErrSyntax", laid_strconv_ErrSyntax)] }
def EventHalvesSaid : Prop := eventHalvesRow.holds Tryd.pinned (OpenSpec.ofChange eventHalvesSpec)

/-- ITS FALSE NEIGHBOUR: 'it returns false'. Refute it at one input. -/
def eventHalvesWrong : ChangeSpec := { name := "eventHalves", fn := fun _ => fun
  | [d1, d2] => { results := [.lit (.bool false)], args := [d1, d2] }
  | _ => none }
def EventHalvesWrongFalsely : Prop := eventHalvesRow.holds Tryd.pinned (OpenSpec.ofChange eventHalvesWrong)

/-- 'kinfolklaw02.EventLeq': WHATEVER THE INPUT: true; the input reads as it did. -/
def eventLeqSpec : ChangeSpec := { name := "eventLeq", fn := fun _ => fun
  | [d1, d2] => { results := [.lit (.bool true)], args := [d1, d2] }
  | _ => none }
def eventLeqRow : OpenClaim := { program := "ytjjakdmcnkldoaadoor", sum := "2246f07c6d951f4d3c00150c8463f5b61da632a5213cfaf2970bed06f0bc28e4", func := "kinfolk/kinfolklaw02.EventLeq", spec := "eventLeq", recurses := true, named := ["strconv.ErrSyntax", "strconv.ErrRange", "internal/strconv.uint64pow10", "math/bits.deBruijn32tab", "math/bits.deBruijn64tab"], apart := false, laid := [("math/bits.deBruijn32tab", laid_math_bits_deBruijn32tab), ("math/bits.deBruijn64tab", laid_math_bits_deBruijn64tab), ("internal/strconv.uint64pow10", laid_internal_strconv_uint64pow10), ("strconv.ErrRange", laid_strconv_ErrRange), ("strconv.ErrSyntax", laid_strconv_ErrSyntax)] }
def EventLeqSaid : Prop := eventLeqRow.holds Tryd.pinned (OpenSpec.ofChange eventLeqSpec)

/-- ITS FALSE NEIGHBOUR: 'it returns false'. Refute it at one input. -/
def eventLeqWrong : ChangeSpec := { name := "eventLeq", fn := fun _ => fun
  | [d1, d2] => { results := [.lit (.bool false)], args := [d1, d2] }
  | _ => none }
def EventLeqWrongFalsely : Prop := eventLeqRow.holds Tryd.pinned (OpenSpec.ofChange eventLeqWrong)

/-- 'kinfolklaw07.CodeParts': WHATEVER THE INPUT: true; the input reads as it did. -/
def codePartsSpec : ChangeSpec := { name := "codeParts", fn := fun _ => fun
  | [d] => { results := [.lit (.bool true)], args := [d] }
  | _ => none }
def codePartsRow : OpenClaim := { program := "ytjjakdmcnkldoaadoor", sum := "2246f07c6d951f4d3c00150c8463f5b61da632a5213cfaf2970bed06f0bc28e4", func := "kinfolk/kinfolklaw07.CodeParts", spec := "codeParts", recurses := true, named := ["internal/strconv.uint64pow10", "math/bits.deBruijn32tab", "math/bits.deBruijn64tab"], apart := false, laid := [("math/bits.deBruijn32tab", laid_math_bits_deBruijn32tab), ("math/bits.deBruijn64tab", laid_math_bits_deBruijn64tab), ("internal/strconv.uint64pow10", laid_internal_strconv_uint64pow10)] }
def CodePartsSaid : Prop := codePartsRow.holds Tryd.pinned (OpenSpec.ofChange codePartsSpec)

/-- ITS FALSE NEIGHBOUR: 'it returns false'. Refute it at one input. -/
def codePartsWrong : ChangeSpec := { name := "codeParts", fn := fun _ => fun
  | [d] => { results := [.lit (.bool false)], args := [d] }
  | _ => none }
def CodePartsWrongFalsely : Prop := codePartsRow.holds Tryd.pinned (OpenSpec.ofChange codePartsWrong)

/-- 'kinfolklaw07.CodeReads': WHATEVER THE INPUT: true; the input reads as it did. -/
def codeReadsSpec : ChangeSpec := { name := "codeReads", fn := fun _ => fun
  | [d] => { results := [.lit (.bool true)], args := [d] }
  | _ => none }
def codeReadsRow : OpenClaim := { program := "ytjjakdmcnkldoaadoor", sum := "2246f07c6d951f4d3c00150c8463f5b61da632a5213cfaf2970bed06f0bc28e4", func := "kinfolk/kinfolklaw07.CodeReads", spec := "codeReads", recurses := true, named := ["internal/strconv.uint64pow10", "math/bits.deBruijn32tab", "math/bits.deBruijn64tab"], apart := false, laid := [("math/bits.deBruijn32tab", laid_math_bits_deBruijn32tab), ("math/bits.deBruijn64tab", laid_math_bits_deBruijn64tab), ("internal/strconv.uint64pow10", laid_internal_strconv_uint64pow10)] }
def CodeReadsSaid : Prop := codeReadsRow.holds Tryd.pinned (OpenSpec.ofChange codeReadsSpec)

/-- ITS FALSE NEIGHBOUR: 'it returns false'. Refute it at one input. -/
def codeReadsWrong : ChangeSpec := { name := "codeReads", fn := fun _ => fun
  | [d] => { results := [.lit (.bool false)], args := [d] }
  | _ => none }
def CodeReadsWrongFalsely : Prop := codeReadsRow.holds Tryd.pinned (OpenSpec.ofChange codeReadsWrong)

/- THE SECOND FORM. 'bulk': how many values and letters a reading holds, each counted each time it is reached (what is shared counts as often as it is met; a slice's spare places count too). A statement '..UptoSaid' is the law's where the arguments, and the package variables that the reading takes, are together of bulk at most 1048576: NARROWER than '..Said'. Prove '..Said' where nothing that the law and all that it calls make is longer than what came in: it says more and counts as full. Else prove '..UptoSaid'. A law counts once. -/
mutual
def uptoBulk {H : Type} : DataW H → Nat
  | .lit (.string bytes) => bytes.length + 1
  | .lit _ => 1
  | .nil => 1
  | .ptr d => uptoBulk d + 1
  | .slice elems spare => uptoBulkAll elems + uptoBulkAll spare + 1
  | .agg parts => uptoBulkAll parts + 1
  | .iface _ d => uptoBulk d + 1
  | .map entries => uptoBulkEntries entries + 1
  | .held _ => 1
def uptoBulkAll {H : Type} : List (DataW H) → Nat
  | [] => 0
  | d :: r => uptoBulk d + uptoBulkAll r
def uptoBulkEntries {H : Type} : List (Lit × DataW H) → Nat
  | [] => 0
  | x :: r => uptoBulkEntry x + uptoBulkEntries r
def uptoBulkEntry {H : Type} : Lit × DataW H → Nat
  | (.string bytes, d) => bytes.length + uptoBulk d + 1
  | (_, d) => uptoBulk d + 1
 end
def uptoSmall : (H : Type) → List (DataW H) → Bool := fun _ ds => decide (uptoBulkAll ds ≤ 1048576)
def OpenSpec.upto (s : _root_.Go.ChangeSpec) : _root_.Go.OpenSpec := { _root_.Go.OpenSpec.ofChange s with cond := some uptoSmall }

/-- 'kinfolklaw04.StampGrows', WHERE WHAT IT READS IS OF BULK AT MOST 1048576: true; the input reads as it did. -/
def stampGrowsUptoRow : OpenClaim := { program := "ytjjakdmcnkldoaadoor", sum := "2246f07c6d951f4d3c00150c8463f5b61da632a5213cfaf2970bed06f0bc28e4", func := "kinfolk/kinfolklaw04.StampGrows", spec := "stampGrows", recurses := true, named := ["internal/strconv.uint64pow10", "math/bits.deBruijn32tab", "math/bits.deBruijn64tab"], apart := false, laid := [("math/bits.deBruijn32tab", laid_math_bits_deBruijn32tab), ("math/bits.deBruijn64tab", laid_math_bits_deBruijn64tab), ("internal/strconv.uint64pow10", laid_internal_strconv_uint64pow10)], narrowed := true }
def StampGrowsUptoSaid : Prop := stampGrowsUptoRow.holds Tryd.pinned (OpenSpec.upto stampGrowsSpec)

/-- 'kinfolklaw04.StampFills', WHERE WHAT IT READS IS OF BULK AT MOST 1048576: true; the input reads as it did. -/
def stampFillsUptoRow : OpenClaim := { program := "ytjjakdmcnkldoaadoor", sum := "2246f07c6d951f4d3c00150c8463f5b61da632a5213cfaf2970bed06f0bc28e4", func := "kinfolk/kinfolklaw04.StampFills", spec := "stampFills", recurses := true, named := ["internal/strconv.uint64pow10", "math/bits.deBruijn32tab", "math/bits.deBruijn64tab"], apart := false, laid := [("math/bits.deBruijn32tab", laid_math_bits_deBruijn32tab), ("math/bits.deBruijn64tab", laid_math_bits_deBruijn64tab), ("internal/strconv.uint64pow10", laid_internal_strconv_uint64pow10)], narrowed := true }
def StampFillsUptoSaid : Prop := stampFillsUptoRow.holds Tryd.pinned (OpenSpec.upto stampFillsSpec)

/-- 'kinfolklaw04.StampLimits', WHERE WHAT IT READS IS OF BULK AT MOST 1048576: true; the input reads as it did. -/
def stampLimitsUptoRow : OpenClaim := { program := "ytjjakdmcnkldoaadoor", sum := "2246f07c6d951f4d3c00150c8463f5b61da632a5213cfaf2970bed06f0bc28e4", func := "kinfolk/kinfolklaw04.StampLimits", spec := "stampLimits", recurses := true, named := ["internal/strconv.uint64pow10", "math/bits.deBruijn32tab", "math/bits.deBruijn64tab"], apart := false, laid := [("math/bits.deBruijn32tab", laid_math_bits_deBruijn32tab), ("math/bits.deBruijn64tab", laid_math_bits_deBruijn64tab), ("internal/strconv.uint64pow10", laid_internal_strconv_uint64pow10)], narrowed := true }
def StampLimitsUptoSaid : Prop := stampLimitsUptoRow.holds Tryd.pinned (OpenSpec.upto stampLimitsSpec)

/-- 'kinfolklaw04.StampTicks', WHERE WHAT IT READS IS OF BULK AT MOST 1048576: true; the input reads as it did. -/
def stampTicksUptoRow : OpenClaim := { program := "ytjjakdmcnkldoaadoor", sum := "2246f07c6d951f4d3c00150c8463f5b61da632a5213cfaf2970bed06f0bc28e4", func := "kinfolk/kinfolklaw04.StampTicks", spec := "stampTicks", recurses := true, named := ["internal/strconv.uint64pow10", "math/bits.deBruijn32tab", "math/bits.deBruijn64tab"], apart := false, laid := [("math/bits.deBruijn32tab", laid_math_bits_deBruijn32tab), ("math/bits.deBruijn64tab", laid_math_bits_deBruijn64tab), ("internal/strconv.uint64pow10", laid_internal_strconv_uint64pow10)], narrowed := true }
def StampTicksUptoSaid : Prop := stampTicksUptoRow.holds Tryd.pinned (OpenSpec.upto stampTicksSpec)

/-- 'kinfolklaw04.StampOrders', WHERE WHAT IT READS IS OF BULK AT MOST 1048576: true; the input reads as it did. -/
def stampOrdersUptoRow : OpenClaim := { program := "ytjjakdmcnkldoaadoor", sum := "2246f07c6d951f4d3c00150c8463f5b61da632a5213cfaf2970bed06f0bc28e4", func := "kinfolk/kinfolklaw04.StampOrders", spec := "stampOrders", recurses := true, named := ["internal/strconv.uint64pow10", "math/bits.deBruijn32tab", "math/bits.deBruijn64tab"], apart := false, laid := [("math/bits.deBruijn32tab", laid_math_bits_deBruijn32tab), ("math/bits.deBruijn64tab", laid_math_bits_deBruijn64tab), ("internal/strconv.uint64pow10", laid_internal_strconv_uint64pow10)], narrowed := true }
def StampOrdersUptoSaid : Prop := stampOrdersUptoRow.holds Tryd.pinned (OpenSpec.upto stampOrdersSpec)

/-- 'kinfolklaw04.StampForks', WHERE WHAT IT READS IS OF BULK AT MOST 1048576: true; the input reads as it did. -/
def stampForksUptoRow : OpenClaim := { program := "ytjjakdmcnkldoaadoor", sum := "2246f07c6d951f4d3c00150c8463f5b61da632a5213cfaf2970bed06f0bc28e4", func := "kinfolk/kinfolklaw04.StampForks", spec := "stampForks", recurses := true, named := ["internal/strconv.uint64pow10", "math/bits.deBruijn32tab", "math/bits.deBruijn64tab"], apart := false, laid := [("math/bits.deBruijn32tab", laid_math_bits_deBruijn32tab), ("math/bits.deBruijn64tab", laid_math_bits_deBruijn64tab), ("internal/strconv.uint64pow10", laid_internal_strconv_uint64pow10)], narrowed := true }
def StampForksUptoSaid : Prop := stampForksUptoRow.holds Tryd.pinned (OpenSpec.upto stampForksSpec)

/-- 'kinfolklaw04.StampJoins', WHERE WHAT IT READS IS OF BULK AT MOST 1048576: true; the input reads as it did. -/
def stampJoinsUptoRow : OpenClaim := { program := "ytjjakdmcnkldoaadoor", sum := "2246f07c6d951f4d3c00150c8463f5b61da632a5213cfaf2970bed06f0bc28e4", func := "kinfolk/kinfolklaw04.StampJoins", spec := "stampJoins", recurses := true, named := ["internal/strconv.uint64pow10", "math/bits.deBruijn32tab", "math/bits.deBruijn64tab"], apart := false, laid := [("math/bits.deBruijn32tab", laid_math_bits_deBruijn32tab), ("math/bits.deBruijn64tab", laid_math_bits_deBruijn64tab), ("internal/strconv.uint64pow10", laid_internal_strconv_uint64pow10)], narrowed := true }
def StampJoinsUptoSaid : Prop := stampJoinsUptoRow.holds Tryd.pinned (OpenSpec.upto stampJoinsSpec)

/-- 'kinfolklaw02.EventTexts', WHERE WHAT IT READS IS OF BULK AT MOST 1048576: true; the input reads as it did. -/
def eventTextsUptoRow : OpenClaim := { program := "ytjjakdmcnkldoaadoor", sum := "2246f07c6d951f4d3c00150c8463f5b61da632a5213cfaf2970bed06f0bc28e4", func := "kinfolk/kinfolklaw02.EventTexts", spec := "eventTexts", recurses := true, named := ["strconv.ErrSyntax", "strconv.ErrRange", "internal/strconv.uint64pow10", "math/bits.deBruijn32tab", "math/bits.deBruijn64tab"], apart := false, laid := [("math/bits.deBruijn32tab", laid_math_bits_deBruijn32tab), ("math/bits.deBruijn64tab", laid_math_bits_deBruijn64tab), ("internal/strconv.uint64pow10", laid_internal_strconv_uint64pow10), ("strconv.ErrRange", laid_strconv_ErrRange), ("strconv.ErrSyntax", laid_strconv_ErrSyntax)], narrowed := true }
def EventTextsUptoSaid : Prop := eventTextsUptoRow.holds Tryd.pinned (OpenSpec.upto eventTextsSpec)

/-- 'kinfolklaw02.EventLimits', WHERE WHAT IT READS IS OF BULK AT MOST 1048576: true; the input reads as it did. -/
def eventLimitsUptoRow : OpenClaim := { program := "ytjjakdmcnkldoaadoor", sum := "2246f07c6d951f4d3c00150c8463f5b61da632a5213cfaf2970bed06f0bc28e4", func := "kinfolk/kinfolklaw02.EventLimits", spec := "eventLimits", recurses := true, named := ["strconv.ErrSyntax", "strconv.ErrRange", "internal/strconv.uint64pow10", "math/bits.deBruijn32tab", "math/bits.deBruijn64tab"], apart := false, laid := [("math/bits.deBruijn32tab", laid_math_bits_deBruijn32tab), ("math/bits.deBruijn64tab", laid_math_bits_deBruijn64tab), ("internal/strconv.uint64pow10", laid_internal_strconv_uint64pow10), ("strconv.ErrRange", laid_strconv_ErrRange), ("strconv.ErrSyntax", laid_strconv_ErrSyntax)], narrowed := true }
def EventLimitsUptoSaid : Prop := eventLimitsUptoRow.holds Tryd.pinned (OpenSpec.upto eventLimitsSpec)

/-- 'kinfolklaw02.EventForms', WHERE WHAT IT READS IS OF BULK AT MOST 1048576: true; the input reads as it did. -/
def eventFormsUptoRow : OpenClaim := { program := "ytjjakdmcnkldoaadoor", sum := "2246f07c6d951f4d3c00150c8463f5b61da632a5213cfaf2970bed06f0bc28e4", func := "kinfolk/kinfolklaw02.EventForms", spec := "eventForms", recurses := true, named := ["strconv.ErrSyntax", "strconv.ErrRange", "internal/strconv.uint64pow10", "math/bits.deBruijn32tab", "math/bits.deBruijn64tab"], apart := false, laid := [("math/bits.deBruijn32tab", laid_math_bits_deBruijn32tab), ("math/bits.deBruijn64tab", laid_math_bits_deBruijn64tab), ("internal/strconv.uint64pow10", laid_internal_strconv_uint64pow10), ("strconv.ErrRange", laid_strconv_ErrRange), ("strconv.ErrSyntax", laid_strconv_ErrSyntax)], narrowed := true }
def EventFormsUptoSaid : Prop := eventFormsUptoRow.holds Tryd.pinned (OpenSpec.upto eventFormsSpec)

/-- 'kinfolklaw02.EventJoins', WHERE WHAT IT READS IS OF BULK AT MOST 1048576: true; the input reads as it did. -/
def eventJoinsUptoRow : OpenClaim := { program := "ytjjakdmcnkldoaadoor", sum := "2246f07c6d951f4d3c00150c8463f5b61da632a5213cfaf2970bed06f0bc28e4", func := "kinfolk/kinfolklaw02.EventJoins", spec := "eventJoins", recurses := true, named := ["strconv.ErrSyntax", "strconv.ErrRange", "internal/strconv.uint64pow10", "math/bits.deBruijn32tab", "math/bits.deBruijn64tab"], apart := false, laid := [("math/bits.deBruijn32tab", laid_math_bits_deBruijn32tab), ("math/bits.deBruijn64tab", laid_math_bits_deBruijn64tab), ("internal/strconv.uint64pow10", laid_internal_strconv_uint64pow10), ("strconv.ErrRange", laid_strconv_ErrRange), ("strconv.ErrSyntax", laid_strconv_ErrSyntax)], narrowed := true }
def EventJoinsUptoSaid : Prop := eventJoinsUptoRow.holds Tryd.pinned (OpenSpec.upto eventJoinsSpec)

/-- 'kinfolklaw02.EventHalves', WHERE WHAT IT READS IS OF BULK AT MOST 1048576: true; the input reads as it did. -/
def eventHalvesUptoRow : OpenClaim := { program := "ytjjakdmcnkldoaadoor", sum := "2246f07c6d951f4d3c00150c8463f5b61da632a5213cfaf2970bed06f0bc28e4", func := "kinfolk/kinfolklaw02.EventHalves", spec := "eventHalves", unfollowed := true, recurses := true, named := ["strconv.ErrSyntax", "strconv.ErrRange", "internal/strconv.uint64pow10", "math/bits.deBruijn32tab", "math/bits.deBruijn64tab"], apart := false, laid := [("math/bits.deBruijn32tab", laid_math_bits_deBruijn32tab), ("math/bits.deBruijn64tab", laid_math_bits_deBruijn64tab), ("internal/strconv.uint64pow10", laid_internal_strconv_uint64pow10), ("strconv.ErrRange", laid_strconv_ErrRange), ("strconv.ErrSyntax", laid_strconv_ErrSyntax)], narrowed := true }
def EventHalvesUptoSaid : Prop := eventHalvesUptoRow.holds Tryd.pinned (OpenSpec.upto eventHalvesSpec)

/-- 'kinfolklaw02.EventLeq', WHERE WHAT IT READS IS OF BULK AT MOST 1048576: true; the input reads as it did. -/
def eventLeqUptoRow : OpenClaim := { program := "ytjjakdmcnkldoaadoor", sum := "2246f07c6d951f4d3c00150c8463f5b61da632a5213cfaf2970bed06f0bc28e4", func := "kinfolk/kinfolklaw02.EventLeq", spec := "eventLeq", recurses := true, named := ["strconv.ErrSyntax", "strconv.ErrRange", "internal/strconv.uint64pow10", "math/bits.deBruijn32tab", "math/bits.deBruijn64tab"], apart := false, laid := [("math/bits.deBruijn32tab", laid_math_bits_deBruijn32tab), ("math/bits.deBruijn64tab", laid_math_bits_deBruijn64tab), ("internal/strconv.uint64pow10", laid_internal_strconv_uint64pow10), ("strconv.ErrRange", laid_strconv_ErrRange), ("strconv.ErrSyntax", laid_strconv_ErrSyntax)], narrowed := true }
def EventLeqUptoSaid : Prop := eventLeqUptoRow.holds Tryd.pinned (OpenSpec.upto eventLeqSpec)

/-- 'kinfolklaw07.CodeParts', WHERE WHAT IT READS IS OF BULK AT MOST 1048576: true; the input reads as it did. -/
def codePartsUptoRow : OpenClaim := { program := "ytjjakdmcnkldoaadoor", sum := "2246f07c6d951f4d3c00150c8463f5b61da632a5213cfaf2970bed06f0bc28e4", func := "kinfolk/kinfolklaw07.CodeParts", spec := "codeParts", recurses := true, named := ["internal/strconv.uint64pow10", "math/bits.deBruijn32tab", "math/bits.deBruijn64tab"], apart := false, laid := [("math/bits.deBruijn32tab", laid_math_bits_deBruijn32tab), ("math/bits.deBruijn64tab", laid_math_bits_deBruijn64tab), ("internal/strconv.uint64pow10", laid_internal_strconv_uint64pow10)], narrowed := true }
def CodePartsUptoSaid : Prop := codePartsUptoRow.holds Tryd.pinned (OpenSpec.upto codePartsSpec)

/-- 'kinfolklaw07.CodeReads', WHERE WHAT IT READS IS OF BULK AT MOST 1048576: true; the input reads as it did. -/
def codeReadsUptoRow : OpenClaim := { program := "ytjjakdmcnkldoaadoor", sum := "2246f07c6d951f4d3c00150c8463f5b61da632a5213cfaf2970bed06f0bc28e4", func := "kinfolk/kinfolklaw07.CodeReads", spec := "codeReads", recurses := true, named := ["internal/strconv.uint64pow10", "math/bits.deBruijn32tab", "math/bits.deBruijn64tab"], apart := false, laid := [("math/bits.deBruijn32tab", laid_math_bits_deBruijn32tab), ("math/bits.deBruijn64tab", laid_math_bits_deBruijn64tab), ("internal/strconv.uint64pow10", laid_internal_strconv_uint64pow10)], narrowed := true }
def CodeReadsUptoSaid : Prop := codeReadsUptoRow.holds Tryd.pinned (OpenSpec.upto codeReadsSpec)

end Rows
end Go.Proofs.YtjjakdmcnkldoaaDoor
