/-
  DERIVED: THE SHELF's CONTRACTS AT THIS DUMP, IN PLAIN WORDS (tools/lay-plain.mjs out of 'YtgimaogkhblaiaaShelf.lean', which tools/lay-shelf.mjs wrote): THE SAME DECLARATIONS UNDER THE SAME NAMES: 'import', 'namespace', 'open', 'def', 'theorem' AND NOTHING ELSE: no command of the shelf's: FOR A HAND-IN. Each laying: the table of numbers ('.._ren') and one theorem, a field a fact of the dump's own or the kernel's comparison; each contract: ONE APPLICATION.
-/
import Derived.Shelf.SlGeneric
import Derived.Ground.GgzProg
import Derived.Ground.SlmcProg
import Derived.Test.YtgimaogkhblaiaaQ3
import Derived.Shelf.SlMaps.Clone
import Derived.Test.YtgimaogkhblaiaaProg
namespace Go.Proofs
open Go.Shelf
def Try.keysL_ren : Go.Shelf.Ren := ⟨fun | 7 => 71 | 10 => 86 | n => n, fun | 23 => 93 | 26 => 31 | 3 => 27 | 28 => 102 | 0 => 0 | 27 => 101 | 33 => 111 | 4 => 4 | n => n, fun | n => n⟩
theorem Try.keysL : Go.Proofs.LayU.n7 Try.prog Try.keysL_ren := {
  mixed := by kernel_rfl
  f7 := ⟨Try.f71.name, by decide, Try.func71.trans (congrArg some (by kernel_rfl))⟩
  f10 := ⟨Try.f86.name, by decide, Try.func86.trans (congrArg some (by kernel_rfl))⟩
  t0 := Try.underlying0
  a0 := Try.isAgg0
  z0 := Try.sizeOf0
  v0 := Try.zeroValue0
  t4 := Try.underlying4
  a4 := Try.isAgg4
  z4 := Try.sizeOf4
  v4 := Try.zeroValue4
  t23 := Try.underlying93
  a23 := Try.isAgg93
  z23 := Try.sizeOf93
  v23 := Try.zeroValue93
  t26 := Try.underlying31
  a26 := Try.isAgg31
  z26 := Try.sizeOf31
  v26 := Try.zeroValue31
  t27 := Try.underlying101
  a27 := Try.isAgg101
  z27 := Try.sizeOf101
  v27 := Try.zeroValue101
  t28 := Try.underlying102
  a28 := Try.isAgg102
  z28 := Try.sizeOf102
  v28 := Try.zeroValue102
  t33 := Try.underlying111
  a33 := Try.isAgg111
  z33 := Try.sizeOf111
  v33 := Try.zeroValue111 }
def Try.sortedL_ren : Go.Shelf.Ren := ⟨fun | 6 => 70 | 8 => 84 | 9 => 85 | 11 => 91 | 13 => 93 | 12 => 92 | 23 => 107 | 24 => 108 | 14 => 98 | 15 => 99 | 16 => 100 | 17 => 101 | 18 => 102 | 19 => 103 | 20 => 104 | 21 => 105 | 22 => 106 | 25 => 111 | 26 => 112 | 27 => 113 | 28 => 114 | 29 => 115 | 30 => 116 | 31 => 117 | n => n, fun | 26 => 31 | 28 => 102 | 24 => 62 | 0 => 0 | 3 => 3 | 37 => 132 | 48 => 117 | 50 => 31 | 4 => 4 | 40 => 140 | 39 => 139 | 45 => 145 | 5 => 5 | 9 => 9 | 51 => 149 | 55 => 152 | 57 => 154 | 58 => 155 | 33 => 111 | n => n, fun | n => n⟩
theorem Try.sortedL : Go.Proofs.LayU.n6 Try.prog Try.sortedL_ren := {
  mixed := by kernel_rfl
  f6 := ⟨Try.f70.name, by decide, Try.func70.trans (congrArg some (by kernel_rfl))⟩
  f8 := ⟨Try.f84.name, by decide, Try.func84.trans (congrArg some (by kernel_rfl))⟩
  f11 := ⟨Try.f91.name, by decide, Try.func91.trans (congrArg some (by kernel_rfl))⟩
  t0 := Try.underlying0
  a0 := Try.isAgg0
  z0 := Try.sizeOf0
  v0 := Try.zeroValue0
  t24 := Try.underlying62
  a24 := Try.isAgg62
  z24 := Try.sizeOf62
  v24 := Try.zeroValue62
  t26 := Try.underlying31
  a26 := Try.isAgg31
  z26 := Try.sizeOf31
  v26 := Try.zeroValue31
  t28 := Try.underlying102
  a28 := Try.isAgg102
  z28 := Try.sizeOf102
  v28 := Try.zeroValue102
  i26 := by kernel_rfl }
def Try.cloneL_ren : Go.Shelf.Ren := ⟨fun | 5 => 68 | 7 => 83 | n => n, fun | 23 => 93 | 25 => 31 | 3 => 27 | 4 => 4 | 20 => 20 | n => n, fun | n => n⟩
theorem Try.cloneL : Go.Proofs.SlLaysW.n5 Try.prog Try.cloneL_ren := {
  mixed := by kernel_rfl
  f5 := ⟨Try.f68.name, by decide, Try.func68.trans (congrArg some (by kernel_rfl))⟩
  f7 := Try.func83.trans (congrArg some (by kernel_rfl))
  t4 := Try.underlying4
  a4 := Try.isAgg4
  z4 := Try.sizeOf4
  v4 := Try.zeroValue4
  t20 := Try.underlying20
  a20 := Try.isAgg20
  z20 := Try.sizeOf20
  v20 := Try.zeroValue20
  t23 := Try.underlying93
  a23 := Try.isAgg93
  z23 := Try.sizeOf93
  v23 := Try.zeroValue93 }
end Go.Proofs
