/-
  DERIVED: THE SHELF's CONTRACTS AT THIS DUMP, IN PLAIN WORDS (tools/lay-plain.mjs out of 'YteiikkpajcggfaaGreatDoorShelf.lean', which tools/lay-shelf.mjs wrote): THE SAME DECLARATIONS UNDER THE SAME NAMES: 'import', 'namespace', 'open', 'def', 'theorem' AND NOTHING ELSE: no command of the shelf's: FOR A HAND-IN. Each laying: the table of numbers ('.._ren') and one theorem, a field a fact of the dump's own or the kernel's comparison; each contract: ONE APPLICATION.
-/
import Derived.Shelf.SlGeneric
import Derived.Shelf.Strings.Trim
import Derived.Shelf.Small.Strs
import Derived.Shelf.Strings.Search1
import Derived.Shelf.Strings.Search2
import Derived.Shelf.Strings.Search3
import Derived.Shelf.Unicode.ValidAny
import Derived.Shelf.SlSortCmp.NoneTotal
import Derived.Ground.NamesProg
import Derived.Ground.SlsfProg
import Derived.Test.YteiikkpajcggfaaGreatDoorProg
namespace Go.Proofs
open Go.Shelf
def Tryz.lays160_ren : Go.Shelf.Ren := ⟨fun | 160 => 111 | 232 => 133 | 231 => 132 | 227 => 134 | 234 => 136 | 233 => 135 | 236 => 138 | 235 => 137 | 228 => 154 | 271 => 157 | 151 => 156 | 197 => 155 | 120 => 169 | 152 => 168 | 260 => 167 | 137 => 173 | 119 => 174 | 224 => 165 | 225 => 164 | 217 => 163 | 266 => 171 | n => n, fun | 9 => 9 | 4 => 4 | 3 => 3 | 5 => 5 | 117 => 163 | 116 => 162 | 0 => 0 | 124 => 166 | 21 => 21 | 105 => 180 | 46 => 144 | 119 => 155 | 139 => 158 | 138 => 157 | n => n, fun | 3 => 0 | 4 => 1 | n => n⟩
theorem Tryz.lays160 : Go.Proofs.Lays.n160 Tryz.prog Tryz.lays160_ren := {
 mixed := by kernel_rfl
 f119 := Tryz.func174.trans (congrArg some (by kernel_rfl))
 f120 := Tryz.func169.trans (congrArg some (by kernel_rfl))
 f137 := Tryz.func173.trans (congrArg some (by kernel_rfl))
 f151 := Tryz.func156.trans (congrArg some (by kernel_rfl))
 f152 := Tryz.func168.trans (congrArg some (by kernel_rfl))
 f160 := Tryz.func111.trans (congrArg some (by kernel_rfl))
 f197 := Tryz.func155.trans (congrArg some (by kernel_rfl))
 f217 := Tryz.func163.trans (congrArg some (by kernel_rfl))
 f224 := Tryz.func165.trans (congrArg some (by kernel_rfl))
 f225 := Tryz.func164.trans (congrArg some (by kernel_rfl))
 f227 := Tryz.func134.trans (congrArg some (by kernel_rfl))
 f228 := Tryz.func154.trans (congrArg some (by kernel_rfl))
 f231 := Tryz.func132.trans (congrArg some (by kernel_rfl))
 f232 := Tryz.func133.trans (congrArg some (by kernel_rfl))
 f233 := Tryz.func135.trans (congrArg some (by kernel_rfl))
 f234 := Tryz.func136.trans (congrArg some (by kernel_rfl))
 f235 := Tryz.func137.trans (congrArg some (by kernel_rfl))
 f236 := Tryz.func138.trans (congrArg some (by kernel_rfl))
 f260 := Tryz.func167.trans (congrArg some (by kernel_rfl))
 f266 := Tryz.func171.trans (congrArg some (by kernel_rfl))
 f271 := Tryz.func157.trans (congrArg some (by kernel_rfl))
 t0 := Tryz.underlying0
 a0 := Tryz.isAgg0
 z0 := Tryz.sizeOf0
 v0 := Tryz.zeroValue0
 t3 := Tryz.underlying3
 a3 := Tryz.isAgg3
 z3 := Tryz.sizeOf3
 v3 := Tryz.zeroValue3
 t4 := Tryz.underlying4
 a4 := Tryz.isAgg4
 z4 := Tryz.sizeOf4
 v4 := Tryz.zeroValue4
 t5 := Tryz.underlying5
 a5 := Tryz.isAgg5
 z5 := Tryz.sizeOf5
 v5 := Tryz.zeroValue5
 t9 := Tryz.underlying9
 a9 := Tryz.isAgg9
 z9 := Tryz.sizeOf9
 v9 := Tryz.zeroValue9
 t21 := Tryz.underlying21
 a21 := Tryz.isAgg21
 z21 := Tryz.sizeOf21
 v21 := Tryz.zeroValue21
 t46 := Tryz.underlying144
 a46 := Tryz.isAgg144
 z46 := Tryz.sizeOf144
 v46 := Tryz.zeroValue144
 t105 := Tryz.underlying180
 a105 := Tryz.isAgg180
 z105 := Tryz.sizeOf180
 v105 := Tryz.zeroValue180
 t116 := Tryz.underlying162
 a116 := Tryz.isAgg162
 z116 := Tryz.sizeOf162
 t117 := Tryz.underlying163
 a117 := Tryz.isAgg163
 z117 := Tryz.sizeOf163
 v117 := Tryz.zeroValue163
 t119 := Tryz.underlying155
 a119 := Tryz.isAgg155
 z119 := Tryz.sizeOf155
 t124 := Tryz.underlying166
 a124 := Tryz.isAgg166
 z124 := Tryz.sizeOf166
 v124 := Tryz.zeroValue166
 t138 := Tryz.underlying157
 a138 := Tryz.isAgg157
 z138 := Tryz.sizeOf157
 v138 := Tryz.zeroValue157
 t139 := Tryz.underlying158
 a139 := Tryz.isAgg158
 z139 := Tryz.sizeOf158
 v139 := Tryz.zeroValue158
 g3 := by kernel_rfl
 g4 := by kernel_rfl }
open Go.RowKit in
theorem Tryz.strings_Trim_one (s : ByteArray) (c : UInt8) (hc : c.toNat < 128) (w : World) (hs : s.size ≤ 9223372036854775807) :
  Calls Tryz.prog 111 #[.string s, .string ⟨#[c]⟩] w fun e w' => e = .returned (.string ⟨(Lib.trimB s.data.toList c).toArray⟩) ∧ (w' = w ∨ w' = w.drew) := Any.strings_Trim_one Tryz.lays160 s c hc w hs
def Tryz.lays219_ren : Go.Shelf.Ren := ⟨fun | 219 => 153 | 217 => 163 | 225 => 164 | 224 => 165 | 267 => 166 | 266 => 171 | 314 => 172 | n => n, fun | 9 => 9 | 3 => 3 | 4 => 4 | 5 => 5 | 46 => 144 | 146 => 194 | 51 => 176 | n => n, fun | 1 => 2 | n => n⟩
theorem Tryz.lays219 : Go.Proofs.Lays.n219 Tryz.prog Tryz.lays219_ren := {
 mixed := by kernel_rfl
 f217 := Tryz.func163.trans (congrArg some (by kernel_rfl))
 f219 := Tryz.func153.trans (congrArg some (by kernel_rfl))
 f224 := Tryz.func165.trans (congrArg some (by kernel_rfl))
 f225 := Tryz.func164.trans (congrArg some (by kernel_rfl))
 f266 := Tryz.func171.trans (congrArg some (by kernel_rfl))
 f267 := Tryz.func166.trans (congrArg some (by kernel_rfl))
 f314 := Tryz.func172.trans (congrArg some (by kernel_rfl))
 t3 := Tryz.underlying3
 a3 := Tryz.isAgg3
 z3 := Tryz.sizeOf3
 v3 := Tryz.zeroValue3
 t4 := Tryz.underlying4
 a4 := Tryz.isAgg4
 z4 := Tryz.sizeOf4
 v4 := Tryz.zeroValue4
 t5 := Tryz.underlying5
 a5 := Tryz.isAgg5
 z5 := Tryz.sizeOf5
 v5 := Tryz.zeroValue5
 t9 := Tryz.underlying9
 a9 := Tryz.isAgg9
 z9 := Tryz.sizeOf9
 v9 := Tryz.zeroValue9
 t46 := Tryz.underlying144
 a46 := Tryz.isAgg144
 z46 := Tryz.sizeOf144
 v46 := Tryz.zeroValue144
 t51 := Tryz.underlying176
 a51 := Tryz.isAgg176
 z51 := Tryz.sizeOf176
 v51 := Tryz.zeroValue176
 t146 := Tryz.underlying194
 a146 := Tryz.isAgg194
 z146 := Tryz.sizeOf194
 v146 := Tryz.zeroValue194
 g1 := by kernel_rfl }
open Go.RowKit Go.Lib in
theorem Tryz.stringslite_Index_one (s : ByteArray) (c : UInt8) (w : World) :
  Calls Tryz.prog 153 #[.string s, .string ⟨#[c]⟩] w fun e w' => e = .returned (.int .i64 (Lib.indexByte s.data.toList c)) ∧ w' = w := Any.stringslite_Index_one Tryz.lays219 s c w
def Tryz.lays144_ren : Go.Shelf.Ren := ⟨fun | 144 => 110 | 143 => 131 | 219 => 153 | 217 => 163 | 225 => 164 | 224 => 165 | 267 => 166 | 266 => 171 | 314 => 172 | n => n, fun | 9 => 9 | 4 => 4 | 3 => 3 | 5 => 5 | 46 => 144 | 146 => 194 | 51 => 176 | n => n, fun | 1 => 2 | n => n⟩
theorem Tryz.lays144 : Go.Proofs.Lays.n144 Tryz.prog Tryz.lays144_ren := {
 mixed := by kernel_rfl
 f143 := Tryz.func131.trans (congrArg some (by kernel_rfl))
 f144 := Tryz.func110.trans (congrArg some (by kernel_rfl))
 f217 := Tryz.func163.trans (congrArg some (by kernel_rfl))
 f219 := Tryz.func153.trans (congrArg some (by kernel_rfl))
 f224 := Tryz.func165.trans (congrArg some (by kernel_rfl))
 f225 := Tryz.func164.trans (congrArg some (by kernel_rfl))
 f266 := Tryz.func171.trans (congrArg some (by kernel_rfl))
 f267 := Tryz.func166.trans (congrArg some (by kernel_rfl))
 f314 := Tryz.func172.trans (congrArg some (by kernel_rfl))
 t3 := Tryz.underlying3
 a3 := Tryz.isAgg3
 z3 := Tryz.sizeOf3
 v3 := Tryz.zeroValue3
 t4 := Tryz.underlying4
 a4 := Tryz.isAgg4
 z4 := Tryz.sizeOf4
 v4 := Tryz.zeroValue4
 t5 := Tryz.underlying5
 a5 := Tryz.isAgg5
 z5 := Tryz.sizeOf5
 v5 := Tryz.zeroValue5
 t9 := Tryz.underlying9
 a9 := Tryz.isAgg9
 z9 := Tryz.sizeOf9
 v9 := Tryz.zeroValue9
 t46 := Tryz.underlying144
 a46 := Tryz.isAgg144
 z46 := Tryz.sizeOf144
 v46 := Tryz.zeroValue144
 t51 := Tryz.underlying176
 a51 := Tryz.isAgg176
 z51 := Tryz.sizeOf176
 v51 := Tryz.zeroValue176
 t146 := Tryz.underlying194
 a146 := Tryz.isAgg194
 z146 := Tryz.sizeOf194
 v146 := Tryz.zeroValue194
 g1 := by kernel_rfl }
open Go.RowKit Go.Lib in
theorem Tryz.strings_Contains_one (s : ByteArray) (c : UInt8) (w : World) :
  Calls Tryz.prog 110 #[.string s, .string ⟨#[c]⟩] w fun e w' => e = .returned (.bool (decide (0 ≤ Lib.indexByte s.data.toList c))) ∧ w' = w := Any.strings_Contains_one Tryz.lays144 s c w
def Tryz.lays196_ren : Go.Shelf.Ren := ⟨fun | 196 => 104 | 259 => 127 | n => n, fun | 9 => 9 | 4 => 4 | 3 => 3 | 5 => 5 | 12 => 12 | 119 => 155 | 0 => 0 | 46 => 144 | 139 => 158 | 138 => 157 | 53 => 107 | n => n, fun | 3 => 0 | 4 => 1 | n => n⟩
theorem Tryz.lays196 : Go.Proofs.Lays.n196 Tryz.prog Tryz.lays196_ren := {
 mixed := by kernel_rfl
 f196 := Tryz.func104.trans (congrArg some (by kernel_rfl))
 f259 := Tryz.func127.trans (congrArg some (by kernel_rfl))
 t0 := Tryz.underlying0
 a0 := Tryz.isAgg0
 z0 := Tryz.sizeOf0
 v0 := Tryz.zeroValue0
 t3 := Tryz.underlying3
 a3 := Tryz.isAgg3
 z3 := Tryz.sizeOf3
 v3 := Tryz.zeroValue3
 t4 := Tryz.underlying4
 a4 := Tryz.isAgg4
 z4 := Tryz.sizeOf4
 v4 := Tryz.zeroValue4
 t5 := Tryz.underlying5
 a5 := Tryz.isAgg5
 z5 := Tryz.sizeOf5
 v5 := Tryz.zeroValue5
 t9 := Tryz.underlying9
 a9 := Tryz.isAgg9
 z9 := Tryz.sizeOf9
 v9 := Tryz.zeroValue9
 t12 := Tryz.underlying12
 a12 := Tryz.isAgg12
 z12 := Tryz.sizeOf12
 v12 := Tryz.zeroValue12
 t46 := Tryz.underlying144
 a46 := Tryz.isAgg144
 z46 := Tryz.sizeOf144
 v46 := Tryz.zeroValue144
 t53 := Tryz.underlying107
 a53 := Tryz.isAgg107
 z53 := Tryz.sizeOf107
 v53 := Tryz.zeroValue107
 t119 := Tryz.underlying155
 a119 := Tryz.isAgg155
 z119 := Tryz.sizeOf155
 t138 := Tryz.underlying157
 a138 := Tryz.isAgg157
 z138 := Tryz.sizeOf157
 v138 := Tryz.zeroValue157
 t139 := Tryz.underlying158
 a139 := Tryz.isAgg158
 z139 := Tryz.sizeOf158
 v139 := Tryz.zeroValue158
 g3 := by kernel_rfl
 g4 := by kernel_rfl }
open Go.RowKit in
theorem Tryz.utf8_ValidString (s : ByteArray) (w : World) (hs : s.size ≤ 9223372036854775807) (hT : Lib.Utf8Tabs (Tryz.lays196_ren.g 3) (Tryz.lays196_ren.g 4) w) :
  Calls Tryz.prog 104 #[.string s] w fun e w' => e = .returned (.bool (Lib.validD s.data.toList)) ∧ Below w.heap.size w w' := Any.utf8_ValidString Tryz.lays196 s w hs hT
def Tryz.sortF_ren : Go.Shelf.Ren := ⟨fun | 6 => 95 | 15 => 121 | 14 => 120 | 28 => 147 | 29 => 148 | 20 => 139 | 21 => 140 | 22 => 141 | 23 => 142 | 24 => 143 | 25 => 144 | 26 => 145 | 27 => 146 | 46 => 158 | 47 => 159 | 48 => 160 | 49 => 161 | 50 => 162 | 57 => 170 | n => n, fun | 22 => 22 | 24 => 44 | 25 => 129 | 3 => 3 | 39 => 144 | 0 => 0 | 53 => 176 | 55 => 107 | 4 => 4 | 46 => 169 | 45 => 168 | 50 => 173 | 5 => 5 | 9 => 9 | 66 => 183 | 70 => 186 | 76 => 191 | 77 => 192 | n => n, fun | n => n⟩
theorem Tryz.sortF : Go.Proofs.SlLaysF0.n6 Tryz.prog Tryz.sortF_ren := {
 mixed := by kernel_rfl
 f6 := ⟨Tryz.f95.name, by decide, Tryz.func95.trans (congrArg some (by kernel_rfl))⟩
 f14 := ⟨Tryz.f120.name, by decide, Tryz.func120.trans (congrArg some (by kernel_rfl))⟩
 f15 := Tryz.func121.trans (congrArg some (by kernel_rfl))
 f20 := ⟨Tryz.f139.name, by decide, Tryz.func139.trans (congrArg some (by kernel_rfl))⟩
 f21 := ⟨Tryz.f140.name, by decide, Tryz.func140.trans (congrArg some (by kernel_rfl))⟩
 f22 := ⟨Tryz.f141.name, by decide, Tryz.func141.trans (congrArg some (by kernel_rfl))⟩
 f23 := ⟨Tryz.f142.name, by decide, Tryz.func142.trans (congrArg some (by kernel_rfl))⟩
 f24 := ⟨Tryz.f143.name, by decide, Tryz.func143.trans (congrArg some (by kernel_rfl))⟩
 f25 := ⟨Tryz.f144.name, by decide, Tryz.func144.trans (congrArg some (by kernel_rfl))⟩
 f26 := ⟨Tryz.f145.name, by decide, Tryz.func145.trans (congrArg some (by kernel_rfl))⟩
 f27 := ⟨Tryz.f146.name, by decide, Tryz.func146.trans (congrArg some (by kernel_rfl))⟩
 f28 := Tryz.func147.trans (congrArg some (by kernel_rfl))
 f29 := Tryz.func148.trans (congrArg some (by kernel_rfl))
 f46 := ⟨Tryz.f158.name, by decide, Tryz.func158.trans (congrArg some (by kernel_rfl))⟩
 f47 := Tryz.func159.trans (congrArg some (by kernel_rfl))
 f48 := Tryz.func160.trans (congrArg some (by kernel_rfl))
 f49 := ⟨Tryz.f161.name, by decide, Tryz.func161.trans (congrArg some (by kernel_rfl))⟩
 f50 := ⟨Tryz.f162.name, by decide, Tryz.func162.trans (congrArg some (by kernel_rfl))⟩
 f57 := ⟨Tryz.f170.name, by decide, Tryz.func170.trans (congrArg some (by kernel_rfl))⟩
 t0 := Tryz.underlying0
 a0 := Tryz.isAgg0
 z0 := Tryz.sizeOf0
 v0 := Tryz.zeroValue0
 t3 := Tryz.underlying3
 a3 := Tryz.isAgg3
 z3 := Tryz.sizeOf3
 v3 := Tryz.zeroValue3
 t4 := Tryz.underlying4
 a4 := Tryz.isAgg4
 z4 := Tryz.sizeOf4
 v4 := Tryz.zeroValue4
 t5 := Tryz.underlying5
 a5 := Tryz.isAgg5
 z5 := Tryz.sizeOf5
 v5 := Tryz.zeroValue5
 t9 := Tryz.underlying9
 a9 := Tryz.isAgg9
 z9 := Tryz.sizeOf9
 v9 := Tryz.zeroValue9
 t22 := Tryz.underlying22
 a22 := Tryz.isAgg22
 z22 := Tryz.sizeOf22
 v22 := Tryz.zeroValue22
 t25 := Tryz.underlying129
 a25 := Tryz.isAgg129
 z25 := Tryz.sizeOf129
 v25 := Tryz.zeroValue129
 t39 := Tryz.underlying144
 a39 := Tryz.isAgg144
 z39 := Tryz.sizeOf144
 v39 := Tryz.zeroValue144
 t45 := Tryz.underlying168
 a45 := Tryz.isAgg168
 z45 := Tryz.sizeOf168
 v45 := Tryz.zeroValue168
 t46 := Tryz.underlying169
 a46 := Tryz.isAgg169
 z46 := Tryz.sizeOf169
 v46 := Tryz.zeroValue169
 t50 := Tryz.underlying173
 a50 := Tryz.isAgg173
 z50 := Tryz.sizeOf173
 v50 := Tryz.zeroValue173
 t53 := Tryz.underlying176
 a53 := Tryz.isAgg176
 z53 := Tryz.sizeOf176
 v53 := Tryz.zeroValue176
 t55 := Tryz.underlying107
 a55 := Tryz.isAgg107
 z55 := Tryz.sizeOf107
 v55 := Tryz.zeroValue107
 t66 := Tryz.underlying183
 a66 := Tryz.isAgg183
 z66 := Tryz.sizeOf183
 v66 := Tryz.zeroValue183
 t70 := Tryz.underlying186
 a70 := Tryz.isAgg186
 z70 := Tryz.sizeOf186
 v70 := Tryz.zeroValue186
 t76 := Tryz.underlying191
 a76 := Tryz.isAgg191
 z76 := Tryz.sizeOf191
 v76 := Tryz.zeroValue191
 t77 := Tryz.underlying192
 a77 := Tryz.isAgg192
 z77 := Tryz.sizeOf192
 v77 := Tryz.zeroValue192 }
end Go.Proofs
