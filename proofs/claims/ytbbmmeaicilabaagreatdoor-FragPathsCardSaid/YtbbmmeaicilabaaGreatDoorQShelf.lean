/-
  DERIVED: THE SHELF's CONTRACTS AT THIS DUMP, IN PLAIN WORDS (tools/lay-plain.mjs out of 'YtbbmmeaicilabaaGreatDoorMini.lean', which tools/lay-shelf.mjs wrote): THE SAME DECLARATIONS UNDER THE SAME NAMES: 'import', 'namespace', 'open', 'def', 'theorem' AND NOTHING ELSE: no command of the shelf's: FOR A HAND-IN. Each laying: the table of numbers ('.._ren') and one theorem, a field a fact of the dump's own or the kernel's comparison; each contract: ONE APPLICATION.
-/
import Derived.Shelf.LaysM
import Derived.Shelf.Lays7
import Derived.Shelf.Strings.Shaped
import Derived.Shelf.Strings.Prefix
import Derived.Shelf.Strings.SplitShaped
import Derived.Shelf.Strings.FieldsAny
import Derived.Shelf.Unicode.ValidAny
import Derived.Shelf.Spec.DecodeRune
import Derived.Shelf.Spec.NilArms
import Derived.Test.YtbbmmeaicilabaaGreatDoorProg
set_option linter.unusedVariables false
set_option linter.unusedSimpArgs false
namespace Go.Proofs
open Go.Shelf
def Tryz.laysM144_ren : Go.Shelf.Ren := ⟨fun | 144 => 144 | 143 => 155 | 219 => 162 | 217 => 164 | 225 => 165 | 224 => 166 | 267 => 167 | 266 => 172 | 314 => 173 | n => n, fun | 9 => 9 | 4 => 4 | 3 => 3 | 5 => 5 | 46 => 152 | 146 => 214 | 51 => 186 | n => n, fun | 1 => 6 | n => n⟩
theorem Tryz.laysM144 : Go.Proofs.LaysM.n144 Tryz.prog Tryz.laysM144_ren := {
  mixed := by kernel_rfl
  f143 := Tryz.func155.trans (congrArg some (by kernel_rfl))
  f144 := Tryz.func144.trans (congrArg some (by kernel_rfl))
  f217 := Tryz.func164.trans (congrArg some (by kernel_rfl))
  f219 := Tryz.func162.trans (congrArg some (by kernel_rfl))
  f224 := Tryz.func166.trans (congrArg some (by kernel_rfl))
  f225 := Tryz.func165.trans (congrArg some (by kernel_rfl))
  f266 := Tryz.func172.trans (congrArg some (by kernel_rfl))
  f267 := Tryz.func167.trans (congrArg some (by kernel_rfl))
  f314 := Tryz.func173.trans (congrArg some (by kernel_rfl))
  t3 := Tryz.underlying3
  a3 := Tryz.isAgg3
  z3 := Tryz.sizeOf3
  v3 := Tryz.zeroValue3
  t4 := Tryz.underlying4
  a4 := Tryz.isAgg4
  z4 := Tryz.sizeOf4
  v4 := Tryz.zeroValue4
  t5 := Tryz.underlying5
  a5 := Tryz.isAgg5
  z5 := Tryz.sizeOf5
  v5 := Tryz.zeroValue5
  t9 := Tryz.underlying9
  a9 := Tryz.isAgg9
  z9 := Tryz.sizeOf9
  v9 := Tryz.zeroValue9
  t46 := Tryz.underlying152
  a46 := Tryz.isAgg152
  z46 := Tryz.sizeOf152
  v46 := Tryz.zeroValue152
  t51 := Tryz.underlying186
  a51 := Tryz.isAgg186
  z51 := Tryz.sizeOf186
  v51 := Tryz.zeroValue186
  t146 := Tryz.underlying214
  a146 := Tryz.isAgg214
  z146 := Tryz.sizeOf214
  v146 := Tryz.zeroValue214
  g1 := by kernel_rfl
  i3 := by kernel_rfl
  i4 := by kernel_rfl
  i5 := by kernel_rfl
  i9 := by kernel_rfl
  i46 := by kernel_rfl
  i51 := by kernel_rfl
  i146 := by kernel_rfl
  m1 := by kernel_rfl
  s1_3 := fun w h => Go.Proofs.cell_of_shapedOpen_int (zero := #[.int .i64 0]) (t := 3) h (of_decide_eq_true (by kernel_rfl)) (by kernel_rfl) rfl (by kernel_rfl) (by kernel_rfl) Tryz.underlying3 }
open Go.RowKit Go.Lib in
theorem Tryz.strings_Contains_shaped (s sub : ByteArray) (w : World) (h : w.ShapedOpen Tryz.prog) (hs : s.size < 4294967281) :
    Calls Tryz.prog 144 #[.string s, .string sub] w fun e w' => e = .returned (.bool (Lib.contains s.data.toList sub.data.toList)) ∧ w' = w := Any.strings_Contains_shaped Tryz.laysM144 s sub w h hs
def Tryz.lays144_ren : Go.Shelf.Ren := ⟨fun | 144 => 144 | 143 => 155 | 219 => 162 | 217 => 164 | 225 => 165 | 224 => 166 | 267 => 167 | 266 => 172 | 314 => 173 | n => n, fun | 9 => 9 | 4 => 4 | 3 => 3 | 5 => 5 | 46 => 152 | 146 => 214 | 51 => 186 | n => n, fun | 1 => 6 | n => n⟩
theorem Tryz.lays144 : Go.Proofs.Lays.n144 Tryz.prog Tryz.lays144_ren := {
  mixed := by kernel_rfl
  f143 := Tryz.func155.trans (congrArg some (by kernel_rfl))
  f144 := Tryz.func144.trans (congrArg some (by kernel_rfl))
  f217 := Tryz.func164.trans (congrArg some (by kernel_rfl))
  f219 := Tryz.func162.trans (congrArg some (by kernel_rfl))
  f224 := Tryz.func166.trans (congrArg some (by kernel_rfl))
  f225 := Tryz.func165.trans (congrArg some (by kernel_rfl))
  f266 := Tryz.func172.trans (congrArg some (by kernel_rfl))
  f267 := Tryz.func167.trans (congrArg some (by kernel_rfl))
  f314 := Tryz.func173.trans (congrArg some (by kernel_rfl))
  t3 := Tryz.underlying3
  a3 := Tryz.isAgg3
  z3 := Tryz.sizeOf3
  v3 := Tryz.zeroValue3
  t4 := Tryz.underlying4
  a4 := Tryz.isAgg4
  z4 := Tryz.sizeOf4
  v4 := Tryz.zeroValue4
  t5 := Tryz.underlying5
  a5 := Tryz.isAgg5
  z5 := Tryz.sizeOf5
  v5 := Tryz.zeroValue5
  t9 := Tryz.underlying9
  a9 := Tryz.isAgg9
  z9 := Tryz.sizeOf9
  v9 := Tryz.zeroValue9
  t46 := Tryz.underlying152
  a46 := Tryz.isAgg152
  z46 := Tryz.sizeOf152
  v46 := Tryz.zeroValue152
  t51 := Tryz.underlying186
  a51 := Tryz.isAgg186
  z51 := Tryz.sizeOf186
  v51 := Tryz.zeroValue186
  t146 := Tryz.underlying214
  a146 := Tryz.isAgg214
  z146 := Tryz.sizeOf214
  v146 := Tryz.zeroValue214
  g1 := by kernel_rfl }
open Go.RowKit Go.Lib in
theorem Tryz.strings_Contains (s sub : ByteArray) (m : Int) (w : World) (hs : s.size < 4294967281) (hm : w.cell? ⟨6, 0, none⟩ = some (.int .i64 m)) :
    Calls Tryz.prog 144 #[.string s, .string sub] w fun e w' => e = .returned (.bool (Lib.contains s.data.toList sub.data.toList)) ∧ w' = w := Any.strings_Contains Tryz.lays144 s sub m w hs hm
def Tryz.lays99_ren : Go.Shelf.Ren := ⟨fun | 99 => 117 | 206 => 140 | n => n, fun | 9 => 9 | 4 => 4 | 3 => 3 | n => n, fun | n => n⟩
theorem Tryz.lays99 : Go.Proofs.Lays.n99 Tryz.prog Tryz.lays99_ren := {
  mixed := by kernel_rfl
  f99 := Tryz.func117.trans (congrArg some (by kernel_rfl))
  f206 := Tryz.func140.trans (congrArg some (by kernel_rfl))
  t3 := Tryz.underlying3
  a3 := Tryz.isAgg3
  z3 := Tryz.sizeOf3
  v3 := Tryz.zeroValue3
  t4 := Tryz.underlying4
  a4 := Tryz.isAgg4
  z4 := Tryz.sizeOf4
  v4 := Tryz.zeroValue4
  t9 := Tryz.underlying9
  a9 := Tryz.isAgg9
  z9 := Tryz.sizeOf9
  v9 := Tryz.zeroValue9 }
open Go.RowKit Go.Lib in
theorem Tryz.strings_HasPrefix (s p : ByteArray) (w : World) :
    Calls Tryz.prog 117 #[.string s, .string p] w fun e w' => e = .returned (.bool (Lib.hasPrefix s.data.toList p.data.toList)) ∧ w' = w := Any.strings_HasPrefix Tryz.lays99 s p w
def Tryz.lays157_ren : Go.Shelf.Ren := ⟨fun | 157 => 116 | 229 => 138 | 199 => 139 | 261 => 153 | 311 => 157 | 312 => 158 | n => n, fun | 9 => 9 | 31 => 33 | 3 => 3 | 5 => 5 | 4 => 4 | 119 => 148 | 0 => 0 | 40 => 171 | 152 => 183 | 21 => 21 | 154 => 185 | 51 => 186 | 141 => 188 | 196 => 194 | 193 => 191 | 198 => 197 | 49 => 195 | 194 => 192 | 201 => 200 | 226 => 205 | 46 => 152 | 227 => 206 | n => n, fun | 0 => 4 | 6 => 5 | n => n⟩
theorem Tryz.lays157 : Go.Proofs.Lays.n157 Tryz.prog Tryz.lays157_ren := {
  mixed := by kernel_rfl
  f157 := Tryz.func116.trans (congrArg some (by kernel_rfl))
  f199 := Tryz.func139.trans (congrArg some (by kernel_rfl))
  f229 := Tryz.func138.trans (congrArg some (by kernel_rfl))
  f261 := Tryz.func153.trans (congrArg some (by kernel_rfl))
  f311 := Tryz.func157.trans (congrArg some (by kernel_rfl))
  f312 := Tryz.func158.trans (congrArg some (by kernel_rfl))
  t0 := Tryz.underlying0
  a0 := Tryz.isAgg0
  z0 := Tryz.sizeOf0
  v0 := Tryz.zeroValue0
  t3 := Tryz.underlying3
  a3 := Tryz.isAgg3
  z3 := Tryz.sizeOf3
  v3 := Tryz.zeroValue3
  t4 := Tryz.underlying4
  a4 := Tryz.isAgg4
  z4 := Tryz.sizeOf4
  v4 := Tryz.zeroValue4
  t5 := Tryz.underlying5
  a5 := Tryz.isAgg5
  z5 := Tryz.sizeOf5
  v5 := Tryz.zeroValue5
  t9 := Tryz.underlying9
  a9 := Tryz.isAgg9
  z9 := Tryz.sizeOf9
  v9 := Tryz.zeroValue9
  t21 := Tryz.underlying21
  a21 := Tryz.isAgg21
  z21 := Tryz.sizeOf21
  v21 := Tryz.zeroValue21
  t31 := Tryz.underlying33
  a31 := Tryz.isAgg33
  z31 := Tryz.sizeOf33
  v31 := Tryz.zeroValue33
  t40 := Tryz.underlying171
  a40 := Tryz.isAgg171
  z40 := Tryz.sizeOf171
  v40 := Tryz.zeroValue171
  t46 := Tryz.underlying152
  a46 := Tryz.isAgg152
  z46 := Tryz.sizeOf152
  v46 := Tryz.zeroValue152
  t49 := Tryz.underlying195
  a49 := Tryz.isAgg195
  z49 := Tryz.sizeOf195
  v49 := Tryz.zeroValue195
  t51 := Tryz.underlying186
  a51 := Tryz.isAgg186
  z51 := Tryz.sizeOf186
  v51 := Tryz.zeroValue186
  t119 := Tryz.underlying148
  a119 := Tryz.isAgg148
  z119 := Tryz.sizeOf148
  t141 := Tryz.underlying188
  a141 := Tryz.isAgg188
  z141 := Tryz.sizeOf188
  v141 := Tryz.zeroValue188
  t152 := Tryz.underlying183
  a152 := Tryz.isAgg183
  z152 := Tryz.sizeOf183
  v152 := Tryz.zeroValue183
  t154 := Tryz.underlying185
  a154 := Tryz.isAgg185
  z154 := Tryz.sizeOf185
  v154 := Tryz.zeroValue185
  t193 := Tryz.underlying191
  a193 := Tryz.isAgg191
  z193 := Tryz.sizeOf191
  v193 := Tryz.zeroValue191
  t194 := Tryz.underlying192
  a194 := Tryz.isAgg192
  z194 := Tryz.sizeOf192
  v194 := Tryz.zeroValue192
  t196 := Tryz.underlying194
  a196 := Tryz.isAgg194
  z196 := Tryz.sizeOf194
  v196 := Tryz.zeroValue194
  t198 := Tryz.underlying197
  a198 := Tryz.isAgg197
  z198 := Tryz.sizeOf197
  v198 := Tryz.zeroValue197
  t201 := Tryz.underlying200
  a201 := Tryz.isAgg200
  z201 := Tryz.sizeOf200
  v201 := Tryz.zeroValue200
  t226 := Tryz.underlying205
  a226 := Tryz.isAgg205
  z226 := Tryz.sizeOf205
  v226 := Tryz.zeroValue205
  t227 := Tryz.underlying206
  a227 := Tryz.isAgg206
  z227 := Tryz.sizeOf206
  v227 := Tryz.zeroValue206
  g0 := by kernel_rfl
  g6 := by kernel_rfl }
open Go.RowKit Go.Lib in
theorem Tryz.strings_Fields_any (s : ByteArray) (w : World) (hs : s.size < 4294967281) (htab : Lib.TabIs Tryz.prog w "strings.asciiSpace" .u8 Lib.asciiSpaceTab) (hW : Lib.WhiteTab 5 w) :
    Calls Tryz.prog 116 #[.string s] w fun e w' => ∃ A, e = .returned (.slice (some ⟨A, 0, none⟩) (Lib.fieldsD s.data.toList).length (Lib.fieldsD s.data.toList).length) ∧ w.heap.size ≤ A ∧
      w'.ownsRow w.heap.size 9 1 (.slice (some ⟨A, 0, none⟩) (Lib.fieldsD s.data.toList).length (Lib.fieldsD s.data.toList).length) (Lib.fieldsD s.data.toList).length ((Lib.fieldsD s.data.toList).map fun x => Value.string ⟨x.toArray⟩) ∧ Below w.heap.size w w' := Any.strings_Fields_any Tryz.lays157 (by kernel_rfl) (by kernel_rfl) (by kernel_rfl) s w hs htab hW
def Tryz.lays196_ren : Go.Shelf.Ren := ⟨fun | 196 => 124 | 259 => 143 | n => n, fun | 9 => 9 | 4 => 4 | 3 => 3 | 5 => 5 | 12 => 12 | 119 => 148 | 0 => 0 | 46 => 152 | 139 => 151 | 138 => 150 | 53 => 189 | n => n, fun | 3 => 1 | 4 => 2 | n => n⟩
theorem Tryz.lays196 : Go.Proofs.Lays.n196 Tryz.prog Tryz.lays196_ren := {
  mixed := by kernel_rfl
  f196 := Tryz.func124.trans (congrArg some (by kernel_rfl))
  f259 := Tryz.func143.trans (congrArg some (by kernel_rfl))
  t0 := Tryz.underlying0
  a0 := Tryz.isAgg0
  z0 := Tryz.sizeOf0
  v0 := Tryz.zeroValue0
  t3 := Tryz.underlying3
  a3 := Tryz.isAgg3
  z3 := Tryz.sizeOf3
  v3 := Tryz.zeroValue3
  t4 := Tryz.underlying4
  a4 := Tryz.isAgg4
  z4 := Tryz.sizeOf4
  v4 := Tryz.zeroValue4
  t5 := Tryz.underlying5
  a5 := Tryz.isAgg5
  z5 := Tryz.sizeOf5
  v5 := Tryz.zeroValue5
  t9 := Tryz.underlying9
  a9 := Tryz.isAgg9
  z9 := Tryz.sizeOf9
  v9 := Tryz.zeroValue9
  t12 := Tryz.underlying12
  a12 := Tryz.isAgg12
  z12 := Tryz.sizeOf12
  v12 := Tryz.zeroValue12
  t46 := Tryz.underlying152
  a46 := Tryz.isAgg152
  z46 := Tryz.sizeOf152
  v46 := Tryz.zeroValue152
  t53 := Tryz.underlying189
  a53 := Tryz.isAgg189
  z53 := Tryz.sizeOf189
  v53 := Tryz.zeroValue189
  t119 := Tryz.underlying148
  a119 := Tryz.isAgg148
  z119 := Tryz.sizeOf148
  t138 := Tryz.underlying150
  a138 := Tryz.isAgg150
  z138 := Tryz.sizeOf150
  v138 := Tryz.zeroValue150
  t139 := Tryz.underlying151
  a139 := Tryz.isAgg151
  z139 := Tryz.sizeOf151
  v139 := Tryz.zeroValue151
  g3 := by kernel_rfl
  g4 := by kernel_rfl }
open Go.RowKit Go.Lib in
theorem Tryz.utf8_ValidString (s : ByteArray) (w : World) (hs : s.size ≤ 9223372036854775807) (hT : Lib.Utf8Tabs 1 2 w) :
    Calls Tryz.prog 124 #[.string s] w fun e w' => e = .returned (.bool (Lib.validD s.data.toList)) ∧ Below w.heap.size w w' := Any.utf8_ValidString Tryz.lays196 s w hs hT
def Tryz.lays7x32_ren : Go.Shelf.Ren := ⟨fun | 32 => 90 | 49 => 114 | n => n, fun | 30 => 22 | 21 => 21 | 3 => 3 | 0 => 0 | 5 => 5 | 4 => 4 | 33 => 129 | 66 => 148 | 25 => 152 | 69 => 151 | 68 => 150 | n => n, fun | 2 => 1 | 3 => 2 | n => n⟩
theorem Tryz.lays7x32 : Go.Proofs.Lays7.n32 Tryz.prog Tryz.lays7x32_ren := {
  mixed := by kernel_rfl
  f32 := Tryz.func90.trans (congrArg some (by kernel_rfl))
  f49 := Tryz.func114.trans (congrArg some (by kernel_rfl))
  t0 := Tryz.underlying0
  a0 := Tryz.isAgg0
  z0 := Tryz.sizeOf0
  v0 := Tryz.zeroValue0
  i0 := by kernel_rfl
  t3 := Tryz.underlying3
  a3 := Tryz.isAgg3
  z3 := Tryz.sizeOf3
  v3 := Tryz.zeroValue3
  i3 := by kernel_rfl
  t4 := Tryz.underlying4
  a4 := Tryz.isAgg4
  z4 := Tryz.sizeOf4
  v4 := Tryz.zeroValue4
  i4 := by kernel_rfl
  t5 := Tryz.underlying5
  a5 := Tryz.isAgg5
  z5 := Tryz.sizeOf5
  v5 := Tryz.zeroValue5
  i5 := by kernel_rfl
  t21 := Tryz.underlying21
  a21 := Tryz.isAgg21
  z21 := Tryz.sizeOf21
  v21 := Tryz.zeroValue21
  i21 := by kernel_rfl
  t25 := Tryz.underlying152
  a25 := Tryz.isAgg152
  z25 := Tryz.sizeOf152
  v25 := Tryz.zeroValue152
  i25 := by kernel_rfl
  t30 := Tryz.underlying22
  a30 := Tryz.isAgg22
  z30 := Tryz.sizeOf22
  v30 := Tryz.zeroValue22
  i30 := by kernel_rfl
  t33 := Tryz.underlying129
  a33 := Tryz.isAgg129
  z33 := Tryz.sizeOf129
  v33 := Tryz.zeroValue129
  i33 := by kernel_rfl
  t66 := Tryz.underlying148
  a66 := Tryz.isAgg148
  z66 := Tryz.sizeOf148
  t68 := Tryz.underlying150
  a68 := Tryz.isAgg150
  z68 := Tryz.sizeOf150
  v68 := Tryz.zeroValue150
  i68 := by kernel_rfl
  t69 := Tryz.underlying151
  a69 := Tryz.isAgg151
  z69 := Tryz.sizeOf151
  v69 := Tryz.zeroValue151
  i69 := by kernel_rfl
  g2 := by kernel_rfl
  g3 := by kernel_rfl }
open Go.RowKit Go.Lib in
theorem Tryz.utf8_DecodeRune (s : ByteArray) (b off cap : Nat) (w : World) (hT : Lib.Utf8Tabs 1 2 w)
    (hp : ∀ j, j < s.size → w.cell? ⟨b, off + j, none⟩ = some (.int .u8 (s.get! j).toNat)) :
    Calls Tryz.prog 90 #[.slice (some ⟨b, off, none⟩) s.size cap] w fun e w' => e = .returned (.tuple #[.int .i32 (Lib.decodeGo s).1, .int .i64 (Lib.decodeGo s).2]) ∧ Below w.heap.size w w' := Any7.utf8_DecodeRune Tryz.lays7x32 s b off cap w hT hp
end Go.Proofs
