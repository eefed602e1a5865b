/- Packed by packn.py: Shelf, Ar, Open. -/
import Derived.Shelf.Strings.Builder1
import Derived.Shelf.Strings.Builder2
import Derived.Shelf.Strings.OnBuilder
import Derived.Shelf.Small.Wraps
import Derived.Shelf.Strings.Search1
import Derived.Shelf.Strings.Search2
import Derived.Shelf.Strings.Search3
import Derived.Shelf.Strings.Cut
import Derived.Shelf.Strings.Count
import Derived.Shelf.LaysM
import Derived.Shelf.Strings.Shaped
import Derived.Shelf.Strings.Prefix
import Derived.Shelf.Strings.Split
import Derived.Shelf.Strings.Fields
import Derived.Shelf.Strings.SplitShaped
import Derived.Shelf.Unicode.Latin
import Derived.Shelf.Unicode.DecodeSlow
import Derived.Shelf.Unicode.DecodeAny
import Derived.Shelf.Unicode.Is16White
import Derived.Shelf.Unicode.IsSpaceAny
import Derived.Shelf.Unicode.Is16WhiteD
import Derived.Shelf.Unicode.IsSpaceAnyD
import Derived.Shelf.Strings.FieldsAny
import Derived.Shelf.Strings.FieldsFuncAny
import Derived.Shelf.Unicode.Is16Any
import Derived.Shelf.Unicode.Is32Any
import Derived.Shelf.Unicode.ExclAny
import Derived.Shelf.Slices.Turned
import Derived.Shelf.Slices.Equal
import Derived.Ground.Names2Prog
import Derived.Shelf.Slices.Clone
import Derived.Shelf.Slices.Empties2
import Derived.Ground.SlgnProg
import Derived.Shelf.SlicesE.Index
import Derived.Shelf.SlicesE.Equal
import Derived.Shelf.SlicesE.Clone
import Derived.Ground.SlgfProg
import Derived.Shelf.SlicesE.IndexFunc
import Derived.Test.YtikimmgileffgaaGreatDoorProg
import Derived.Test.YtikimmgileffgaaGreatDoorQk01
import Derived.ProofKit
import Derived.OpenShut
import Derived.Deep.Slices
import Derived.Deep.Fields
/- The kit's contracts of the library's functions, at this seat's numbers: written by the kit's own tools (lay-shelf, lay-plain), renamed. -/
section
namespace Go.Proofs.YtikimmgileffgaaGreatDoor
open Go.Shelf
def Sh.lays156_ren : Go.Shelf.Ren := ⟨fun | 156 => 170 | 165 => 194 | 166 => 195 | 169 => 196 | 240 => 211 | 241 => 212 | 276 => 215 | 277 => 216 | n => n, fun | 31 => 143 | 9 => 9 | 3 => 3 | 4 => 4 | 0 => 0 | 20 => 20 | 72 => 304 | 76 => 308 | 70 => 301 | 37 => 302 | 75 => 307 | 127 => 327 | 164 => 336 | 5 => 5 | 80 => 310 | n => n, fun | n => n⟩
theorem Sh.lays156 : Go.Proofs.Lays.n156 Tryz.prog Sh.lays156_ren := {
  mixed := by kernel_rfl
  f156 := Tryz.func170.trans (congrArg some (by kernel_rfl))
  f165 := Tryz.func194.trans (congrArg some (by kernel_rfl))
  f166 := Tryz.func195.trans (congrArg some (by kernel_rfl))
  f169 := Tryz.func196.trans (congrArg some (by kernel_rfl))
  f240 := Tryz.func211.trans (congrArg some (by kernel_rfl))
  f241 := Tryz.func212.trans (congrArg some (by kernel_rfl))
  f276 := Tryz.func215.trans (congrArg some (by kernel_rfl))
  f277 := Tryz.func216.trans (congrArg some (by kernel_rfl))
  t0 := Tryz.underlying0
  a0 := Tryz.isAgg0
  z0 := Tryz.sizeOf0
  v0 := Tryz.zeroValue0
  t3 := Tryz.underlying3
  a3 := Tryz.isAgg3
  z3 := Tryz.sizeOf3
  v3 := Tryz.zeroValue3
  t4 := Tryz.underlying4
  a4 := Tryz.isAgg4
  z4 := Tryz.sizeOf4
  v4 := Tryz.zeroValue4
  t9 := Tryz.underlying9
  a9 := Tryz.isAgg9
  z9 := Tryz.sizeOf9
  v9 := Tryz.zeroValue9
  t20 := Tryz.underlying20
  a20 := Tryz.isAgg20
  z20 := Tryz.sizeOf20
  v20 := Tryz.zeroValue20
  t31 := Tryz.underlying143
  a31 := Tryz.isAgg143
  z31 := Tryz.sizeOf143
  v31 := Tryz.zeroValue143
  t37 := Tryz.underlying302
  a37 := Tryz.isAgg302
  z37 := Tryz.sizeOf302
  v37 := Tryz.zeroValue302
  t70 := Tryz.underlying301
  a70 := Tryz.isAgg301
  z70 := Tryz.sizeOf301
  v70 := Tryz.zeroValue301
  t72 := Tryz.underlying304
  a72 := Tryz.isAgg304
  z72 := Tryz.sizeOf304
  v72 := Tryz.zeroValue304
  t75 := Tryz.underlying307
  a75 := Tryz.isAgg307
  z75 := Tryz.sizeOf307
  v75 := Tryz.zeroValue307
  t76 := Tryz.underlying308
  a76 := Tryz.isAgg308
  z76 := Tryz.sizeOf308
  v76 := Tryz.zeroValue308
  t127 := Tryz.underlying327
  a127 := Tryz.isAgg327
  z127 := Tryz.sizeOf327
  v127 := Tryz.zeroValue327
  t164 := Tryz.underlying336
  a164 := Tryz.isAgg336
  z164 := Tryz.sizeOf336
  v164 := Tryz.zeroValue336 }
theorem Sh.Builder_Extra_156 : Builder.Extra Tryz.prog Sh.lays156_ren := {
  sizeBuilder := by kernel_rfl
  liesBuilder := by kernel_rfl
  t5 := Tryz.underlying5
  a5 := Tryz.isAgg5
  z5 := Tryz.sizeOf5
  v5 := Tryz.zeroValue5
  infoByte := by kernel_rfl
  cellsByte := by kernel_rfl
  sizeByte := by kernel_rfl
  neB5 := by decide }
open Go.RowKit in
theorem Sh.strings_Join (bk o c : Nat) (xs : List ByteArray) (sep : ByteArray) (w : World) (hcells : ∀ (j : Nat) x, xs[j]? = some x → w.cell? ⟨bk, o + j, none⟩ = some (.string x)) (hbk : bk < w.heap.size) (hN : xs.length ≤ 140737488355328) (hcap : xs.length ≤ c) (hlen : (Lib.join (xs.map (·.data.toList)) sep.data.toList).length ≤ 140737488355328) :
    Calls Tryz.prog 170 #[.slice (some ⟨bk, o, none⟩) xs.length c, .string sep] w fun e w' => e = .returned (.string ⟨(Lib.join (xs.map (·.data.toList)) sep.data.toList).toArray⟩) ∧ Below w.heap.size w w' := Any.strings_Join Sh.lays156 Sh.Builder_Extra_156 bk o c xs sep w hcells hbk hN hcap hlen
def Sh.lays145_ren : Go.Shelf.Ren := ⟨fun | 145 => 172 | 220 => 198 | 219 => 191 | 217 => 207 | 225 => 208 | 224 => 209 | 267 => 210 | 266 => 213 | 314 => 214 | n => n, fun | 9 => 9 | 4 => 4 | 59 => 275 | 3 => 3 | 5 => 5 | 46 => 326 | 146 => 334 | 51 => 292 | n => n, fun | 1 => 2 | n => n⟩
theorem Sh.lays145 : Go.Proofs.Lays.n145 Tryz.prog Sh.lays145_ren := {
  mixed := by kernel_rfl
  f145 := Tryz.func172.trans (congrArg some (by kernel_rfl))
  f217 := Tryz.func207.trans (congrArg some (by kernel_rfl))
  f219 := Tryz.func191.trans (congrArg some (by kernel_rfl))
  f220 := Tryz.func198.trans (congrArg some (by kernel_rfl))
  f224 := Tryz.func209.trans (congrArg some (by kernel_rfl))
  f225 := Tryz.func208.trans (congrArg some (by kernel_rfl))
  f266 := Tryz.func213.trans (congrArg some (by kernel_rfl))
  f267 := Tryz.func210.trans (congrArg some (by kernel_rfl))
  f314 := Tryz.func214.trans (congrArg some (by kernel_rfl))
  t3 := Tryz.underlying3
  a3 := Tryz.isAgg3
  z3 := Tryz.sizeOf3
  v3 := Tryz.zeroValue3
  t4 := Tryz.underlying4
  a4 := Tryz.isAgg4
  z4 := Tryz.sizeOf4
  v4 := Tryz.zeroValue4
  t5 := Tryz.underlying5
  a5 := Tryz.isAgg5
  z5 := Tryz.sizeOf5
  v5 := Tryz.zeroValue5
  t9 := Tryz.underlying9
  a9 := Tryz.isAgg9
  z9 := Tryz.sizeOf9
  v9 := Tryz.zeroValue9
  t46 := Tryz.underlying326
  a46 := Tryz.isAgg326
  z46 := Tryz.sizeOf326
  v46 := Tryz.zeroValue326
  t51 := Tryz.underlying292
  a51 := Tryz.isAgg292
  z51 := Tryz.sizeOf292
  v51 := Tryz.zeroValue292
  t59 := Tryz.underlying275
  a59 := Tryz.isAgg275
  z59 := Tryz.sizeOf275
  v59 := Tryz.zeroValue275
  t146 := Tryz.underlying334
  a146 := Tryz.isAgg334
  z146 := Tryz.sizeOf334
  v146 := Tryz.zeroValue334
  g1 := by kernel_rfl }
open Go.RowKit Go.Lib in
theorem Sh.strings_Cut (s sep : ByteArray) (m : Int) (w : World) (hs : s.size < 4294967281) (hm : w.cell? ⟨2, 0, none⟩ = some (.int .i64 m)) :
    Calls Tryz.prog 172 #[.string s, .string sep] w fun e w' => e = .returned (.tuple #[.string ⟨(Lib.cut s.data.toList sep.data.toList).1.toArray⟩, .string ⟨(Lib.cut s.data.toList sep.data.toList).2.1.toArray⟩, .bool (Lib.cut s.data.toList sep.data.toList).2.2]) ∧ ∃ n, w' = w.drewN n := Any.strings_Cut Sh.lays145 s sep m w hs hm
def Sh.lays102_ren : Go.Shelf.Ren := ⟨fun | 102 => 118 | 209 => 171 | 207 => 197 | n => n, fun | 9 => 9 | 4 => 4 | 3 => 3 | n => n, fun | n => n⟩
theorem Sh.lays102 : Go.Proofs.Lays.n102 Tryz.prog Sh.lays102_ren := {
  mixed := by kernel_rfl
  f102 := Tryz.func118.trans (congrArg some (by kernel_rfl))
  f207 := Tryz.func197.trans (congrArg some (by kernel_rfl))
  f209 := Tryz.func171.trans (congrArg some (by kernel_rfl))
  t3 := Tryz.underlying3
  a3 := Tryz.isAgg3
  z3 := Tryz.sizeOf3
  v3 := Tryz.zeroValue3
  t4 := Tryz.underlying4
  a4 := Tryz.isAgg4
  z4 := Tryz.sizeOf4
  v4 := Tryz.zeroValue4
  t9 := Tryz.underlying9
  a9 := Tryz.isAgg9
  z9 := Tryz.sizeOf9
  v9 := Tryz.zeroValue9 }
open Go.RowKit Go.Lib in
theorem Sh.strings_TrimSuffix (s p : ByteArray) (w : World) (hs : s.size ≤ 9223372036854775807) :
    Calls Tryz.prog 118 #[.string s, .string p] w fun e w' => e = .returned (.string ⟨(Lib.trimSuffix s.data.toList p.data.toList).toArray⟩) ∧ w' = w := Any.strings_TrimSuffix Sh.lays102 s p w hs
def Sh.lays146_ren : Go.Shelf.Ren := ⟨fun | 146 => 57 | 221 => 112 | 268 => 159 | 138 => 160 | 143 => 161 | 195 => 188 | 197 => 189 | 218 => 190 | 219 => 191 | 260 => 206 | 217 => 207 | 225 => 208 | 224 => 209 | 267 => 210 | 266 => 213 | 314 => 214 | n => n, fun | 9 => 9 | 31 => 143 | 3 => 3 | 4 => 4 | 0 => 0 | 105 => 296 | 21 => 21 | 5 => 5 | 46 => 326 | 119 => 259 | 139 => 333 | 138 => 332 | 146 => 334 | 51 => 292 | n => n, fun | 1 => 2 | 3 => 3 | 4 => 4 | n => n⟩
theorem Sh.lays146 : Go.Proofs.Lays.n146 Tryz.prog Sh.lays146_ren := {
  mixed := by kernel_rfl
  f138 := Tryz.func160.trans (congrArg some (by kernel_rfl))
  f143 := Tryz.func161.trans (congrArg some (by kernel_rfl))
  f146 := Tryz.func57.trans (congrArg some (by kernel_rfl))
  f195 := Tryz.func188.trans (congrArg some (by kernel_rfl))
  f197 := Tryz.func189.trans (congrArg some (by kernel_rfl))
  f217 := Tryz.func207.trans (congrArg some (by kernel_rfl))
  f218 := Tryz.func190.trans (congrArg some (by kernel_rfl))
  f219 := Tryz.func191.trans (congrArg some (by kernel_rfl))
  f221 := Tryz.func112.trans (congrArg some (by kernel_rfl))
  f224 := Tryz.func209.trans (congrArg some (by kernel_rfl))
  f225 := Tryz.func208.trans (congrArg some (by kernel_rfl))
  f260 := Tryz.func206.trans (congrArg some (by kernel_rfl))
  f266 := Tryz.func213.trans (congrArg some (by kernel_rfl))
  f267 := Tryz.func210.trans (congrArg some (by kernel_rfl))
  f268 := Tryz.func159.trans (congrArg some (by kernel_rfl))
  f314 := Tryz.func214.trans (congrArg some (by kernel_rfl))
  t0 := Tryz.underlying0
  a0 := Tryz.isAgg0
  z0 := Tryz.sizeOf0
  v0 := Tryz.zeroValue0
  t3 := Tryz.underlying3
  a3 := Tryz.isAgg3
  z3 := Tryz.sizeOf3
  v3 := Tryz.zeroValue3
  t4 := Tryz.underlying4
  a4 := Tryz.isAgg4
  z4 := Tryz.sizeOf4
  v4 := Tryz.zeroValue4
  t5 := Tryz.underlying5
  a5 := Tryz.isAgg5
  z5 := Tryz.sizeOf5
  v5 := Tryz.zeroValue5
  t9 := Tryz.underlying9
  a9 := Tryz.isAgg9
  z9 := Tryz.sizeOf9
  v9 := Tryz.zeroValue9
  t21 := Tryz.underlying21
  a21 := Tryz.isAgg21
  z21 := Tryz.sizeOf21
  v21 := Tryz.zeroValue21
  t31 := Tryz.underlying143
  a31 := Tryz.isAgg143
  z31 := Tryz.sizeOf143
  v31 := Tryz.zeroValue143
  t46 := Tryz.underlying326
  a46 := Tryz.isAgg326
  z46 := Tryz.sizeOf326
  v46 := Tryz.zeroValue326
  t51 := Tryz.underlying292
  a51 := Tryz.isAgg292
  z51 := Tryz.sizeOf292
  v51 := Tryz.zeroValue292
  t105 := Tryz.underlying296
  a105 := Tryz.isAgg296
  z105 := Tryz.sizeOf296
  v105 := Tryz.zeroValue296
  t119 := Tryz.underlying259
  a119 := Tryz.isAgg259
  z119 := Tryz.sizeOf259
  t138 := Tryz.underlying332
  a138 := Tryz.isAgg332
  z138 := Tryz.sizeOf332
  v138 := Tryz.zeroValue332
  t139 := Tryz.underlying333
  a139 := Tryz.isAgg333
  z139 := Tryz.sizeOf333
  v139 := Tryz.zeroValue333
  t146 := Tryz.underlying334
  a146 := Tryz.isAgg334
  z146 := Tryz.sizeOf334
  v146 := Tryz.zeroValue334
  g1 := by kernel_rfl
  g3 := by kernel_rfl
  g4 := by kernel_rfl }
open Go.RowKit Go.Lib in
theorem Sh.strings_Split (s sep : ByteArray) (m : Int) (w : World) (hs : s.size < 4294967281) (hm : w.cell? ⟨2, 0, none⟩ = some (.int .i64 m)) (h1 : 1 ≤ sep.size) :
    Calls Tryz.prog 57 #[.string s, .string sep] w fun e w' =>
      e = .returned (.slice (some ⟨w.heap.size, 0, none⟩) (Lib.countB s sep + 1) (Lib.countB s sep + 1)) ∧ w' = w.alloc (.cells ((Lib.splitB sep 0 (Lib.countB s sep) s).map Value.string).toArray 9) := Any.strings_Split Sh.lays146 (by kernel_rfl) s sep m w hs hm h1
def Sh.lays157_ren : Go.Shelf.Ren := ⟨fun | 157 => 110 | 229 => 156 | 199 => 157 | 261 => 187 | 311 => 204 | 312 => 205 | n => n, fun | 9 => 9 | 31 => 143 | 3 => 3 | 5 => 5 | 4 => 4 | 119 => 259 | 0 => 0 | 40 => 261 | 152 => 289 | 21 => 21 | 154 => 291 | 51 => 292 | 141 => 294 | 196 => 318 | 193 => 315 | 198 => 321 | 49 => 319 | 194 => 316 | 201 => 324 | 226 => 329 | 46 => 326 | 227 => 330 | n => n, fun | 0 => 0 | 6 => 1 | n => n⟩
theorem Sh.lays157 : Go.Proofs.Lays.n157 Tryz.prog Sh.lays157_ren := {
  mixed := by kernel_rfl
  f157 := Tryz.func110.trans (congrArg some (by kernel_rfl))
  f199 := Tryz.func157.trans (congrArg some (by kernel_rfl))
  f229 := Tryz.func156.trans (congrArg some (by kernel_rfl))
  f261 := Tryz.func187.trans (congrArg some (by kernel_rfl))
  f311 := Tryz.func204.trans (congrArg some (by kernel_rfl))
  f312 := Tryz.func205.trans (congrArg some (by kernel_rfl))
  t0 := Tryz.underlying0
  a0 := Tryz.isAgg0
  z0 := Tryz.sizeOf0
  v0 := Tryz.zeroValue0
  t3 := Tryz.underlying3
  a3 := Tryz.isAgg3
  z3 := Tryz.sizeOf3
  v3 := Tryz.zeroValue3
  t4 := Tryz.underlying4
  a4 := Tryz.isAgg4
  z4 := Tryz.sizeOf4
  v4 := Tryz.zeroValue4
  t5 := Tryz.underlying5
  a5 := Tryz.isAgg5
  z5 := Tryz.sizeOf5
  v5 := Tryz.zeroValue5
  t9 := Tryz.underlying9
  a9 := Tryz.isAgg9
  z9 := Tryz.sizeOf9
  v9 := Tryz.zeroValue9
  t21 := Tryz.underlying21
  a21 := Tryz.isAgg21
  z21 := Tryz.sizeOf21
  v21 := Tryz.zeroValue21
  t31 := Tryz.underlying143
  a31 := Tryz.isAgg143
  z31 := Tryz.sizeOf143
  v31 := Tryz.zeroValue143
  t40 := Tryz.underlying261
  a40 := Tryz.isAgg261
  z40 := Tryz.sizeOf261
  v40 := Tryz.zeroValue261
  t46 := Tryz.underlying326
  a46 := Tryz.isAgg326
  z46 := Tryz.sizeOf326
  v46 := Tryz.zeroValue326
  t49 := Tryz.underlying319
  a49 := Tryz.isAgg319
  z49 := Tryz.sizeOf319
  v49 := Tryz.zeroValue319
  t51 := Tryz.underlying292
  a51 := Tryz.isAgg292
  z51 := Tryz.sizeOf292
  v51 := Tryz.zeroValue292
  t119 := Tryz.underlying259
  a119 := Tryz.isAgg259
  z119 := Tryz.sizeOf259
  t141 := Tryz.underlying294
  a141 := Tryz.isAgg294
  z141 := Tryz.sizeOf294
  v141 := Tryz.zeroValue294
  t152 := Tryz.underlying289
  a152 := Tryz.isAgg289
  z152 := Tryz.sizeOf289
  v152 := Tryz.zeroValue289
  t154 := Tryz.underlying291
  a154 := Tryz.isAgg291
  z154 := Tryz.sizeOf291
  v154 := Tryz.zeroValue291
  t193 := Tryz.underlying315
  a193 := Tryz.isAgg315
  z193 := Tryz.sizeOf315
  v193 := Tryz.zeroValue315
  t194 := Tryz.underlying316
  a194 := Tryz.isAgg316
  z194 := Tryz.sizeOf316
  v194 := Tryz.zeroValue316
  t196 := Tryz.underlying318
  a196 := Tryz.isAgg318
  z196 := Tryz.sizeOf318
  v196 := Tryz.zeroValue318
  t198 := Tryz.underlying321
  a198 := Tryz.isAgg321
  z198 := Tryz.sizeOf321
  v198 := Tryz.zeroValue321
  t201 := Tryz.underlying324
  a201 := Tryz.isAgg324
  z201 := Tryz.sizeOf324
  v201 := Tryz.zeroValue324
  t226 := Tryz.underlying329
  a226 := Tryz.isAgg329
  z226 := Tryz.sizeOf329
  v226 := Tryz.zeroValue329
  t227 := Tryz.underlying330
  a227 := Tryz.isAgg330
  z227 := Tryz.sizeOf330
  v227 := Tryz.zeroValue330
  g0 := by kernel_rfl
  g6 := by kernel_rfl }
open Go.RowKit Go.Lib in
theorem Sh.strings_Fields (s : ByteArray) (w : World) (hs : s.size < 4294967281) (hascii : ∀ (j : Nat) b, s.data.toList[j]? = some b → b.toNat < 128) (htab : Lib.TabIs Tryz.prog w "strings.asciiSpace" .u8 Lib.asciiSpaceTab) :
    Calls Tryz.prog 110 #[.string s] w fun e w' =>
      e = .returned (.slice (some ⟨w.heap.size, 0, none⟩) (Lib.fields s.data.toList).length (Lib.fields s.data.toList).length) ∧ w' = w.alloc (.cells ((Lib.fields s.data.toList).map fun l => Value.string ⟨l.toArray⟩).toArray 9) := Any.strings_Fields Sh.lays157 (by kernel_rfl) (by kernel_rfl) s w hs hascii htab
def Sh.lays107_ren : Go.Shelf.Ren := ⟨fun | 107 => 113 | 108 => 162 | n => n, fun | 28 => 29 | 3 => 3 | 4 => 4 | 0 => 0 | n => n, fun | n => n⟩
theorem Sh.lays107 : Go.Proofs.Lays.n107 Tryz.prog Sh.lays107_ren := {
  mixed := by kernel_rfl
  f107 := Tryz.func113.trans (congrArg some (by kernel_rfl))
  f108 := Tryz.func162.trans (congrArg some (by kernel_rfl))
  t0 := Tryz.underlying0
  a0 := Tryz.isAgg0
  z0 := Tryz.sizeOf0
  v0 := Tryz.zeroValue0
  t3 := Tryz.underlying3
  a3 := Tryz.isAgg3
  z3 := Tryz.sizeOf3
  v3 := Tryz.zeroValue3
  t4 := Tryz.underlying4
  a4 := Tryz.isAgg4
  z4 := Tryz.sizeOf4
  v4 := Tryz.zeroValue4
  t28 := Tryz.underlying29
  a28 := Tryz.isAgg29
  z28 := Tryz.sizeOf29
  v28 := Tryz.zeroValue29 }
open Go.Lib in
theorem Sh.slices_Contains_int (b off n c : Nat) (zs : List Int) (x : Int) (w : World) (hz : n ≤ zs.length) (hbig : n ≤ 9223372036854775807) (hc : ∀ j, j < zs.length → w.cell? ⟨b, off + j, none⟩ = some (.int .i64 (zs.getD j 0))) :
    Calls Tryz.prog 113 #[.slice (some ⟨b, off, none⟩) n c, .int .i64 x] w fun e w' => e = .returned (.bool ((zs.take n).contains x)) ∧ w' = w := Any.slices_Contains_int Sh.lays107 b off n c zs x w hz hbig hc
open Go.Lib in
theorem Sh.slices_Contains_int_empty (a : Option Addr) (c : Nat) (x : Int) (w : World) :
    Calls Tryz.prog 113 #[.slice a 0 c, .int .i64 x] w fun e w' => e = .returned (.bool false) ∧ w' = w := Any.slices_Contains_int_empty Sh.lays107 a c x w
def Sh.lays109_ren : Go.Shelf.Ren := ⟨fun | 109 => 53 | n => n, fun | 31 => 143 | 9 => 9 | 3 => 3 | 0 => 0 | 4 => 4 | n => n, fun | n => n⟩
theorem Sh.lays109 : Go.Proofs.Lays.n109 Tryz.prog Sh.lays109_ren := {
  mixed := by kernel_rfl
  f109 := Tryz.func53.trans (congrArg some (by kernel_rfl))
  t0 := Tryz.underlying0
  a0 := Tryz.isAgg0
  z0 := Tryz.sizeOf0
  v0 := Tryz.zeroValue0
  t3 := Tryz.underlying3
  a3 := Tryz.isAgg3
  z3 := Tryz.sizeOf3
  v3 := Tryz.zeroValue3
  t4 := Tryz.underlying4
  a4 := Tryz.isAgg4
  z4 := Tryz.sizeOf4
  v4 := Tryz.zeroValue4
  t9 := Tryz.underlying9
  a9 := Tryz.isAgg9
  z9 := Tryz.sizeOf9
  v9 := Tryz.zeroValue9
  t31 := Tryz.underlying143
  a31 := Tryz.isAgg143
  z31 := Tryz.sizeOf143
  v31 := Tryz.zeroValue143 }
open Go.Lib in
theorem Sh.slices_Index_string (b off n c : Nat) (zs : List ByteArray) (x : ByteArray) (w : World) (hz : n ≤ zs.length) (hbig : n ≤ 9223372036854775807) (hc : ∀ j, j < zs.length → w.cell? ⟨b, off + j, none⟩ = some (.string (zs.getD j ByteArray.empty))) :
    Calls Tryz.prog 53 #[.slice (some ⟨b, off, none⟩) n c, .string x] w fun e w' => e = .returned (.int .i64 (Lib.idxOfS (zs.take n) x)) ∧ w' = w := Any.slices_Index_string Sh.lays109 b off n c zs x w hz hbig hc
def Sh.lays110_ren : Go.Shelf.Ren := ⟨fun | 110 => 119 | 109 => 53 | n => n, fun | 31 => 143 | 9 => 9 | 4 => 4 | 3 => 3 | 0 => 0 | n => n, fun | n => n⟩
theorem Sh.lays110 : Go.Proofs.Lays.n110 Tryz.prog Sh.lays110_ren := {
  mixed := by kernel_rfl
  f109 := Tryz.func53.trans (congrArg some (by kernel_rfl))
  f110 := Tryz.func119.trans (congrArg some (by kernel_rfl))
  t0 := Tryz.underlying0
  a0 := Tryz.isAgg0
  z0 := Tryz.sizeOf0
  v0 := Tryz.zeroValue0
  t3 := Tryz.underlying3
  a3 := Tryz.isAgg3
  z3 := Tryz.sizeOf3
  v3 := Tryz.zeroValue3
  t4 := Tryz.underlying4
  a4 := Tryz.isAgg4
  z4 := Tryz.sizeOf4
  v4 := Tryz.zeroValue4
  t9 := Tryz.underlying9
  a9 := Tryz.isAgg9
  z9 := Tryz.sizeOf9
  v9 := Tryz.zeroValue9
  t31 := Tryz.underlying143
  a31 := Tryz.isAgg143
  z31 := Tryz.sizeOf143
  v31 := Tryz.zeroValue143 }
open Go.Lib in
theorem Sh.slices_Contains_string (b off n c : Nat) (zs : List ByteArray) (x : ByteArray) (w : World) (hz : n ≤ zs.length) (hbig : n ≤ 9223372036854775807) (hc : ∀ j, j < zs.length → w.cell? ⟨b, off + j, none⟩ = some (.string (zs.getD j ByteArray.empty))) :
    Calls Tryz.prog 119 #[.slice (some ⟨b, off, none⟩) n c, .string x] w fun e w' => e = .returned (.bool (Lib.containsS (zs.take n) x)) ∧ w' = w := Any.slices_Contains_string Sh.lays110 b off n c zs x w hz hbig hc
def Sh.lays111_ren : Go.Shelf.Ren := ⟨fun | 111 => 192 | n => n, fun | 28 => 29 | 3 => 3 | 4 => 4 | 0 => 0 | n => n, fun | n => n⟩
theorem Sh.lays111 : Go.Proofs.Lays.n111 Tryz.prog Sh.lays111_ren := {
  mixed := by kernel_rfl
  f111 := Tryz.func192.trans (congrArg some (by kernel_rfl))
  t0 := Tryz.underlying0
  a0 := Tryz.isAgg0
  z0 := Tryz.sizeOf0
  v0 := Tryz.zeroValue0
  t3 := Tryz.underlying3
  a3 := Tryz.isAgg3
  z3 := Tryz.sizeOf3
  v3 := Tryz.zeroValue3
  t4 := Tryz.underlying4
  a4 := Tryz.isAgg4
  z4 := Tryz.sizeOf4
  v4 := Tryz.zeroValue4
  t28 := Tryz.underlying29
  a28 := Tryz.isAgg29
  z28 := Tryz.sizeOf29
  v28 := Tryz.zeroValue29 }
open Go.RowKit Go.Lib in
theorem Sh.slices_Equal_int (b1 o1 n c b2 o2 m d : Nat) (xs ys : List Int) (w : World) (hx : n ≤ xs.length) (hy : m ≤ ys.length) (hbig : n ≤ 9223372036854775807) (hbig2 : m ≤ 9223372036854775807) (hc1 : ∀ j, j < xs.length → w.cell? ⟨b1, o1 + j, none⟩ = some (.int .i64 (xs.getD j 0))) (hc2 : ∀ j, j < ys.length → w.cell? ⟨b2, o2 + j, none⟩ = some (.int .i64 (ys.getD j 0))) :
    Calls Tryz.prog 192 #[.slice (some ⟨b1, o1, none⟩) n c, .slice (some ⟨b2, o2, none⟩) m d] w fun e w' => e = .returned (.bool (xs.take n == ys.take m)) ∧ ∃ q, w' = w.drewN q := Any.slices_Equal_int Sh.lays111 b1 o1 n c b2 o2 m d xs ys w hx hy hbig hbig2 hc1 hc2
open Go.RowKit Go.Lib in
theorem Sh.slices_Equal_int_empty (a1 a2 : Option Addr) (c m d : Nat) (w : World) (hbig2 : m ≤ 9223372036854775807) :
    Calls Tryz.prog 192 #[.slice a1 0 c, .slice a2 m d] w fun e w' => e = .returned (.bool (decide (m = 0))) ∧ w' = w := Any.slices_Equal_int_empty Sh.lays111 a1 a2 c m d w hbig2
def Sh.laysNm215_ren : Go.Shelf.Ren := ⟨fun | 15 => 90 | n => n, fun | 22 => 29 | 3 => 3 | 4 => 4 | n => n, fun | n => n⟩
theorem Sh.laysNm215 : Go.Proofs.Lays2.n15 Tryz.prog Sh.laysNm215_ren := {
  mixed := by kernel_rfl
  f15 := Tryz.func90.trans (congrArg some (by kernel_rfl))
  t3 := Tryz.underlying3
  a3 := Tryz.isAgg3
  z3 := Tryz.sizeOf3
  v3 := Tryz.zeroValue3
  t4 := Tryz.underlying4
  a4 := Tryz.isAgg4
  z4 := Tryz.sizeOf4
  v4 := Tryz.zeroValue4
  t22 := Tryz.underlying29
  a22 := Tryz.isAgg29
  z22 := Tryz.sizeOf29
  v22 := Tryz.zeroValue29
  i3 := by kernel_rfl }
open Go.RowKit Go.Lib in
theorem Sh.slices_Clone_int (b off n c : Nat) (zs : List Int) (w : World) (hz : n ≤ zs.length) (hbig : n * 8 ≤ 140737488355328) (hc : ∀ j, j < zs.length → w.cell? ⟨b, off + j, none⟩ = some (.int .i64 (zs.getD j 0))) :
    Calls Tryz.prog 90 #[.slice (some ⟨b, off, none⟩) n c] w fun e w' => ∃ v', e = .returned v' ∧ w'.ownsRow w.heap.size 3 1 v' n ((zs.take n).map (Value.int .i64)) ∧ v' ≠ .slice none 0 0 ∧ Below w.heap.size w w' := Any.slices_Clone_int Sh.laysNm215 b off n c zs w hz hbig hc
open Go.RowKit Go.Lib in
theorem Sh.slices_Clone_int_nil (n c : Nat) (w : World) :
    Calls Tryz.prog 90 #[.slice none n c] w fun e w' => e = .returned (.slice none 0 0) ∧ w' = w := Any.slices_Clone_int_nil Sh.laysNm215 n c w
open Go.RowKit Go.Lib in
theorem Sh.slices_Clone_int_zero (a : Addr) (c : Nat) (w : World) :
    Calls Tryz.prog 90 #[.slice (some a) 0 c] w fun e w' => ∃ v', e = .returned v' ∧ w'.ownsRow w.heap.size 3 1 v' 0 [] ∧ v' ≠ .slice none 0 0 ∧ Below w.heap.size w w' := Any.slices_Clone_int_zero Sh.laysNm215 a c w
open Go.RowKit Go.Lib in
theorem Sh.slices_Equal_int_lens (a1 a2 : Option Addr) (n c m d : Nat) (w : World) (hnm : n ≠ m) :
    Calls Tryz.prog 192 #[.slice a1 n c, .slice a2 m d] w fun e w' => e = .returned (.bool false) ∧ w' = w := Any.slices_Equal_int_lens Sh.lays111 a1 a2 n c m d w hnm
def Sh.laysSlH8_f114_ren : Go.Shelf.Ren := ⟨fun | 8 => 114 | 6 => 163 | n => n, fun | 22 => 29 | 23 => 3 | 25 => 217 | 4 => 4 | 3 => 3 | 0 => 0 | n => n, fun | n => n⟩
theorem Sh.laysSlH8_f114 : Go.Proofs.SlLaysH.n8 Tryz.prog Sh.laysSlH8_f114_ren := {
  mixed := by kernel_rfl
  f6 := ⟨Tryz.f163.name, by decide, Tryz.func163.trans (congrArg some (by kernel_rfl))⟩
  f8 := ⟨Tryz.f114.name, by decide, Tryz.func114.trans (congrArg some (by kernel_rfl))⟩
  t0 := Tryz.underlying0
  a0 := Tryz.isAgg0
  z0 := Tryz.sizeOf0
  v0 := Tryz.zeroValue0
  t3 := Tryz.underlying3
  a3 := Tryz.isAgg3
  z3 := Tryz.sizeOf3
  v3 := Tryz.zeroValue3
  t4 := Tryz.underlying4
  a4 := Tryz.isAgg4
  z4 := Tryz.sizeOf4
  v4 := Tryz.zeroValue4
  t22 := Tryz.underlying29
  a22 := Tryz.isAgg29
  z22 := Tryz.sizeOf29
  v22 := Tryz.zeroValue29
  a23 := Tryz.isAgg3
  z23 := Tryz.sizeOf3
  t25 := Tryz.underlying217
  a25 := Tryz.isAgg217
  z25 := Tryz.sizeOf217
  v25 := Tryz.zeroValue217 }
open Go.RowKit Go.Lib in
theorem Sh.slices_ContainsFunc {α : Type} [Inhabited α] (enc : α → Value) (p : α → Bool) (g : Nat) (lb : Array Value) (eg : ∀ args w, (callFunc g args).run Tryz.prog w = .ok (.enter g args) w) (b off n c : Nat) (zs : List α) (w : World) (hp : PredAt Tryz.prog g lb enc p w) (hz : n ≤ zs.length) (hbig : n ≤ 9223372036854775807) (hc : ∀ j, j < zs.length → w.cell? ⟨b, off + j, none⟩ = some (enc zs[j]!)) :
    Calls Tryz.prog 114 #[.slice (some ⟨b, off, none⟩) n c, .func (.func g) #[] lb] w fun e w' => e = .returned (.bool ((zs.take n).any p)) ∧ ∃ q, w' = w.drewN q := AnyE.slices_ContainsFunc Sh.laysSlH8_f114 enc p g lb eg b off n c zs w hp hz hbig hc
open Go.RowKit Go.Lib in
theorem Sh.slices_ContainsFunc_empty {α : Type} [Inhabited α] (a : Option Addr) (c : Nat) (fv : Value) (w : World) :
    Calls Tryz.prog 114 #[.slice a 0 c, fv] w fun e w' => e = .returned (.bool false) ∧ w' = w := AnyE.slices_ContainsFunc_empty Sh.laysSlH8_f114 a c fv w
end Go.Proofs.YtikimmgileffgaaGreatDoor
end
/- The terms of layer 1 as plain data: nodes, arenas, and what the calls tell of them. No program in sight. -/
section
namespace Go.Proofs.YtikimmgileffgaaGreatDoor
open Go.RowKit

/-- A node: Kind, N, A, B, C. -/
structure Nd where
  kind : Int
  n : Int
  a : Int
  b : Int
  c : Int
  deriving DecidableEq, Inhabited

def Nd.cells (x : Nd) : List Value := [.int .i64 x.kind, .int .u64 x.n, .int .i64 x.a, .int .i64 x.b, .int .i64 x.c]
def Nd.val (x : Nd) : Value := .agg #[.int .i64 x.kind, .int .u64 x.n, .int .i64 x.a, .int .i64 x.b, .int .i64 x.c]
def Nd.zero : Nd := ⟨0, 0, 0, 0, 0⟩
/-- An arena: its limit, and its terms. -/
structure Ar where
  limit : Nat
  l : List Nd
  deriving Inhabited

/-- How many terms a kind is made of. -/
def many (kind : Int) : Nat := if kind = 2 then 1 else if kind = 7 then 3 else if kind = 3 ∨ kind = 4 ∨ kind = 5 ∨ kind = 6 ∨ kind = 8 then 2 else 0
/-- The k-th part. -/
def Nd.part (x : Nd) (k : Nat) : Int := if k = 0 then x.a else if k = 1 then x.b else x.c

def has (l : List Nd) (x : Int) : Bool := decide (0 ≤ x ∧ x < l.length)
def nd (l : List Nd) (x : Int) : Nd := l.getD x.toNat Nd.zero

/-- What Get tells. -/
def getNd (l : List Nd) (x : Int) : Nd := if has l x then nd l x else Nd.zero
theorem getNd_of_has {l : List Nd} {x : Int} (h : has l x = true) : getNd l x = nd l x := by simp [getNd, h]
theorem getNd_of_not {l : List Nd} {x : Int} (h : has l x = false) : getNd l x = Nd.zero := by simp [getNd, h]
/-- -1, 0, 1. -/
def cmp2 (x y : Int) : Int := if x < y then -1 else if y < x then 1 else 0

/-- Compare, with so much fuel. -/
def cmpF : Nat → List Nd → Int → Int → Int
  | 0, _, _, _ => 0
  | f + 1, l, x, y =>
    if x = y then 0 else
    if has l x && has l y then
      let n := nd l x
      let m := nd l y
      if cmp2 n.kind m.kind ≠ 0 then cmp2 n.kind m.kind else
      if cmp2 n.n m.n ≠ 0 then cmp2 n.n m.n else
      if cmpF f l n.a m.a ≠ 0 then cmpF f l n.a m.a else
      if cmpF f l n.b m.b ≠ 0 then cmpF f l n.b m.b else cmpF f l n.c m.c
    else if has l x ≠ has l y then (if has l x then -1 else 1) else cmp2 x y

/-- May a node be? -/
def numberedP (x : Nd) : Bool := if x.kind = 1 ∨ x.kind = 7 ∨ x.kind = 9 then true else if x.kind = 6 then decide (1 ≤ x.n ∧ x.n ≤ 4) else decide (x.n = 0)
/-- What an arena's terms meet: the first is Empty, none is there twice, the parts of each are ahead of it (or 0). -/
structure Wf (l : List Nd) : Prop where
  head : l[0]? = some Nd.zero
  nodup : l.Nodup
  parts : ∀ (i : Nat) (n : Nd), l[i]? = some n → ∀ k, 0 ≤ n.part k ∧ (n.part k = 0 ∨ n.part k < i)
  fits : ∀ n ∈ l, 0 ≤ n.n ∧ n.n ≤ 18446744073709551615 ∧ 0 ≤ n.kind ∧ n.kind ≤ 9
  valid : ∀ n ∈ l, numberedP n = true ∧ (many n.kind ≤ 0 → n.a = 0) ∧ (many n.kind ≤ 1 → n.b = 0) ∧ (many n.kind ≤ 2 → n.c = 0)

theorem nd_of_getElem? {l : List Nd} {i : Nat} {n : Nd} (h : l[i]? = some n) : nd l i = n := by simp [nd, List.getD, h]
theorem has_iff {l : List Nd} {x : Int} : has l x = true ↔ 0 ≤ x ∧ x < l.length := by simp [has]
theorem getElem?_of_has {l : List Nd} {x : Int} (h : has l x = true) : l[x.toNat]? = some (nd l x) := by
  rw [has_iff] at h
  have : x.toNat < l.length := by omega
  simp [nd, List.getD, this]

def partsOk (l : List Nd) (x : Nd) : Bool := (List.range 3).all fun k => if k < many x.kind then has l (x.part k) else decide (x.part k = 0)
def cmpA (l : List Nd) (x y : Int) : Int := cmpF (l.length + 1) l x y
def right (l : List Nd) (x : Nd) : Bool :=
  if x.kind < 0 ∨ 9 < x.kind then false else
  if numberedP x = false then false else
  if partsOk l x = false then false else
  if x.kind = 3 then decide (cmpA l x.a x.b ≤ 0) else
  if x.kind = 4 then decide ((nd l x.b).kind ≠ 2) else true

/-- Mk: the arena behind it, the ref, the error. -/
def mk (A : Ar) (x : Nd) : Ar × Int × Int :=
  if right A.l x = false then (A, 0, 1) else
  match A.l.idxOf? x with
  | some i => (A, i, 0)
  | none => if A.limit ≤ A.l.length then (A, 0, 3) else (⟨A.limit, A.l ++ [x]⟩, A.l.length, 0)

/-- Share. -/
def share (A : Ar) (x y : Int) : Ar × Int × Int :=
  if has A.l x && has A.l y then
    if (nd A.l y).kind ≠ 2 then mk A ⟨4, 0, x, y, 0⟩ else
    let z := (nd A.l y).a
    if 0 < cmpA A.l x z then mk A ⟨3, 0, z, x, 0⟩ else mk A ⟨3, 0, x, z, 0⟩
  else (A, 0, 1)

def newAr (limit : Int) : Ar := ⟨(min (max limit 1) 65536).toNat, [Nd.zero]⟩

theorem nd_mem {l : List Nd} {x : Int} (h : has l x = true) : nd l x ∈ l := List.mem_of_getElem? (getElem?_of_has h)
/-- What the parts of a term are, where it and another one of the same kind and number are two. -/
theorem Wf.down {l : List Nd} (w : Wf l) {x y : Int} (hx : has l x = true) (hy : has l y = true) (hne : x ≠ y) (hk : (nd l x).kind = (nd l y).kind) : 0 < x ∧ (nd l x).a < x ∧ (nd l x).b < x ∧ (nd l x).c < x ∧ 0 ≤ (nd l x).a ∧ 0 ≤ (nd l x).b ∧ 0 ≤ (nd l x).c := by
  have hx0 := has_iff.1 hx
  have hy0 := has_iff.1 hy
  have hgx := getElem?_of_has hx
  have hgy := getElem?_of_has hy
  have h0 : x ≠ 0 := by
    rintro rfl
    have hz : nd l 0 = Nd.zero := by have := w.head; exact nd_of_getElem? (i := 0) this
    have hky : (nd l y).kind = 0 := by rw [← hk, hz]; rfl
    obtain ⟨hn, ha, hb, hc⟩ := w.valid _ (nd_mem hy)
    have hyz : nd l y = Nd.zero := by
      generalize nd l y = m at *
      obtain ⟨k, n, a, b, c⟩ := m
      simp only at hky ha hb hc
      subst hky
      simp [many] at ha hb hc
      simp [numberedP] at hn
      subst hn ha hb hc; rfl
    rw [hyz] at hgy
    have hlt : y.toNat < l.length := by omega
    have := (List.getElem?_inj (by omega : 0 < l.length) w.nodup).1 (w.head.trans hgy.symm)
    omega
  have hp := w.parts x.toNat _ hgx
  have p0 := hp 0
  have p1 := hp 1
  have p2 := hp 2
  simp only [Nd.part, if_true, if_false, Nat.one_ne_zero, show (2 : Nat) ≠ 0 by decide, show (2 : Nat) ≠ 1 by decide] at p0 p1 p2
  omega

theorem cmp2_zero {x y : Int} (h : cmp2 x y = 0) : x = y := by
  unfold cmp2 at h; split at h
  · omega
  · split at h <;> omega
/-- Where kind and number are the same the parts decide. -/
theorem cmpF_deep {f : Nat} {l : List Nd} {x y : Int} {n m : Nd} (hne : x ≠ y) (hx : has l x = true) (hy : has l y = true) (hn : nd l x = n) (hm : nd l y = m) (h1 : cmp2 n.kind m.kind = 0) (h2 : cmp2 n.n m.n = 0) :
    cmpF (f + 1) l x y = if cmpF f l n.a m.a ≠ 0 then cmpF f l n.a m.a else if cmpF f l n.b m.b ≠ 0 then cmpF f l n.b m.b else cmpF f l n.c m.c := by
  subst hn hm
  simp [cmpF, hne, hx, hy, h1, h2]
theorem cmpF_top {f : Nat} {l : List Nd} {x y : Int} {n m : Nd} (hne : x ≠ y) (hx : has l x = true) (hy : has l y = true) (hn : nd l x = n) (hm : nd l y = m) :
    cmpF (f + 1) l x y = if cmp2 n.kind m.kind ≠ 0 then cmp2 n.kind m.kind else if cmp2 n.n m.n ≠ 0 then cmp2 n.n m.n else if cmpF f l n.a m.a ≠ 0 then cmpF f l n.a m.a else if cmpF f l n.b m.b ≠ 0 then cmpF f l n.b m.b else cmpF f l n.c m.c := by
  subst hn hm
  simp [cmpF, hne, hx, hy]
end Go.Proofs.YtikimmgileffgaaGreatDoor
end
/- Arguments opened: a slice of ints, of structs of two one-cell fields, of slices of ints, as the cells that it holds. Any program. -/
section
namespace Go.Proofs.YtikimmgileffgaaGreatDoor
open Go.ChangeShapes Go.WideShapes Go.ChangeAt Go.RowKit Go.Deep

section
variable {H : Type} {enc : TypeId × Value → H} {P : Program} {w : World} {base : Nat} {spare : Nat → Bool} {held : Bool}

theorem add_of_cell {w : World} {a : Addr} {v : Value} (h : w.cell? a = some v) : ∃ b o, a = ⟨b, o, none⟩ := by
  obtain ⟨b, o, s⟩ := a
  cases s with
  | none => exact ⟨b, o, rfl⟩
  | some s =>
    simp only [World.cell?] at h
    split at h <;> simp at h

theorem add_off (b o i : Nat) : (⟨b, o, none⟩ : Addr).add i = ⟨b, o + i, none⟩ := by
  unfold Addr.add
  by_cases h : i = 0 <;> simp [h]

/-- Cells by index make a row that is held. -/
theorem holds_of_index {w : World} {a : Addr} {xs : List Value} (h : ∀ i v, xs[i]? = some v → w.cell? (a.add i) = some v) : Holds w (some a) xs := by
  match xs, h with
  | [], _ => exact .inl rfl
  | x :: r, h =>
    have h0 := h 0 x rfl
    simp only [Addr.add, if_true] at h0
    obtain ⟨b, o, rfl⟩ := add_of_cell h0
    exact .inr ⟨b, o, rfl, fun i v hi => by rw [← add_off]; exact h i v hi⟩

theorem holds_lt {w : World} {A : Option Addr} {xs : List Value} (h : Holds w A xs) (hne : xs ≠ []) : ∀ a, A = some a → a.block < w.heap.size := by
  rcases h with h | ⟨b, o, rfl, h⟩
  · exact absurd h hne
  · intro a ha
    cases ha
    match xs, hne, h with
    | x :: r, _, h => exact World.block_lt_of_cell? w _ (h 0 x rfl)

/-- A list from what is known at each index. -/
theorem list_of_index {α : Type} [Inhabited α] {n : Nat} {p : Nat → α → Prop} (h : ∀ i, i < n → ∃ x, p i x) : ∃ l : List α, l.length = n ∧ ∀ i x, l[i]? = some x → p i x := by
  obtain ⟨f, hf⟩ := choose_lt h
  refine ⟨(List.range n).map f, by simp, fun i x hi => ?_⟩
  have hin : i < n := by
    rcases Nat.lt_or_ge i n with h' | h'
    · exact h'
    · rw [List.getElem?_eq_none (by simpa using h')] at hi; cases hi
  simp [hin] at hi
  subst hi; exact hf i hin

/-- A slice of ints as a value: where it begins, what it holds, its capacity. -/
structure RowV where
  a : Option Addr
  xs : List Int
  c : Nat
  deriving Inhabited
def RowV.val (r : RowV) : Value := .slice r.a r.xs.length r.c

/-! Of the guide's page of lemmas to copy: a slice of structs, field by field. -/
theorem open_slice_fields {t e : TypeId} {fs : Array Field} {fuel : Nat} {cs : List Value} {x : DataW H × List MemPlace} (ht : P.underlying t = some (.slice e)) (he : P.underlying e = some (.struct fs))
    (hone : oneCellFields P fs = true) (hC : P.cellsOf e = fs.size) (h : DataW.trod enc P w base spare held fuel t cs = some x) :
    (cs = [.slice none 0 0] ∧ x = (.nil, [])) ∨
    ∃ (a : Addr) (len cap m : Nat) (D : Nat → DataW H) (Pl : Nat → List MemPlace), cs = [.slice (some a) len cap] ∧ base ≤ a.block ∧ len ≤ cap ∧ cap ≤ maxLen ∧ m = (if spare a.block then cap else len) ∧
      x = (.slice ((List.range len).map D) ((List.range (m - len)).map fun j => D (len + j)), MemPlace.row a (m * fs.size) ++ (List.range m).flatMap Pl) ∧
      ∀ i, i < m → ∃ (ys : List (DataW H × List MemPlace)) (n : Nat), D i = .agg (ys.map (·.1)) ∧ Pl i = ys.flatMap (·.2) ∧ ys.length = fs.size ∧
        ∀ (j : Nat) (f : Field), fs[j]? = some f → ∃ (v : Value) (y : DataW H × List MemPlace), w.cell? (a.add (i * fs.size + j)) = some v ∧ ys[j]? = some y ∧ DataW.trod enc P w base spare held n f.type [v] = some y := by
  rcases open_slice ht h with h0 | ⟨a, len, cap, m, n, D, Pl, hcs, hb, hl, hm, hmm, hx, hi⟩
  · exact .inl h0
  · refine .inr ⟨a, len, cap, m, D, Pl, hcs, hb, hl, hm, hmm, by rw [hC] at hx; exact hx, fun i him => ?_⟩
    obtain ⟨cs', hc, ht'⟩ := hi i him
    rw [hC] at hc
    obtain ⟨ys, n', hn', hy, hlen, hyl, hf⟩ := DataW.trod_struct he ht'
    obtain ⟨_, hcl, hat⟩ := World.cells?_some hc
    simp only [Prod.mk.injEq] at hy
    refine ⟨ys, n', hy.1, hy.2, hyl, fun j f hj => ?_⟩
    obtain ⟨ho, hk⟩ := hone_of hone j f hj
    have hjl : j < fs.size := (Array.getElem?_eq_some_iff.1 hj).1
    have hcell := hat j hjl
    have hv : cs'[j]? = some (cs'[j]'(by omega)) := List.getElem?_eq_getElem (by omega)
    have h1 := hf j f hj
    rw [ho, hk] at h1
    have hone' : (cs'.drop j).take 1 = [cs'[j]'(by omega)] := by
      rw [List.drop_eq_getElem_cons (by omega)]
      rfl
    rw [hone'] at h1
    have hys : ys[j]? = some (ys[j]'(by omega)) := List.getElem?_eq_getElem (by omega)
    refine ⟨_, _, ?_, hys, h1.trans hys⟩
    rw [← Go.Deep.add_add, hcell, hv]

theorem flatMap_at {α β : Type} (f : α → List β) (k : Nat) (hk : 0 < k) (hf : ∀ x, (f x).length = k) : ∀ (l : List α) (m : Nat), (l.flatMap f)[m]? = (l[m / k]?).bind fun x => (f x)[m % k]?
  | [], m => by simp
  | x :: l, m => by
    rw [List.flatMap_cons, List.getElem?_append, hf x]
    by_cases h : m < k
    · rw [if_pos h, Nat.div_eq_of_lt h, Nat.mod_eq_of_lt h]; simp
    · rw [if_neg h, flatMap_at f k hk hf l (m - k)]
      have h1 : m / k = (m - k) / k + 1 := by rw [Nat.div_eq_sub_div hk (by omega)]
      have h2 : m % k = (m - k) % k := by rw [Nat.mod_eq_sub_mod (by omega)]
      rw [h1, h2, List.getElem?_cons_succ]

end
end Go.Proofs.YtikimmgileffgaaGreatDoor
end
