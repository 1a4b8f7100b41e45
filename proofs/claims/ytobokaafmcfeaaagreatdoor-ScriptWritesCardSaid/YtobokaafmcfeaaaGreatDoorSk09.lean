/-
  DERIVED: THE SHELF's CONTRACTS AT THIS DUMP, IN PLAIN WORDS (tools/lay-plain.mjs out of 'TryzShelf.lean', which tools/lay-shelf.mjs wrote): THE SAME DECLARATIONS UNDER THE SAME NAMES: 'import', 'namespace', 'open', 'def', 'theorem' AND NOTHING ELSE: no command of the shelf's: FOR A HAND-IN. Each laying: the table of numbers ('.._ren') and one theorem, a field a fact of the dump's own or the kernel's comparison; each contract: ONE APPLICATION.
-/
import Derived.Shelf.Strings.Builder1
import Derived.Shelf.Strings.Builder2
import Derived.Shelf.Strings.OnBuilder
import Derived.Shelf.Strings.Trim
import Derived.Shelf.Small.Utf8
import Derived.Shelf.Small.Bits
import Derived.Shelf.Small.Strs
import Derived.Shelf.Small.Wraps
import Derived.Shelf.Strings.BuilderF
import Derived.Shelf.Strings.BuilderK
import Derived.Shelf.Strings.Builder2Cap
import Derived.Shelf.Strconv.Itoa0
import Derived.Shelf.Strconv.Itoa1
import Derived.Shelf.LaysM
import Derived.Shelf.Strconv.Itoa2
import Derived.Shelf.Strconv.Itoa3
import Derived.Shelf.Strconv.Clone
import Derived.Shelf.Strconv.SyntaxError
import Derived.Shelf.LaysC
import Derived.Shelf.Strconv.ToError
import Derived.Shelf.Strconv.Lower
import Derived.Shelf.Strconv.ParseUint10
import Derived.Shelf.Strconv.ParseUint10Empty
import Derived.Shelf.Strconv.ParseUint10Any
import Derived.Shelf.Strconv.RangeError
import Derived.Shelf.Strconv.ToErrorRange
import Derived.Shelf.Strconv.ParseUintEmpty
import Derived.Shelf.Strconv.ParseUint10b64
import Derived.Shelf.Strconv.ParseUint10b32
import Derived.Shelf.Strconv.ParseUint10b16
import Derived.Shelf.Strconv.ParseUint10b8
import Derived.Shelf.Strconv.ParseUint10At
import Derived.Ground.MpProg
import Derived.Shelf.Pu.ParseUintPublic10
import Derived.Shelf.Pu.ErrVarParseUint
import Derived.Shelf.Strings.Search1
import Derived.Shelf.Strings.Search2
import Derived.Shelf.Strings.Search3
import Derived.Shelf.Strings.Count
import Derived.Shelf.Strings.Shaped
import Derived.Shelf.Strings.Prefix
import Derived.Shelf.Unicode.Decode
import Derived.Shelf.Strings.Runes
import Derived.Shelf.Strings.AsciiSet
import Derived.Shelf.Bits.Mul64
import Derived.Shelf.Strings.Repeat
import Derived.Shelf.Unicode.DecodeSlow
import Derived.Shelf.Unicode.DecodeAny
import Derived.Shelf.Unicode.DecodeLast
import Derived.Shelf.Strings.BuilderCap
import Derived.Ground.Names2Prog
import Derived.Shelf.Slices.ReverseS
import Derived.Shelf.Slices.SearchI
import Derived.Shelf.Slices.Cells
import Derived.Test.YtobokaafmcfeaaaGreatDoorProg
namespace Go.Proofs
open Go.Shelf
def Tryz.lays161_ren : Go.Shelf.Ren := ⟨fun | 161 => 223 | 231 => 259 | 227 => 164 | 233 => 260 | 235 => 261 | 228 => 233 | 197 => 268 | 151 => 235 | 260 => 284 | 152 => 269 | 137 => 285 | 119 => 286 | 224 => 287 | 225 => 288 | 217 => 300 | 266 => 304 | n => n, fun | 9 => 9 | 4 => 4 | 3 => 3 | 5 => 5 | 117 => 221 | 116 => 220 | 0 => 0 | 124 => 224 | 105 => 285 | 21 => 21 | 119 => 339 | 46 => 48 | 139 => 342 | 138 => 341 | n => n, fun | 3 => 9 | 4 => 10 | n => n⟩
theorem Tryz.lays161 : Go.Proofs.Lays.n161 Tryz.prog Tryz.lays161_ren := {
  mixed := by kernel_rfl
  f119 := Tryz.func286.trans (congrArg some (by kernel_rfl))
  f137 := Tryz.func285.trans (congrArg some (by kernel_rfl))
  f151 := Tryz.func235.trans (congrArg some (by kernel_rfl))
  f152 := Tryz.func269.trans (congrArg some (by kernel_rfl))
  f161 := Tryz.func223.trans (congrArg some (by kernel_rfl))
  f197 := Tryz.func268.trans (congrArg some (by kernel_rfl))
  f217 := Tryz.func300.trans (congrArg some (by kernel_rfl))
  f224 := Tryz.func287.trans (congrArg some (by kernel_rfl))
  f225 := Tryz.func288.trans (congrArg some (by kernel_rfl))
  f227 := Tryz.func164.trans (congrArg some (by kernel_rfl))
  f228 := Tryz.func233.trans (congrArg some (by kernel_rfl))
  f231 := Tryz.func259.trans (congrArg some (by kernel_rfl))
  f233 := Tryz.func260.trans (congrArg some (by kernel_rfl))
  f235 := Tryz.func261.trans (congrArg some (by kernel_rfl))
  f260 := Tryz.func284.trans (congrArg some (by kernel_rfl))
  f266 := Tryz.func304.trans (congrArg some (by kernel_rfl))
  t0 := Tryz.underlying0
  a0 := Tryz.isAgg0
  z0 := Tryz.sizeOf0
  v0 := Tryz.zeroValue0
  t3 := Tryz.underlying3
  a3 := Tryz.isAgg3
  z3 := Tryz.sizeOf3
  v3 := Tryz.zeroValue3
  t4 := Tryz.underlying4
  a4 := Tryz.isAgg4
  z4 := Tryz.sizeOf4
  v4 := Tryz.zeroValue4
  t5 := Tryz.underlying5
  a5 := Tryz.isAgg5
  z5 := Tryz.sizeOf5
  v5 := Tryz.zeroValue5
  t9 := Tryz.underlying9
  a9 := Tryz.isAgg9
  z9 := Tryz.sizeOf9
  v9 := Tryz.zeroValue9
  t21 := Tryz.underlying21
  a21 := Tryz.isAgg21
  z21 := Tryz.sizeOf21
  v21 := Tryz.zeroValue21
  t46 := Tryz.underlying48
  a46 := Tryz.isAgg48
  z46 := Tryz.sizeOf48
  v46 := Tryz.zeroValue48
  t105 := Tryz.underlying285
  a105 := Tryz.isAgg285
  z105 := Tryz.sizeOf285
  v105 := Tryz.zeroValue285
  t116 := Tryz.underlying220
  a116 := Tryz.isAgg220
  z116 := Tryz.sizeOf220
  t117 := Tryz.underlying221
  a117 := Tryz.isAgg221
  z117 := Tryz.sizeOf221
  v117 := Tryz.zeroValue221
  t119 := Tryz.underlying339
  a119 := Tryz.isAgg339
  z119 := Tryz.sizeOf339
  t124 := Tryz.underlying224
  a124 := Tryz.isAgg224
  z124 := Tryz.sizeOf224
  v124 := Tryz.zeroValue224
  t138 := Tryz.underlying341
  a138 := Tryz.isAgg341
  z138 := Tryz.sizeOf341
  v138 := Tryz.zeroValue341
  t139 := Tryz.underlying342
  a139 := Tryz.isAgg342
  z139 := Tryz.sizeOf342
  v139 := Tryz.zeroValue342
  g3 := by kernel_rfl
  g4 := by kernel_rfl }
open Go.RowKit in
/-- strings.TrimLeft: "TrimLeft returns a slice of the string s with all leading Unicode code points contained in cutset removed.": AT A cutset OF ONE ASCII BYTE. The world is as it was. (LAID: no walk: one application.) -/
theorem Tryz.strings_TrimLeft_one (s : ByteArray) (c : UInt8) (hc : c.toNat < 128) (w : World) :
    Calls Tryz.prog 223 #[.string s, .string ⟨#[c]⟩] w fun e w' => e = .returned (.string ⟨(Lib.trimLeftB s.data.toList c).toArray⟩) ∧ w' = w := Any.strings_TrimLeft_one Tryz.lays161 s c hc w
def Tryz.lays162_ren : Go.Shelf.Ren := ⟨fun | 162 => 76 | 232 => 163 | 227 => 164 | 234 => 165 | 236 => 166 | 228 => 233 | 271 => 234 | 151 => 235 | 120 => 267 | 197 => 268 | 152 => 269 | 260 => 284 | 137 => 285 | 119 => 286 | 224 => 287 | 225 => 288 | 217 => 300 | 266 => 304 | n => n, fun | 9 => 9 | 4 => 4 | 3 => 3 | 5 => 5 | 117 => 221 | 116 => 220 | 0 => 0 | 124 => 224 | 21 => 21 | 105 => 285 | 46 => 48 | 119 => 339 | 139 => 342 | 138 => 341 | n => n, fun | 3 => 9 | 4 => 10 | n => n⟩
theorem Tryz.lays162 : Go.Proofs.Lays.n162 Tryz.prog Tryz.lays162_ren := {
  mixed := by kernel_rfl
  f119 := Tryz.func286.trans (congrArg some (by kernel_rfl))
  f120 := Tryz.func267.trans (congrArg some (by kernel_rfl))
  f137 := Tryz.func285.trans (congrArg some (by kernel_rfl))
  f151 := Tryz.func235.trans (congrArg some (by kernel_rfl))
  f152 := Tryz.func269.trans (congrArg some (by kernel_rfl))
  f162 := Tryz.func76.trans (congrArg some (by kernel_rfl))
  f197 := Tryz.func268.trans (congrArg some (by kernel_rfl))
  f217 := Tryz.func300.trans (congrArg some (by kernel_rfl))
  f224 := Tryz.func287.trans (congrArg some (by kernel_rfl))
  f225 := Tryz.func288.trans (congrArg some (by kernel_rfl))
  f227 := Tryz.func164.trans (congrArg some (by kernel_rfl))
  f228 := Tryz.func233.trans (congrArg some (by kernel_rfl))
  f232 := Tryz.func163.trans (congrArg some (by kernel_rfl))
  f234 := Tryz.func165.trans (congrArg some (by kernel_rfl))
  f236 := Tryz.func166.trans (congrArg some (by kernel_rfl))
  f260 := Tryz.func284.trans (congrArg some (by kernel_rfl))
  f266 := Tryz.func304.trans (congrArg some (by kernel_rfl))
  f271 := Tryz.func234.trans (congrArg some (by kernel_rfl))
  t0 := Tryz.underlying0
  a0 := Tryz.isAgg0
  z0 := Tryz.sizeOf0
  v0 := Tryz.zeroValue0
  t3 := Tryz.underlying3
  a3 := Tryz.isAgg3
  z3 := Tryz.sizeOf3
  v3 := Tryz.zeroValue3
  t4 := Tryz.underlying4
  a4 := Tryz.isAgg4
  z4 := Tryz.sizeOf4
  v4 := Tryz.zeroValue4
  t5 := Tryz.underlying5
  a5 := Tryz.isAgg5
  z5 := Tryz.sizeOf5
  v5 := Tryz.zeroValue5
  t9 := Tryz.underlying9
  a9 := Tryz.isAgg9
  z9 := Tryz.sizeOf9
  v9 := Tryz.zeroValue9
  t21 := Tryz.underlying21
  a21 := Tryz.isAgg21
  z21 := Tryz.sizeOf21
  v21 := Tryz.zeroValue21
  t46 := Tryz.underlying48
  a46 := Tryz.isAgg48
  z46 := Tryz.sizeOf48
  v46 := Tryz.zeroValue48
  t105 := Tryz.underlying285
  a105 := Tryz.isAgg285
  z105 := Tryz.sizeOf285
  v105 := Tryz.zeroValue285
  t116 := Tryz.underlying220
  a116 := Tryz.isAgg220
  z116 := Tryz.sizeOf220
  t117 := Tryz.underlying221
  a117 := Tryz.isAgg221
  z117 := Tryz.sizeOf221
  v117 := Tryz.zeroValue221
  t119 := Tryz.underlying339
  a119 := Tryz.isAgg339
  z119 := Tryz.sizeOf339
  t124 := Tryz.underlying224
  a124 := Tryz.isAgg224
  z124 := Tryz.sizeOf224
  v124 := Tryz.zeroValue224
  t138 := Tryz.underlying341
  a138 := Tryz.isAgg341
  z138 := Tryz.sizeOf341
  v138 := Tryz.zeroValue341
  t139 := Tryz.underlying342
  a139 := Tryz.isAgg342
  z139 := Tryz.sizeOf342
  v139 := Tryz.zeroValue342
  g3 := by kernel_rfl
  g4 := by kernel_rfl }
open Go.RowKit in
/-- strings.TrimRight: "TrimRight returns a slice of the string s, with all trailing Unicode code points contained in cutset removed.": AT A cutset OF ONE ASCII BYTE. The world is as it was. (LAID: no walk: one application.) -/
theorem Tryz.strings_TrimRight_one (s : ByteArray) (c : UInt8) (hc : c.toNat < 128) (w : World) (hs : s.size ≤ 9223372036854775807) :
    Calls Tryz.prog 76 #[.string s, .string ⟨#[c]⟩] w fun e w' => e = .returned (.string ⟨(Lib.trimRightB s.data.toList c).toArray⟩) ∧ w' = w := Any.strings_TrimRight_one Tryz.lays162 s c hc w hs
def Tryz.lays160_ren : Go.Shelf.Ren := ⟨fun | 160 => 262 | 232 => 163 | 231 => 259 | 227 => 164 | 234 => 165 | 233 => 260 | 236 => 166 | 235 => 261 | 228 => 233 | 271 => 234 | 151 => 235 | 197 => 268 | 120 => 267 | 152 => 269 | 260 => 284 | 137 => 285 | 119 => 286 | 224 => 287 | 225 => 288 | 217 => 300 | 266 => 304 | n => n, fun | 9 => 9 | 4 => 4 | 3 => 3 | 5 => 5 | 117 => 221 | 116 => 220 | 0 => 0 | 124 => 224 | 21 => 21 | 105 => 285 | 46 => 48 | 119 => 339 | 139 => 342 | 138 => 341 | n => n, fun | 3 => 9 | 4 => 10 | n => n⟩
theorem Tryz.lays160 : Go.Proofs.Lays.n160 Tryz.prog Tryz.lays160_ren := {
  mixed := by kernel_rfl
  f119 := Tryz.func286.trans (congrArg some (by kernel_rfl))
  f120 := Tryz.func267.trans (congrArg some (by kernel_rfl))
  f137 := Tryz.func285.trans (congrArg some (by kernel_rfl))
  f151 := Tryz.func235.trans (congrArg some (by kernel_rfl))
  f152 := Tryz.func269.trans (congrArg some (by kernel_rfl))
  f160 := Tryz.func262.trans (congrArg some (by kernel_rfl))
  f197 := Tryz.func268.trans (congrArg some (by kernel_rfl))
  f217 := Tryz.func300.trans (congrArg some (by kernel_rfl))
  f224 := Tryz.func287.trans (congrArg some (by kernel_rfl))
  f225 := Tryz.func288.trans (congrArg some (by kernel_rfl))
  f227 := Tryz.func164.trans (congrArg some (by kernel_rfl))
  f228 := Tryz.func233.trans (congrArg some (by kernel_rfl))
  f231 := Tryz.func259.trans (congrArg some (by kernel_rfl))
  f232 := Tryz.func163.trans (congrArg some (by kernel_rfl))
  f233 := Tryz.func260.trans (congrArg some (by kernel_rfl))
  f234 := Tryz.func165.trans (congrArg some (by kernel_rfl))
  f235 := Tryz.func261.trans (congrArg some (by kernel_rfl))
  f236 := Tryz.func166.trans (congrArg some (by kernel_rfl))
  f260 := Tryz.func284.trans (congrArg some (by kernel_rfl))
  f266 := Tryz.func304.trans (congrArg some (by kernel_rfl))
  f271 := Tryz.func234.trans (congrArg some (by kernel_rfl))
  t0 := Tryz.underlying0
  a0 := Tryz.isAgg0
  z0 := Tryz.sizeOf0
  v0 := Tryz.zeroValue0
  t3 := Tryz.underlying3
  a3 := Tryz.isAgg3
  z3 := Tryz.sizeOf3
  v3 := Tryz.zeroValue3
  t4 := Tryz.underlying4
  a4 := Tryz.isAgg4
  z4 := Tryz.sizeOf4
  v4 := Tryz.zeroValue4
  t5 := Tryz.underlying5
  a5 := Tryz.isAgg5
  z5 := Tryz.sizeOf5
  v5 := Tryz.zeroValue5
  t9 := Tryz.underlying9
  a9 := Tryz.isAgg9
  z9 := Tryz.sizeOf9
  v9 := Tryz.zeroValue9
  t21 := Tryz.underlying21
  a21 := Tryz.isAgg21
  z21 := Tryz.sizeOf21
  v21 := Tryz.zeroValue21
  t46 := Tryz.underlying48
  a46 := Tryz.isAgg48
  z46 := Tryz.sizeOf48
  v46 := Tryz.zeroValue48
  t105 := Tryz.underlying285
  a105 := Tryz.isAgg285
  z105 := Tryz.sizeOf285
  v105 := Tryz.zeroValue285
  t116 := Tryz.underlying220
  a116 := Tryz.isAgg220
  z116 := Tryz.sizeOf220
  t117 := Tryz.underlying221
  a117 := Tryz.isAgg221
  z117 := Tryz.sizeOf221
  v117 := Tryz.zeroValue221
  t119 := Tryz.underlying339
  a119 := Tryz.isAgg339
  z119 := Tryz.sizeOf339
  t124 := Tryz.underlying224
  a124 := Tryz.isAgg224
  z124 := Tryz.sizeOf224
  v124 := Tryz.zeroValue224
  t138 := Tryz.underlying341
  a138 := Tryz.isAgg341
  z138 := Tryz.sizeOf341
  v138 := Tryz.zeroValue341
  t139 := Tryz.underlying342
  a139 := Tryz.isAgg342
  z139 := Tryz.sizeOf342
  v139 := Tryz.zeroValue342
  g3 := by kernel_rfl
  g4 := by kernel_rfl }
def Tryz.lays134_ren : Go.Shelf.Ren := ⟨fun | 134 => 250 | 129 => 155 | n => n, fun | 53 => 22 | 3 => 3 | 4 => 4 | 46 => 48 | 5 => 5 | 9 => 9 | n => n, fun | n => n⟩
theorem Tryz.lays134 : Go.Proofs.Lays.n134 Tryz.prog Tryz.lays134_ren := {
  mixed := by kernel_rfl
  f129 := Tryz.func155.trans (congrArg some (by kernel_rfl))
  f134 := Tryz.func250.trans (congrArg some (by kernel_rfl))
  t3 := Tryz.underlying3
  a3 := Tryz.isAgg3
  z3 := Tryz.sizeOf3
  v3 := Tryz.zeroValue3
  t4 := Tryz.underlying4
  a4 := Tryz.isAgg4
  z4 := Tryz.sizeOf4
  v4 := Tryz.zeroValue4
  t5 := Tryz.underlying5
  a5 := Tryz.isAgg5
  z5 := Tryz.sizeOf5
  v5 := Tryz.zeroValue5
  t9 := Tryz.underlying9
  a9 := Tryz.isAgg9
  z9 := Tryz.sizeOf9
  v9 := Tryz.zeroValue9
  t46 := Tryz.underlying48
  a46 := Tryz.isAgg48
  z46 := Tryz.sizeOf48
  v46 := Tryz.zeroValue48
  t53 := Tryz.underlying22
  a53 := Tryz.isAgg22
  z53 := Tryz.sizeOf22
  v53 := Tryz.zeroValue22 }
/-- bits.LeadingZeros64: "LeadingZeros64 returns the number of leading zero bits in x; the result is 64 for x == 0.": IT RETURNS '64 - Lib.bitLen x'; the world is as it was. ITS CALLEE bits.Len64 IS MET BY ITS OWN CONTRACT OFF THE SHELF (lay that first): entered in place it sends the kernel out of memory. (LAID: no walk: one application.) -/
theorem Tryz.bits_LeadingZeros64 (x : Int) (w : World) (h0 : 0 ≤ x) (h1 : x ≤ 18446744073709551615) :
    Calls Tryz.prog 250 #[.int .u64 x] w fun e w' => e = .returned (.int .i64 (64 - (Lib.bitLen x.toNat : Int))) ∧ w' = w := Any.bits_LeadingZeros64 Tryz.lays134 x w h0 h1
def Tryz.lays129_ren : Go.Shelf.Ren := ⟨fun | 129 => 155 | n => n, fun | 53 => 22 | 3 => 3 | 4 => 4 | 46 => 48 | 5 => 5 | 9 => 9 | n => n, fun | n => n⟩
theorem Tryz.lays129 : Go.Proofs.Lays.n129 Tryz.prog Tryz.lays129_ren := {
  mixed := by kernel_rfl
  f129 := Tryz.func155.trans (congrArg some (by kernel_rfl))
  t3 := Tryz.underlying3
  a3 := Tryz.isAgg3
  z3 := Tryz.sizeOf3
  v3 := Tryz.zeroValue3
  t4 := Tryz.underlying4
  a4 := Tryz.isAgg4
  z4 := Tryz.sizeOf4
  v4 := Tryz.zeroValue4
  t5 := Tryz.underlying5
  a5 := Tryz.isAgg5
  z5 := Tryz.sizeOf5
  v5 := Tryz.zeroValue5
  t9 := Tryz.underlying9
  a9 := Tryz.isAgg9
  z9 := Tryz.sizeOf9
  v9 := Tryz.zeroValue9
  t46 := Tryz.underlying48
  a46 := Tryz.isAgg48
  z46 := Tryz.sizeOf48
  v46 := Tryz.zeroValue48
  t53 := Tryz.underlying22
  a53 := Tryz.isAgg22
  z53 := Tryz.sizeOf22
  v53 := Tryz.zeroValue22 }
/-- bits.Len64: "Len64 returns the minimum number of bits required to represent x; the result is 0 for x == 0.": IT RETURNS 'Lib.bitLen x'; the world is as it was. ('h0', 'h1': x is a uint64.) (LAID: no walk: one application.) -/
theorem Tryz.bits_Len64 (x : Int) (w : World) (h0 : 0 ≤ x) (h1 : x ≤ 18446744073709551615) :
    Calls Tryz.prog 155 #[.int .u64 x] w fun e w' => e = .returned (.int .i64 (Lib.bitLen x.toNat)) ∧ w' = w := Any.bits_Len64 Tryz.lays129 x w h0 h1
def Tryz.laysPu14_ren : Go.Shelf.Ren := ⟨fun | 14 => 263 | 16 => 281 | 17 => 282 | 19 => 294 | 20 => 295 | 21 => 296 | 22 => 297 | 23 => 298 | 24 => 299 | 25 => 302 | 27 => 112 | 26 => 303 | 28 => 205 | 29 => 252 | 30 => 246 | 31 => 247 | 32 => 248 | 33 => 249 | 35 => 155 | 34 => 274 | 36 => 275 | 37 => 276 | 38 => 277 | 39 => 292 | 40 => 293 | n => n, fun | 9 => 9 | 3 => 3 | 22 => 22 | 24 => 213 | 25 => 309 | 4 => 4 | 34 => 333 | 5 => 5 | 36 => 48 | 37 => 42 | 0 => 0 | 39 => 336 | 21 => 21 | 44 => 347 | 47 => 283 | 50 => 352 | 48 => 350 | 2 => 2 | 52 => 295 | 55 => 297 | 59 => 319 | 60 => 280 | 20 => 20 | 61 => 320 | 65 => 343 | 66 => 344 | 67 => 217 | n => n, fun | 0 => 13 | 1 => 14 | 2 => 7 | 3 => 11 | 4 => 12 | n => n⟩
theorem Tryz.laysPu14 : Go.Proofs.LaysPu.n14 Tryz.prog Tryz.laysPu14_ren := {
  mixed := by kernel_rfl
  f14 := Tryz.func263.trans (congrArg some (by kernel_rfl))
  f16 := Tryz.func281.trans (congrArg some (by kernel_rfl))
  f17 := Tryz.func282.trans (congrArg some (by kernel_rfl))
  f19 := Tryz.func294.trans (congrArg some (by kernel_rfl))
  f20 := Tryz.func295.trans (congrArg some (by kernel_rfl))
  f21 := Tryz.func296.trans (congrArg some (by kernel_rfl))
  f22 := Tryz.func297.trans (congrArg some (by kernel_rfl))
  f23 := Tryz.func298.trans (congrArg some (by kernel_rfl))
  f24 := Tryz.func299.trans (congrArg some (by kernel_rfl))
  f25 := Tryz.func302.trans (congrArg some (by kernel_rfl))
  f26 := Tryz.func303.trans (congrArg some (by kernel_rfl))
  f27 := Tryz.func112.trans (congrArg some (by kernel_rfl))
  f28 := Tryz.func205.trans (congrArg some (by kernel_rfl))
  f29 := Tryz.func252.trans (congrArg some (by kernel_rfl))
  f30 := Tryz.func246.trans (congrArg some (by kernel_rfl))
  f31 := Tryz.func247.trans (congrArg some (by kernel_rfl))
  f32 := Tryz.func248.trans (congrArg some (by kernel_rfl))
  f33 := Tryz.func249.trans (congrArg some (by kernel_rfl))
  f34 := Tryz.func274.trans (congrArg some (by kernel_rfl))
  f35 := Tryz.func155.trans (congrArg some (by kernel_rfl))
  f36 := Tryz.func275.trans (congrArg some (by kernel_rfl))
  f37 := Tryz.func276.trans (congrArg some (by kernel_rfl))
  f38 := Tryz.func277.trans (congrArg some (by kernel_rfl))
  f39 := Tryz.func292.trans (congrArg some (by kernel_rfl))
  f40 := Tryz.func293.trans (congrArg some (by kernel_rfl))
  t0 := Tryz.underlying0
  a0 := Tryz.isAgg0
  z0 := Tryz.sizeOf0
  v0 := Tryz.zeroValue0
  i0 := by kernel_rfl
  t2 := Tryz.underlying2
  a2 := Tryz.isAgg2
  z2 := Tryz.sizeOf2
  v2 := Tryz.zeroValue2
  i2 := by kernel_rfl
  t3 := Tryz.underlying3
  a3 := Tryz.isAgg3
  z3 := Tryz.sizeOf3
  v3 := Tryz.zeroValue3
  i3 := by kernel_rfl
  t4 := Tryz.underlying4
  a4 := Tryz.isAgg4
  z4 := Tryz.sizeOf4
  v4 := Tryz.zeroValue4
  i4 := by kernel_rfl
  t5 := Tryz.underlying5
  a5 := Tryz.isAgg5
  z5 := Tryz.sizeOf5
  v5 := Tryz.zeroValue5
  i5 := by kernel_rfl
  t9 := Tryz.underlying9
  a9 := Tryz.isAgg9
  z9 := Tryz.sizeOf9
  v9 := Tryz.zeroValue9
  i9 := by kernel_rfl
  t20 := Tryz.underlying20
  a20 := Tryz.isAgg20
  z20 := Tryz.sizeOf20
  v20 := Tryz.zeroValue20
  i20 := by kernel_rfl
  t21 := Tryz.underlying21
  a21 := Tryz.isAgg21
  z21 := Tryz.sizeOf21
  v21 := Tryz.zeroValue21
  i21 := by kernel_rfl
  t22 := Tryz.underlying22
  a22 := Tryz.isAgg22
  z22 := Tryz.sizeOf22
  v22 := Tryz.zeroValue22
  i22 := by kernel_rfl
  t24 := Tryz.underlying213
  a24 := Tryz.isAgg213
  z24 := Tryz.sizeOf213
  v24 := Tryz.zeroValue213
  i24 := by kernel_rfl
  t25 := Tryz.underlying309
  a25 := Tryz.isAgg309
  z25 := Tryz.sizeOf309
  v25 := Tryz.zeroValue309
  i25 := by kernel_rfl
  t34 := Tryz.underlying333
  a34 := Tryz.isAgg333
  z34 := Tryz.sizeOf333
  v34 := Tryz.zeroValue333
  i34 := by kernel_rfl
  c34 := by kernel_rfl
  t36 := Tryz.underlying48
  a36 := Tryz.isAgg48
  z36 := Tryz.sizeOf48
  v36 := Tryz.zeroValue48
  i36 := by kernel_rfl
  t37 := Tryz.underlying42
  a37 := Tryz.isAgg42
  z37 := Tryz.sizeOf42
  v37 := Tryz.zeroValue42
  i37 := by kernel_rfl
  t39 := Tryz.underlying336
  a39 := Tryz.isAgg336
  z39 := Tryz.sizeOf336
  v39 := Tryz.zeroValue336
  i39 := by kernel_rfl
  t44 := Tryz.underlying347
  a44 := Tryz.isAgg347
  z44 := Tryz.sizeOf347
  v44 := Tryz.zeroValue347
  i44 := by kernel_rfl
  t47 := Tryz.underlying283
  a47 := Tryz.isAgg283
  z47 := Tryz.sizeOf283
  v47 := Tryz.zeroValue283
  i47 := by kernel_rfl
  t48 := Tryz.underlying350
  a48 := Tryz.isAgg350
  z48 := Tryz.sizeOf350
  v48 := Tryz.zeroValue350
  i48 := by kernel_rfl
  t50 := Tryz.underlying352
  a50 := Tryz.isAgg352
  z50 := Tryz.sizeOf352
  v50 := Tryz.zeroValue352
  i50 := by kernel_rfl
  t52 := Tryz.underlying295
  a52 := Tryz.isAgg295
  z52 := Tryz.sizeOf295
  v52 := Tryz.zeroValue295
  i52 := by kernel_rfl
  t55 := Tryz.underlying297
  a55 := Tryz.isAgg297
  z55 := Tryz.sizeOf297
  v55 := Tryz.zeroValue297
  i55 := by kernel_rfl
  t59 := Tryz.underlying319
  a59 := Tryz.isAgg319
  z59 := Tryz.sizeOf319
  v59 := Tryz.zeroValue319
  i59 := by kernel_rfl
  t60 := Tryz.underlying280
  a60 := Tryz.isAgg280
  z60 := Tryz.sizeOf280
  v60 := Tryz.zeroValue280
  i60 := by kernel_rfl
  t61 := Tryz.underlying320
  a61 := Tryz.isAgg320
  z61 := Tryz.sizeOf320
  t65 := Tryz.underlying343
  a65 := Tryz.isAgg343
  z65 := Tryz.sizeOf343
  v65 := Tryz.zeroValue343
  i65 := by kernel_rfl
  t66 := Tryz.underlying344
  a66 := Tryz.isAgg344
  z66 := Tryz.sizeOf344
  v66 := Tryz.zeroValue344
  i66 := by kernel_rfl
  t67 := Tryz.underlying217
  a67 := Tryz.isAgg217
  z67 := Tryz.sizeOf217
  v67 := Tryz.zeroValue217
  i67 := by kernel_rfl
  g0 := by kernel_rfl
  m0 := by kernel_rfl
  g1 := by kernel_rfl
  m1 := by kernel_rfl
  g2 := by kernel_rfl
  m2 := by kernel_rfl
  g3 := by kernel_rfl
  m3 := by kernel_rfl
  g4 := by kernel_rfl
  m4 := by kernel_rfl }
open Go.RowKit in
/-- strconv.ParseUint(s, 10, 64), AT EVERY STRING THAT SPELLS A uint64 ('Lib.parseUintB 64 s.data.toList = .ok u'): u, AND NO ERROR. (LAID: no walk: one application.) -/
theorem Tryz.strconv_ParseUint_10_at64_ok (s : ByteArray) (hmax : s.size ≤ 9223372036854775806) (u : Nat) (h : Lib.parseUintB 64 s.data.toList = .ok u) (w : World) :
    Calls Tryz.prog 263 #[.string s, .int .i64 10, .int .i64 64] w fun e w' => e = .returned (.tuple #[.int .u64 u, .nilIface]) ∧ (w' = w ∨ w' = Lib.bytesWorld w 5 s) := Any.strconv_ParseUint_10_at64_ok Tryz.laysPu14 s hmax u h w
def Tryz.lays99_ren : Go.Shelf.Ren := ⟨fun | 99 => 130 | 206 => 220 | n => n, fun | 9 => 9 | 4 => 4 | 3 => 3 | n => n, fun | n => n⟩
theorem Tryz.lays99 : Go.Proofs.Lays.n99 Tryz.prog Tryz.lays99_ren := {
  mixed := by kernel_rfl
  f99 := Tryz.func130.trans (congrArg some (by kernel_rfl))
  f206 := Tryz.func220.trans (congrArg some (by kernel_rfl))
  t3 := Tryz.underlying3
  a3 := Tryz.isAgg3
  z3 := Tryz.sizeOf3
  v3 := Tryz.zeroValue3
  t4 := Tryz.underlying4
  a4 := Tryz.isAgg4
  z4 := Tryz.sizeOf4
  v4 := Tryz.zeroValue4
  t9 := Tryz.underlying9
  a9 := Tryz.isAgg9
  z9 := Tryz.sizeOf9
  v9 := Tryz.zeroValue9 }
open Go.RowKit Go.Lib in
/-- strings.HasPrefix: "HasPrefix reports whether the string s begins with prefix.": IT RETURNS 'Lib.hasPrefix s prefix'; the world is as it was. (LAID: no walk: one application.) -/
theorem Tryz.strings_HasPrefix (s p : ByteArray) (w : World) :
    Calls Tryz.prog 130 #[.string s, .string p] w fun e w' => e = .returned (.bool (Lib.hasPrefix s.data.toList p.data.toList)) ∧ w' = w := Any.strings_HasPrefix Tryz.lays99 s p w
def Tryz.lays264_ren : Go.Shelf.Ren := ⟨fun | 264 => 156 | n => n, fun | 53 => 22 | 46 => 48 | n => n, fun | n => n⟩
theorem Tryz.lays264 : Go.Proofs.Lays.n264 Tryz.prog Tryz.lays264_ren := {
  mixed := by kernel_rfl
  f264 := Tryz.func156.trans (congrArg some (by kernel_rfl))
  t46 := Tryz.underlying48
  a46 := Tryz.isAgg48
  z46 := Tryz.sizeOf48
  v46 := Tryz.zeroValue48
  t53 := Tryz.underlying22
  a53 := Tryz.isAgg22
  z53 := Tryz.sizeOf22
  v53 := Tryz.zeroValue22 }
open Go.RowKit Go.Lib in
theorem Tryz.bits_Mul64 (x y : Nat) (hx : x < 18446744073709551616) (hy : y < 18446744073709551616) (w : World) :
    Calls Tryz.prog 156 #[.int .u64 x, .int .u64 y] w fun e w' => e = .returned (.tuple #[.int .u64 ((x * y / 18446744073709551616 : Nat) : Int), .int .u64 ((x * y % 18446744073709551616 : Nat) : Int)]) ∧ w' = w := Any.bits_Mul64 Tryz.lays264 x y hx hy w
end Go.Proofs
