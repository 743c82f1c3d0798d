/-
  DERIVED: THE SHELF's CONTRACTS AT THIS DUMP, IN PLAIN WORDS (tools/lay-plain.mjs out of 'YtpognhdhlbgliaaGreatDoorShelf.lean', which tools/lay-shelf.mjs wrote): THE SAME DECLARATIONS UNDER THE SAME NAMES: 'import', 'namespace', 'open', 'def', 'theorem' AND NOTHING ELSE: no command of the shelf's: FOR A HAND-IN. Each laying: the table of numbers ('.._ren') and one theorem, a field a fact of the dump's own or the kernel's comparison; each contract: ONE APPLICATION.
-/
import Derived.Shelf.Strings.Builder1
import Derived.Shelf.Strings.Builder2
import Derived.Shelf.Strings.OnBuilder
import Derived.Shelf.Small.Utf8
import Derived.Shelf.Small.Bits
import Derived.Shelf.Small.Strs
import Derived.Shelf.Small.Wraps
import Derived.Shelf.Strings.BuilderF
import Derived.Shelf.Strings.BuilderK
import Derived.Shelf.Strconv.Itoa0
import Derived.Shelf.Strconv.Itoa1
import Derived.Shelf.LaysM
import Derived.Shelf.Strconv.Itoa2
import Derived.Shelf.Strconv.Itoa3
import Derived.Shelf.Strings.Search1
import Derived.Shelf.Strings.Search2
import Derived.Shelf.Strings.Search3
import Derived.Shelf.Strings.Cut
import Derived.Shelf.Strings.Count
import Derived.Shelf.Strings.Prefix
import Derived.Shelf.Strings.Split
import Derived.Shelf.Unicode.Decode
import Derived.Shelf.Strings.Runes
import Derived.Shelf.Strings.RuneCount
import Derived.Shelf.Strings.IndexAny
import Derived.Shelf.Strings.AsciiSet
import Derived.Shelf.Strings.IndexAnyAll
import Derived.Shelf.Strings.BuilderCap
import Derived.Test.YtpognhdhlbgliaaGreatDoorProg
namespace Go.Proofs
open Go.Shelf
def Tryz.lays156_ren : Go.Shelf.Ren := ⟨fun | 156 => 227 | 165 => 290 | 166 => 291 | 169 => 292 | 240 => 339 | 241 => 340 | 276 => 376 | 277 => 377 | n => n, fun | 31 => 169 | 9 => 9 | 3 => 3 | 4 => 4 | 0 => 0 | 20 => 20 | 72 => 364 | 76 => 367 | 70 => 362 | 37 => 37 | 75 => 366 | 127 => 396 | 164 => 415 | 5 => 5 | 80 => 369 | n => n, fun | n => n⟩
theorem Tryz.lays156 : Go.Proofs.Lays.n156 Tryz.prog Tryz.lays156_ren := {
  mixed := by kernel_rfl
  f156 := Tryz.func227.trans (congrArg some (by kernel_rfl))
  f165 := Tryz.func290.trans (congrArg some (by kernel_rfl))
  f166 := Tryz.func291.trans (congrArg some (by kernel_rfl))
  f169 := Tryz.func292.trans (congrArg some (by kernel_rfl))
  f240 := Tryz.func339.trans (congrArg some (by kernel_rfl))
  f241 := Tryz.func340.trans (congrArg some (by kernel_rfl))
  f276 := Tryz.func376.trans (congrArg some (by kernel_rfl))
  f277 := Tryz.func377.trans (congrArg some (by kernel_rfl))
  t0 := Tryz.underlying0
  a0 := Tryz.isAgg0
  z0 := Tryz.sizeOf0
  v0 := Tryz.zeroValue0
  t3 := Tryz.underlying3
  a3 := Tryz.isAgg3
  z3 := Tryz.sizeOf3
  v3 := Tryz.zeroValue3
  t4 := Tryz.underlying4
  a4 := Tryz.isAgg4
  z4 := Tryz.sizeOf4
  v4 := Tryz.zeroValue4
  t9 := Tryz.underlying9
  a9 := Tryz.isAgg9
  z9 := Tryz.sizeOf9
  v9 := Tryz.zeroValue9
  t20 := Tryz.underlying20
  a20 := Tryz.isAgg20
  z20 := Tryz.sizeOf20
  v20 := Tryz.zeroValue20
  t31 := Tryz.underlying169
  a31 := Tryz.isAgg169
  z31 := Tryz.sizeOf169
  v31 := Tryz.zeroValue169
  t37 := Tryz.underlying37
  a37 := Tryz.isAgg37
  z37 := Tryz.sizeOf37
  v37 := Tryz.zeroValue37
  t70 := Tryz.underlying362
  a70 := Tryz.isAgg362
  z70 := Tryz.sizeOf362
  v70 := Tryz.zeroValue362
  t72 := Tryz.underlying364
  a72 := Tryz.isAgg364
  z72 := Tryz.sizeOf364
  v72 := Tryz.zeroValue364
  t75 := Tryz.underlying366
  a75 := Tryz.isAgg366
  z75 := Tryz.sizeOf366
  v75 := Tryz.zeroValue366
  t76 := Tryz.underlying367
  a76 := Tryz.isAgg367
  z76 := Tryz.sizeOf367
  v76 := Tryz.zeroValue367
  t127 := Tryz.underlying396
  a127 := Tryz.isAgg396
  z127 := Tryz.sizeOf396
  v127 := Tryz.zeroValue396
  t164 := Tryz.underlying415
  a164 := Tryz.isAgg415
  z164 := Tryz.sizeOf415
  v164 := Tryz.zeroValue415 }
theorem Tryz.Builder_Extra_156 : Builder.Extra Tryz.prog Tryz.lays156_ren := {
  sizeBuilder := by kernel_rfl
  liesBuilder := by kernel_rfl
  t5 := Tryz.underlying5
  a5 := Tryz.isAgg5
  z5 := Tryz.sizeOf5
  v5 := Tryz.zeroValue5
  infoByte := by kernel_rfl
  cellsByte := by kernel_rfl
  sizeByte := by kernel_rfl
  neB5 := by decide }
open Go.RowKit in
/-- No element: the empty string; the world is as it was. (Whatever the slice's address and capacity: a nil slice too.) (LAID: no walk: one application.) -/
theorem Tryz.strings_Join_none (a : Option Addr) (c : Nat) (sep : ByteArray) (w : World) :
    Calls Tryz.prog 227 #[.slice a 0 c, .string sep] w fun e w' => e = .returned (.string ⟨#[]⟩) ∧ w' = w := Any.strings_Join_none Tryz.lays156 Tryz.Builder_Extra_156 a c sep w
open Go.RowKit in
/-- strings.Join: "Join concatenates the elements of its first argument to create a single string. The separator string sep is placed between elements in the resulting string.": HOWEVER MANY ELEMENTS. Below the heap's end the world is as it was. (LAID: no walk: one application.) -/
theorem Tryz.strings_Join (bk o c : Nat) (xs : List ByteArray) (sep : ByteArray) (w : World) (hcells : ∀ (j : Nat) x, xs[j]? = some x → w.cell? ⟨bk, o + j, none⟩ = some (.string x)) (hbk : bk < w.heap.size) (hN : xs.length ≤ 140737488355328) (hcap : xs.length ≤ c) (hlen : (Lib.join (xs.map (·.data.toList)) sep.data.toList).length ≤ 140737488355328) :
    Calls Tryz.prog 227 #[.slice (some ⟨bk, o, none⟩) xs.length c, .string sep] w fun e w' => e = .returned (.string ⟨(Lib.join (xs.map (·.data.toList)) sep.data.toList).toArray⟩) ∧ Below w.heap.size w w' := Any.strings_Join Tryz.lays156 Tryz.Builder_Extra_156 bk o c xs sep w hcells hbk hN hcap hlen
def Tryz.lays137_ren : Go.Shelf.Ren := ⟨fun | 137 => 256 | 217 => 308 | 266 => 344 | n => n, fun | 9 => 9 | 5 => 5 | 3 => 3 | n => n, fun | n => n⟩
theorem Tryz.lays137 : Go.Proofs.Lays.n137 Tryz.prog Tryz.lays137_ren := {
  mixed := by kernel_rfl
  f137 := Tryz.func256.trans (congrArg some (by kernel_rfl))
  f217 := Tryz.func308.trans (congrArg some (by kernel_rfl))
  f266 := Tryz.func344.trans (congrArg some (by kernel_rfl))
  t3 := Tryz.underlying3
  a3 := Tryz.isAgg3
  z3 := Tryz.sizeOf3
  v3 := Tryz.zeroValue3
  t5 := Tryz.underlying5
  a5 := Tryz.isAgg5
  z5 := Tryz.sizeOf5
  v5 := Tryz.zeroValue5
  t9 := Tryz.underlying9
  a9 := Tryz.isAgg9
  z9 := Tryz.sizeOf9
  v9 := Tryz.zeroValue9 }
open Go.RowKit in
/-- strings.IndexByte: "IndexByte returns the index of the first instance of c in s, or -1 if c is not present in s.": IT RETURNS 'Lib.indexByte s c'; the world is as it was. (LAID: no walk: one application.) -/
theorem Tryz.strings_IndexByte (s : ByteArray) (c : Int) (w : World) :
    Calls Tryz.prog 256 #[.string s, .int .u8 c] w fun e w' => e = .returned (.int .i64 (Lib.indexByte s.data.toList c.toNat.toUInt8)) ∧ w' = w := Any.strings_IndexByte Tryz.lays137 s c w
def Tryz.laysM171_ren : Go.Shelf.Ren := ⟨fun | 171 => 184 | 243 => 266 | 246 => 318 | 283 => 359 | 284 => 360 | 285 => 361 | 286 => 362 | 129 => 335 | 317 => 387 | 318 => 388 | 319 => 389 | 320 => 390 | 337 => 401 | 338 => 402 | n => n, fun | 3 => 3 | 9 => 9 | 2 => 2 | 4 => 4 | 171 => 407 | 0 => 0 | 53 => 22 | 37 => 37 | 5 => 5 | 173 => 409 | 212 => 430 | 51 => 102 | 20 => 20 | 213 => 431 | 46 => 97 | 232 => 442 | 233 => 443 | n => n, fun | 17 => 1 | 18 => 4 | 19 => 5 | n => n⟩
theorem Tryz.laysM171 : Go.Proofs.LaysM.n171 Tryz.prog Tryz.laysM171_ren := {
  mixed := by kernel_rfl
  f129 := Tryz.func335.trans (congrArg some (by kernel_rfl))
  f171 := Tryz.func184.trans (congrArg some (by kernel_rfl))
  f243 := Tryz.func266.trans (congrArg some (by kernel_rfl))
  f246 := Tryz.func318.trans (congrArg some (by kernel_rfl))
  f283 := Tryz.func359.trans (congrArg some (by kernel_rfl))
  f284 := Tryz.func360.trans (congrArg some (by kernel_rfl))
  f285 := Tryz.func361.trans (congrArg some (by kernel_rfl))
  f286 := Tryz.func362.trans (congrArg some (by kernel_rfl))
  f317 := Tryz.func387.trans (congrArg some (by kernel_rfl))
  f318 := Tryz.func388.trans (congrArg some (by kernel_rfl))
  f319 := Tryz.func389.trans (congrArg some (by kernel_rfl))
  f320 := Tryz.func390.trans (congrArg some (by kernel_rfl))
  f337 := Tryz.func401.trans (congrArg some (by kernel_rfl))
  f338 := Tryz.func402.trans (congrArg some (by kernel_rfl))
  t0 := Tryz.underlying0
  a0 := Tryz.isAgg0
  z0 := Tryz.sizeOf0
  v0 := Tryz.zeroValue0
  t2 := Tryz.underlying2
  a2 := Tryz.isAgg2
  z2 := Tryz.sizeOf2
  v2 := Tryz.zeroValue2
  t3 := Tryz.underlying3
  a3 := Tryz.isAgg3
  z3 := Tryz.sizeOf3
  v3 := Tryz.zeroValue3
  t4 := Tryz.underlying4
  a4 := Tryz.isAgg4
  z4 := Tryz.sizeOf4
  v4 := Tryz.zeroValue4
  t5 := Tryz.underlying5
  a5 := Tryz.isAgg5
  z5 := Tryz.sizeOf5
  v5 := Tryz.zeroValue5
  t9 := Tryz.underlying9
  a9 := Tryz.isAgg9
  z9 := Tryz.sizeOf9
  v9 := Tryz.zeroValue9
  t20 := Tryz.underlying20
  a20 := Tryz.isAgg20
  z20 := Tryz.sizeOf20
  v20 := Tryz.zeroValue20
  t37 := Tryz.underlying37
  a37 := Tryz.isAgg37
  z37 := Tryz.sizeOf37
  v37 := Tryz.zeroValue37
  t46 := Tryz.underlying97
  a46 := Tryz.isAgg97
  z46 := Tryz.sizeOf97
  v46 := Tryz.zeroValue97
  t51 := Tryz.underlying102
  a51 := Tryz.isAgg102
  z51 := Tryz.sizeOf102
  v51 := Tryz.zeroValue102
  t53 := Tryz.underlying22
  a53 := Tryz.isAgg22
  z53 := Tryz.sizeOf22
  v53 := Tryz.zeroValue22
  t171 := Tryz.underlying407
  a171 := Tryz.isAgg407
  z171 := Tryz.sizeOf407
  v171 := Tryz.zeroValue407
  t173 := Tryz.underlying409
  a173 := Tryz.isAgg409
  z173 := Tryz.sizeOf409
  v173 := Tryz.zeroValue409
  t212 := Tryz.underlying430
  a212 := Tryz.isAgg430
  z212 := Tryz.sizeOf430
  v212 := Tryz.zeroValue430
  t213 := Tryz.underlying431
  a213 := Tryz.isAgg431
  z213 := Tryz.sizeOf431
  t232 := Tryz.underlying442
  a232 := Tryz.isAgg442
  z232 := Tryz.sizeOf442
  v232 := Tryz.zeroValue442
  t233 := Tryz.underlying443
  a233 := Tryz.isAgg443
  z233 := Tryz.sizeOf443
  v233 := Tryz.zeroValue443
  g17 := by kernel_rfl
  g18 := by kernel_rfl
  g19 := by kernel_rfl
  i0 := by kernel_rfl
  i2 := by kernel_rfl
  i3 := by kernel_rfl
  i4 := by kernel_rfl
  i5 := by kernel_rfl
  i9 := by kernel_rfl
  i20 := by kernel_rfl
  i37 := by kernel_rfl
  i46 := by kernel_rfl
  i51 := by kernel_rfl
  i53 := by kernel_rfl
  i171 := by kernel_rfl
  i173 := by kernel_rfl
  i212 := by kernel_rfl
  i232 := by kernel_rfl
  i233 := by kernel_rfl
  m17 := by kernel_rfl
  m18 := by kernel_rfl
  m19 := by kernel_rfl }
open Go.RowKit Go.Sort Go.Lib in
/-- strconv.Itoa: "Itoa is equivalent to FormatInt(int64(i), 10).": i's DECIMAL NUMERAL ('Lib.itoa': a '-' where i is negative, then the digits), FOR EVERY int. The world behind the call: the world before it, new blocks behind the heap (the library's 'var a [24]byte'), draws. (LAID: no walk: one application.) -/
theorem Tryz.strconv_Itoa (n : Int) (h0 : -9223372036854775808 ≤ n) (h1 : n ≤ 9223372036854775807) (w : World) (htab : Lib.TabIs Tryz.prog w "internal/strconv.uint64pow10" .u64 Lib.pow10Tab) :
    Calls Tryz.prog 184 #[.int .i64 n] w fun e w' => e = .returned (.string ⟨(Lib.itoa n).toArray⟩) ∧ ∃ k os, w' = grow (w.drewN k) os := Any.strconv_Itoa Tryz.laysM171 n h0 h1 w htab
def Tryz.lays171_ren : Go.Shelf.Ren := ⟨fun | 171 => 184 | 243 => 266 | 246 => 318 | 283 => 359 | 284 => 360 | 285 => 361 | 286 => 362 | 129 => 335 | 317 => 387 | 318 => 388 | 319 => 389 | 320 => 390 | 337 => 401 | 338 => 402 | n => n, fun | 3 => 3 | 9 => 9 | 2 => 2 | 4 => 4 | 171 => 407 | 0 => 0 | 53 => 22 | 37 => 37 | 5 => 5 | 173 => 409 | 212 => 430 | 51 => 102 | 20 => 20 | 213 => 431 | 46 => 97 | 232 => 442 | 233 => 443 | n => n, fun | 17 => 1 | 18 => 4 | 19 => 5 | n => n⟩
theorem Tryz.lays171 : Go.Proofs.Lays.n171 Tryz.prog Tryz.lays171_ren := {
  mixed := by kernel_rfl
  f129 := Tryz.func335.trans (congrArg some (by kernel_rfl))
  f171 := Tryz.func184.trans (congrArg some (by kernel_rfl))
  f243 := Tryz.func266.trans (congrArg some (by kernel_rfl))
  f246 := Tryz.func318.trans (congrArg some (by kernel_rfl))
  f283 := Tryz.func359.trans (congrArg some (by kernel_rfl))
  f284 := Tryz.func360.trans (congrArg some (by kernel_rfl))
  f285 := Tryz.func361.trans (congrArg some (by kernel_rfl))
  f286 := Tryz.func362.trans (congrArg some (by kernel_rfl))
  f317 := Tryz.func387.trans (congrArg some (by kernel_rfl))
  f318 := Tryz.func388.trans (congrArg some (by kernel_rfl))
  f319 := Tryz.func389.trans (congrArg some (by kernel_rfl))
  f320 := Tryz.func390.trans (congrArg some (by kernel_rfl))
  f337 := Tryz.func401.trans (congrArg some (by kernel_rfl))
  f338 := Tryz.func402.trans (congrArg some (by kernel_rfl))
  t0 := Tryz.underlying0
  a0 := Tryz.isAgg0
  z0 := Tryz.sizeOf0
  v0 := Tryz.zeroValue0
  t2 := Tryz.underlying2
  a2 := Tryz.isAgg2
  z2 := Tryz.sizeOf2
  v2 := Tryz.zeroValue2
  t3 := Tryz.underlying3
  a3 := Tryz.isAgg3
  z3 := Tryz.sizeOf3
  v3 := Tryz.zeroValue3
  t4 := Tryz.underlying4
  a4 := Tryz.isAgg4
  z4 := Tryz.sizeOf4
  v4 := Tryz.zeroValue4
  t5 := Tryz.underlying5
  a5 := Tryz.isAgg5
  z5 := Tryz.sizeOf5
  v5 := Tryz.zeroValue5
  t9 := Tryz.underlying9
  a9 := Tryz.isAgg9
  z9 := Tryz.sizeOf9
  v9 := Tryz.zeroValue9
  t20 := Tryz.underlying20
  a20 := Tryz.isAgg20
  z20 := Tryz.sizeOf20
  v20 := Tryz.zeroValue20
  t37 := Tryz.underlying37
  a37 := Tryz.isAgg37
  z37 := Tryz.sizeOf37
  v37 := Tryz.zeroValue37
  t46 := Tryz.underlying97
  a46 := Tryz.isAgg97
  z46 := Tryz.sizeOf97
  v46 := Tryz.zeroValue97
  t51 := Tryz.underlying102
  a51 := Tryz.isAgg102
  z51 := Tryz.sizeOf102
  v51 := Tryz.zeroValue102
  t53 := Tryz.underlying22
  a53 := Tryz.isAgg22
  z53 := Tryz.sizeOf22
  v53 := Tryz.zeroValue22
  t171 := Tryz.underlying407
  a171 := Tryz.isAgg407
  z171 := Tryz.sizeOf407
  v171 := Tryz.zeroValue407
  t173 := Tryz.underlying409
  a173 := Tryz.isAgg409
  z173 := Tryz.sizeOf409
  v173 := Tryz.zeroValue409
  t212 := Tryz.underlying430
  a212 := Tryz.isAgg430
  z212 := Tryz.sizeOf430
  v212 := Tryz.zeroValue430
  t213 := Tryz.underlying431
  a213 := Tryz.isAgg431
  z213 := Tryz.sizeOf431
  t232 := Tryz.underlying442
  a232 := Tryz.isAgg442
  z232 := Tryz.sizeOf442
  v232 := Tryz.zeroValue442
  t233 := Tryz.underlying443
  a233 := Tryz.isAgg443
  z233 := Tryz.sizeOf443
  v233 := Tryz.zeroValue443
  g17 := by kernel_rfl
  g18 := by kernel_rfl
  g19 := by kernel_rfl }
open Go.RowKit Go.Sort Go.Lib in
/-- THE ROAD WITHOUT THE TABLE: 0 <= i < 100: NO PREMISE ON THE WORLD, AND THE WORLD IS AS IT WAS: a row that keeps its argument in that range need list no table ('laid = []'). (LAID: no walk: one application.) -/
theorem Tryz.strconv_Itoa_small (i : Nat) (hi : i < 100) (w : World) :
    Calls Tryz.prog 184 #[.int .i64 i] w fun e w' => e = .returned (.string ⟨(Lib.decDigits i).toArray⟩) ∧ w' = w := Any.strconv_Itoa_small Tryz.lays171 i hi w
def Tryz.lays219_ren : Go.Shelf.Ren := ⟨fun | 219 => 304 | 217 => 308 | 225 => 307 | 224 => 306 | 267 => 343 | 266 => 344 | 314 => 378 | n => n, fun | 9 => 9 | 3 => 3 | 4 => 4 | 5 => 5 | 46 => 97 | 146 => 424 | 51 => 102 | n => n, fun | 1 => 0 | n => n⟩
theorem Tryz.lays219 : Go.Proofs.Lays.n219 Tryz.prog Tryz.lays219_ren := {
  mixed := by kernel_rfl
  f217 := Tryz.func308.trans (congrArg some (by kernel_rfl))
  f219 := Tryz.func304.trans (congrArg some (by kernel_rfl))
  f224 := Tryz.func306.trans (congrArg some (by kernel_rfl))
  f225 := Tryz.func307.trans (congrArg some (by kernel_rfl))
  f266 := Tryz.func344.trans (congrArg some (by kernel_rfl))
  f267 := Tryz.func343.trans (congrArg some (by kernel_rfl))
  f314 := Tryz.func378.trans (congrArg some (by kernel_rfl))
  t3 := Tryz.underlying3
  a3 := Tryz.isAgg3
  z3 := Tryz.sizeOf3
  v3 := Tryz.zeroValue3
  t4 := Tryz.underlying4
  a4 := Tryz.isAgg4
  z4 := Tryz.sizeOf4
  v4 := Tryz.zeroValue4
  t5 := Tryz.underlying5
  a5 := Tryz.isAgg5
  z5 := Tryz.sizeOf5
  v5 := Tryz.zeroValue5
  t9 := Tryz.underlying9
  a9 := Tryz.isAgg9
  z9 := Tryz.sizeOf9
  v9 := Tryz.zeroValue9
  t46 := Tryz.underlying97
  a46 := Tryz.isAgg97
  z46 := Tryz.sizeOf97
  v46 := Tryz.zeroValue97
  t51 := Tryz.underlying102
  a51 := Tryz.isAgg102
  z51 := Tryz.sizeOf102
  v51 := Tryz.zeroValue102
  t146 := Tryz.underlying424
  a146 := Tryz.isAgg424
  z146 := Tryz.sizeOf424
  v146 := Tryz.zeroValue424
  g1 := by kernel_rfl }
open Go.RowKit Go.Lib in
/-- internal/stringslite.Index (what strings.Index calls) AT A substr OF WHATEVER LENGTH: IT RETURNS 'Lib.index s substr'; the world is as it was. 'm': what internal/bytealg.MaxLen holds: whatever. (LAID: no walk: one application.) -/
theorem Tryz.stringslite_Index (s sub : ByteArray) (m : Int) (w : World) (hs : s.size < 4294967281) (hm : w.cell? ⟨0, 0, none⟩ = some (.int .i64 m)) :
    Calls Tryz.prog 304 #[.string s, .string sub] w fun e w' => e = .returned (.int .i64 (Lib.index s.data.toList sub.data.toList)) ∧ w' = w := Any.stringslite_Index Tryz.lays219 s sub m w hs hm
def Tryz.lays145_ren : Go.Shelf.Ren := ⟨fun | 145 => 171 | 220 => 251 | 219 => 304 | 217 => 308 | 225 => 307 | 224 => 306 | 267 => 343 | 266 => 344 | 314 => 378 | n => n, fun | 9 => 9 | 4 => 4 | 59 => 282 | 3 => 3 | 5 => 5 | 46 => 97 | 146 => 424 | 51 => 102 | n => n, fun | 1 => 0 | n => n⟩
theorem Tryz.lays145 : Go.Proofs.Lays.n145 Tryz.prog Tryz.lays145_ren := {
  mixed := by kernel_rfl
  f145 := Tryz.func171.trans (congrArg some (by kernel_rfl))
  f217 := Tryz.func308.trans (congrArg some (by kernel_rfl))
  f219 := Tryz.func304.trans (congrArg some (by kernel_rfl))
  f220 := Tryz.func251.trans (congrArg some (by kernel_rfl))
  f224 := Tryz.func306.trans (congrArg some (by kernel_rfl))
  f225 := Tryz.func307.trans (congrArg some (by kernel_rfl))
  f266 := Tryz.func344.trans (congrArg some (by kernel_rfl))
  f267 := Tryz.func343.trans (congrArg some (by kernel_rfl))
  f314 := Tryz.func378.trans (congrArg some (by kernel_rfl))
  t3 := Tryz.underlying3
  a3 := Tryz.isAgg3
  z3 := Tryz.sizeOf3
  v3 := Tryz.zeroValue3
  t4 := Tryz.underlying4
  a4 := Tryz.isAgg4
  z4 := Tryz.sizeOf4
  v4 := Tryz.zeroValue4
  t5 := Tryz.underlying5
  a5 := Tryz.isAgg5
  z5 := Tryz.sizeOf5
  v5 := Tryz.zeroValue5
  t9 := Tryz.underlying9
  a9 := Tryz.isAgg9
  z9 := Tryz.sizeOf9
  v9 := Tryz.zeroValue9
  t46 := Tryz.underlying97
  a46 := Tryz.isAgg97
  z46 := Tryz.sizeOf97
  v46 := Tryz.zeroValue97
  t51 := Tryz.underlying102
  a51 := Tryz.isAgg102
  z51 := Tryz.sizeOf102
  v51 := Tryz.zeroValue102
  t59 := Tryz.underlying282
  a59 := Tryz.isAgg282
  z59 := Tryz.sizeOf282
  v59 := Tryz.zeroValue282
  t146 := Tryz.underlying424
  a146 := Tryz.isAgg424
  z146 := Tryz.sizeOf424
  v146 := Tryz.zeroValue424
  g1 := by kernel_rfl }
open Go.RowKit Go.Lib in
/-- strings.Cut: "Cut slices s around the first instance of sep, returning the text before and after sep. The found result reports whether sep appears in s. If sep does not appear in s, cut returns s, "", false.": IT RETURNS 'Lib.cut s sep'; the world is as it was but for the count of draws. (LAID: no walk: one application.) -/
theorem Tryz.strings_Cut (s sep : ByteArray) (m : Int) (w : World) (hs : s.size < 4294967281) (hm : w.cell? ⟨0, 0, none⟩ = some (.int .i64 m)) :
    Calls Tryz.prog 171 #[.string s, .string sep] w fun e w' => e = .returned (.tuple #[.string ⟨(Lib.cut s.data.toList sep.data.toList).1.toArray⟩, .string ⟨(Lib.cut s.data.toList sep.data.toList).2.1.toArray⟩, .bool (Lib.cut s.data.toList sep.data.toList).2.2]) ∧ ∃ n, w' = w.drewN n := Any.strings_Cut Tryz.lays145 s sep m w hs hm
def Tryz.lays99_ren : Go.Shelf.Ren := ⟨fun | 99 => 269 | 206 => 319 | n => n, fun | 9 => 9 | 4 => 4 | 3 => 3 | n => n, fun | n => n⟩
theorem Tryz.lays99 : Go.Proofs.Lays.n99 Tryz.prog Tryz.lays99_ren := {
  mixed := by kernel_rfl
  f99 := Tryz.func269.trans (congrArg some (by kernel_rfl))
  f206 := Tryz.func319.trans (congrArg some (by kernel_rfl))
  t3 := Tryz.underlying3
  a3 := Tryz.isAgg3
  z3 := Tryz.sizeOf3
  v3 := Tryz.zeroValue3
  t4 := Tryz.underlying4
  a4 := Tryz.isAgg4
  z4 := Tryz.sizeOf4
  v4 := Tryz.zeroValue4
  t9 := Tryz.underlying9
  a9 := Tryz.isAgg9
  z9 := Tryz.sizeOf9
  v9 := Tryz.zeroValue9 }
open Go.RowKit Go.Lib in
/-- strings.HasPrefix: "HasPrefix reports whether the string s begins with prefix.": IT RETURNS 'Lib.hasPrefix s prefix'; the world is as it was. (LAID: no walk: one application.) -/
theorem Tryz.strings_HasPrefix (s p : ByteArray) (w : World) :
    Calls Tryz.prog 269 #[.string s, .string p] w fun e w' => e = .returned (.bool (Lib.hasPrefix s.data.toList p.data.toList)) ∧ w' = w := Any.strings_HasPrefix Tryz.lays99 s p w
def Tryz.lays101_ren : Go.Shelf.Ren := ⟨fun | 101 => 258 | 208 => 310 | 206 => 319 | n => n, fun | 9 => 9 | 4 => 4 | 3 => 3 | n => n, fun | n => n⟩
theorem Tryz.lays101 : Go.Proofs.Lays.n101 Tryz.prog Tryz.lays101_ren := {
  mixed := by kernel_rfl
  f101 := Tryz.func258.trans (congrArg some (by kernel_rfl))
  f206 := Tryz.func319.trans (congrArg some (by kernel_rfl))
  f208 := Tryz.func310.trans (congrArg some (by kernel_rfl))
  t3 := Tryz.underlying3
  a3 := Tryz.isAgg3
  z3 := Tryz.sizeOf3
  v3 := Tryz.zeroValue3
  t4 := Tryz.underlying4
  a4 := Tryz.isAgg4
  z4 := Tryz.sizeOf4
  v4 := Tryz.zeroValue4
  t9 := Tryz.underlying9
  a9 := Tryz.isAgg9
  z9 := Tryz.sizeOf9
  v9 := Tryz.zeroValue9 }
open Go.RowKit Go.Lib in
/-- strings.TrimPrefix: "TrimPrefix returns s without the provided leading prefix string. If s doesn't start with prefix, s is returned unchanged.": IT RETURNS 'Lib.trimPrefix s prefix'; the world is as it was. (LAID: no walk: one application.) -/
theorem Tryz.strings_TrimPrefix (s p : ByteArray) (w : World) :
    Calls Tryz.prog 258 #[.string s, .string p] w fun e w' => e = .returned (.string ⟨(Lib.trimPrefix s.data.toList p.data.toList).toArray⟩) ∧ w' = w := Any.strings_TrimPrefix Tryz.lays101 s p w
def Tryz.lays146_ren : Go.Shelf.Ren := ⟨fun | 146 => 257 | 221 => 309 | 268 => 345 | 138 => 346 | 143 => 347 | 195 => 379 | 197 => 380 | 218 => 381 | 219 => 304 | 260 => 399 | 217 => 308 | 225 => 307 | 224 => 306 | 267 => 343 | 266 => 344 | 314 => 378 | n => n, fun | 9 => 9 | 31 => 169 | 3 => 3 | 4 => 4 | 0 => 0 | 105 => 426 | 21 => 21 | 5 => 5 | 46 => 97 | 119 => 438 | 139 => 441 | 138 => 440 | 146 => 424 | 51 => 102 | n => n, fun | 1 => 0 | 3 => 2 | 4 => 3 | n => n⟩
theorem Tryz.lays146 : Go.Proofs.Lays.n146 Tryz.prog Tryz.lays146_ren := {
  mixed := by kernel_rfl
  f138 := Tryz.func346.trans (congrArg some (by kernel_rfl))
  f143 := Tryz.func347.trans (congrArg some (by kernel_rfl))
  f146 := Tryz.func257.trans (congrArg some (by kernel_rfl))
  f195 := Tryz.func379.trans (congrArg some (by kernel_rfl))
  f197 := Tryz.func380.trans (congrArg some (by kernel_rfl))
  f217 := Tryz.func308.trans (congrArg some (by kernel_rfl))
  f218 := Tryz.func381.trans (congrArg some (by kernel_rfl))
  f219 := Tryz.func304.trans (congrArg some (by kernel_rfl))
  f221 := Tryz.func309.trans (congrArg some (by kernel_rfl))
  f224 := Tryz.func306.trans (congrArg some (by kernel_rfl))
  f225 := Tryz.func307.trans (congrArg some (by kernel_rfl))
  f260 := Tryz.func399.trans (congrArg some (by kernel_rfl))
  f266 := Tryz.func344.trans (congrArg some (by kernel_rfl))
  f267 := Tryz.func343.trans (congrArg some (by kernel_rfl))
  f268 := Tryz.func345.trans (congrArg some (by kernel_rfl))
  f314 := Tryz.func378.trans (congrArg some (by kernel_rfl))
  t0 := Tryz.underlying0
  a0 := Tryz.isAgg0
  z0 := Tryz.sizeOf0
  v0 := Tryz.zeroValue0
  t3 := Tryz.underlying3
  a3 := Tryz.isAgg3
  z3 := Tryz.sizeOf3
  v3 := Tryz.zeroValue3
  t4 := Tryz.underlying4
  a4 := Tryz.isAgg4
  z4 := Tryz.sizeOf4
  v4 := Tryz.zeroValue4
  t5 := Tryz.underlying5
  a5 := Tryz.isAgg5
  z5 := Tryz.sizeOf5
  v5 := Tryz.zeroValue5
  t9 := Tryz.underlying9
  a9 := Tryz.isAgg9
  z9 := Tryz.sizeOf9
  v9 := Tryz.zeroValue9
  t21 := Tryz.underlying21
  a21 := Tryz.isAgg21
  z21 := Tryz.sizeOf21
  v21 := Tryz.zeroValue21
  t31 := Tryz.underlying169
  a31 := Tryz.isAgg169
  z31 := Tryz.sizeOf169
  v31 := Tryz.zeroValue169
  t46 := Tryz.underlying97
  a46 := Tryz.isAgg97
  z46 := Tryz.sizeOf97
  v46 := Tryz.zeroValue97
  t51 := Tryz.underlying102
  a51 := Tryz.isAgg102
  z51 := Tryz.sizeOf102
  v51 := Tryz.zeroValue102
  t105 := Tryz.underlying426
  a105 := Tryz.isAgg426
  z105 := Tryz.sizeOf426
  v105 := Tryz.zeroValue426
  t119 := Tryz.underlying438
  a119 := Tryz.isAgg438
  z119 := Tryz.sizeOf438
  t138 := Tryz.underlying440
  a138 := Tryz.isAgg440
  z138 := Tryz.sizeOf440
  v138 := Tryz.zeroValue440
  t139 := Tryz.underlying441
  a139 := Tryz.isAgg441
  z139 := Tryz.sizeOf441
  v139 := Tryz.zeroValue441
  t146 := Tryz.underlying424
  a146 := Tryz.isAgg424
  z146 := Tryz.sizeOf424
  v146 := Tryz.zeroValue424
  g1 := by kernel_rfl
  g3 := by kernel_rfl
  g4 := by kernel_rfl }
open Go.RowKit Go.Lib in
/-- strings.Split. (LAID: no walk: one application.) -/
theorem Tryz.strings_Split (s sep : ByteArray) (m : Int) (w : World) (hs : s.size < 4294967281) (hm : w.cell? ⟨0, 0, none⟩ = some (.int .i64 m)) (h1 : 1 ≤ sep.size) :
    Calls Tryz.prog 257 #[.string s, .string sep] w fun e w' =>
      e = .returned (.slice (some ⟨w.heap.size, 0, none⟩) (Lib.countB s sep + 1) (Lib.countB s sep + 1)) ∧ w' = w.alloc (.cells ((Lib.splitB sep 0 (Lib.countB s sep) s).map Value.string).toArray 9) := Any.strings_Split Tryz.lays146 (by kernel_rfl) s sep m w hs hm h1
def Tryz.lays153_ren : Go.Shelf.Ren := ⟨fun | 153 => 172 | 152 => 252 | 226 => 253 | 227 => 254 | 228 => 255 | 137 => 256 | 119 => 305 | 224 => 306 | 225 => 307 | 217 => 308 | 266 => 344 | n => n, fun | 9 => 9 | 3 => 3 | 4 => 4 | 5 => 5 | 21 => 21 | 117 => 336 | 116 => 335 | 0 => 0 | 46 => 97 | 124 => 379 | n => n, fun | n => n⟩
theorem Tryz.lays153 : Go.Proofs.Lays.n153 Tryz.prog Tryz.lays153_ren := {
  mixed := by kernel_rfl
  f119 := Tryz.func305.trans (congrArg some (by kernel_rfl))
  f137 := Tryz.func256.trans (congrArg some (by kernel_rfl))
  f152 := Tryz.func252.trans (congrArg some (by kernel_rfl))
  f153 := Tryz.func172.trans (congrArg some (by kernel_rfl))
  f217 := Tryz.func308.trans (congrArg some (by kernel_rfl))
  f224 := Tryz.func306.trans (congrArg some (by kernel_rfl))
  f225 := Tryz.func307.trans (congrArg some (by kernel_rfl))
  f226 := Tryz.func253.trans (congrArg some (by kernel_rfl))
  f227 := Tryz.func254.trans (congrArg some (by kernel_rfl))
  f228 := Tryz.func255.trans (congrArg some (by kernel_rfl))
  f266 := Tryz.func344.trans (congrArg some (by kernel_rfl))
  t0 := Tryz.underlying0
  a0 := Tryz.isAgg0
  z0 := Tryz.sizeOf0
  v0 := Tryz.zeroValue0
  t3 := Tryz.underlying3
  a3 := Tryz.isAgg3
  z3 := Tryz.sizeOf3
  v3 := Tryz.zeroValue3
  t4 := Tryz.underlying4
  a4 := Tryz.isAgg4
  z4 := Tryz.sizeOf4
  v4 := Tryz.zeroValue4
  t5 := Tryz.underlying5
  a5 := Tryz.isAgg5
  z5 := Tryz.sizeOf5
  v5 := Tryz.zeroValue5
  t9 := Tryz.underlying9
  a9 := Tryz.isAgg9
  z9 := Tryz.sizeOf9
  v9 := Tryz.zeroValue9
  t21 := Tryz.underlying21
  a21 := Tryz.isAgg21
  z21 := Tryz.sizeOf21
  v21 := Tryz.zeroValue21
  t46 := Tryz.underlying97
  a46 := Tryz.isAgg97
  z46 := Tryz.sizeOf97
  v46 := Tryz.zeroValue97
  t116 := Tryz.underlying335
  a116 := Tryz.isAgg335
  z116 := Tryz.sizeOf335
  t117 := Tryz.underlying336
  a117 := Tryz.isAgg336
  z117 := Tryz.sizeOf336
  v117 := Tryz.zeroValue336
  t124 := Tryz.underlying379
  a124 := Tryz.isAgg379
  z124 := Tryz.sizeOf379
  v124 := Tryz.zeroValue379 }
def Tryz.lays150_ren : Go.Shelf.Ren := ⟨fun | 150 => 232 | 153 => 172 | 152 => 252 | 226 => 253 | 227 => 254 | 228 => 255 | 137 => 256 | 119 => 305 | 224 => 306 | 225 => 307 | 217 => 308 | 266 => 344 | n => n, fun | 9 => 9 | 4 => 4 | 3 => 3 | 5 => 5 | 21 => 21 | 117 => 336 | 116 => 335 | 0 => 0 | 46 => 97 | 124 => 379 | n => n, fun | n => n⟩
theorem Tryz.lays150 : Go.Proofs.Lays.n150 Tryz.prog Tryz.lays150_ren := {
  mixed := by kernel_rfl
  f119 := Tryz.func305.trans (congrArg some (by kernel_rfl))
  f137 := Tryz.func256.trans (congrArg some (by kernel_rfl))
  f150 := Tryz.func232.trans (congrArg some (by kernel_rfl))
  f152 := Tryz.func252.trans (congrArg some (by kernel_rfl))
  f153 := Tryz.func172.trans (congrArg some (by kernel_rfl))
  f217 := Tryz.func308.trans (congrArg some (by kernel_rfl))
  f224 := Tryz.func306.trans (congrArg some (by kernel_rfl))
  f225 := Tryz.func307.trans (congrArg some (by kernel_rfl))
  f226 := Tryz.func253.trans (congrArg some (by kernel_rfl))
  f227 := Tryz.func254.trans (congrArg some (by kernel_rfl))
  f228 := Tryz.func255.trans (congrArg some (by kernel_rfl))
  f266 := Tryz.func344.trans (congrArg some (by kernel_rfl))
  t0 := Tryz.underlying0
  a0 := Tryz.isAgg0
  z0 := Tryz.sizeOf0
  v0 := Tryz.zeroValue0
  t3 := Tryz.underlying3
  a3 := Tryz.isAgg3
  z3 := Tryz.sizeOf3
  v3 := Tryz.zeroValue3
  t4 := Tryz.underlying4
  a4 := Tryz.isAgg4
  z4 := Tryz.sizeOf4
  v4 := Tryz.zeroValue4
  t5 := Tryz.underlying5
  a5 := Tryz.isAgg5
  z5 := Tryz.sizeOf5
  v5 := Tryz.zeroValue5
  t9 := Tryz.underlying9
  a9 := Tryz.isAgg9
  z9 := Tryz.sizeOf9
  v9 := Tryz.zeroValue9
  t21 := Tryz.underlying21
  a21 := Tryz.isAgg21
  z21 := Tryz.sizeOf21
  v21 := Tryz.zeroValue21
  t46 := Tryz.underlying97
  a46 := Tryz.isAgg97
  z46 := Tryz.sizeOf97
  v46 := Tryz.zeroValue97
  t116 := Tryz.underlying335
  a116 := Tryz.isAgg335
  z116 := Tryz.sizeOf335
  t117 := Tryz.underlying336
  a117 := Tryz.isAgg336
  z117 := Tryz.sizeOf336
  v117 := Tryz.zeroValue336
  t124 := Tryz.underlying379
  a124 := Tryz.isAgg379
  z124 := Tryz.sizeOf379
  v124 := Tryz.zeroValue379 }
open Go.RowKit Go.Lib in
theorem Tryz.strings_IndexAny_laid (s chars : ByteArray) (w : World) (hs : s.size < 4294967281) (hcs : chars.size < 4294967281) (has : ∀ (j : Nat) b, s.data.toList[j]? = some b → b.toNat < 128) (hac : ∀ (j : Nat) b, chars.data.toList[j]? = some b → b.toNat < 128) :
    Calls Tryz.prog 172 #[.string s, .string chars] w fun e w' => e = .returned (.int .i64 (Lib.indexAny s.data.toList chars.data.toList)) ∧ Below w.heap.size w w' := Any.strings_IndexAny_laid Tryz.lays153 (by kernel_rfl) s chars w hs hcs has hac
open Go.RowKit Go.Lib in
theorem Tryz.strings_ContainsAny_laid (s chars : ByteArray) (w : World) (hs : s.size < 4294967281) (hcs : chars.size < 4294967281) (has : ∀ (j : Nat) b, s.data.toList[j]? = some b → b.toNat < 128) (hac : ∀ (j : Nat) b, chars.data.toList[j]? = some b → b.toNat < 128) :
    Calls Tryz.prog 232 #[.string s, .string chars] w fun e w' => e = .returned (.bool (Lib.containsAny s.data.toList chars.data.toList)) ∧ Below w.heap.size w w' := Any.strings_ContainsAny_laid Tryz.lays150 (by kernel_rfl) s chars w hs hcs has hac
end Go.Proofs
