/-
  DERIVED: THE SHELF's CONTRACTS AT THIS DUMP, IN PLAIN WORDS (tools/lay-plain.mjs out of 'TrydShelf.lean', which tools/lay-shelf.mjs wrote): THE SAME DECLARATIONS UNDER THE SAME NAMES: 'import', 'namespace', 'open', 'def', 'theorem' AND NOTHING ELSE: no command of the shelf's: FOR A HAND-IN. Each laying: the table of numbers ('.._ren') and one theorem, a field a fact of the dump's own or the kernel's comparison; each contract: ONE APPLICATION.
-/
import Derived.Shelf.Strings.Builder1
import Derived.Shelf.Strings.Builder2
import Derived.Shelf.Strings.OnBuilder
import Derived.Shelf.Small.Wraps
import Derived.Shelf.Strings.BuilderF
import Derived.Shelf.Strings.BuilderK
import Derived.Shelf.Strings.Builder2Cap
import Derived.Shelf.Strconv.Atoi
import Derived.Shelf.Strconv.Itoa0
import Derived.Shelf.Strconv.Itoa1
import Derived.Shelf.LaysM
import Derived.Shelf.Strconv.Itoa2
import Derived.Shelf.Strconv.Itoa3
import Derived.Shelf.Strconv.AtoiErrFast
import Derived.Shelf.Strconv.ParseIntEmpty
import Derived.Shelf.Strconv.AtoiFail
import Derived.Shelf.Strconv.Clone
import Derived.Shelf.Strconv.SyntaxError
import Derived.Shelf.LaysC
import Derived.Shelf.Strconv.ToError
import Derived.Shelf.Strconv.AtoiErr
import Derived.Shelf.Strconv.ErrVar
import Derived.Shelf.Strconv.Lower
import Derived.Shelf.Strconv.ParseUint10
import Derived.Shelf.Strconv.ParseUint10Empty
import Derived.Shelf.Strconv.ParseUint10Any
import Derived.Shelf.Strconv.ParseInt10
import Derived.Shelf.Strconv.AtoiLong
import Derived.Shelf.Strconv.AtoiInnerAll
import Derived.Shelf.Strconv.RangeError
import Derived.Shelf.Strconv.ToErrorRange
import Derived.Shelf.Strconv.AtoiAll
import Derived.Shelf.Strconv.ErrVarAll
import Derived.Shelf.Strings.Search1
import Derived.Shelf.Strings.Search2
import Derived.Shelf.Strings.Search3
import Derived.Shelf.Strings.Count
import Derived.Shelf.Strings.Shaped
import Derived.Shelf.Strings.LastIndex
import Derived.Shelf.Strings.LastIndexAll
import Derived.Shelf.Strings.Prefix
import Derived.Shelf.Strings.Split
import Derived.Shelf.Strings.SplitShaped
import Derived.Shelf.Unicode.DecodeSlow
import Derived.Shelf.Strings.BuilderCap
import Derived.Shelf.Slices.Turned
import Derived.Test.YtkfhieigdlfbeaaDoorProg
namespace Go.Proofs
open Go.Shelf
def Tryd.lays156_ren : Go.Shelf.Ren := ⟨fun | 156 => 37 | 165 => 72 | 166 => 50 | 169 => 52 | 240 => 84 | 241 => 100 | 276 => 109 | 277 => 123 | n => n, fun | 31 => 48 | 9 => 9 | 3 => 3 | 4 => 4 | 0 => 0 | 20 => 20 | 72 => 108 | 76 => 111 | 70 => 106 | 37 => 84 | 75 => 110 | 127 => 147 | 164 => 172 | 5 => 5 | 80 => 114 | n => n, fun | n => n⟩
theorem Tryd.lays156 : Go.Proofs.Lays.n156 Tryd.prog Tryd.lays156_ren := {
  mixed := by kernel_rfl
  f156 := Tryd.func37.trans (congrArg some (by kernel_rfl))
  f165 := Tryd.func72.trans (congrArg some (by kernel_rfl))
  f166 := Tryd.func50.trans (congrArg some (by kernel_rfl))
  f169 := Tryd.func52.trans (congrArg some (by kernel_rfl))
  f240 := Tryd.func84.trans (congrArg some (by kernel_rfl))
  f241 := Tryd.func100.trans (congrArg some (by kernel_rfl))
  f276 := Tryd.func109.trans (congrArg some (by kernel_rfl))
  f277 := Tryd.func123.trans (congrArg some (by kernel_rfl))
  t0 := Tryd.underlying0
  a0 := Tryd.isAgg0
  z0 := Tryd.sizeOf0
  v0 := Tryd.zeroValue0
  t3 := Tryd.underlying3
  a3 := Tryd.isAgg3
  z3 := Tryd.sizeOf3
  v3 := Tryd.zeroValue3
  t4 := Tryd.underlying4
  a4 := Tryd.isAgg4
  z4 := Tryd.sizeOf4
  v4 := Tryd.zeroValue4
  t9 := Tryd.underlying9
  a9 := Tryd.isAgg9
  z9 := Tryd.sizeOf9
  v9 := Tryd.zeroValue9
  t20 := Tryd.underlying20
  a20 := Tryd.isAgg20
  z20 := Tryd.sizeOf20
  v20 := Tryd.zeroValue20
  t31 := Tryd.underlying48
  a31 := Tryd.isAgg48
  z31 := Tryd.sizeOf48
  v31 := Tryd.zeroValue48
  t37 := Tryd.underlying84
  a37 := Tryd.isAgg84
  z37 := Tryd.sizeOf84
  v37 := Tryd.zeroValue84
  t70 := Tryd.underlying106
  a70 := Tryd.isAgg106
  z70 := Tryd.sizeOf106
  v70 := Tryd.zeroValue106
  t72 := Tryd.underlying108
  a72 := Tryd.isAgg108
  z72 := Tryd.sizeOf108
  v72 := Tryd.zeroValue108
  t75 := Tryd.underlying110
  a75 := Tryd.isAgg110
  z75 := Tryd.sizeOf110
  v75 := Tryd.zeroValue110
  t76 := Tryd.underlying111
  a76 := Tryd.isAgg111
  z76 := Tryd.sizeOf111
  v76 := Tryd.zeroValue111
  t127 := Tryd.underlying147
  a127 := Tryd.isAgg147
  z127 := Tryd.sizeOf147
  v127 := Tryd.zeroValue147
  t164 := Tryd.underlying172
  a164 := Tryd.isAgg172
  z164 := Tryd.sizeOf172
  v164 := Tryd.zeroValue172 }
theorem Tryd.Builder_Extra_156 : Builder.Extra Tryd.prog Tryd.lays156_ren := {
  sizeBuilder := by kernel_rfl
  liesBuilder := by kernel_rfl
  t5 := Tryd.underlying5
  a5 := Tryd.isAgg5
  z5 := Tryd.sizeOf5
  v5 := Tryd.zeroValue5
  infoByte := by kernel_rfl
  cellsByte := by kernel_rfl
  sizeByte := by kernel_rfl
  neB5 := by decide }
open Go.RowKit in
/-- No element: the empty string; the world is as it was. (Whatever the slice's address and capacity: a nil slice too.) (LAID: no walk: one application.) -/
theorem Tryd.strings_Join_none (a : Option Addr) (c : Nat) (sep : ByteArray) (w : World) :
    Calls Tryd.prog 37 #[.slice a 0 c, .string sep] w fun e w' => e = .returned (.string ⟨#[]⟩) ∧ w' = w := Any.strings_Join_none Tryd.lays156 Tryd.Builder_Extra_156 a c sep w
open Go.RowKit in
/-- strings.Join: "Join concatenates the elements of its first argument to create a single string. The separator string sep is placed between elements in the resulting string.": HOWEVER MANY ELEMENTS. Below the heap's end the world is as it was. (LAID: no walk: one application.) -/
theorem Tryd.strings_Join (bk o c : Nat) (xs : List ByteArray) (sep : ByteArray) (w : World) (hcells : ∀ (j : Nat) x, xs[j]? = some x → w.cell? ⟨bk, o + j, none⟩ = some (.string x)) (hbk : bk < w.heap.size) (hN : xs.length ≤ 140737488355328) (hcap : xs.length ≤ c) (hlen : (Lib.join (xs.map (·.data.toList)) sep.data.toList).length ≤ 140737488355328) :
    Calls Tryd.prog 37 #[.slice (some ⟨bk, o, none⟩) xs.length c, .string sep] w fun e w' => e = .returned (.string ⟨(Lib.join (xs.map (·.data.toList)) sep.data.toList).toArray⟩) ∧ Below w.heap.size w w' := Any.strings_Join Tryd.lays156 Tryd.Builder_Extra_156 bk o c xs sep w hcells hbk hN hcap hlen
def Tryd.lays104_ren : Go.Shelf.Ren := ⟨fun | 104 => 63 | 211 => 94 | 207 => 98 | n => n, fun | 9 => 9 | 4 => 4 | 24 => 126 | 3 => 3 | n => n, fun | n => n⟩
theorem Tryd.lays104 : Go.Proofs.Lays.n104 Tryd.prog Tryd.lays104_ren := {
  mixed := by kernel_rfl
  f104 := Tryd.func63.trans (congrArg some (by kernel_rfl))
  f207 := Tryd.func98.trans (congrArg some (by kernel_rfl))
  f211 := Tryd.func94.trans (congrArg some (by kernel_rfl))
  t3 := Tryd.underlying3
  a3 := Tryd.isAgg3
  z3 := Tryd.sizeOf3
  v3 := Tryd.zeroValue3
  t4 := Tryd.underlying4
  a4 := Tryd.isAgg4
  z4 := Tryd.sizeOf4
  v4 := Tryd.zeroValue4
  t9 := Tryd.underlying9
  a9 := Tryd.isAgg9
  z9 := Tryd.sizeOf9
  v9 := Tryd.zeroValue9
  t24 := Tryd.underlying126
  a24 := Tryd.isAgg126
  z24 := Tryd.sizeOf126
  v24 := Tryd.zeroValue126 }
open Go.RowKit in
/-- strings.CutSuffix: "CutSuffix returns s without the provided ending suffix string and reports whether it found the suffix. If s doesn't end with suffix, CutSuffix returns s, false. If suffix is the empty string, CutSuffix returns s, true.": IT RETURNS '(Lib.trimSuffix s p, Lib.hasSuffix s p)'; the world is as it was. (LAID: no walk: one application.) -/
theorem Tryd.strings_CutSuffix (s p : ByteArray) (w : World) (hs : s.size ≤ 9223372036854775807) :
    Calls Tryd.prog 63 #[.string s, .string p] w fun e w' => e = .returned (.tuple #[.string ⟨(Lib.trimSuffix s.data.toList p.data.toList).toArray⟩, .bool (Lib.hasSuffix s.data.toList p.data.toList)]) ∧ w' = w := Any.strings_CutSuffix Tryd.lays104 s p w hs
def Tryd.laysM171_ren : Go.Shelf.Ren := ⟨fun | 171 => 35 | 243 => 71 | 246 => 99 | 283 => 119 | 284 => 120 | 285 => 121 | 286 => 122 | 129 => 136 | 317 => 135 | 318 => 137 | 319 => 138 | 320 => 139 | 337 => 145 | 338 => 146 | n => n, fun | 3 => 3 | 9 => 9 | 2 => 2 | 4 => 4 | 171 => 178 | 0 => 0 | 53 => 179 | 37 => 84 | 5 => 5 | 173 => 182 | 212 => 193 | 51 => 159 | 20 => 20 | 213 => 194 | 46 => 136 | 232 => 211 | 233 => 212 | n => n, fun | 17 => 1 | 18 => 6 | 19 => 7 | n => n⟩
theorem Tryd.laysM171 : Go.Proofs.LaysM.n171 Tryd.prog Tryd.laysM171_ren := {
  mixed := by kernel_rfl
  f129 := Tryd.func136.trans (congrArg some (by kernel_rfl))
  f171 := Tryd.func35.trans (congrArg some (by kernel_rfl))
  f243 := Tryd.func71.trans (congrArg some (by kernel_rfl))
  f246 := Tryd.func99.trans (congrArg some (by kernel_rfl))
  f283 := Tryd.func119.trans (congrArg some (by kernel_rfl))
  f284 := Tryd.func120.trans (congrArg some (by kernel_rfl))
  f285 := Tryd.func121.trans (congrArg some (by kernel_rfl))
  f286 := Tryd.func122.trans (congrArg some (by kernel_rfl))
  f317 := Tryd.func135.trans (congrArg some (by kernel_rfl))
  f318 := Tryd.func137.trans (congrArg some (by kernel_rfl))
  f319 := Tryd.func138.trans (congrArg some (by kernel_rfl))
  f320 := Tryd.func139.trans (congrArg some (by kernel_rfl))
  f337 := Tryd.func145.trans (congrArg some (by kernel_rfl))
  f338 := Tryd.func146.trans (congrArg some (by kernel_rfl))
  t0 := Tryd.underlying0
  a0 := Tryd.isAgg0
  z0 := Tryd.sizeOf0
  v0 := Tryd.zeroValue0
  t2 := Tryd.underlying2
  a2 := Tryd.isAgg2
  z2 := Tryd.sizeOf2
  v2 := Tryd.zeroValue2
  t3 := Tryd.underlying3
  a3 := Tryd.isAgg3
  z3 := Tryd.sizeOf3
  v3 := Tryd.zeroValue3
  t4 := Tryd.underlying4
  a4 := Tryd.isAgg4
  z4 := Tryd.sizeOf4
  v4 := Tryd.zeroValue4
  t5 := Tryd.underlying5
  a5 := Tryd.isAgg5
  z5 := Tryd.sizeOf5
  v5 := Tryd.zeroValue5
  t9 := Tryd.underlying9
  a9 := Tryd.isAgg9
  z9 := Tryd.sizeOf9
  v9 := Tryd.zeroValue9
  t20 := Tryd.underlying20
  a20 := Tryd.isAgg20
  z20 := Tryd.sizeOf20
  v20 := Tryd.zeroValue20
  t37 := Tryd.underlying84
  a37 := Tryd.isAgg84
  z37 := Tryd.sizeOf84
  v37 := Tryd.zeroValue84
  t46 := Tryd.underlying136
  a46 := Tryd.isAgg136
  z46 := Tryd.sizeOf136
  v46 := Tryd.zeroValue136
  t51 := Tryd.underlying159
  a51 := Tryd.isAgg159
  z51 := Tryd.sizeOf159
  v51 := Tryd.zeroValue159
  t53 := Tryd.underlying179
  a53 := Tryd.isAgg179
  z53 := Tryd.sizeOf179
  v53 := Tryd.zeroValue179
  t171 := Tryd.underlying178
  a171 := Tryd.isAgg178
  z171 := Tryd.sizeOf178
  v171 := Tryd.zeroValue178
  t173 := Tryd.underlying182
  a173 := Tryd.isAgg182
  z173 := Tryd.sizeOf182
  v173 := Tryd.zeroValue182
  t212 := Tryd.underlying193
  a212 := Tryd.isAgg193
  z212 := Tryd.sizeOf193
  v212 := Tryd.zeroValue193
  t213 := Tryd.underlying194
  a213 := Tryd.isAgg194
  z213 := Tryd.sizeOf194
  t232 := Tryd.underlying211
  a232 := Tryd.isAgg211
  z232 := Tryd.sizeOf211
  v232 := Tryd.zeroValue211
  t233 := Tryd.underlying212
  a233 := Tryd.isAgg212
  z233 := Tryd.sizeOf212
  v233 := Tryd.zeroValue212
  g17 := by kernel_rfl
  g18 := by kernel_rfl
  g19 := by kernel_rfl
  i0 := by kernel_rfl
  i2 := by kernel_rfl
  i3 := by kernel_rfl
  i4 := by kernel_rfl
  i5 := by kernel_rfl
  i9 := by kernel_rfl
  i20 := by kernel_rfl
  i37 := by kernel_rfl
  i46 := by kernel_rfl
  i51 := by kernel_rfl
  i53 := by kernel_rfl
  i171 := by kernel_rfl
  i173 := by kernel_rfl
  i212 := by kernel_rfl
  i232 := by kernel_rfl
  i233 := by kernel_rfl
  m17 := by kernel_rfl
  m18 := by kernel_rfl
  m19 := by kernel_rfl }
open Go.RowKit Go.Sort Go.Lib in
/-- strconv.Itoa: "Itoa is equivalent to FormatInt(int64(i), 10).": i's DECIMAL NUMERAL ('Lib.itoa': a '-' where i is negative, then the digits), FOR EVERY int. The world behind the call: the world before it, new blocks behind the heap (the library's 'var a [24]byte'), draws. (LAID: no walk: one application.) -/
theorem Tryd.strconv_Itoa (n : Int) (h0 : -9223372036854775808 ≤ n) (h1 : n ≤ 9223372036854775807) (w : World) (htab : Lib.TabIs Tryd.prog w "internal/strconv.uint64pow10" .u64 Lib.pow10Tab) :
    Calls Tryd.prog 35 #[.int .i64 n] w fun e w' => e = .returned (.string ⟨(Lib.itoa n).toArray⟩) ∧ ∃ k os, w' = grow (w.drewN k) os := Any.strconv_Itoa Tryd.laysM171 n h0 h1 w htab
def Tryd.laysC172_ren : Go.Shelf.Ren := ⟨fun | 172 => 88 | 244 => 111 | 245 => 112 | 247 => 125 | 279 => 126 | 280 => 127 | 281 => 128 | 282 => 129 | 287 => 140 | 316 => 141 | 171 => 35 | 205 => 142 | 321 => 147 | 322 => 148 | 243 => 71 | 246 => 99 | 283 => 119 | 284 => 120 | 285 => 121 | 286 => 122 | 129 => 136 | 317 => 135 | 318 => 137 | 319 => 138 | 320 => 139 | 337 => 145 | 338 => 146 | n => n, fun | 9 => 9 | 3 => 3 | 75 => 110 | 76 => 111 | 4 => 4 | 5 => 5 | 167 => 186 | 37 => 84 | 0 => 0 | 85 => 187 | 2 => 2 | 168 => 189 | 53 => 179 | 175 => 196 | 46 => 136 | 210 => 200 | 127 => 147 | 145 => 210 | 143 => 208 | 21 => 21 | 171 => 178 | 173 => 182 | 212 => 193 | 51 => 159 | 20 => 20 | 213 => 194 | 232 => 211 | 233 => 212 | 80 => 114 | n => n, fun | 15 => 2 | 16 => 3 | 17 => 1 | 18 => 6 | 19 => 7 | n => n⟩
theorem Tryd.laysC172 : Go.Proofs.LaysC.n172 Tryd.prog Tryd.laysC172_ren := {
  mixed := by kernel_rfl
  f129 := Tryd.func136.trans (congrArg some (by kernel_rfl))
  f171 := Tryd.func35.trans (congrArg some (by kernel_rfl))
  f172 := Tryd.func88.trans (congrArg some (by kernel_rfl))
  f205 := Tryd.func142.trans (congrArg some (by kernel_rfl))
  f243 := Tryd.func71.trans (congrArg some (by kernel_rfl))
  f244 := Tryd.func111.trans (congrArg some (by kernel_rfl))
  f245 := Tryd.func112.trans (congrArg some (by kernel_rfl))
  f246 := Tryd.func99.trans (congrArg some (by kernel_rfl))
  f247 := Tryd.func125.trans (congrArg some (by kernel_rfl))
  f279 := Tryd.func126.trans (congrArg some (by kernel_rfl))
  f280 := Tryd.func127.trans (congrArg some (by kernel_rfl))
  f281 := Tryd.func128.trans (congrArg some (by kernel_rfl))
  f282 := Tryd.func129.trans (congrArg some (by kernel_rfl))
  f283 := Tryd.func119.trans (congrArg some (by kernel_rfl))
  f284 := Tryd.func120.trans (congrArg some (by kernel_rfl))
  f285 := Tryd.func121.trans (congrArg some (by kernel_rfl))
  f286 := Tryd.func122.trans (congrArg some (by kernel_rfl))
  f287 := Tryd.func140.trans (congrArg some (by kernel_rfl))
  f316 := Tryd.func141.trans (congrArg some (by kernel_rfl))
  f317 := Tryd.func135.trans (congrArg some (by kernel_rfl))
  f318 := Tryd.func137.trans (congrArg some (by kernel_rfl))
  f319 := Tryd.func138.trans (congrArg some (by kernel_rfl))
  f320 := Tryd.func139.trans (congrArg some (by kernel_rfl))
  f321 := Tryd.func147.trans (congrArg some (by kernel_rfl))
  f322 := Tryd.func148.trans (congrArg some (by kernel_rfl))
  f337 := Tryd.func145.trans (congrArg some (by kernel_rfl))
  f338 := Tryd.func146.trans (congrArg some (by kernel_rfl))
  t0 := Tryd.underlying0
  a0 := Tryd.isAgg0
  z0 := Tryd.sizeOf0
  v0 := Tryd.zeroValue0
  t2 := Tryd.underlying2
  a2 := Tryd.isAgg2
  z2 := Tryd.sizeOf2
  v2 := Tryd.zeroValue2
  t3 := Tryd.underlying3
  a3 := Tryd.isAgg3
  z3 := Tryd.sizeOf3
  v3 := Tryd.zeroValue3
  t4 := Tryd.underlying4
  a4 := Tryd.isAgg4
  z4 := Tryd.sizeOf4
  v4 := Tryd.zeroValue4
  t5 := Tryd.underlying5
  a5 := Tryd.isAgg5
  z5 := Tryd.sizeOf5
  v5 := Tryd.zeroValue5
  t9 := Tryd.underlying9
  a9 := Tryd.isAgg9
  z9 := Tryd.sizeOf9
  v9 := Tryd.zeroValue9
  t20 := Tryd.underlying20
  a20 := Tryd.isAgg20
  z20 := Tryd.sizeOf20
  v20 := Tryd.zeroValue20
  t21 := Tryd.underlying21
  a21 := Tryd.isAgg21
  z21 := Tryd.sizeOf21
  v21 := Tryd.zeroValue21
  t37 := Tryd.underlying84
  a37 := Tryd.isAgg84
  z37 := Tryd.sizeOf84
  v37 := Tryd.zeroValue84
  t46 := Tryd.underlying136
  a46 := Tryd.isAgg136
  z46 := Tryd.sizeOf136
  v46 := Tryd.zeroValue136
  t51 := Tryd.underlying159
  a51 := Tryd.isAgg159
  z51 := Tryd.sizeOf159
  v51 := Tryd.zeroValue159
  t53 := Tryd.underlying179
  a53 := Tryd.isAgg179
  z53 := Tryd.sizeOf179
  v53 := Tryd.zeroValue179
  t75 := Tryd.underlying110
  a75 := Tryd.isAgg110
  z75 := Tryd.sizeOf110
  v75 := Tryd.zeroValue110
  t76 := Tryd.underlying111
  a76 := Tryd.isAgg111
  z76 := Tryd.sizeOf111
  v76 := Tryd.zeroValue111
  t85 := Tryd.underlying187
  a85 := Tryd.isAgg187
  z85 := Tryd.sizeOf187
  v85 := Tryd.zeroValue187
  t127 := Tryd.underlying147
  a127 := Tryd.isAgg147
  z127 := Tryd.sizeOf147
  v127 := Tryd.zeroValue147
  t143 := Tryd.underlying208
  a143 := Tryd.isAgg208
  z143 := Tryd.sizeOf208
  v143 := Tryd.zeroValue208
  t145 := Tryd.underlying210
  a145 := Tryd.isAgg210
  z145 := Tryd.sizeOf210
  v145 := Tryd.zeroValue210
  t167 := Tryd.underlying186
  a167 := Tryd.isAgg186
  z167 := Tryd.sizeOf186
  v167 := Tryd.zeroValue186
  t168 := Tryd.underlying189
  a168 := Tryd.isAgg189
  z168 := Tryd.sizeOf189
  v168 := Tryd.zeroValue189
  t171 := Tryd.underlying178
  a171 := Tryd.isAgg178
  z171 := Tryd.sizeOf178
  v171 := Tryd.zeroValue178
  t173 := Tryd.underlying182
  a173 := Tryd.isAgg182
  z173 := Tryd.sizeOf182
  v173 := Tryd.zeroValue182
  t175 := Tryd.underlying196
  a175 := Tryd.isAgg196
  z175 := Tryd.sizeOf196
  v175 := Tryd.zeroValue196
  t210 := Tryd.underlying200
  a210 := Tryd.isAgg200
  z210 := Tryd.sizeOf200
  v210 := Tryd.zeroValue200
  t212 := Tryd.underlying193
  a212 := Tryd.isAgg193
  z212 := Tryd.sizeOf193
  v212 := Tryd.zeroValue193
  t213 := Tryd.underlying194
  a213 := Tryd.isAgg194
  z213 := Tryd.sizeOf194
  t232 := Tryd.underlying211
  a232 := Tryd.isAgg211
  z232 := Tryd.sizeOf211
  v232 := Tryd.zeroValue211
  t233 := Tryd.underlying212
  a233 := Tryd.isAgg212
  z233 := Tryd.sizeOf212
  v233 := Tryd.zeroValue212
  g15 := by kernel_rfl
  g16 := by kernel_rfl
  g17 := by kernel_rfl
  g18 := by kernel_rfl
  g19 := by kernel_rfl
  t80 := Tryd.underlying114
  a80 := Tryd.isAgg114
  z80 := Tryd.sizeOf114
  v80 := Tryd.zeroValue114
  i0 := by kernel_rfl
  i2 := by kernel_rfl
  i3 := by kernel_rfl
  i4 := by kernel_rfl
  i5 := by kernel_rfl
  i9 := by kernel_rfl
  i20 := by kernel_rfl
  i21 := by kernel_rfl
  i37 := by kernel_rfl
  i46 := by kernel_rfl
  i51 := by kernel_rfl
  i53 := by kernel_rfl
  i75 := by kernel_rfl
  i76 := by kernel_rfl
  i80 := by kernel_rfl
  i85 := by kernel_rfl
  i127 := by kernel_rfl
  i143 := by kernel_rfl
  i145 := by kernel_rfl
  i167 := by kernel_rfl
  i168 := by kernel_rfl
  i171 := by kernel_rfl
  i173 := by kernel_rfl
  i175 := by kernel_rfl
  i210 := by kernel_rfl
  i212 := by kernel_rfl
  i232 := by kernel_rfl
  i233 := by kernel_rfl
  m15 := by kernel_rfl
  m16 := by kernel_rfl
  m17 := by kernel_rfl
  m18 := by kernel_rfl
  m19 := by kernel_rfl
  c0 := by kernel_rfl
  c2 := by kernel_rfl
  c3 := by kernel_rfl
  c4 := by kernel_rfl
  c5 := by kernel_rfl
  c9 := by kernel_rfl
  c20 := by kernel_rfl
  c21 := by kernel_rfl
  c37 := by kernel_rfl
  c46 := by kernel_rfl
  c51 := by kernel_rfl
  c53 := by kernel_rfl
  c75 := by kernel_rfl
  c76 := by kernel_rfl
  c80 := by kernel_rfl
  c85 := by kernel_rfl
  c127 := by kernel_rfl
  c143 := by kernel_rfl
  c145 := by kernel_rfl
  c167 := by kernel_rfl
  c168 := by kernel_rfl
  c171 := by kernel_rfl
  c173 := by kernel_rfl
  c175 := by kernel_rfl
  c210 := by kernel_rfl
  c212 := by kernel_rfl
  c213 := by kernel_rfl
  c232 := by kernel_rfl
  c233 := by kernel_rfl }
open Go.RowKit in
/-- strconv.Atoi, AT EVERY STRING THAT SPELLS AN int ('Lib.atoiAll .. = .ok v'; of whatever length: leading zeros count): v, AND NO ERROR. The world: as it was, or with the one new row that '[]byte(..)' lays. (LAID: no walk: one application.) -/
theorem Tryd.strconv_Atoi_ok (s : ByteArray) (hmax : s.size ≤ 9223372036854775806) (v : Int) (h : Lib.atoiAll s.data.toList = .ok v) (w : World) :
    Calls Tryd.prog 88 #[.string s] w fun e w' => e = .returned (.tuple #[.int .i64 v, .nilIface]) ∧ (w' = w ∨ ∃ t, w' = Lib.bytesWorld w 5 t) := Any.strconv_Atoi_ok Tryd.laysC172 s hmax v h w
open Go.RowKit in
/-- strconv.Atoi, AT EVERY NUMERAL THAT NO int HOLDS ('.range'): THE GREATEST OR THE LEAST int, BY THE SIGN ('Lib.atoiSat'), AND AN ERROR THAT IS NOT nil: a *NumError in a new block N: {Func: "Atoi", Num: s's bytes, Err: what the variable ErrRange holds}. Of what was there nothing has turned. (LAID: no walk: one application.) -/
theorem Tryd.strconv_Atoi_range (s : ByteArray) (hlim : s.size ≤ 281474976710656) (h : Lib.atoiAll s.data.toList = .range) (ev : Value) (w : World) (hv : w.cell? ⟨3, 0, none⟩ = some ev) (hev : ev = .nilIface ∨ ∃ te pe, ev = .iface te pe) :
    Calls Tryd.prog 88 #[.string s] w fun e w' => ∃ N, e = .returned (.tuple #[.int .i64 (Lib.atoiSat s.data.toList), .iface 189 (.pointer (some ⟨N, 0, none⟩))]) ∧ w.heap.size ≤ N ∧ w'.heap[N]? = some (.cells #[.string ⟨#[65, 116, 111, 105]⟩, .string s, ev] 200 (0, 0)) ∧ Below w.heap.size w w' := Any.strconv_Atoi_range Tryd.laysC172 s hlim h ev w hv hev
def Tryd.lays148_ren : Go.Shelf.Ren := ⟨fun | 148 => 40 | 222 => 74 | 223 => 75 | 269 => 101 | n => n, fun | 9 => 9 | 3 => 3 | 4 => 4 | 5 => 5 | 146 => 160 | 51 => 159 | 46 => 136 | n => n, fun | n => n⟩
theorem Tryd.lays148 : Go.Proofs.Lays.n148 Tryd.prog Tryd.lays148_ren := {
  mixed := by kernel_rfl
  f148 := Tryd.func40.trans (congrArg some (by kernel_rfl))
  f222 := Tryd.func74.trans (congrArg some (by kernel_rfl))
  f223 := Tryd.func75.trans (congrArg some (by kernel_rfl))
  f269 := Tryd.func101.trans (congrArg some (by kernel_rfl))
  t3 := Tryd.underlying3
  a3 := Tryd.isAgg3
  z3 := Tryd.sizeOf3
  v3 := Tryd.zeroValue3
  t4 := Tryd.underlying4
  a4 := Tryd.isAgg4
  z4 := Tryd.sizeOf4
  v4 := Tryd.zeroValue4
  t5 := Tryd.underlying5
  a5 := Tryd.isAgg5
  z5 := Tryd.sizeOf5
  v5 := Tryd.zeroValue5
  t9 := Tryd.underlying9
  a9 := Tryd.isAgg9
  z9 := Tryd.sizeOf9
  v9 := Tryd.zeroValue9
  t46 := Tryd.underlying136
  a46 := Tryd.isAgg136
  z46 := Tryd.sizeOf136
  v46 := Tryd.zeroValue136
  t51 := Tryd.underlying159
  a51 := Tryd.isAgg159
  z51 := Tryd.sizeOf159
  v51 := Tryd.zeroValue159
  t146 := Tryd.underlying160
  a146 := Tryd.isAgg160
  z146 := Tryd.sizeOf160
  v146 := Tryd.zeroValue160 }
open Go.RowKit Go.Lib in
/-- strings.LastIndex AT A substr OF ONE BYTE (as in 'strings.LastIndex(path, "/")'): the last place of that byte, or -1. (LAID: no walk: one application.) -/
theorem Tryd.strings_LastIndex_one (s sub : ByteArray) (h1 : sub.size = 1) (hs : s.size < 4611686018427387904) (w : World) :
    Calls Tryd.prog 40 #[.string s, .string sub] w fun e w' => e = .returned (.int .i64 (Lib.lastIndexByte s ((sub[0]'(by omega)).toNat : Int))) ∧ w' = w := Any.strings_LastIndex_one Tryd.lays148 s sub h1 hs w
def Tryd.lays99_ren : Go.Shelf.Ren := ⟨fun | 99 => 93 | 206 => 118 | n => n, fun | 9 => 9 | 4 => 4 | 3 => 3 | n => n, fun | n => n⟩
theorem Tryd.lays99 : Go.Proofs.Lays.n99 Tryd.prog Tryd.lays99_ren := {
  mixed := by kernel_rfl
  f99 := Tryd.func93.trans (congrArg some (by kernel_rfl))
  f206 := Tryd.func118.trans (congrArg some (by kernel_rfl))
  t3 := Tryd.underlying3
  a3 := Tryd.isAgg3
  z3 := Tryd.sizeOf3
  v3 := Tryd.zeroValue3
  t4 := Tryd.underlying4
  a4 := Tryd.isAgg4
  z4 := Tryd.sizeOf4
  v4 := Tryd.zeroValue4
  t9 := Tryd.underlying9
  a9 := Tryd.isAgg9
  z9 := Tryd.sizeOf9
  v9 := Tryd.zeroValue9 }
open Go.RowKit Go.Lib in
/-- strings.HasPrefix: "HasPrefix reports whether the string s begins with prefix.": IT RETURNS 'Lib.hasPrefix s prefix'; the world is as it was. (LAID: no walk: one application.) -/
theorem Tryd.strings_HasPrefix (s p : ByteArray) (w : World) :
    Calls Tryd.prog 93 #[.string s, .string p] w fun e w' => e = .returned (.bool (Lib.hasPrefix s.data.toList p.data.toList)) ∧ w' = w := Any.strings_HasPrefix Tryd.lays99 s p w
def Tryd.lays100_ren : Go.Shelf.Ren := ⟨fun | 100 => 68 | 207 => 98 | n => n, fun | 9 => 9 | 4 => 4 | 3 => 3 | n => n, fun | n => n⟩
theorem Tryd.lays100 : Go.Proofs.Lays.n100 Tryd.prog Tryd.lays100_ren := {
  mixed := by kernel_rfl
  f100 := Tryd.func68.trans (congrArg some (by kernel_rfl))
  f207 := Tryd.func98.trans (congrArg some (by kernel_rfl))
  t3 := Tryd.underlying3
  a3 := Tryd.isAgg3
  z3 := Tryd.sizeOf3
  v3 := Tryd.zeroValue3
  t4 := Tryd.underlying4
  a4 := Tryd.isAgg4
  z4 := Tryd.sizeOf4
  v4 := Tryd.zeroValue4
  t9 := Tryd.underlying9
  a9 := Tryd.isAgg9
  z9 := Tryd.sizeOf9
  v9 := Tryd.zeroValue9 }
open Go.RowKit Go.Lib in
/-- strings.HasSuffix: "HasSuffix reports whether the string s ends with suffix.": IT RETURNS 'Lib.hasSuffix s suffix'; the world is as it was. ('hs': no Go string is longer: a caller has it of every string that it was handed.) (LAID: no walk: one application.) -/
theorem Tryd.strings_HasSuffix (s p : ByteArray) (w : World) (hs : s.size ≤ 9223372036854775807) :
    Calls Tryd.prog 68 #[.string s, .string p] w fun e w' => e = .returned (.bool (Lib.hasSuffix s.data.toList p.data.toList)) ∧ w' = w := Any.strings_HasSuffix Tryd.lays100 s p w hs
def Tryd.lays101_ren : Go.Shelf.Ren := ⟨fun | 101 => 89 | 208 => 113 | 206 => 118 | n => n, fun | 9 => 9 | 4 => 4 | 3 => 3 | n => n, fun | n => n⟩
theorem Tryd.lays101 : Go.Proofs.Lays.n101 Tryd.prog Tryd.lays101_ren := {
  mixed := by kernel_rfl
  f101 := Tryd.func89.trans (congrArg some (by kernel_rfl))
  f206 := Tryd.func118.trans (congrArg some (by kernel_rfl))
  f208 := Tryd.func113.trans (congrArg some (by kernel_rfl))
  t3 := Tryd.underlying3
  a3 := Tryd.isAgg3
  z3 := Tryd.sizeOf3
  v3 := Tryd.zeroValue3
  t4 := Tryd.underlying4
  a4 := Tryd.isAgg4
  z4 := Tryd.sizeOf4
  v4 := Tryd.zeroValue4
  t9 := Tryd.underlying9
  a9 := Tryd.isAgg9
  z9 := Tryd.sizeOf9
  v9 := Tryd.zeroValue9 }
open Go.RowKit Go.Lib in
/-- strings.TrimPrefix: "TrimPrefix returns s without the provided leading prefix string. If s doesn't start with prefix, s is returned unchanged.": IT RETURNS 'Lib.trimPrefix s prefix'; the world is as it was. (LAID: no walk: one application.) -/
theorem Tryd.strings_TrimPrefix (s p : ByteArray) (w : World) :
    Calls Tryd.prog 89 #[.string s, .string p] w fun e w' => e = .returned (.string ⟨(Lib.trimPrefix s.data.toList p.data.toList).toArray⟩) ∧ w' = w := Any.strings_TrimPrefix Tryd.lays101 s p w
def Tryd.laysM146_ren : Go.Shelf.Ren := ⟨fun | 146 => 25 | 221 => 59 | 268 => 90 | 138 => 91 | 143 => 92 | 195 => 114 | 197 => 115 | 218 => 116 | 219 => 117 | 260 => 130 | 217 => 131 | 225 => 132 | 224 => 133 | 267 => 134 | 266 => 143 | 314 => 144 | n => n, fun | 9 => 9 | 31 => 48 | 3 => 3 | 4 => 4 | 0 => 0 | 105 => 176 | 21 => 21 | 5 => 5 | 46 => 136 | 119 => 202 | 139 => 205 | 138 => 204 | 146 => 160 | 51 => 159 | n => n, fun | 1 => 0 | 3 => 4 | 4 => 5 | n => n⟩
theorem Tryd.laysM146 : Go.Proofs.LaysM.n146 Tryd.prog Tryd.laysM146_ren := {
  mixed := by kernel_rfl
  f138 := Tryd.func91.trans (congrArg some (by kernel_rfl))
  f143 := Tryd.func92.trans (congrArg some (by kernel_rfl))
  f146 := Tryd.func25.trans (congrArg some (by kernel_rfl))
  f195 := Tryd.func114.trans (congrArg some (by kernel_rfl))
  f197 := Tryd.func115.trans (congrArg some (by kernel_rfl))
  f217 := Tryd.func131.trans (congrArg some (by kernel_rfl))
  f218 := Tryd.func116.trans (congrArg some (by kernel_rfl))
  f219 := Tryd.func117.trans (congrArg some (by kernel_rfl))
  f221 := Tryd.func59.trans (congrArg some (by kernel_rfl))
  f224 := Tryd.func133.trans (congrArg some (by kernel_rfl))
  f225 := Tryd.func132.trans (congrArg some (by kernel_rfl))
  f260 := Tryd.func130.trans (congrArg some (by kernel_rfl))
  f266 := Tryd.func143.trans (congrArg some (by kernel_rfl))
  f267 := Tryd.func134.trans (congrArg some (by kernel_rfl))
  f268 := Tryd.func90.trans (congrArg some (by kernel_rfl))
  f314 := Tryd.func144.trans (congrArg some (by kernel_rfl))
  t0 := Tryd.underlying0
  a0 := Tryd.isAgg0
  z0 := Tryd.sizeOf0
  v0 := Tryd.zeroValue0
  t3 := Tryd.underlying3
  a3 := Tryd.isAgg3
  z3 := Tryd.sizeOf3
  v3 := Tryd.zeroValue3
  t4 := Tryd.underlying4
  a4 := Tryd.isAgg4
  z4 := Tryd.sizeOf4
  v4 := Tryd.zeroValue4
  t5 := Tryd.underlying5
  a5 := Tryd.isAgg5
  z5 := Tryd.sizeOf5
  v5 := Tryd.zeroValue5
  t9 := Tryd.underlying9
  a9 := Tryd.isAgg9
  z9 := Tryd.sizeOf9
  v9 := Tryd.zeroValue9
  t21 := Tryd.underlying21
  a21 := Tryd.isAgg21
  z21 := Tryd.sizeOf21
  v21 := Tryd.zeroValue21
  t31 := Tryd.underlying48
  a31 := Tryd.isAgg48
  z31 := Tryd.sizeOf48
  v31 := Tryd.zeroValue48
  t46 := Tryd.underlying136
  a46 := Tryd.isAgg136
  z46 := Tryd.sizeOf136
  v46 := Tryd.zeroValue136
  t51 := Tryd.underlying159
  a51 := Tryd.isAgg159
  z51 := Tryd.sizeOf159
  v51 := Tryd.zeroValue159
  t105 := Tryd.underlying176
  a105 := Tryd.isAgg176
  z105 := Tryd.sizeOf176
  v105 := Tryd.zeroValue176
  t119 := Tryd.underlying202
  a119 := Tryd.isAgg202
  z119 := Tryd.sizeOf202
  t138 := Tryd.underlying204
  a138 := Tryd.isAgg204
  z138 := Tryd.sizeOf204
  v138 := Tryd.zeroValue204
  t139 := Tryd.underlying205
  a139 := Tryd.isAgg205
  z139 := Tryd.sizeOf205
  v139 := Tryd.zeroValue205
  t146 := Tryd.underlying160
  a146 := Tryd.isAgg160
  z146 := Tryd.sizeOf160
  v146 := Tryd.zeroValue160
  g1 := by kernel_rfl
  g3 := by kernel_rfl
  g4 := by kernel_rfl
  i0 := by kernel_rfl
  i3 := by kernel_rfl
  i4 := by kernel_rfl
  i5 := by kernel_rfl
  i9 := by kernel_rfl
  i21 := by kernel_rfl
  i31 := by kernel_rfl
  i46 := by kernel_rfl
  i51 := by kernel_rfl
  i105 := by kernel_rfl
  i138 := by kernel_rfl
  i139 := by kernel_rfl
  i146 := by kernel_rfl
  m1 := by kernel_rfl
  s1_3 := fun w h => Go.Proofs.cell_of_shapedOpen_int (zero := #[.int .i64 0]) (t := 3) h (of_decide_eq_true (by kernel_rfl)) (by kernel_rfl) rfl (by kernel_rfl) (by kernel_rfl) Tryd.underlying3
  m3 := by kernel_rfl
  m4 := by kernel_rfl }
open Go.RowKit Go.Lib in
/-- strings.Split, sep not empty. (LAID: no walk: one application.) -/
theorem Tryd.strings_Split_shaped (s sep : ByteArray) (w : World) (h : w.ShapedOpen Tryd.prog) (hs : s.size < 4294967281) (h1 : 1 ≤ sep.size) :
    Calls Tryd.prog 25 #[.string s, .string sep] w fun e w' =>
      e = .returned (.slice (some ⟨w.heap.size, 0, none⟩) (Lib.countB s sep + 1) (Lib.countB s sep + 1)) ∧ w' = w.alloc (.cells ((Lib.splitB sep 0 (Lib.countB s sep) s).map Value.string).toArray 9) := Any.strings_Split_shaped Tryd.laysM146 s sep w h hs h1
end Go.Proofs
