import Derived.Shelf.Strings.Builder1
import Derived.Shelf.Strings.Builder2
import Derived.Shelf.Strings.OnBuilder
import Derived.Shelf.Small.Strs
import Derived.Shelf.Small.Wraps
import Derived.Shelf.Strings.BuilderF
import Derived.Shelf.Strings.BuilderK
import Derived.Shelf.Strings.Builder2Cap
import Derived.Shelf.Strconv.Atoi
import Derived.Shelf.Strconv.Itoa0
import Derived.Shelf.Strconv.Itoa1
import Derived.Shelf.LaysM
import Derived.Shelf.Strconv.Itoa2
import Derived.Shelf.Strconv.Itoa3
import Derived.Shelf.Strings.Search1
import Derived.Shelf.Strings.Search2
import Derived.Shelf.Strings.Search3
import Derived.Shelf.Strings.Count
import Derived.Shelf.Strings.Shaped
import Derived.Shelf.Strings.Prefix
import Derived.Shelf.Strings.Split
import Derived.Shelf.Strings.SplitShaped
import Derived.Shelf.Unicode.DecodeSlow
import Derived.Shelf.Strings.BuilderCap
import Derived.Test.YtpmliaildjomeaaGreatDoorProg
namespace Go.Proofs
open Go.Shelf
def Tryz.lays169_ren : Go.Shelf.Ren := ⟨fun | 169 => 42 | n => n, fun | 70 => 90 | 9 => 9 | 0 => 0 | 72 => 93 | 37 => 91 | 127 => 129 | 3 => 3 | 5 => 5 | n => n, fun | n => n⟩
theorem Tryz.lays169 : Go.Proofs.Lays.n169 Tryz.prog Tryz.lays169_ren := {
  mixed := by kernel_rfl
  f169 := Tryz.func42.trans (congrArg some (by kernel_rfl))
  t0 := Tryz.underlying0
  a0 := Tryz.isAgg0
  z0 := Tryz.sizeOf0
  v0 := Tryz.zeroValue0
  t3 := Tryz.underlying3
  a3 := Tryz.isAgg3
  z3 := Tryz.sizeOf3
  v3 := Tryz.zeroValue3
  t9 := Tryz.underlying9
  a9 := Tryz.isAgg9
  z9 := Tryz.sizeOf9
  v9 := Tryz.zeroValue9
  t37 := Tryz.underlying91
  a37 := Tryz.isAgg91
  z37 := Tryz.sizeOf91
  v37 := Tryz.zeroValue91
  t70 := Tryz.underlying90
  a70 := Tryz.isAgg90
  z70 := Tryz.sizeOf90
  v70 := Tryz.zeroValue90
  t72 := Tryz.underlying93
  a72 := Tryz.isAgg93
  z72 := Tryz.sizeOf93
  v72 := Tryz.zeroValue93
  t127 := Tryz.underlying129
  a127 := Tryz.isAgg129
  z127 := Tryz.sizeOf129
  v127 := Tryz.zeroValue129 }
theorem Tryz.Builder_Extra_169 : Builder.Extra Tryz.prog Tryz.lays169_ren := {
  sizeBuilder := by kernel_rfl
  liesBuilder := by kernel_rfl
  t5 := Tryz.underlying5
  a5 := Tryz.isAgg5
  z5 := Tryz.sizeOf5
  v5 := Tryz.zeroValue5
  infoByte := by kernel_rfl
  cellsByte := by kernel_rfl
  sizeByte := by kernel_rfl
  neB5 := by decide }
open Go.RowKit in
/-- (*strings.Builder).String: "String returns the accumulated string.": WHATEVER THE BUILDER HOLDS. (LAID: no walk: one application.) -/
theorem Tryz.Builder_String_any (B b : Nat) (l : List UInt8) (w : World) (h : Lib.IsBuilder 93 5 B b (Lib.byteCells l) w) (hBw : B ≤ w.heap.size) :
    Calls Tryz.prog 42 #[.pointer (some ⟨b, 0, none⟩)] w fun e w' => e = .returned (.string ⟨l.toArray⟩) ∧ Below B w w' := Any.Builder_String_any Tryz.lays169 Tryz.Builder_Extra_169 B b l w h hBw
def Tryz.lays156_ren : Go.Shelf.Ren := ⟨fun | 156 => 65 | 165 => 92 | 166 => 41 | 169 => 42 | 240 => 67 | 241 => 118 | 276 => 99 | 277 => 138 | n => n, fun | 31 => 79 | 9 => 9 | 3 => 3 | 4 => 4 | 0 => 0 | 20 => 20 | 72 => 93 | 76 => 96 | 70 => 90 | 37 => 91 | 75 => 95 | 127 => 129 | 164 => 137 | 5 => 5 | 80 => 98 | n => n, fun | n => n⟩
theorem Tryz.lays156 : Go.Proofs.Lays.n156 Tryz.prog Tryz.lays156_ren := {
  mixed := by kernel_rfl
  f156 := Tryz.func65.trans (congrArg some (by kernel_rfl))
  f165 := Tryz.func92.trans (congrArg some (by kernel_rfl))
  f166 := Tryz.func41.trans (congrArg some (by kernel_rfl))
  f169 := Tryz.func42.trans (congrArg some (by kernel_rfl))
  f240 := Tryz.func67.trans (congrArg some (by kernel_rfl))
  f241 := Tryz.func118.trans (congrArg some (by kernel_rfl))
  f276 := Tryz.func99.trans (congrArg some (by kernel_rfl))
  f277 := Tryz.func138.trans (congrArg some (by kernel_rfl))
  t0 := Tryz.underlying0
  a0 := Tryz.isAgg0
  z0 := Tryz.sizeOf0
  v0 := Tryz.zeroValue0
  t3 := Tryz.underlying3
  a3 := Tryz.isAgg3
  z3 := Tryz.sizeOf3
  v3 := Tryz.zeroValue3
  t4 := Tryz.underlying4
  a4 := Tryz.isAgg4
  z4 := Tryz.sizeOf4
  v4 := Tryz.zeroValue4
  t9 := Tryz.underlying9
  a9 := Tryz.isAgg9
  z9 := Tryz.sizeOf9
  v9 := Tryz.zeroValue9
  t20 := Tryz.underlying20
  a20 := Tryz.isAgg20
  z20 := Tryz.sizeOf20
  v20 := Tryz.zeroValue20
  t31 := Tryz.underlying79
  a31 := Tryz.isAgg79
  z31 := Tryz.sizeOf79
  v31 := Tryz.zeroValue79
  t37 := Tryz.underlying91
  a37 := Tryz.isAgg91
  z37 := Tryz.sizeOf91
  v37 := Tryz.zeroValue91
  t70 := Tryz.underlying90
  a70 := Tryz.isAgg90
  z70 := Tryz.sizeOf90
  v70 := Tryz.zeroValue90
  t72 := Tryz.underlying93
  a72 := Tryz.isAgg93
  z72 := Tryz.sizeOf93
  v72 := Tryz.zeroValue93
  t75 := Tryz.underlying95
  a75 := Tryz.isAgg95
  z75 := Tryz.sizeOf95
  v75 := Tryz.zeroValue95
  t76 := Tryz.underlying96
  a76 := Tryz.isAgg96
  z76 := Tryz.sizeOf96
  v76 := Tryz.zeroValue96
  t127 := Tryz.underlying129
  a127 := Tryz.isAgg129
  z127 := Tryz.sizeOf129
  v127 := Tryz.zeroValue129
  t164 := Tryz.underlying137
  a164 := Tryz.isAgg137
  z164 := Tryz.sizeOf137
  v164 := Tryz.zeroValue137 }
theorem Tryz.Builder_Extra_156 : Builder.Extra Tryz.prog Tryz.lays156_ren := {
  sizeBuilder := by kernel_rfl
  liesBuilder := by kernel_rfl
  t5 := Tryz.underlying5
  a5 := Tryz.isAgg5
  z5 := Tryz.sizeOf5
  v5 := Tryz.zeroValue5
  infoByte := by kernel_rfl
  cellsByte := by kernel_rfl
  sizeByte := by kernel_rfl
  neB5 := by decide }
open Go.RowKit in
/-- strings.Join: "Join concatenates the elements of its first argument to create a single string. The separator string sep is placed between elements in the resulting string.": HOWEVER MANY ELEMENTS. Below the heap's end the world is as it was. (LAID: no walk: one application.) -/
theorem Tryz.strings_Join (bk o c : Nat) (xs : List ByteArray) (sep : ByteArray) (w : World) (hcells : ∀ (j : Nat) x, xs[j]? = some x → w.cell? ⟨bk, o + j, none⟩ = some (.string x)) (hbk : bk < w.heap.size) (hN : xs.length ≤ 140737488355328) (hcap : xs.length ≤ c) (hlen : (Lib.join (xs.map (·.data.toList)) sep.data.toList).length ≤ 140737488355328) :
    Calls Tryz.prog 65 #[.slice (some ⟨bk, o, none⟩) xs.length c, .string sep] w fun e w' => e = .returned (.string ⟨(Lib.join (xs.map (·.data.toList)) sep.data.toList).toArray⟩) ∧ Below w.heap.size w w' := Any.strings_Join Tryz.lays156 Tryz.Builder_Extra_156 bk o c xs sep w hcells hbk hN hcap hlen
def Tryz.lays137_ren : Go.Shelf.Ren := ⟨fun | 137 => 101 | 217 => 121 | 266 => 139 | n => n, fun | 9 => 9 | 5 => 5 | 3 => 3 | n => n, fun | n => n⟩
theorem Tryz.lays137 : Go.Proofs.Lays.n137 Tryz.prog Tryz.lays137_ren := {
  mixed := by kernel_rfl
  f137 := Tryz.func101.trans (congrArg some (by kernel_rfl))
  f217 := Tryz.func121.trans (congrArg some (by kernel_rfl))
  f266 := Tryz.func139.trans (congrArg some (by kernel_rfl))
  t3 := Tryz.underlying3
  a3 := Tryz.isAgg3
  z3 := Tryz.sizeOf3
  v3 := Tryz.zeroValue3
  t5 := Tryz.underlying5
  a5 := Tryz.isAgg5
  z5 := Tryz.sizeOf5
  v5 := Tryz.zeroValue5
  t9 := Tryz.underlying9
  a9 := Tryz.isAgg9
  z9 := Tryz.sizeOf9
  v9 := Tryz.zeroValue9 }
open Go.RowKit in
/-- strings.IndexByte: "IndexByte returns the index of the first instance of c in s, or -1 if c is not present in s.": IT RETURNS 'Lib.indexByte s c'; the world is as it was. (LAID: no walk: one application.) -/
theorem Tryz.strings_IndexByte (s : ByteArray) (c : Int) (w : World) :
    Calls Tryz.prog 101 #[.string s, .int .u8 c] w fun e w' => e = .returned (.int .i64 (Lib.indexByte s.data.toList c.toNat.toUInt8)) ∧ w' = w := Any.strings_IndexByte Tryz.lays137 s c w
def Tryz.lays104_ren : Go.Shelf.Ren := ⟨fun | 104 => 69 | 211 => 102 | 207 => 122 | n => n, fun | 9 => 9 | 4 => 4 | 24 => 133 | 3 => 3 | n => n, fun | n => n⟩
theorem Tryz.lays104 : Go.Proofs.Lays.n104 Tryz.prog Tryz.lays104_ren := {
  mixed := by kernel_rfl
  f104 := Tryz.func69.trans (congrArg some (by kernel_rfl))
  f207 := Tryz.func122.trans (congrArg some (by kernel_rfl))
  f211 := Tryz.func102.trans (congrArg some (by kernel_rfl))
  t3 := Tryz.underlying3
  a3 := Tryz.isAgg3
  z3 := Tryz.sizeOf3
  v3 := Tryz.zeroValue3
  t4 := Tryz.underlying4
  a4 := Tryz.isAgg4
  z4 := Tryz.sizeOf4
  v4 := Tryz.zeroValue4
  t9 := Tryz.underlying9
  a9 := Tryz.isAgg9
  z9 := Tryz.sizeOf9
  v9 := Tryz.zeroValue9
  t24 := Tryz.underlying133
  a24 := Tryz.isAgg133
  z24 := Tryz.sizeOf133
  v24 := Tryz.zeroValue133 }
open Go.RowKit in
/-- strings.CutSuffix: "CutSuffix returns s without the provided ending suffix string and reports whether it found the suffix. If s doesn't end with suffix, CutSuffix returns s, false. If suffix is the empty string, CutSuffix returns s, true.": IT RETURNS '(Lib.trimSuffix s p, Lib.hasSuffix s p)'; the world is as it was. (LAID: no walk: one application.) -/
theorem Tryz.strings_CutSuffix (s p : ByteArray) (w : World) (hs : s.size ≤ 9223372036854775807) :
    Calls Tryz.prog 69 #[.string s, .string p] w fun e w' => e = .returned (.tuple #[.string ⟨(Lib.trimSuffix s.data.toList p.data.toList).toArray⟩, .bool (Lib.hasSuffix s.data.toList p.data.toList)]) ∧ w' = w := Any.strings_CutSuffix Tryz.lays104 s p w hs
def Tryz.lays172_ren : Go.Shelf.Ren := ⟨fun | 172 => 89 | 244 => 114 | 245 => 115 | 247 => 128 | 279 => 129 | 280 => 130 | 281 => 131 | 282 => 132 | 287 => 143 | 316 => 144 | 171 => 64 | 205 => 145 | 321 => 153 | 322 => 154 | 243 => 91 | 246 => 117 | 283 => 134 | 284 => 135 | 285 => 136 | 286 => 137 | 129 => 147 | 317 => 146 | 318 => 148 | 319 => 149 | 320 => 150 | 337 => 155 | 338 => 156 | n => n, fun | 9 => 9 | 3 => 3 | 75 => 95 | 76 => 96 | 4 => 4 | 5 => 5 | 167 => 209 | 37 => 91 | 0 => 0 | 85 => 210 | 2 => 2 | 168 => 212 | 53 => 216 | 175 => 230 | 46 => 208 | 210 => 234 | 127 => 129 | 145 => 243 | 143 => 241 | 21 => 21 | 171 => 215 | 173 => 219 | 212 => 237 | 51 => 227 | 20 => 20 | 213 => 238 | 232 => 244 | 233 => 245 | 80 => 98 | n => n, fun | 15 => 4 | 16 => 5 | 17 => 6 | 18 => 7 | 19 => 8 | n => n⟩
theorem Tryz.lays172 : Go.Proofs.Lays.n172 Tryz.prog Tryz.lays172_ren := {
  mixed := by kernel_rfl
  f129 := Tryz.func147.trans (congrArg some (by kernel_rfl))
  f171 := Tryz.func64.trans (congrArg some (by kernel_rfl))
  f172 := Tryz.func89.trans (congrArg some (by kernel_rfl))
  f205 := Tryz.func145.trans (congrArg some (by kernel_rfl))
  f243 := Tryz.func91.trans (congrArg some (by kernel_rfl))
  f244 := Tryz.func114.trans (congrArg some (by kernel_rfl))
  f245 := Tryz.func115.trans (congrArg some (by kernel_rfl))
  f246 := Tryz.func117.trans (congrArg some (by kernel_rfl))
  f247 := Tryz.func128.trans (congrArg some (by kernel_rfl))
  f279 := Tryz.func129.trans (congrArg some (by kernel_rfl))
  f280 := Tryz.func130.trans (congrArg some (by kernel_rfl))
  f281 := Tryz.func131.trans (congrArg some (by kernel_rfl))
  f282 := Tryz.func132.trans (congrArg some (by kernel_rfl))
  f283 := Tryz.func134.trans (congrArg some (by kernel_rfl))
  f284 := Tryz.func135.trans (congrArg some (by kernel_rfl))
  f285 := Tryz.func136.trans (congrArg some (by kernel_rfl))
  f286 := Tryz.func137.trans (congrArg some (by kernel_rfl))
  f287 := Tryz.func143.trans (congrArg some (by kernel_rfl))
  f316 := Tryz.func144.trans (congrArg some (by kernel_rfl))
  f317 := Tryz.func146.trans (congrArg some (by kernel_rfl))
  f318 := Tryz.func148.trans (congrArg some (by kernel_rfl))
  f319 := Tryz.func149.trans (congrArg some (by kernel_rfl))
  f320 := Tryz.func150.trans (congrArg some (by kernel_rfl))
  f321 := Tryz.func153.trans (congrArg some (by kernel_rfl))
  f322 := Tryz.func154.trans (congrArg some (by kernel_rfl))
  f337 := Tryz.func155.trans (congrArg some (by kernel_rfl))
  f338 := Tryz.func156.trans (congrArg some (by kernel_rfl))
  t0 := Tryz.underlying0
  a0 := Tryz.isAgg0
  z0 := Tryz.sizeOf0
  v0 := Tryz.zeroValue0
  t2 := Tryz.underlying2
  a2 := Tryz.isAgg2
  z2 := Tryz.sizeOf2
  v2 := Tryz.zeroValue2
  t3 := Tryz.underlying3
  a3 := Tryz.isAgg3
  z3 := Tryz.sizeOf3
  v3 := Tryz.zeroValue3
  t4 := Tryz.underlying4
  a4 := Tryz.isAgg4
  z4 := Tryz.sizeOf4
  v4 := Tryz.zeroValue4
  t5 := Tryz.underlying5
  a5 := Tryz.isAgg5
  z5 := Tryz.sizeOf5
  v5 := Tryz.zeroValue5
  t9 := Tryz.underlying9
  a9 := Tryz.isAgg9
  z9 := Tryz.sizeOf9
  v9 := Tryz.zeroValue9
  t20 := Tryz.underlying20
  a20 := Tryz.isAgg20
  z20 := Tryz.sizeOf20
  v20 := Tryz.zeroValue20
  t21 := Tryz.underlying21
  a21 := Tryz.isAgg21
  z21 := Tryz.sizeOf21
  v21 := Tryz.zeroValue21
  t37 := Tryz.underlying91
  a37 := Tryz.isAgg91
  z37 := Tryz.sizeOf91
  v37 := Tryz.zeroValue91
  t46 := Tryz.underlying208
  a46 := Tryz.isAgg208
  z46 := Tryz.sizeOf208
  v46 := Tryz.zeroValue208
  t51 := Tryz.underlying227
  a51 := Tryz.isAgg227
  z51 := Tryz.sizeOf227
  v51 := Tryz.zeroValue227
  t53 := Tryz.underlying216
  a53 := Tryz.isAgg216
  z53 := Tryz.sizeOf216
  v53 := Tryz.zeroValue216
  t75 := Tryz.underlying95
  a75 := Tryz.isAgg95
  z75 := Tryz.sizeOf95
  v75 := Tryz.zeroValue95
  t76 := Tryz.underlying96
  a76 := Tryz.isAgg96
  z76 := Tryz.sizeOf96
  v76 := Tryz.zeroValue96
  t85 := Tryz.underlying210
  a85 := Tryz.isAgg210
  z85 := Tryz.sizeOf210
  v85 := Tryz.zeroValue210
  t127 := Tryz.underlying129
  a127 := Tryz.isAgg129
  z127 := Tryz.sizeOf129
  v127 := Tryz.zeroValue129
  t143 := Tryz.underlying241
  a143 := Tryz.isAgg241
  z143 := Tryz.sizeOf241
  v143 := Tryz.zeroValue241
  t145 := Tryz.underlying243
  a145 := Tryz.isAgg243
  z145 := Tryz.sizeOf243
  v145 := Tryz.zeroValue243
  t167 := Tryz.underlying209
  a167 := Tryz.isAgg209
  z167 := Tryz.sizeOf209
  v167 := Tryz.zeroValue209
  t168 := Tryz.underlying212
  a168 := Tryz.isAgg212
  z168 := Tryz.sizeOf212
  v168 := Tryz.zeroValue212
  t171 := Tryz.underlying215
  a171 := Tryz.isAgg215
  z171 := Tryz.sizeOf215
  v171 := Tryz.zeroValue215
  t173 := Tryz.underlying219
  a173 := Tryz.isAgg219
  z173 := Tryz.sizeOf219
  v173 := Tryz.zeroValue219
  t175 := Tryz.underlying230
  a175 := Tryz.isAgg230
  z175 := Tryz.sizeOf230
  v175 := Tryz.zeroValue230
  t210 := Tryz.underlying234
  a210 := Tryz.isAgg234
  z210 := Tryz.sizeOf234
  v210 := Tryz.zeroValue234
  t212 := Tryz.underlying237
  a212 := Tryz.isAgg237
  z212 := Tryz.sizeOf237
  v212 := Tryz.zeroValue237
  t213 := Tryz.underlying238
  a213 := Tryz.isAgg238
  z213 := Tryz.sizeOf238
  t232 := Tryz.underlying244
  a232 := Tryz.isAgg244
  z232 := Tryz.sizeOf244
  v232 := Tryz.zeroValue244
  t233 := Tryz.underlying245
  a233 := Tryz.isAgg245
  z233 := Tryz.sizeOf245
  v233 := Tryz.zeroValue245
  g15 := by kernel_rfl
  g16 := by kernel_rfl
  g17 := by kernel_rfl
  g18 := by kernel_rfl
  g19 := by kernel_rfl }
open Go.RowKit in
/-- strconv.Atoi: "Atoi is equivalent to ParseInt(s, 10, 0), converted to type int.": AT A DECIMAL NUMERAL OF AT MOST 18 BYTES: its value, and a nil error. The world behind the call: the one new row that the library's '[]byte(s)' lays. (LAID: no walk: one application.) -/
theorem Tryz.strconv_Atoi (s : ByteArray) (n : Int) (hl : s.size ≤ 18) (h : Lib.atoi s.data.toList = some n) (w : World) :
    Calls Tryz.prog 89 #[.string s] w fun e w' => e = .returned (.tuple #[.int .i64 n, .nilIface]) ∧ ∃ t, w' = Lib.bytesWorld w 5 t := Any.strconv_Atoi Tryz.lays172 s n hl h w
def Tryz.laysM171_ren : Go.Shelf.Ren := ⟨fun | 171 => 64 | 243 => 91 | 246 => 117 | 283 => 134 | 284 => 135 | 285 => 136 | 286 => 137 | 129 => 147 | 317 => 146 | 318 => 148 | 319 => 149 | 320 => 150 | 337 => 155 | 338 => 156 | n => n, fun | 3 => 3 | 9 => 9 | 2 => 2 | 4 => 4 | 171 => 215 | 0 => 0 | 53 => 216 | 37 => 91 | 5 => 5 | 173 => 219 | 212 => 237 | 51 => 227 | 20 => 20 | 213 => 238 | 46 => 208 | 232 => 244 | 233 => 245 | n => n, fun | 17 => 6 | 18 => 7 | 19 => 8 | n => n⟩
theorem Tryz.laysM171 : Go.Proofs.LaysM.n171 Tryz.prog Tryz.laysM171_ren := {
  mixed := by kernel_rfl
  f129 := Tryz.func147.trans (congrArg some (by kernel_rfl))
  f171 := Tryz.func64.trans (congrArg some (by kernel_rfl))
  f243 := Tryz.func91.trans (congrArg some (by kernel_rfl))
  f246 := Tryz.func117.trans (congrArg some (by kernel_rfl))
  f283 := Tryz.func134.trans (congrArg some (by kernel_rfl))
  f284 := Tryz.func135.trans (congrArg some (by kernel_rfl))
  f285 := Tryz.func136.trans (congrArg some (by kernel_rfl))
  f286 := Tryz.func137.trans (congrArg some (by kernel_rfl))
  f317 := Tryz.func146.trans (congrArg some (by kernel_rfl))
  f318 := Tryz.func148.trans (congrArg some (by kernel_rfl))
  f319 := Tryz.func149.trans (congrArg some (by kernel_rfl))
  f320 := Tryz.func150.trans (congrArg some (by kernel_rfl))
  f337 := Tryz.func155.trans (congrArg some (by kernel_rfl))
  f338 := Tryz.func156.trans (congrArg some (by kernel_rfl))
  t0 := Tryz.underlying0
  a0 := Tryz.isAgg0
  z0 := Tryz.sizeOf0
  v0 := Tryz.zeroValue0
  t2 := Tryz.underlying2
  a2 := Tryz.isAgg2
  z2 := Tryz.sizeOf2
  v2 := Tryz.zeroValue2
  t3 := Tryz.underlying3
  a3 := Tryz.isAgg3
  z3 := Tryz.sizeOf3
  v3 := Tryz.zeroValue3
  t4 := Tryz.underlying4
  a4 := Tryz.isAgg4
  z4 := Tryz.sizeOf4
  v4 := Tryz.zeroValue4
  t5 := Tryz.underlying5
  a5 := Tryz.isAgg5
  z5 := Tryz.sizeOf5
  v5 := Tryz.zeroValue5
  t9 := Tryz.underlying9
  a9 := Tryz.isAgg9
  z9 := Tryz.sizeOf9
  v9 := Tryz.zeroValue9
  t20 := Tryz.underlying20
  a20 := Tryz.isAgg20
  z20 := Tryz.sizeOf20
  v20 := Tryz.zeroValue20
  t37 := Tryz.underlying91
  a37 := Tryz.isAgg91
  z37 := Tryz.sizeOf91
  v37 := Tryz.zeroValue91
  t46 := Tryz.underlying208
  a46 := Tryz.isAgg208
  z46 := Tryz.sizeOf208
  v46 := Tryz.zeroValue208
  t51 := Tryz.underlying227
  a51 := Tryz.isAgg227
  z51 := Tryz.sizeOf227
  v51 := Tryz.zeroValue227
  t53 := Tryz.underlying216
  a53 := Tryz.isAgg216
  z53 := Tryz.sizeOf216
  v53 := Tryz.zeroValue216
  t171 := Tryz.underlying215
  a171 := Tryz.isAgg215
  z171 := Tryz.sizeOf215
  v171 := Tryz.zeroValue215
  t173 := Tryz.underlying219
  a173 := Tryz.isAgg219
  z173 := Tryz.sizeOf219
  v173 := Tryz.zeroValue219
  t212 := Tryz.underlying237
  a212 := Tryz.isAgg237
  z212 := Tryz.sizeOf237
  v212 := Tryz.zeroValue237
  t213 := Tryz.underlying238
  a213 := Tryz.isAgg238
  z213 := Tryz.sizeOf238
  t232 := Tryz.underlying244
  a232 := Tryz.isAgg244
  z232 := Tryz.sizeOf244
  v232 := Tryz.zeroValue244
  t233 := Tryz.underlying245
  a233 := Tryz.isAgg245
  z233 := Tryz.sizeOf245
  v233 := Tryz.zeroValue245
  g17 := by kernel_rfl
  g18 := by kernel_rfl
  g19 := by kernel_rfl
  i0 := by kernel_rfl
  i2 := by kernel_rfl
  i3 := by kernel_rfl
  i4 := by kernel_rfl
  i5 := by kernel_rfl
  i9 := by kernel_rfl
  i20 := by kernel_rfl
  i37 := by kernel_rfl
  i46 := by kernel_rfl
  i51 := by kernel_rfl
  i53 := by kernel_rfl
  i171 := by kernel_rfl
  i173 := by kernel_rfl
  i212 := by kernel_rfl
  i232 := by kernel_rfl
  i233 := by kernel_rfl
  m17 := by kernel_rfl
  m18 := by kernel_rfl
  m19 := by kernel_rfl }
open Go.RowKit Go.Sort Go.Lib in
/-- strconv.Itoa: "Itoa is equivalent to FormatInt(int64(i), 10).": i's DECIMAL NUMERAL ('Lib.itoa': a '-' where i is negative, then the digits), FOR EVERY int. The world behind the call: the world before it, new blocks behind the heap (the library's 'var a [24]byte'), draws. (LAID: no walk: one application.) -/
theorem Tryz.strconv_Itoa (n : Int) (h0 : -9223372036854775808 ≤ n) (h1 : n ≤ 9223372036854775807) (w : World) (htab : Lib.TabIs Tryz.prog w "internal/strconv.uint64pow10" .u64 Lib.pow10Tab) :
    Calls Tryz.prog 64 #[.int .i64 n] w fun e w' => e = .returned (.string ⟨(Lib.itoa n).toArray⟩) ∧ ∃ k os, w' = grow (w.drewN k) os := Any.strconv_Itoa Tryz.laysM171 n h0 h1 w htab
def Tryz.lays101_ren : Go.Shelf.Ren := ⟨fun | 101 => 90 | 208 => 116 | 206 => 133 | n => n, fun | 9 => 9 | 4 => 4 | 3 => 3 | n => n, fun | n => n⟩
theorem Tryz.lays101 : Go.Proofs.Lays.n101 Tryz.prog Tryz.lays101_ren := {
  mixed := by kernel_rfl
  f101 := Tryz.func90.trans (congrArg some (by kernel_rfl))
  f206 := Tryz.func133.trans (congrArg some (by kernel_rfl))
  f208 := Tryz.func116.trans (congrArg some (by kernel_rfl))
  t3 := Tryz.underlying3
  a3 := Tryz.isAgg3
  z3 := Tryz.sizeOf3
  v3 := Tryz.zeroValue3
  t4 := Tryz.underlying4
  a4 := Tryz.isAgg4
  z4 := Tryz.sizeOf4
  v4 := Tryz.zeroValue4
  t9 := Tryz.underlying9
  a9 := Tryz.isAgg9
  z9 := Tryz.sizeOf9
  v9 := Tryz.zeroValue9 }
open Go.RowKit Go.Lib in
/-- strings.TrimPrefix: "TrimPrefix returns s without the provided leading prefix string. If s doesn't start with prefix, s is returned unchanged.": IT RETURNS 'Lib.trimPrefix s prefix'; the world is as it was. (LAID: no walk: one application.) -/
theorem Tryz.strings_TrimPrefix (s p : ByteArray) (w : World) :
    Calls Tryz.prog 90 #[.string s, .string p] w fun e w' => e = .returned (.string ⟨(Lib.trimPrefix s.data.toList p.data.toList).toArray⟩) ∧ w' = w := Any.strings_TrimPrefix Tryz.lays101 s p w
def Tryz.lays146_ren : Go.Shelf.Ren := ⟨fun | 146 => 31 | 221 => 62 | 268 => 86 | 138 => 87 | 143 => 88 | 195 => 110 | 197 => 111 | 218 => 112 | 219 => 113 | 260 => 124 | 217 => 121 | 225 => 125 | 224 => 126 | 267 => 127 | 266 => 139 | 314 => 142 | n => n, fun | 9 => 9 | 31 => 79 | 3 => 3 | 4 => 4 | 0 => 0 | 105 => 200 | 21 => 21 | 5 => 5 | 46 => 208 | 119 => 223 | 139 => 226 | 138 => 225 | 146 => 228 | 51 => 227 | n => n, fun | 1 => 1 | 3 => 2 | 4 => 3 | n => n⟩
theorem Tryz.lays146 : Go.Proofs.Lays.n146 Tryz.prog Tryz.lays146_ren := {
  mixed := by kernel_rfl
  f138 := Tryz.func87.trans (congrArg some (by kernel_rfl))
  f143 := Tryz.func88.trans (congrArg some (by kernel_rfl))
  f146 := Tryz.func31.trans (congrArg some (by kernel_rfl))
  f195 := Tryz.func110.trans (congrArg some (by kernel_rfl))
  f197 := Tryz.func111.trans (congrArg some (by kernel_rfl))
  f217 := Tryz.func121.trans (congrArg some (by kernel_rfl))
  f218 := Tryz.func112.trans (congrArg some (by kernel_rfl))
  f219 := Tryz.func113.trans (congrArg some (by kernel_rfl))
  f221 := Tryz.func62.trans (congrArg some (by kernel_rfl))
  f224 := Tryz.func126.trans (congrArg some (by kernel_rfl))
  f225 := Tryz.func125.trans (congrArg some (by kernel_rfl))
  f260 := Tryz.func124.trans (congrArg some (by kernel_rfl))
  f266 := Tryz.func139.trans (congrArg some (by kernel_rfl))
  f267 := Tryz.func127.trans (congrArg some (by kernel_rfl))
  f268 := Tryz.func86.trans (congrArg some (by kernel_rfl))
  f314 := Tryz.func142.trans (congrArg some (by kernel_rfl))
  t0 := Tryz.underlying0
  a0 := Tryz.isAgg0
  z0 := Tryz.sizeOf0
  v0 := Tryz.zeroValue0
  t3 := Tryz.underlying3
  a3 := Tryz.isAgg3
  z3 := Tryz.sizeOf3
  v3 := Tryz.zeroValue3
  t4 := Tryz.underlying4
  a4 := Tryz.isAgg4
  z4 := Tryz.sizeOf4
  v4 := Tryz.zeroValue4
  t5 := Tryz.underlying5
  a5 := Tryz.isAgg5
  z5 := Tryz.sizeOf5
  v5 := Tryz.zeroValue5
  t9 := Tryz.underlying9
  a9 := Tryz.isAgg9
  z9 := Tryz.sizeOf9
  v9 := Tryz.zeroValue9
  t21 := Tryz.underlying21
  a21 := Tryz.isAgg21
  z21 := Tryz.sizeOf21
  v21 := Tryz.zeroValue21
  t31 := Tryz.underlying79
  a31 := Tryz.isAgg79
  z31 := Tryz.sizeOf79
  v31 := Tryz.zeroValue79
  t46 := Tryz.underlying208
  a46 := Tryz.isAgg208
  z46 := Tryz.sizeOf208
  v46 := Tryz.zeroValue208
  t51 := Tryz.underlying227
  a51 := Tryz.isAgg227
  z51 := Tryz.sizeOf227
  v51 := Tryz.zeroValue227
  t105 := Tryz.underlying200
  a105 := Tryz.isAgg200
  z105 := Tryz.sizeOf200
  v105 := Tryz.zeroValue200
  t119 := Tryz.underlying223
  a119 := Tryz.isAgg223
  z119 := Tryz.sizeOf223
  t138 := Tryz.underlying225
  a138 := Tryz.isAgg225
  z138 := Tryz.sizeOf225
  v138 := Tryz.zeroValue225
  t139 := Tryz.underlying226
  a139 := Tryz.isAgg226
  z139 := Tryz.sizeOf226
  v139 := Tryz.zeroValue226
  t146 := Tryz.underlying228
  a146 := Tryz.isAgg228
  z146 := Tryz.sizeOf228
  v146 := Tryz.zeroValue228
  g1 := by kernel_rfl
  g3 := by kernel_rfl
  g4 := by kernel_rfl }
open Go.RowKit Go.Lib in
/-- strings.Split. (LAID: no walk: one application.) -/
theorem Tryz.strings_Split (s sep : ByteArray) (m : Int) (w : World) (hs : s.size < 4294967281) (hm : w.cell? ⟨1, 0, none⟩ = some (.int .i64 m)) (h1 : 1 ≤ sep.size) :
    Calls Tryz.prog 31 #[.string s, .string sep] w fun e w' =>
      e = .returned (.slice (some ⟨w.heap.size, 0, none⟩) (Lib.countB s sep + 1) (Lib.countB s sep + 1)) ∧ w' = w.alloc (.cells ((Lib.splitB sep 0 (Lib.countB s sep) s).map Value.string).toArray 9) := Any.strings_Split Tryz.lays146 (by kernel_rfl) s sep m w hs hm h1
def Tryz.laysM146_ren : Go.Shelf.Ren := ⟨fun | 146 => 31 | 221 => 62 | 268 => 86 | 138 => 87 | 143 => 88 | 195 => 110 | 197 => 111 | 218 => 112 | 219 => 113 | 260 => 124 | 217 => 121 | 225 => 125 | 224 => 126 | 267 => 127 | 266 => 139 | 314 => 142 | n => n, fun | 9 => 9 | 31 => 79 | 3 => 3 | 4 => 4 | 0 => 0 | 105 => 200 | 21 => 21 | 5 => 5 | 46 => 208 | 119 => 223 | 139 => 226 | 138 => 225 | 146 => 228 | 51 => 227 | n => n, fun | 1 => 1 | 3 => 2 | 4 => 3 | n => n⟩
theorem Tryz.laysM146 : Go.Proofs.LaysM.n146 Tryz.prog Tryz.laysM146_ren := {
  mixed := by kernel_rfl
  f138 := Tryz.func87.trans (congrArg some (by kernel_rfl))
  f143 := Tryz.func88.trans (congrArg some (by kernel_rfl))
  f146 := Tryz.func31.trans (congrArg some (by kernel_rfl))
  f195 := Tryz.func110.trans (congrArg some (by kernel_rfl))
  f197 := Tryz.func111.trans (congrArg some (by kernel_rfl))
  f217 := Tryz.func121.trans (congrArg some (by kernel_rfl))
  f218 := Tryz.func112.trans (congrArg some (by kernel_rfl))
  f219 := Tryz.func113.trans (congrArg some (by kernel_rfl))
  f221 := Tryz.func62.trans (congrArg some (by kernel_rfl))
  f224 := Tryz.func126.trans (congrArg some (by kernel_rfl))
  f225 := Tryz.func125.trans (congrArg some (by kernel_rfl))
  f260 := Tryz.func124.trans (congrArg some (by kernel_rfl))
  f266 := Tryz.func139.trans (congrArg some (by kernel_rfl))
  f267 := Tryz.func127.trans (congrArg some (by kernel_rfl))
  f268 := Tryz.func86.trans (congrArg some (by kernel_rfl))
  f314 := Tryz.func142.trans (congrArg some (by kernel_rfl))
  t0 := Tryz.underlying0
  a0 := Tryz.isAgg0
  z0 := Tryz.sizeOf0
  v0 := Tryz.zeroValue0
  t3 := Tryz.underlying3
  a3 := Tryz.isAgg3
  z3 := Tryz.sizeOf3
  v3 := Tryz.zeroValue3
  t4 := Tryz.underlying4
  a4 := Tryz.isAgg4
  z4 := Tryz.sizeOf4
  v4 := Tryz.zeroValue4
  t5 := Tryz.underlying5
  a5 := Tryz.isAgg5
  z5 := Tryz.sizeOf5
  v5 := Tryz.zeroValue5
  t9 := Tryz.underlying9
  a9 := Tryz.isAgg9
  z9 := Tryz.sizeOf9
  v9 := Tryz.zeroValue9
  t21 := Tryz.underlying21
  a21 := Tryz.isAgg21
  z21 := Tryz.sizeOf21
  v21 := Tryz.zeroValue21
  t31 := Tryz.underlying79
  a31 := Tryz.isAgg79
  z31 := Tryz.sizeOf79
  v31 := Tryz.zeroValue79
  t46 := Tryz.underlying208
  a46 := Tryz.isAgg208
  z46 := Tryz.sizeOf208
  v46 := Tryz.zeroValue208
  t51 := Tryz.underlying227
  a51 := Tryz.isAgg227
  z51 := Tryz.sizeOf227
  v51 := Tryz.zeroValue227
  t105 := Tryz.underlying200
  a105 := Tryz.isAgg200
  z105 := Tryz.sizeOf200
  v105 := Tryz.zeroValue200
  t119 := Tryz.underlying223
  a119 := Tryz.isAgg223
  z119 := Tryz.sizeOf223
  t138 := Tryz.underlying225
  a138 := Tryz.isAgg225
  z138 := Tryz.sizeOf225
  v138 := Tryz.zeroValue225
  t139 := Tryz.underlying226
  a139 := Tryz.isAgg226
  z139 := Tryz.sizeOf226
  v139 := Tryz.zeroValue226
  t146 := Tryz.underlying228
  a146 := Tryz.isAgg228
  z146 := Tryz.sizeOf228
  v146 := Tryz.zeroValue228
  g1 := by kernel_rfl
  g3 := by kernel_rfl
  g4 := by kernel_rfl
  i0 := by kernel_rfl
  i3 := by kernel_rfl
  i4 := by kernel_rfl
  i5 := by kernel_rfl
  i9 := by kernel_rfl
  i21 := by kernel_rfl
  i31 := by kernel_rfl
  i46 := by kernel_rfl
  i51 := by kernel_rfl
  i105 := by kernel_rfl
  i138 := by kernel_rfl
  i139 := by kernel_rfl
  i146 := by kernel_rfl
  m1 := by kernel_rfl
  s1_3 := fun w h => Go.Proofs.cell_of_shapedOpen_int (zero := #[.int .i64 0]) (t := 3) h (of_decide_eq_true (by kernel_rfl)) (by kernel_rfl) rfl (by kernel_rfl) (by kernel_rfl) Tryz.underlying3
  m3 := by kernel_rfl
  m4 := by kernel_rfl }
open Go.RowKit Go.Lib in
/-- strings.Split, sep not empty. (LAID: no walk: one application.) -/
theorem Tryz.strings_Split_shaped (s sep : ByteArray) (w : World) (h : w.ShapedOpen Tryz.prog) (hs : s.size < 4294967281) (h1 : 1 ≤ sep.size) :
    Calls Tryz.prog 31 #[.string s, .string sep] w fun e w' =>
      e = .returned (.slice (some ⟨w.heap.size, 0, none⟩) (Lib.countB s sep + 1) (Lib.countB s sep + 1)) ∧ w' = w.alloc (.cells ((Lib.splitB sep 0 (Lib.countB s sep) s).map Value.string).toArray 9) := Any.strings_Split_shaped Tryz.laysM146 s sep w h hs h1
end Go.Proofs
