/-
  DERIVED: THE SHELF's CONTRACTS AT THIS DUMP, IN PLAIN WORDS (tools/lay-plain.mjs out of 'TryzShelf.lean', which tools/lay-shelf.mjs wrote): THE SAME DECLARATIONS UNDER THE SAME NAMES: 'import', 'namespace', 'open', 'def', 'theorem' AND NOTHING ELSE: no command of the shelf's: FOR A HAND-IN. Each laying: the table of numbers ('.._ren') and one theorem, a field a fact of the dump's own or the kernel's comparison; each contract: ONE APPLICATION.
-/
import Derived.Shelf.Strings.Builder1
import Derived.Shelf.Strings.Builder2
import Derived.Shelf.Strings.OnBuilder
import Derived.Shelf.Utf8.RuneCount
import Derived.Shelf.Strconv.Atoi
import Derived.Shelf.Strconv.Itoa0
import Derived.Shelf.Strconv.Itoa1
import Derived.Shelf.LaysM
import Derived.Shelf.Strconv.Itoa2
import Derived.Shelf.Strconv.Itoa3
import Derived.Shelf.Strconv.AtoiErrFast
import Derived.Shelf.Strconv.ParseIntEmpty
import Derived.Shelf.Strconv.AtoiFail
import Derived.Shelf.Strconv.Clone
import Derived.Shelf.Strconv.SyntaxError
import Derived.Shelf.LaysC
import Derived.Shelf.Strconv.ToError
import Derived.Shelf.Strconv.Lower
import Derived.Shelf.Strconv.ParseUint10
import Derived.Shelf.Strconv.ParseUint10Empty
import Derived.Shelf.Strconv.ParseUint10Any
import Derived.Shelf.Strconv.ParseInt10
import Derived.Shelf.Strconv.AtoiLong
import Derived.Shelf.Strconv.AtoiInnerAll
import Derived.Shelf.Strconv.RangeError
import Derived.Shelf.Strconv.ToErrorRange
import Derived.Shelf.Strconv.AtoiAll
import Derived.Shelf.Strconv.ErrVarAll
import Derived.Shelf.Strings.Search1
import Derived.Shelf.Strings.Search2
import Derived.Shelf.Strings.Search3
import Derived.Shelf.Strings.Count
import Derived.Shelf.Strings.Shaped
import Derived.Shelf.Strings.Prefix
import Derived.Shelf.Strings.Split
import Derived.Shelf.Strings.SplitShaped
import Derived.Shelf.Unicode.Decode
import Derived.Shelf.Strings.RuneCount
import Derived.Shelf.Strings.Explode
import Derived.Shelf.Unicode.DecodeSlow
import Derived.Shelf.Unicode.DecodeAny
import Derived.Test.YtceiinlmblgdoaaGreatDoorProg
namespace Go.Proofs
open Go.Shelf
def Tryz.lays156_ren : Go.Shelf.Ren := ⟨fun | 156 => 16 | 165 => 41 | 166 => 42 | 169 => 43 | 240 => 64 | 241 => 65 | 276 => 84 | 277 => 85 | n => n, fun | 31 => 53 | 9 => 9 | 3 => 3 | 4 => 4 | 0 => 0 | 20 => 20 | 72 => 96 | 76 => 59 | 70 => 93 | 37 => 94 | 75 => 58 | 127 => 116 | 164 => 132 | 5 => 5 | 80 => 98 | n => n, fun | n => n⟩
theorem Tryz.lays156 : Go.Proofs.Lays.n156 Tryz.prog Tryz.lays156_ren := {
  mixed := by kernel_rfl
  f156 := Tryz.func16.trans (congrArg some (by kernel_rfl))
  f165 := Tryz.func41.trans (congrArg some (by kernel_rfl))
  f166 := Tryz.func42.trans (congrArg some (by kernel_rfl))
  f169 := Tryz.func43.trans (congrArg some (by kernel_rfl))
  f240 := Tryz.func64.trans (congrArg some (by kernel_rfl))
  f241 := Tryz.func65.trans (congrArg some (by kernel_rfl))
  f276 := Tryz.func84.trans (congrArg some (by kernel_rfl))
  f277 := Tryz.func85.trans (congrArg some (by kernel_rfl))
  t0 := Tryz.underlying0
  a0 := Tryz.isAgg0
  z0 := Tryz.sizeOf0
  v0 := Tryz.zeroValue0
  t3 := Tryz.underlying3
  a3 := Tryz.isAgg3
  z3 := Tryz.sizeOf3
  v3 := Tryz.zeroValue3
  t4 := Tryz.underlying4
  a4 := Tryz.isAgg4
  z4 := Tryz.sizeOf4
  v4 := Tryz.zeroValue4
  t9 := Tryz.underlying9
  a9 := Tryz.isAgg9
  z9 := Tryz.sizeOf9
  v9 := Tryz.zeroValue9
  t20 := Tryz.underlying20
  a20 := Tryz.isAgg20
  z20 := Tryz.sizeOf20
  v20 := Tryz.zeroValue20
  t31 := Tryz.underlying53
  a31 := Tryz.isAgg53
  z31 := Tryz.sizeOf53
  v31 := Tryz.zeroValue53
  t37 := Tryz.underlying94
  a37 := Tryz.isAgg94
  z37 := Tryz.sizeOf94
  v37 := Tryz.zeroValue94
  t70 := Tryz.underlying93
  a70 := Tryz.isAgg93
  z70 := Tryz.sizeOf93
  v70 := Tryz.zeroValue93
  t72 := Tryz.underlying96
  a72 := Tryz.isAgg96
  z72 := Tryz.sizeOf96
  v72 := Tryz.zeroValue96
  t75 := Tryz.underlying58
  a75 := Tryz.isAgg58
  z75 := Tryz.sizeOf58
  v75 := Tryz.zeroValue58
  t76 := Tryz.underlying59
  a76 := Tryz.isAgg59
  z76 := Tryz.sizeOf59
  v76 := Tryz.zeroValue59
  t127 := Tryz.underlying116
  a127 := Tryz.isAgg116
  z127 := Tryz.sizeOf116
  v127 := Tryz.zeroValue116
  t164 := Tryz.underlying132
  a164 := Tryz.isAgg132
  z164 := Tryz.sizeOf132
  v164 := Tryz.zeroValue132 }
theorem Tryz.Builder_Extra_156 : Builder.Extra Tryz.prog Tryz.lays156_ren := {
  sizeBuilder := by kernel_rfl
  liesBuilder := by kernel_rfl
  t5 := Tryz.underlying5
  a5 := Tryz.isAgg5
  z5 := Tryz.sizeOf5
  v5 := Tryz.zeroValue5
  infoByte := by kernel_rfl
  cellsByte := by kernel_rfl
  sizeByte := by kernel_rfl
  neB5 := by decide }
open Go.RowKit in
theorem Tryz.strings_Join (bk o c : Nat) (xs : List ByteArray) (sep : ByteArray) (w : World) (hcells : ∀ (j : Nat) x, xs[j]? = some x → w.cell? ⟨bk, o + j, none⟩ = some (.string x)) (hbk : bk < w.heap.size) (hN : xs.length ≤ 140737488355328) (hcap : xs.length ≤ c) (hlen : (Lib.join (xs.map (·.data.toList)) sep.data.toList).length ≤ 140737488355328) :
    Calls Tryz.prog 16 #[.slice (some ⟨bk, o, none⟩) xs.length c, .string sep] w fun e w' => e = .returned (.string ⟨(Lib.join (xs.map (·.data.toList)) sep.data.toList).toArray⟩) ∧ Below w.heap.size w w' := Any.strings_Join Tryz.lays156 Tryz.Builder_Extra_156 bk o c xs sep w hcells hbk hN hcap hlen
def Tryz.laysM171_ren : Go.Shelf.Ren := ⟨fun | 171 => 17 | 243 => 44 | 246 => 66 | 283 => 86 | 284 => 87 | 285 => 88 | 286 => 89 | 129 => 100 | 317 => 99 | 318 => 101 | 319 => 102 | 320 => 103 | 337 => 112 | 338 => 113 | n => n, fun | 3 => 3 | 9 => 9 | 2 => 2 | 4 => 4 | 171 => 135 | 0 => 0 | 53 => 136 | 37 => 94 | 5 => 5 | 173 => 139 | 212 => 153 | 51 => 154 | 20 => 20 | 213 => 155 | 46 => 147 | 232 => 170 | 233 => 171 | n => n, fun | 17 => 3 | 18 => 7 | 19 => 8 | n => n⟩
theorem Tryz.laysM171 : Go.Proofs.LaysM.n171 Tryz.prog Tryz.laysM171_ren := {
  mixed := by kernel_rfl
  f129 := Tryz.func100.trans (congrArg some (by kernel_rfl))
  f171 := Tryz.func17.trans (congrArg some (by kernel_rfl))
  f243 := Tryz.func44.trans (congrArg some (by kernel_rfl))
  f246 := Tryz.func66.trans (congrArg some (by kernel_rfl))
  f283 := Tryz.func86.trans (congrArg some (by kernel_rfl))
  f284 := Tryz.func87.trans (congrArg some (by kernel_rfl))
  f285 := Tryz.func88.trans (congrArg some (by kernel_rfl))
  f286 := Tryz.func89.trans (congrArg some (by kernel_rfl))
  f317 := Tryz.func99.trans (congrArg some (by kernel_rfl))
  f318 := Tryz.func101.trans (congrArg some (by kernel_rfl))
  f319 := Tryz.func102.trans (congrArg some (by kernel_rfl))
  f320 := Tryz.func103.trans (congrArg some (by kernel_rfl))
  f337 := Tryz.func112.trans (congrArg some (by kernel_rfl))
  f338 := Tryz.func113.trans (congrArg some (by kernel_rfl))
  t0 := Tryz.underlying0
  a0 := Tryz.isAgg0
  z0 := Tryz.sizeOf0
  v0 := Tryz.zeroValue0
  t2 := Tryz.underlying2
  a2 := Tryz.isAgg2
  z2 := Tryz.sizeOf2
  v2 := Tryz.zeroValue2
  t3 := Tryz.underlying3
  a3 := Tryz.isAgg3
  z3 := Tryz.sizeOf3
  v3 := Tryz.zeroValue3
  t4 := Tryz.underlying4
  a4 := Tryz.isAgg4
  z4 := Tryz.sizeOf4
  v4 := Tryz.zeroValue4
  t5 := Tryz.underlying5
  a5 := Tryz.isAgg5
  z5 := Tryz.sizeOf5
  v5 := Tryz.zeroValue5
  t9 := Tryz.underlying9
  a9 := Tryz.isAgg9
  z9 := Tryz.sizeOf9
  v9 := Tryz.zeroValue9
  t20 := Tryz.underlying20
  a20 := Tryz.isAgg20
  z20 := Tryz.sizeOf20
  v20 := Tryz.zeroValue20
  t37 := Tryz.underlying94
  a37 := Tryz.isAgg94
  z37 := Tryz.sizeOf94
  v37 := Tryz.zeroValue94
  t46 := Tryz.underlying147
  a46 := Tryz.isAgg147
  z46 := Tryz.sizeOf147
  v46 := Tryz.zeroValue147
  t51 := Tryz.underlying154
  a51 := Tryz.isAgg154
  z51 := Tryz.sizeOf154
  v51 := Tryz.zeroValue154
  t53 := Tryz.underlying136
  a53 := Tryz.isAgg136
  z53 := Tryz.sizeOf136
  v53 := Tryz.zeroValue136
  t171 := Tryz.underlying135
  a171 := Tryz.isAgg135
  z171 := Tryz.sizeOf135
  v171 := Tryz.zeroValue135
  t173 := Tryz.underlying139
  a173 := Tryz.isAgg139
  z173 := Tryz.sizeOf139
  v173 := Tryz.zeroValue139
  t212 := Tryz.underlying153
  a212 := Tryz.isAgg153
  z212 := Tryz.sizeOf153
  v212 := Tryz.zeroValue153
  t213 := Tryz.underlying155
  a213 := Tryz.isAgg155
  z213 := Tryz.sizeOf155
  t232 := Tryz.underlying170
  a232 := Tryz.isAgg170
  z232 := Tryz.sizeOf170
  v232 := Tryz.zeroValue170
  t233 := Tryz.underlying171
  a233 := Tryz.isAgg171
  z233 := Tryz.sizeOf171
  v233 := Tryz.zeroValue171
  g17 := by kernel_rfl
  g18 := by kernel_rfl
  g19 := by kernel_rfl
  i0 := by kernel_rfl
  i2 := by kernel_rfl
  i3 := by kernel_rfl
  i4 := by kernel_rfl
  i5 := by kernel_rfl
  i9 := by kernel_rfl
  i20 := by kernel_rfl
  i37 := by kernel_rfl
  i46 := by kernel_rfl
  i51 := by kernel_rfl
  i53 := by kernel_rfl
  i171 := by kernel_rfl
  i173 := by kernel_rfl
  i212 := by kernel_rfl
  i232 := by kernel_rfl
  i233 := by kernel_rfl
  m17 := by kernel_rfl
  m18 := by kernel_rfl
  m19 := by kernel_rfl }
open Go.RowKit Go.Sort Go.Lib in
theorem Tryz.strconv_Itoa (n : Int) (h0 : -9223372036854775808 ≤ n) (h1 : n ≤ 9223372036854775807) (w : World) (htab : Lib.TabIs Tryz.prog w "internal/strconv.uint64pow10" .u64 Lib.pow10Tab) :
    Calls Tryz.prog 17 #[.int .i64 n] w fun e w' => e = .returned (.string ⟨(Lib.itoa n).toArray⟩) ∧ ∃ k os, w' = grow (w.drewN k) os := Any.strconv_Itoa Tryz.laysM171 n h0 h1 w htab
def Tryz.laysC172_ren : Go.Shelf.Ren := ⟨fun | 172 => 19 | 244 => 46 | 245 => 47 | 247 => 70 | 279 => 71 | 280 => 72 | 281 => 73 | 282 => 74 | 287 => 94 | 316 => 95 | 171 => 17 | 205 => 96 | 321 => 109 | 322 => 110 | 243 => 44 | 246 => 66 | 283 => 86 | 284 => 87 | 285 => 88 | 286 => 89 | 129 => 100 | 317 => 99 | 318 => 101 | 319 => 102 | 320 => 103 | 337 => 112 | 338 => 113 | n => n, fun | 9 => 9 | 3 => 3 | 75 => 58 | 76 => 59 | 4 => 4 | 5 => 5 | 167 => 120 | 37 => 94 | 0 => 0 | 85 => 121 | 2 => 2 | 168 => 123 | 53 => 136 | 175 => 145 | 46 => 147 | 210 => 150 | 127 => 116 | 145 => 160 | 143 => 158 | 21 => 21 | 171 => 135 | 173 => 139 | 212 => 153 | 51 => 154 | 20 => 20 | 213 => 155 | 232 => 170 | 233 => 171 | 80 => 98 | n => n, fun | 15 => 0 | 16 => 1 | 17 => 3 | 18 => 7 | 19 => 8 | n => n⟩
theorem Tryz.laysC172 : Go.Proofs.LaysC.n172 Tryz.prog Tryz.laysC172_ren := {
  mixed := by kernel_rfl
  f129 := Tryz.func100.trans (congrArg some (by kernel_rfl))
  f171 := Tryz.func17.trans (congrArg some (by kernel_rfl))
  f172 := Tryz.func19.trans (congrArg some (by kernel_rfl))
  f205 := Tryz.func96.trans (congrArg some (by kernel_rfl))
  f243 := Tryz.func44.trans (congrArg some (by kernel_rfl))
  f244 := Tryz.func46.trans (congrArg some (by kernel_rfl))
  f245 := Tryz.func47.trans (congrArg some (by kernel_rfl))
  f246 := Tryz.func66.trans (congrArg some (by kernel_rfl))
  f247 := Tryz.func70.trans (congrArg some (by kernel_rfl))
  f279 := Tryz.func71.trans (congrArg some (by kernel_rfl))
  f280 := Tryz.func72.trans (congrArg some (by kernel_rfl))
  f281 := Tryz.func73.trans (congrArg some (by kernel_rfl))
  f282 := Tryz.func74.trans (congrArg some (by kernel_rfl))
  f283 := Tryz.func86.trans (congrArg some (by kernel_rfl))
  f284 := Tryz.func87.trans (congrArg some (by kernel_rfl))
  f285 := Tryz.func88.trans (congrArg some (by kernel_rfl))
  f286 := Tryz.func89.trans (congrArg some (by kernel_rfl))
  f287 := Tryz.func94.trans (congrArg some (by kernel_rfl))
  f316 := Tryz.func95.trans (congrArg some (by kernel_rfl))
  f317 := Tryz.func99.trans (congrArg some (by kernel_rfl))
  f318 := Tryz.func101.trans (congrArg some (by kernel_rfl))
  f319 := Tryz.func102.trans (congrArg some (by kernel_rfl))
  f320 := Tryz.func103.trans (congrArg some (by kernel_rfl))
  f321 := Tryz.func109.trans (congrArg some (by kernel_rfl))
  f322 := Tryz.func110.trans (congrArg some (by kernel_rfl))
  f337 := Tryz.func112.trans (congrArg some (by kernel_rfl))
  f338 := Tryz.func113.trans (congrArg some (by kernel_rfl))
  t0 := Tryz.underlying0
  a0 := Tryz.isAgg0
  z0 := Tryz.sizeOf0
  v0 := Tryz.zeroValue0
  t2 := Tryz.underlying2
  a2 := Tryz.isAgg2
  z2 := Tryz.sizeOf2
  v2 := Tryz.zeroValue2
  t3 := Tryz.underlying3
  a3 := Tryz.isAgg3
  z3 := Tryz.sizeOf3
  v3 := Tryz.zeroValue3
  t4 := Tryz.underlying4
  a4 := Tryz.isAgg4
  z4 := Tryz.sizeOf4
  v4 := Tryz.zeroValue4
  t5 := Tryz.underlying5
  a5 := Tryz.isAgg5
  z5 := Tryz.sizeOf5
  v5 := Tryz.zeroValue5
  t9 := Tryz.underlying9
  a9 := Tryz.isAgg9
  z9 := Tryz.sizeOf9
  v9 := Tryz.zeroValue9
  t20 := Tryz.underlying20
  a20 := Tryz.isAgg20
  z20 := Tryz.sizeOf20
  v20 := Tryz.zeroValue20
  t21 := Tryz.underlying21
  a21 := Tryz.isAgg21
  z21 := Tryz.sizeOf21
  v21 := Tryz.zeroValue21
  t37 := Tryz.underlying94
  a37 := Tryz.isAgg94
  z37 := Tryz.sizeOf94
  v37 := Tryz.zeroValue94
  t46 := Tryz.underlying147
  a46 := Tryz.isAgg147
  z46 := Tryz.sizeOf147
  v46 := Tryz.zeroValue147
  t51 := Tryz.underlying154
  a51 := Tryz.isAgg154
  z51 := Tryz.sizeOf154
  v51 := Tryz.zeroValue154
  t53 := Tryz.underlying136
  a53 := Tryz.isAgg136
  z53 := Tryz.sizeOf136
  v53 := Tryz.zeroValue136
  t75 := Tryz.underlying58
  a75 := Tryz.isAgg58
  z75 := Tryz.sizeOf58
  v75 := Tryz.zeroValue58
  t76 := Tryz.underlying59
  a76 := Tryz.isAgg59
  z76 := Tryz.sizeOf59
  v76 := Tryz.zeroValue59
  t85 := Tryz.underlying121
  a85 := Tryz.isAgg121
  z85 := Tryz.sizeOf121
  v85 := Tryz.zeroValue121
  t127 := Tryz.underlying116
  a127 := Tryz.isAgg116
  z127 := Tryz.sizeOf116
  v127 := Tryz.zeroValue116
  t143 := Tryz.underlying158
  a143 := Tryz.isAgg158
  z143 := Tryz.sizeOf158
  v143 := Tryz.zeroValue158
  t145 := Tryz.underlying160
  a145 := Tryz.isAgg160
  z145 := Tryz.sizeOf160
  v145 := Tryz.zeroValue160
  t167 := Tryz.underlying120
  a167 := Tryz.isAgg120
  z167 := Tryz.sizeOf120
  v167 := Tryz.zeroValue120
  t168 := Tryz.underlying123
  a168 := Tryz.isAgg123
  z168 := Tryz.sizeOf123
  v168 := Tryz.zeroValue123
  t171 := Tryz.underlying135
  a171 := Tryz.isAgg135
  z171 := Tryz.sizeOf135
  v171 := Tryz.zeroValue135
  t173 := Tryz.underlying139
  a173 := Tryz.isAgg139
  z173 := Tryz.sizeOf139
  v173 := Tryz.zeroValue139
  t175 := Tryz.underlying145
  a175 := Tryz.isAgg145
  z175 := Tryz.sizeOf145
  v175 := Tryz.zeroValue145
  t210 := Tryz.underlying150
  a210 := Tryz.isAgg150
  z210 := Tryz.sizeOf150
  v210 := Tryz.zeroValue150
  t212 := Tryz.underlying153
  a212 := Tryz.isAgg153
  z212 := Tryz.sizeOf153
  v212 := Tryz.zeroValue153
  t213 := Tryz.underlying155
  a213 := Tryz.isAgg155
  z213 := Tryz.sizeOf155
  t232 := Tryz.underlying170
  a232 := Tryz.isAgg170
  z232 := Tryz.sizeOf170
  v232 := Tryz.zeroValue170
  t233 := Tryz.underlying171
  a233 := Tryz.isAgg171
  z233 := Tryz.sizeOf171
  v233 := Tryz.zeroValue171
  g15 := by kernel_rfl
  g16 := by kernel_rfl
  g17 := by kernel_rfl
  g18 := by kernel_rfl
  g19 := by kernel_rfl
  t80 := Tryz.underlying98
  a80 := Tryz.isAgg98
  z80 := Tryz.sizeOf98
  v80 := Tryz.zeroValue98
  i0 := by kernel_rfl
  i2 := by kernel_rfl
  i3 := by kernel_rfl
  i4 := by kernel_rfl
  i5 := by kernel_rfl
  i9 := by kernel_rfl
  i20 := by kernel_rfl
  i21 := by kernel_rfl
  i37 := by kernel_rfl
  i46 := by kernel_rfl
  i51 := by kernel_rfl
  i53 := by kernel_rfl
  i75 := by kernel_rfl
  i76 := by kernel_rfl
  i80 := by kernel_rfl
  i85 := by kernel_rfl
  i127 := by kernel_rfl
  i143 := by kernel_rfl
  i145 := by kernel_rfl
  i167 := by kernel_rfl
  i168 := by kernel_rfl
  i171 := by kernel_rfl
  i173 := by kernel_rfl
  i175 := by kernel_rfl
  i210 := by kernel_rfl
  i212 := by kernel_rfl
  i232 := by kernel_rfl
  i233 := by kernel_rfl
  m15 := by kernel_rfl
  m16 := by kernel_rfl
  m17 := by kernel_rfl
  m18 := by kernel_rfl
  m19 := by kernel_rfl
  c0 := by kernel_rfl
  c2 := by kernel_rfl
  c3 := by kernel_rfl
  c4 := by kernel_rfl
  c5 := by kernel_rfl
  c9 := by kernel_rfl
  c20 := by kernel_rfl
  c21 := by kernel_rfl
  c37 := by kernel_rfl
  c46 := by kernel_rfl
  c51 := by kernel_rfl
  c53 := by kernel_rfl
  c75 := by kernel_rfl
  c76 := by kernel_rfl
  c80 := by kernel_rfl
  c85 := by kernel_rfl
  c127 := by kernel_rfl
  c143 := by kernel_rfl
  c145 := by kernel_rfl
  c167 := by kernel_rfl
  c168 := by kernel_rfl
  c171 := by kernel_rfl
  c173 := by kernel_rfl
  c175 := by kernel_rfl
  c210 := by kernel_rfl
  c212 := by kernel_rfl
  c213 := by kernel_rfl
  c232 := by kernel_rfl
  c233 := by kernel_rfl }
open Go.RowKit in
theorem Tryz.strconv_Atoi_ok (s : ByteArray) (hmax : s.size ≤ 9223372036854775806) (v : Int) (h : Lib.atoiAll s.data.toList = .ok v) (w : World) :
    Calls Tryz.prog 19 #[.string s] w fun e w' => e = .returned (.tuple #[.int .i64 v, .nilIface]) ∧ (w' = w ∨ ∃ t, w' = Lib.bytesWorld w 5 t) := Any.strconv_Atoi_ok Tryz.laysC172 s hmax v h w
open Go.RowKit in
theorem Tryz.strconv_Atoi_range (s : ByteArray) (hlim : s.size ≤ 281474976710656) (h : Lib.atoiAll s.data.toList = .range) (ev : Value) (w : World) (hv : w.cell? ⟨1, 0, none⟩ = some ev) (hev : ev = .nilIface ∨ ∃ te pe, ev = .iface te pe) :
    Calls Tryz.prog 19 #[.string s] w fun e w' => ∃ N, e = .returned (.tuple #[.int .i64 (Lib.atoiSat s.data.toList), .iface 123 (.pointer (some ⟨N, 0, none⟩))]) ∧ w.heap.size ≤ N ∧ w'.heap[N]? = some (.cells #[.string ⟨#[65, 116, 111, 105]⟩, .string s, ev] 150 (0, 0)) ∧ Below w.heap.size w w' := Any.strconv_Atoi_range Tryz.laysC172 s hlim h ev w hv hev
def Tryz.lays101_ren : Go.Shelf.Ren := ⟨fun | 101 => 20 | 208 => 48 | 206 => 75 | n => n, fun | 9 => 9 | 4 => 4 | 3 => 3 | n => n, fun | n => n⟩
theorem Tryz.lays101 : Go.Proofs.Lays.n101 Tryz.prog Tryz.lays101_ren := {
  mixed := by kernel_rfl
  f101 := Tryz.func20.trans (congrArg some (by kernel_rfl))
  f206 := Tryz.func75.trans (congrArg some (by kernel_rfl))
  f208 := Tryz.func48.trans (congrArg some (by kernel_rfl))
  t3 := Tryz.underlying3
  a3 := Tryz.isAgg3
  z3 := Tryz.sizeOf3
  v3 := Tryz.zeroValue3
  t4 := Tryz.underlying4
  a4 := Tryz.isAgg4
  z4 := Tryz.sizeOf4
  v4 := Tryz.zeroValue4
  t9 := Tryz.underlying9
  a9 := Tryz.isAgg9
  z9 := Tryz.sizeOf9
  v9 := Tryz.zeroValue9 }
open Go.RowKit Go.Lib in
theorem Tryz.strings_TrimPrefix (s p : ByteArray) (w : World) :
    Calls Tryz.prog 20 #[.string s, .string p] w fun e w' => e = .returned (.string ⟨(Lib.trimPrefix s.data.toList p.data.toList).toArray⟩) ∧ w' = w := Any.strings_TrimPrefix Tryz.lays101 s p w
def Tryz.lays146_ren : Go.Shelf.Ren := ⟨fun | 146 => 18 | 221 => 45 | 268 => 67 | 138 => 68 | 143 => 69 | 195 => 90 | 197 => 91 | 218 => 92 | 219 => 93 | 260 => 104 | 217 => 105 | 225 => 106 | 224 => 107 | 267 => 108 | 266 => 114 | 314 => 115 | n => n, fun | 9 => 9 | 31 => 53 | 3 => 3 | 4 => 4 | 0 => 0 | 105 => 142 | 21 => 21 | 5 => 5 | 46 => 147 | 119 => 164 | 139 => 167 | 138 => 166 | 146 => 168 | 51 => 154 | n => n, fun | 1 => 2 | 3 => 4 | 4 => 5 | n => n⟩
theorem Tryz.lays146 : Go.Proofs.Lays.n146 Tryz.prog Tryz.lays146_ren := {
  mixed := by kernel_rfl
  f138 := Tryz.func68.trans (congrArg some (by kernel_rfl))
  f143 := Tryz.func69.trans (congrArg some (by kernel_rfl))
  f146 := Tryz.func18.trans (congrArg some (by kernel_rfl))
  f195 := Tryz.func90.trans (congrArg some (by kernel_rfl))
  f197 := Tryz.func91.trans (congrArg some (by kernel_rfl))
  f217 := Tryz.func105.trans (congrArg some (by kernel_rfl))
  f218 := Tryz.func92.trans (congrArg some (by kernel_rfl))
  f219 := Tryz.func93.trans (congrArg some (by kernel_rfl))
  f221 := Tryz.func45.trans (congrArg some (by kernel_rfl))
  f224 := Tryz.func107.trans (congrArg some (by kernel_rfl))
  f225 := Tryz.func106.trans (congrArg some (by kernel_rfl))
  f260 := Tryz.func104.trans (congrArg some (by kernel_rfl))
  f266 := Tryz.func114.trans (congrArg some (by kernel_rfl))
  f267 := Tryz.func108.trans (congrArg some (by kernel_rfl))
  f268 := Tryz.func67.trans (congrArg some (by kernel_rfl))
  f314 := Tryz.func115.trans (congrArg some (by kernel_rfl))
  t0 := Tryz.underlying0
  a0 := Tryz.isAgg0
  z0 := Tryz.sizeOf0
  v0 := Tryz.zeroValue0
  t3 := Tryz.underlying3
  a3 := Tryz.isAgg3
  z3 := Tryz.sizeOf3
  v3 := Tryz.zeroValue3
  t4 := Tryz.underlying4
  a4 := Tryz.isAgg4
  z4 := Tryz.sizeOf4
  v4 := Tryz.zeroValue4
  t5 := Tryz.underlying5
  a5 := Tryz.isAgg5
  z5 := Tryz.sizeOf5
  v5 := Tryz.zeroValue5
  t9 := Tryz.underlying9
  a9 := Tryz.isAgg9
  z9 := Tryz.sizeOf9
  v9 := Tryz.zeroValue9
  t21 := Tryz.underlying21
  a21 := Tryz.isAgg21
  z21 := Tryz.sizeOf21
  v21 := Tryz.zeroValue21
  t31 := Tryz.underlying53
  a31 := Tryz.isAgg53
  z31 := Tryz.sizeOf53
  v31 := Tryz.zeroValue53
  t46 := Tryz.underlying147
  a46 := Tryz.isAgg147
  z46 := Tryz.sizeOf147
  v46 := Tryz.zeroValue147
  t51 := Tryz.underlying154
  a51 := Tryz.isAgg154
  z51 := Tryz.sizeOf154
  v51 := Tryz.zeroValue154
  t105 := Tryz.underlying142
  a105 := Tryz.isAgg142
  z105 := Tryz.sizeOf142
  v105 := Tryz.zeroValue142
  t119 := Tryz.underlying164
  a119 := Tryz.isAgg164
  z119 := Tryz.sizeOf164
  t138 := Tryz.underlying166
  a138 := Tryz.isAgg166
  z138 := Tryz.sizeOf166
  v138 := Tryz.zeroValue166
  t139 := Tryz.underlying167
  a139 := Tryz.isAgg167
  z139 := Tryz.sizeOf167
  v139 := Tryz.zeroValue167
  t146 := Tryz.underlying168
  a146 := Tryz.isAgg168
  z146 := Tryz.sizeOf168
  v146 := Tryz.zeroValue168
  g1 := by kernel_rfl
  g3 := by kernel_rfl
  g4 := by kernel_rfl }
open Go.RowKit Go.Lib in
theorem Tryz.strings_Split (s sep : ByteArray) (m : Int) (w : World) (hs : s.size < 4294967281) (hm : w.cell? ⟨2, 0, none⟩ = some (.int .i64 m)) (h1 : 1 ≤ sep.size) :
    Calls Tryz.prog 18 #[.string s, .string sep] w fun e w' =>
      e = .returned (.slice (some ⟨w.heap.size, 0, none⟩) (Lib.countB s sep + 1) (Lib.countB s sep + 1)) ∧ w' = w.alloc (.cells ((Lib.splitB sep 0 (Lib.countB s sep) s).map Value.string).toArray 9) := Any.strings_Split Tryz.lays146 (by kernel_rfl) s sep m w hs hm h1
end Go.Proofs
