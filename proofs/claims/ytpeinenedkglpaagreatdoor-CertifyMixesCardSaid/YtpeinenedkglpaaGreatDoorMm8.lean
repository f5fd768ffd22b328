import Derived.Shelf.Strings.OnBuilder
import Derived.Shelf.Small.Strs
import Derived.Shelf.Small.Wraps
import Derived.Shelf.Strconv.Atoi
import Derived.Shelf.Strconv.Itoa3
import Derived.Shelf.Strings.Shaped
import Derived.Shelf.Strings.SplitShaped
import Derived.Shelf.Unicode.DecodeSlow
import Derived.Shelf.Strings.BuilderCap
import Derived.Test.YtpeinenedkglpaaGreatDoorMm7
import Derived.Lib.AppendIntMem
set_option linter.unusedVariables false
set_option linter.unusedSimpArgs false
set_option maxRecDepth 100000
set_option maxHeartbeats 16000000
namespace Go.Proofs
open Tryz
open Go.Shelf
def Tryz.lays172_ren:Go.Shelf.Ren:=⟨fun|172=>111|244=>120|245=>121|247=>131|279=>132|280=>133|281=>134|282=>135|287=>142|316=>143|171=>112|205=>144|321=>149|322=>150|243=>122|246=>136|283=>145|284=>146|285=>147|286=>148|129=>152|317=>151|318=>153|319=>154|320=>155|337=>156|338=>157|n=>n,fun|9=>9|3=>3|75=>167|76=>168|4=>4|5=>5|167=>180|37=>125|0=>0|85=>181|2=>2|168=>183|53=>191|175=>198|46=>179|210=>202|127=>209|145=>212|143=>210|21=>21|171=>204|173=>206|212=>214|51=>189|20=>20|213=>215|232=>216|233=>217|80=>218|n=>n,fun|15=>3|16=>4|17=>5|18=>6|19=>7|n=>n⟩
theorem Tryz.lays172:Go.Proofs.Lays.n172 prog Tryz.lays172_ren:={
 mixed:=by kernel_rfl
 f129:=func152.trans (congrArg some (by kernel_rfl))
 f171:=func112.trans (congrArg some (by kernel_rfl))
 f172:=func111.trans (congrArg some (by kernel_rfl))
 f205:=func144.trans (congrArg some (by kernel_rfl))
 f243:=func122.trans (congrArg some (by kernel_rfl))
 f244:=func120.trans (congrArg some (by kernel_rfl))
 f245:=func121.trans (congrArg some (by kernel_rfl))
 f246:=func136.trans (congrArg some (by kernel_rfl))
 f247:=func131.trans (congrArg some (by kernel_rfl))
 f279:=func132.trans (congrArg some (by kernel_rfl))
 f280:=func133.trans (congrArg some (by kernel_rfl))
 f281:=func134.trans (congrArg some (by kernel_rfl))
 f282:=func135.trans (congrArg some (by kernel_rfl))
 f283:=func145.trans (congrArg some (by kernel_rfl))
 f284:=func146.trans (congrArg some (by kernel_rfl))
 f285:=func147.trans (congrArg some (by kernel_rfl))
 f286:=func148.trans (congrArg some (by kernel_rfl))
 f287:=func142.trans (congrArg some (by kernel_rfl))
 f316:=func143.trans (congrArg some (by kernel_rfl))
 f317:=func151.trans (congrArg some (by kernel_rfl))
 f318:=func153.trans (congrArg some (by kernel_rfl))
 f319:=func154.trans (congrArg some (by kernel_rfl))
 f320:=func155.trans (congrArg some (by kernel_rfl))
 f321:=func149.trans (congrArg some (by kernel_rfl))
 f322:=func150.trans (congrArg some (by kernel_rfl))
 f337:=func156.trans (congrArg some (by kernel_rfl))
 f338:=func157.trans (congrArg some (by kernel_rfl))
 t0:=underlying0
 a0:=isAgg0
 z0:=sizeOf0
 v0:=zeroValue0
 t2:=underlying2
 a2:=isAgg2
 z2:=sizeOf2
 v2:=zeroValue2
 t3:=underlying3
 a3:=isAgg3
 z3:=sizeOf3
 v3:=zeroValue3
 t4:=underlying4
 a4:=isAgg4
 z4:=sizeOf4
 v4:=zeroValue4
 t5:=underlying5
 a5:=isAgg5
 z5:=sizeOf5
 v5:=zeroValue5
 t9:=underlying9
 a9:=isAgg9
 z9:=sizeOf9
 v9:=zeroValue9
 t20:=underlying20
 a20:=isAgg20
 z20:=sizeOf20
 v20:=zeroValue20
 t21:=underlying21
 a21:=isAgg21
 z21:=sizeOf21
 v21:=zeroValue21
 t37:=underlying125
 a37:=isAgg125
 z37:=sizeOf125
 v37:=zeroValue125
 t46:=underlying179
 a46:=isAgg179
 z46:=sizeOf179
 v46:=zeroValue179
 t51:=underlying189
 a51:=isAgg189
 z51:=sizeOf189
 v51:=zeroValue189
 t53:=underlying191
 a53:=isAgg191
 z53:=sizeOf191
 v53:=zeroValue191
 t75:=underlying167
 a75:=isAgg167
 z75:=sizeOf167
 v75:=zeroValue167
 t76:=underlying168
 a76:=isAgg168
 z76:=sizeOf168
 v76:=zeroValue168
 t85:=underlying181
 a85:=isAgg181
 z85:=sizeOf181
 v85:=zeroValue181
 t127:=underlying209
 a127:=isAgg209
 z127:=sizeOf209
 v127:=zeroValue209
 t143:=underlying210
 a143:=isAgg210
 z143:=sizeOf210
 v143:=zeroValue210
 t145:=underlying212
 a145:=isAgg212
 z145:=sizeOf212
 v145:=zeroValue212
 t167:=underlying180
 a167:=isAgg180
 z167:=sizeOf180
 v167:=zeroValue180
 t168:=underlying183
 a168:=isAgg183
 z168:=sizeOf183
 v168:=zeroValue183
 t171:=underlying204
 a171:=isAgg204
 z171:=sizeOf204
 v171:=zeroValue204
 t173:=underlying206
 a173:=isAgg206
 z173:=sizeOf206
 v173:=zeroValue206
 t175:=underlying198
 a175:=isAgg198
 z175:=sizeOf198
 v175:=zeroValue198
 t210:=underlying202
 a210:=isAgg202
 z210:=sizeOf202
 v210:=zeroValue202
 t212:=underlying214
 a212:=isAgg214
 z212:=sizeOf214
 v212:=zeroValue214
 t213:=underlying215
 a213:=isAgg215
 z213:=sizeOf215
 t232:=underlying216
 a232:=isAgg216
 z232:=sizeOf216
 v232:=zeroValue216
 t233:=underlying217
 a233:=isAgg217
 z233:=sizeOf217
 v233:=zeroValue217
 g15:=by kernel_rfl
 g16:=by kernel_rfl
 g17:=by kernel_rfl
 g18:=by kernel_rfl
 g19:=by kernel_rfl}
open Go.RowKit in theorem Tryz.strconv_Atoi(s:ByteArray)(n:Int)(hl:s.size<=18)(h:Lib.atoi s.data.toList=some n)(w:World):Calls prog 111 #[.string s] w fun e w'=>e=.returned (.tuple #[.int .i64 n,.nilIface])/\∃t,w'=Lib.bytesWorld w 5 t:=Any.strconv_Atoi Tryz.lays172 s n hl h w
def Tryz.laysM171_ren:Go.Shelf.Ren:=⟨fun|171=>112|243=>122|246=>136|283=>145|284=>146|285=>147|286=>148|129=>152|317=>151|318=>153|319=>154|320=>155|337=>156|338=>157|n=>n,fun|3=>3|9=>9|2=>2|4=>4|171=>204|0=>0|53=>191|37=>125|5=>5|173=>206|212=>214|51=>189|20=>20|213=>215|46=>179|232=>216|233=>217|n=>n,fun|17=>5|18=>6|19=>7|n=>n⟩
theorem Tryz.laysM171:Go.Proofs.LaysM.n171 prog Tryz.laysM171_ren:={
 mixed:=by kernel_rfl
 f129:=func152.trans (congrArg some (by kernel_rfl))
 f171:=func112.trans (congrArg some (by kernel_rfl))
 f243:=func122.trans (congrArg some (by kernel_rfl))
 f246:=func136.trans (congrArg some (by kernel_rfl))
 f283:=func145.trans (congrArg some (by kernel_rfl))
 f284:=func146.trans (congrArg some (by kernel_rfl))
 f285:=func147.trans (congrArg some (by kernel_rfl))
 f286:=func148.trans (congrArg some (by kernel_rfl))
 f317:=func151.trans (congrArg some (by kernel_rfl))
 f318:=func153.trans (congrArg some (by kernel_rfl))
 f319:=func154.trans (congrArg some (by kernel_rfl))
 f320:=func155.trans (congrArg some (by kernel_rfl))
 f337:=func156.trans (congrArg some (by kernel_rfl))
 f338:=func157.trans (congrArg some (by kernel_rfl))
 t0:=underlying0
 a0:=isAgg0
 z0:=sizeOf0
 v0:=zeroValue0
 t2:=underlying2
 a2:=isAgg2
 z2:=sizeOf2
 v2:=zeroValue2
 t3:=underlying3
 a3:=isAgg3
 z3:=sizeOf3
 v3:=zeroValue3
 t4:=underlying4
 a4:=isAgg4
 z4:=sizeOf4
 v4:=zeroValue4
 t5:=underlying5
 a5:=isAgg5
 z5:=sizeOf5
 v5:=zeroValue5
 t9:=underlying9
 a9:=isAgg9
 z9:=sizeOf9
 v9:=zeroValue9
 t20:=underlying20
 a20:=isAgg20
 z20:=sizeOf20
 v20:=zeroValue20
 t37:=underlying125
 a37:=isAgg125
 z37:=sizeOf125
 v37:=zeroValue125
 t46:=underlying179
 a46:=isAgg179
 z46:=sizeOf179
 v46:=zeroValue179
 t51:=underlying189
 a51:=isAgg189
 z51:=sizeOf189
 v51:=zeroValue189
 t53:=underlying191
 a53:=isAgg191
 z53:=sizeOf191
 v53:=zeroValue191
 t171:=underlying204
 a171:=isAgg204
 z171:=sizeOf204
 v171:=zeroValue204
 t173:=underlying206
 a173:=isAgg206
 z173:=sizeOf206
 v173:=zeroValue206
 t212:=underlying214
 a212:=isAgg214
 z212:=sizeOf214
 v212:=zeroValue214
 t213:=underlying215
 a213:=isAgg215
 z213:=sizeOf215
 t232:=underlying216
 a232:=isAgg216
 z232:=sizeOf216
 v232:=zeroValue216
 t233:=underlying217
 a233:=isAgg217
 z233:=sizeOf217
 v233:=zeroValue217
 g17:=by kernel_rfl
 g18:=by kernel_rfl
 g19:=by kernel_rfl
 i0:=by kernel_rfl
 i2:=by kernel_rfl
 i3:=by kernel_rfl
 i4:=by kernel_rfl
 i5:=by kernel_rfl
 i9:=by kernel_rfl
 i20:=by kernel_rfl
 i37:=by kernel_rfl
 i46:=by kernel_rfl
 i51:=by kernel_rfl
 i53:=by kernel_rfl
 i171:=by kernel_rfl
 i173:=by kernel_rfl
 i212:=by kernel_rfl
 i232:=by kernel_rfl
 i233:=by kernel_rfl
 m17:=by kernel_rfl
 m18:=by kernel_rfl
 m19:=by kernel_rfl}
open Go.RowKit Go.Sort Go.Lib in theorem Tryz.strconv_Itoa(n:Int)(h0:-9223372036854775808<=n)(h1:n<=9223372036854775807)(w:World)(htab:Lib.TabIs prog w "internal/strconv.uint64pow10" .u64 Lib.pow10Tab):Calls prog 112 #[.int .i64 n] w fun e w'=>e=.returned (.string ⟨(Lib.itoa n).toArray⟩)/\∃k os,w'=grow (w.drewN k) os:=Any.strconv_Itoa Tryz.laysM171 n h0 h1 w htab
def Tryz.lays101_ren:Go.Shelf.Ren:=⟨fun|101=>113|208=>123|206=>137|n=>n,fun|9=>9|4=>4|3=>3|n=>n,fun|n=>n⟩
theorem Tryz.lays101:Go.Proofs.Lays.n101 prog Tryz.lays101_ren:={
 mixed:=by kernel_rfl
 f101:=func113.trans (congrArg some (by kernel_rfl))
 f206:=func137.trans (congrArg some (by kernel_rfl))
 f208:=func123.trans (congrArg some (by kernel_rfl))
 t3:=underlying3
 a3:=isAgg3
 z3:=sizeOf3
 v3:=zeroValue3
 t4:=underlying4
 a4:=isAgg4
 z4:=sizeOf4
 v4:=zeroValue4
 t9:=underlying9
 a9:=isAgg9
 z9:=sizeOf9
 v9:=zeroValue9}
open Go.RowKit Go.Lib in theorem Tryz.strings_TrimPrefix(s p:ByteArray)(w:World):Calls prog 113 #[.string s,.string p] w fun e w'=>e=.returned (.string ⟨(Lib.trimPrefix s.data.toList p.data.toList).toArray⟩)/\w'=w:=Any.strings_TrimPrefix Tryz.lays101 s p w
def Tryz.lays146_ren:Go.Shelf.Ren:=⟨fun|146=>72|221=>94|268=>108|138=>109|143=>110|195=>116|197=>117|218=>118|219=>119|260=>126|217=>127|225=>128|224=>129|267=>130|266=>140|314=>141|n=>n,fun|9=>9|31=>118|3=>3|4=>4|0=>0|105=>174|21=>21|5=>5|46=>179|119=>192|139=>195|138=>194|146=>196|51=>189|n=>n,fun|1=>0|3=>1|4=>2|n=>n⟩
theorem Tryz.lays146:Go.Proofs.Lays.n146 prog Tryz.lays146_ren:={
 mixed:=by kernel_rfl
 f138:=func109.trans (congrArg some (by kernel_rfl))
 f143:=func110.trans (congrArg some (by kernel_rfl))
 f146:=func72.trans (congrArg some (by kernel_rfl))
 f195:=func116.trans (congrArg some (by kernel_rfl))
 f197:=func117.trans (congrArg some (by kernel_rfl))
 f217:=func127.trans (congrArg some (by kernel_rfl))
 f218:=func118.trans (congrArg some (by kernel_rfl))
 f219:=func119.trans (congrArg some (by kernel_rfl))
 f221:=func94.trans (congrArg some (by kernel_rfl))
 f224:=func129.trans (congrArg some (by kernel_rfl))
 f225:=func128.trans (congrArg some (by kernel_rfl))
 f260:=func126.trans (congrArg some (by kernel_rfl))
 f266:=func140.trans (congrArg some (by kernel_rfl))
 f267:=func130.trans (congrArg some (by kernel_rfl))
 f268:=func108.trans (congrArg some (by kernel_rfl))
 f314:=func141.trans (congrArg some (by kernel_rfl))
 t0:=underlying0
 a0:=isAgg0
 z0:=sizeOf0
 v0:=zeroValue0
 t3:=underlying3
 a3:=isAgg3
 z3:=sizeOf3
 v3:=zeroValue3
 t4:=underlying4
 a4:=isAgg4
 z4:=sizeOf4
 v4:=zeroValue4
 t5:=underlying5
 a5:=isAgg5
 z5:=sizeOf5
 v5:=zeroValue5
 t9:=underlying9
 a9:=isAgg9
 z9:=sizeOf9
 v9:=zeroValue9
 t21:=underlying21
 a21:=isAgg21
 z21:=sizeOf21
 v21:=zeroValue21
 t31:=underlying118
 a31:=isAgg118
 z31:=sizeOf118
 v31:=zeroValue118
 t46:=underlying179
 a46:=isAgg179
 z46:=sizeOf179
 v46:=zeroValue179
 t51:=underlying189
 a51:=isAgg189
 z51:=sizeOf189
 v51:=zeroValue189
 t105:=underlying174
 a105:=isAgg174
 z105:=sizeOf174
 v105:=zeroValue174
 t119:=underlying192
 a119:=isAgg192
 z119:=sizeOf192
 t138:=underlying194
 a138:=isAgg194
 z138:=sizeOf194
 v138:=zeroValue194
 t139:=underlying195
 a139:=isAgg195
 z139:=sizeOf195
 v139:=zeroValue195
 t146:=underlying196
 a146:=isAgg196
 z146:=sizeOf196
 v146:=zeroValue196
 g1:=by kernel_rfl
 g3:=by kernel_rfl
 g4:=by kernel_rfl}
open Go.RowKit Go.Lib in theorem Tryz.strings_Split(s sep:ByteArray)(m:Int)(w:World)(hs:s.size<4294967281)(hm:w.cell? ⟨0,0,none⟩=some (.int .i64 m))(h1:1<=sep.size):Calls prog 72 #[.string s,.string sep] w fun e w'=>e=.returned (.slice (some ⟨w.heap.size,0,none⟩) (Lib.countB s sep+1) (Lib.countB s sep+1))/\w'=w.alloc (.cells ((Lib.splitB sep 0 (Lib.countB s sep) s).map Value.string).toArray 9):=Any.strings_Split Tryz.lays146 (by kernel_rfl) s sep m w hs hm h1
def Tryz.laysM146_ren:Go.Shelf.Ren:=⟨fun|146=>72|221=>94|268=>108|138=>109|143=>110|195=>116|197=>117|218=>118|219=>119|260=>126|217=>127|225=>128|224=>129|267=>130|266=>140|314=>141|n=>n,fun|9=>9|31=>118|3=>3|4=>4|0=>0|105=>174|21=>21|5=>5|46=>179|119=>192|139=>195|138=>194|146=>196|51=>189|n=>n,fun|1=>0|3=>1|4=>2|n=>n⟩
theorem Tryz.laysM146:Go.Proofs.LaysM.n146 prog Tryz.laysM146_ren:={
 mixed:=by kernel_rfl
 f138:=func109.trans (congrArg some (by kernel_rfl))
 f143:=func110.trans (congrArg some (by kernel_rfl))
 f146:=func72.trans (congrArg some (by kernel_rfl))
 f195:=func116.trans (congrArg some (by kernel_rfl))
 f197:=func117.trans (congrArg some (by kernel_rfl))
 f217:=func127.trans (congrArg some (by kernel_rfl))
 f218:=func118.trans (congrArg some (by kernel_rfl))
 f219:=func119.trans (congrArg some (by kernel_rfl))
 f221:=func94.trans (congrArg some (by kernel_rfl))
 f224:=func129.trans (congrArg some (by kernel_rfl))
 f225:=func128.trans (congrArg some (by kernel_rfl))
 f260:=func126.trans (congrArg some (by kernel_rfl))
 f266:=func140.trans (congrArg some (by kernel_rfl))
 f267:=func130.trans (congrArg some (by kernel_rfl))
 f268:=func108.trans (congrArg some (by kernel_rfl))
 f314:=func141.trans (congrArg some (by kernel_rfl))
 t0:=underlying0
 a0:=isAgg0
 z0:=sizeOf0
 v0:=zeroValue0
 t3:=underlying3
 a3:=isAgg3
 z3:=sizeOf3
 v3:=zeroValue3
 t4:=underlying4
 a4:=isAgg4
 z4:=sizeOf4
 v4:=zeroValue4
 t5:=underlying5
 a5:=isAgg5
 z5:=sizeOf5
 v5:=zeroValue5
 t9:=underlying9
 a9:=isAgg9
 z9:=sizeOf9
 v9:=zeroValue9
 t21:=underlying21
 a21:=isAgg21
 z21:=sizeOf21
 v21:=zeroValue21
 t31:=underlying118
 a31:=isAgg118
 z31:=sizeOf118
 v31:=zeroValue118
 t46:=underlying179
 a46:=isAgg179
 z46:=sizeOf179
 v46:=zeroValue179
 t51:=underlying189
 a51:=isAgg189
 z51:=sizeOf189
 v51:=zeroValue189
 t105:=underlying174
 a105:=isAgg174
 z105:=sizeOf174
 v105:=zeroValue174
 t119:=underlying192
 a119:=isAgg192
 z119:=sizeOf192
 t138:=underlying194
 a138:=isAgg194
 z138:=sizeOf194
 v138:=zeroValue194
 t139:=underlying195
 a139:=isAgg195
 z139:=sizeOf195
 v139:=zeroValue195
 t146:=underlying196
 a146:=isAgg196
 z146:=sizeOf196
 v146:=zeroValue196
 g1:=by kernel_rfl
 g3:=by kernel_rfl
 g4:=by kernel_rfl
 i0:=by kernel_rfl
 i3:=by kernel_rfl
 i4:=by kernel_rfl
 i5:=by kernel_rfl
 i9:=by kernel_rfl
 i21:=by kernel_rfl
 i31:=by kernel_rfl
 i46:=by kernel_rfl
 i51:=by kernel_rfl
 i105:=by kernel_rfl
 i138:=by kernel_rfl
 i139:=by kernel_rfl
 i146:=by kernel_rfl
 m1:=by kernel_rfl
 s1_3:=fun w h=>Go.Proofs.cell_of_shapedOpen_int (zero:=#[.int .i64 0]) (t:=3) h (of_decide_eq_true (by kernel_rfl)) (by kernel_rfl) rfl (by kernel_rfl) (by kernel_rfl) underlying3
 m3:=by kernel_rfl
 m4:=by kernel_rfl}
end Go.Proofs
namespace Go.Proofs
open Tryz
open Go.RowKit
variable {w w':World}
def bs(l:List UInt8):ByteArray:=⟨l.toArray⟩
def Sc(l:List UInt8):List Value:=[.string (bs l)]
theorem Zeu(l:List UInt8):(bs l).data.toList=l:=by simp[bs]
theorem ZrX(s:ByteArray):bs s.data.toList=s:=by cases s;simp[bs]
theorem Zgl(l:List UInt8):(bs l).size=l.length:=by simp[bs,ByteArray.size]
structure Tabs (w:World):Prop where
 tab:Lib.TabIs prog w "internal/strconv.uint64pow10" .u64 Lib.pow10Tab
 mx:∃m,w.cell? ⟨0,0,none⟩=some (.int .i64 m)
theorem Zde{p:Addr} {v:Value} (h:w.cell? p=some v)(hb:Below w.heap.size w w'):w'.cell? p=some v:=(hb.cell (World.block_lt_of_cell? _ _ h)).trans h
theorem Tabs.below(h:Tabs w)(hb:Below w.heap.size w w'):Tabs w':=by obtain⟨h1,⟨m,h4⟩⟩:=h;exact⟨Lib.tabBelow_of_tabIs h1 w' hb,⟨m,Zde h4 hb⟩⟩
theorem ZrY(n:Int)(w:World)(hn:n.natAbs<=9000000000000000000)(ht:Tabs w):Calls prog 112 #[.int .i64 n] w fun e w'=>e=.returned (.string (bs (Lib.itoa n)))/\Below w.heap.size w w':=(Tryz.strconv_Itoa n (by omega) (by omega) w ht.tab).mono fun e w' ⟨he,k,os,hw⟩=>⟨he,hw▸Lib.below_grow w.heap.size w (ZwO _) k os⟩
theorem ZrZ(sep:ByteArray)(h1:1<=sep.size):∀(n:Nat)(s:ByteArray),s.size<=n->(Lib.splitB sep 0 (Lib.countB s sep) s).length=Lib.countB s sep+1:=by intro n;induction n with
 |zero=>
  intro s hs;rcases Lib.index_spec s.data.toList sep.data.toList with⟨h,-⟩|⟨i,h,hi,-,-⟩;·rw[Lib.countB_miss s sep h];rfl
  ·have hr:=Lib.index_room s.data.toList sep.data.toList (by omega);have e1:s.data.toList.length=s.size:=by simp
   have e2:sep.data.toList.length=sep.size:=by simp
   omega|succ n ih=>
  intro s hs;rcases Lib.index_spec s.data.toList sep.data.toList with⟨h,-⟩|⟨i,h,hi,-,-⟩;·rw[Lib.countB_miss s sep h];rfl
  ·have hr:=Lib.index_room s.data.toList sep.data.toList (by omega);have e1:s.data.toList.length=s.size:=by simp
   have e2:sep.data.toList.length=sep.size:=by simp
   rw[Lib.countB_hit s sep i h1 h,ZwH 1,Lib.splitB_hit sep 0 _ s i h,Zv0,ih _ (by rw[ByteArray.size_extract];omega)]
theorem Zr0{l:List ByteArray} {m:List (List UInt8)} (h:l.map (·.data.toList)=m):l=m.map bs:=by subst h;rw[Zwb,show (bs ∘ fun x:ByteArray=>x.data.toList)=id from funext fun x=>ZrX x,List.map_id]
theorem ZlQ(s:ByteArray):Lib.splitB ⟨#[32]⟩ 0 (Lib.countB s ⟨#[32]⟩) s=(cutL s.data.toList).map bs:=by refine Zr0 ?_;rw[Lib.splitB_data];exact ZrS _ _ (ZwO _)
theorem Zr1(s:ByteArray)(w:World)(hs:s.size<=100000)(ht:Tabs w):Calls prog 72 #[.string s,.string ⟨#[32]⟩] w fun e w'=>(∃A c,e=.returned (.slice A (cutL s.data.toList).length c)/\At 1 Sc w' A (cutL s.data.toList)/\(cutL s.data.toList).length<=c)/\Below w.heap.size w w':=by obtain⟨m,hm⟩:=ht.mx;refine(Tryz.strings_Split s ⟨#[32]⟩ m w (by omega) hm (by decide)).mono ?_;rintro e w' ⟨rfl,rfl⟩;have hl:=ZrZ ⟨#[32]⟩ (by decide) s.size s (ZwO _);rw[ZlQ,Zv2]at hl;rw[ZlQ,<-hl];refine⟨⟨_,_,rfl,?_,ZwO _⟩,ZC _ _⟩;intro k x hx;refine⟨w.heap.size,0,rfl,by simp,?_⟩;intro j v hv;match j,hv with|0,rfl=>rw[World.cell?_alloc_at _ _ _ _ rfl];simp[hx]
theorem Zr2(n:Int)(w:World)(hn:n.natAbs<10^16):Calls prog 111 #[.string (bs (Lib.itoa n))] w fun e w'=>e=.returned (.tuple #[.int .i64 n,.nilIface])/\Below w.heap.size w w':=by refine(Tryz.strconv_Atoi (bs (Lib.itoa n)) n (by rw[Zgl];have:=(Zis 15 n hn).1;omega) (by rw[Zeu];exact ZrV n) w).mono ?_;rintro e w' ⟨rfl,t,rfl⟩;exact⟨rfl,rfl,rfl,rfl,by rw[Lib.bytesWorld_size];omega,fun k hk=>Lib.bytesWorld_at_old w 5 t k hk⟩
theorem Zr3(b:List UInt8)(w:World):Calls prog 113 #[.string (bs b),.string ⟨#[45]⟩] w fun e w'=>e=.returned (.string (bs (Zdd b)))/\w=w':=by refine(Tryz.strings_TrimPrefix (bs b) ⟨#[45]⟩ w).mono ?_;rintro e w' ⟨rfl,rfl⟩;refine⟨?_,rfl⟩;rw[Zeu];show _=Ending.returned (.string (bs (Zdd b)));rw[<-ZrU];rfl
theorem At.tail1{α:Type} {sz:Nat} {cs:α->List Value} {w:World} {b o:Nat} {l:List α} (h:At sz cs w (some ⟨b,o,none⟩) l) (n:Nat):At sz cs w (some ⟨b,o+n*sz,none⟩) (l.drop n):=fun k x hx=>by rw[List.getElem?_drop]at hx;obtain⟨b',o',hA,hb,hc⟩:=h (n+k) x hx;cases hA;refine⟨b,o+n*sz,rfl,hb,fun j u hu=>?_⟩;rw[<-hc j u hu,ZwI];congr 2;omega
theorem Zr4(n:Int)(k:Nat)(w:World)(hk:k<=14)(hn:n.natAbs<10^(k+1))(ht:Tabs w):Calls prog 95 #[.string (bs (Lib.itoa n)),.int .i64 ((k+1:Nat):Int)] w fun e w'=>e=.returned (.tuple #[.int .i64 n,.bool true])/\Below w.heap.size w w':=by
 have hbig:(10:Nat)^(k+1)<=10^15:=Zw5 (by decide) (by omega);have hAt:=Zr2 n w (by omega);have hIt:=Zvc fun W (hb:Below w.heap.size w W)=>ZrY n W (by omega) (ht.below hb);have hTr:=Zvc fun W=>Zr3 (Lib.itoa n) W;have hm:=(Zis k n hn).2;obtain⟨S,hS⟩:∃S,bs (Lib.itoa n)=S:=⟨_,rfl⟩;obtain⟨M,hM⟩:∃M,bs (Zdd (Lib.itoa n))=M:=⟨_,rfl⟩;have hMs:M.size<=k+1:=by rw[<-hM,Zgl];exact hm
 have hMi:decide ((M.size:Int)<=((k+1:Nat):Int))=true:=by simp;omega
 have hMi2:(M.size:Int)<=((k+1:Nat):Int):=by omega
 rw[hS]at hAt hIt hTr |-;rw[hM]at hTr;obtain⟨K,hK⟩:∃K:Int,((k+1:Nat):Int)=K:=⟨_,rfl⟩;rw[hK]at hMi hMi2 |-;have hse:(S.toList==S.toList)=true:=by simp
 have hnl:∀W,(binOp .eql 167 .nilIface .nilIface).run prog W=.ok (.bool true) W:=fun W=>by kernel_rfl
 clear hn ht hbig hm hS hM hK hk;go_enter func95,ntmps95;go_wp2_with (first|(go_at_call 111;refine hAt.mono ?_;rintro e w1 ⟨rfl,hb1⟩)|(go_at_call 112;refine(hIt.out _ hb1).mono ?_;rintro e w2 ⟨rfl,hb2⟩)|(go_at_call 113;refine(hTr.out _).mono ?_;rintro e w3 ⟨rfl,rfl⟩));go_ret2;exact⟨rfl,via hb1 hb2⟩
theorem Zr5(A:Option Addr)(l:List Int)(k n c:Nat)(w:World)(hk:k<=14)(hl:∀x∈l,x.natAbs<10^(k+1))(hA:At 1 Sc w A (l.map Lib.itoa))(hn:l.length=n)(h9:n<=900)(ht:Tabs w):Calls prog 73 #[.slice A n c,.int .i64 ((k+1:Nat):Int)] w fun e w'=>(∃A2 c2,e=.returned (.tuple #[.slice A2 n c2,.bool true])/\w'.ownsRow w.heap.size 3 1 (.slice A2 n c2) n (l.map (Value.int .i64)))/\Below w.heap.size w w':=by
 have hNu:=Zvc fun x (hx:x∈l) W (hb:Below w.heap.size w W)=>Zr4 x k W hk (hl x hx) (ht.below hb);have hA':=Zvc hA;have hn':=Zvc hn;obtain⟨K,hK⟩:∃K:Int,((k+1:Nat):Int)=K:=⟨_,rfl⟩;rw[hK]at hNu |-;obtain⟨i0,hi,hz0,hz1,hz2⟩:=info_parts info3;clear hk hl hA hn ht hK;go_enter func73,ntmps73;go_wp2;go_loopw [6,13] (fun v i wr=>∃j:Nat,j<=n/\i=.int .i64 j/\Hid (wr.ownsRow w.heap.size 3 1 v j ((l.take j).map (Value.int .i64)))/\Below w.heap.size w wr)(fun _ i _=>n-(intOf i).toNat);case atStart=>exact⟨0,Zxa _,rfl,Zvc (World.ownsRow_nil _ _ _ _),ZuK _ _⟩
 case round=>
  obtain⟨j,hj,rfl,hown,hbw⟩:=hrel;obtain⟨A5,c5,rfl⟩:=Zac hown.out;by_cases hlt:j<n
  ·have hjI:(j:Int)<(n:Int):=by omega
   obtain⟨x,hx⟩:∃x,l[j]?=some x:=⟨_,ZvL (by rw[hn'.out];exact hlt)⟩;obtain⟨b,o,rfl,hbb,hc⟩:=hA'.out.below hbw j (Lib.itoa x) (by rw[ZvP,hx];rfl);have y0:=hc 0 _ rfl;simp only[ZwK,Zw0]at y0;have hCx:=Zvc (hNu.out x (Zwn hx) wr hbw);have hst:=Zvc (show (l.take (j+1)).map (Value.int .i64)=(l.take j).map (Value.int .i64)++[.int .i64 x]by rw[ZwA,hx];simp);clear hc hx;go_wp2_with (first
    |(go_at_call 95;refine hCx.out.mono ?_;rintro e w2 ⟨rfl,hb2⟩;(have hO2:=Zvc (ZN hown.out hb2));(have hbw2:=via hbw hb2);clear hb2)|(at_builtin;refine wpList_append_own _ rfl _ _ 28 rfl w.heap.size 3 i0 (.int .i64 0) 1 8 underlying28 hi hz0 hz1 hz2 rfl (by decide) _ _ _ rfl (hO2.out.alloc _) ⟨w2.heap.size,0,none⟩ 1 1 [.int .i64 x] rfl rfl ?c1 ?c2 ?c3 ?c4 ?c5 ?_));try (case c1=>exact Zbq _ [.int .i64 x] _ (by simp))
   case c2=>first|rfl|(intro u hu;simp at hu;subst hu;rfl)
   case c3=>first|omega|(unfold maxLen;omega)
   case c4=>omega
   case c5=>have:=hbw2.size;first|omega|(simp;omega)
   intro v' w3 hown3 hg3 _;have hown4:=Zvc (show w3.ownsRow w.heap.size 3 1 v' (j+1) ((l.take (j+1)).map (Value.int .i64))from by rw[hst.out,List.map_take];exact hown3);have hbw3:Below w.heap.size w w3:=ZW (via hbw2 (ZC _ _)) hg3 fun b e=>by have:=(hO2.out.lt b e).1;omega
   clear hown3 hg3;go_wp2;go_roundw;case rel=>exact⟨j+1,by omega,by go_num,hown4.out,hbw3⟩
   case measure=>simp[intOf]<;>omega
  ·obtain rfl:n=j:=by omega
   have hall:=Zvc (show l.take n=l by rw[<-hn'.out,ZwB]);go_wp2;go_ret2;exact⟨⟨A5,c5,rfl,by have:=hown.out;rwa [hall.out]at this⟩,hbw⟩
end Go.Proofs
namespace Go.Proofs
open Go.RowKit
theorem Zgm{w:World} {base:Nat} {e:TypeId} {size n c:Nat} {A:Option Addr} {xs:List Value} (h:w.ownsRow base e size (.slice A n c) n xs):n<=c:=by
 rcases h.2 with⟨h,h0⟩|⟨g,cap,cur,h1,h2,h3,h4,-⟩;·omega
 ·cases h1;exact h4
end Go.Proofs
namespace Go.Proofs
open Tryz
open Go.RowKit
theorem ZlR{P:Program} {α:Type} {sz:Nat} {cs:α->List Value} (hsz:∀y,(cs y).length=sz)(hp:0<sz) {x:World} {t ty e:TypeId} {i:TypeInfo} {z:Value} {bytes:Nat} (ht:P.underlying t=some (.slice e))(hi:P.info? e=some i)(hz:i.zero=some z)(hs:i.size=sz)(hzs:z.cells.size=sz)(hby:i.bytes=bytes)(hbb:bytes<=1000)(b base:Nat)(hbb2:base<=b)(hblk:x.heap[b]?=some (.cells #[] e (0,0)))(hbs:base<=x.heap.size) {l:List α} {A:Option Addr} (c n:Nat)(hn:l.length=n)(hat:At sz cs x A l)(hl:l.length<=1000):∃A2 c2 x',(Builtin.append_ #[t,t] ty #[.slice (some ⟨b,0,none⟩) 0 0,.slice A n c]).run P x=.ok (.slice A2 n c2) x'/\Below x.heap.size x x'/\x'.ownsRow base e sz (.slice A2 n c2) n (l.flatMap cs):=by subst hn;cases l with
 |nil=>refine⟨some ⟨b,0,none⟩,0,x,?_,ZuK _ _,by simp,.inr ⟨b,0,#[],rfl,hbb2,hblk,ZwO _,Zxa _,by simp,by simp⟩⟩;cases A with
  |none=>simp[Builtin.append_,run_underlying ht,sizeOf,typeInfo,hi,Builtin.lenOf,Builtin.firstCells,loadCells,loadCellsFrom,storeCells]|some a=>simp[Builtin.append_,run_underlying ht,sizeOf,typeInfo,hi,Builtin.lenOf,Builtin.firstCells,loadCells,loadCellsFrom,storeCells]
 |cons y l'=>
  obtain⟨l,hl'⟩:∃l,y::l'=l:=⟨_,rfl⟩;have hne:0<l.length:=by rw[<-hl'];simp
  rw[hl']at hat hl |-;obtain⟨a,rfl⟩:∃a,A=some a:=by obtain⟨b',o',h,-⟩:=hat 0 y (by rw[<-hl'];rfl);exact⟨_,h⟩
  have hfl:=Zgb cs sz hsz l;have hnews:=Zia hsz hat;have hbt:l.length*bytes<=1000*1000:=ZwY hl hbb;subst hs;subst hby;have hr:=run_append_grow (P:=P) (w:=x) t ty e i z ht hi hz ⟨b,0,none⟩ 0 0 [] (by simp) (by simp) a l.length c (l.flatMap cs) hfl hnews (by omega) (by omega) (growslice_fits (by omega) (by rw[Zw9];omega));simp only[Zw9]at hr;have hge:=grownCap_ge x l.length 0 e;have hcm:grownCap x l.length 0 e<=maxLen:=grownCap_le_maxLen x l.length 0 e (by unfold maxLen;omega);have hb':Below x.heap.size x (x.drew.alloc (.cells (([]:List Value).toArray++(l.flatMap cs).toArray++Builtin.zeroCells z.cells (grownCap x l.length 0 e-l.length)) e)):=((ZuK _ x).drew).alloc (by simp) _;refine⟨_,_,_,hr,hb',hfl,.inr ⟨x.heap.size,_,_,rfl,hbs,heap_alloc_new x.drew _,hge,hcm,?_,?_⟩⟩;·simp only[Array.size_append,Zwy,size_zeroCells,hzs,hfl,Zv3,Zw9,<-ZwI];congr 1;omega
  ·simp only[Array.toList_append,Zwr];rw[<-hfl];exact List.take_left
section
variable {P:Program} {ops:Array Oper}
theorem ZlS{rest:List Oper} {o:Oper} {a:Act} {x x':World} {v1 v2 v':Value} {Q:Exit->Act->World->Prop} (hgd:o.guard=none)(s y:Operand)(t:TypeId)(ho:o.op=.call {callee:=.builtin .append,args:=#[s,y],argTypes:=#[t,t]})(hs:a.eval s=v1)(hy:a.eval y=v2)(hr:(Builtin.append_ #[t,t] o.type #[v1,v2]).run P x=.ok v' x')(h:wpList P ops Q rest (a.put o.dst v') x'):wpList P ops Q (o::rest) a x:=by refine wpList_plain hgd fun K hK=>?_;unfold Oper.wp execOp;simp only[ho,resolve,invoke,builtin,Sem.run_bind,Sem.run_pure,Result.andThen_ok,Zwe,Zwa,Zwc,hs,hy,hr];exact hK _ _ h
end
theorem ZlT(A:Option Addr)(l:List Int)(c n:Nat)(w:World)(hat:At 1 Zc w A l)(hn:l.length=n)(hl:n<=1000):Calls prog 46 #[.slice A n c] w fun e w'=>(∃A2 c2,e=.returned (.slice A2 n c2)/\w'.ownsRow w.heap.size 3 1 (.slice A2 n c2) n (l.flatMap Zc))/\Below w.heap.size w w':=by obtain⟨i0,hi,hz0,hz1,hz2⟩:=info_parts info3;obtain⟨A2,c2,x',hr,hb,hown⟩:=ZlR (P:=prog) (sz:=1) (cs:=Zc) (x:=w.alloc (.cells #[] 3 (0,0))) (t:=28) (ty:=28) (e:=3) (fun _=>rfl) (by decide) underlying28 hi hz0 hz1 rfl hz2 (by decide) w.heap.size w.heap.size (ZwO _) (Zz _ _ rfl) (by simp) c n hn (hat.below (ZC _ _)) (by omega);have hr':=Zvc hr;have hown':=Zvc hown;have hbw:=via (ZC _ _) hb;clear hr hown hi hz0 hz1 hz2 hat;go_enter func46,ntmps46;go_wp2_with (at_builtin;refine ZlS rfl _ _ 28 rfl rfl rfl hr'.out ?_);go_ret;exact⟨⟨A2,c2,rfl,hown'.out⟩,hbw⟩
theorem Zr6(pA eA:Option Addr)(pc ec pn en:Nat)(ps:List Pa)(es:List En)(w:World)(hB:BookAt w pA pc ps eA ec es)(hF:FewB ps es)(hpn:ps.length=pn)(hen:es.length=en)(he9:en<=900):Calls prog 10 #[.agg #[.slice pA pn pc,.slice eA en ec]] w fun e w'=>(∃A c A2 c2 es2,e=.returned (.agg #[.slice A pn c,.slice A2 en c2])/\es2.length=en/\es2.map En.sig=es.map En.sig/\w'.ownsRow w.heap.size 86 5 (.slice A pn c) pn (ps.flatMap Pa.cs)/\EnsOwn w' w.heap.size (.slice A2 en c2) es2)/\Below w.heap.size w w':=by
 obtain⟨j0,ji,jz0,jz1,jz2⟩:=info_parts Zle;obtain⟨Ap,cp,w2,hr,hb,hOp⟩:=ZlR (P:=prog) (sz:=5) (cs:=Pa.cs) (x:=((w.alloc (.cells #[.slice pA pn pc,.slice eA en ec] 25 (0,0))).alloc (.cells #[.slice none 0 0,.slice none 0 0] 25 (0,0))).alloc (.cells #[] 86 (0,0))) (t:=22) (ty:=22) (e:=86) (fun _=>rfl) (by decide) (by first|exact underlying22|kernel_rfl) ji jz0 jz1 rfl jz2 (by decide) (w.heap.size+2) (w.heap.size+2) (ZwO _) (Zz _ _ (by simp)) (by simp) pc pn hpn (hB.P.below (by go_grown)) (by have:=hF.p;omega);have hr':=Zvc hr;have M0:=Zw hb (by(repeat (first|assumption|(refine Zz _ _ ?_;(simp;done))|refine ZB ?_|refine Zy ?_ _|refine ZA ?_ (by simp<;>omega) _)):(((w.alloc (.cells #[.slice pA pn pc,.slice eA en ec] 25 (0,0))).alloc (.cells #[.slice none 0 0,.slice none 0 0] 25 (0,0))).alloc (.cells #[] 86 (0,0))).heap[w.heap.size]?=some (.cells #[.slice pA pn pc,.slice eA en ec] 25 (0,0)));have M1:=Zw hb (by(repeat (first|assumption|(refine Zz _ _ ?_;(simp;done))|refine ZB ?_|refine Zy ?_ _|refine ZA ?_ (by simp<;>omega) _)):(((w.alloc (.cells #[.slice pA pn pc,.slice eA en ec] 25 (0,0))).alloc (.cells #[.slice none 0 0,.slice none 0 0] 25 (0,0))).alloc (.cells #[] 86 (0,0))).heap[w.heap.size+1]?=some (.cells #[.slice none 0 0,.slice none 0 0] 25 (0,0)));have hbw2:Below w.heap.size w w2:=via (by go_grown) hb;have hsz2:=ZI M1;have hsz3:=hb.size;clear hr ji jz0 jz1 jz2 hb;have hec:en<=ec:=by rw[<-hen];exact hB.ec'
 have hE':=Zvc hB.E;have hnl':=Zvc hB.nil;have hen':=Zvc hen;have hco':=Zvc hF.co;obtain⟨i0,hi,hz0,hz1,hz2⟩:=info_parts Zib;have hs2:∀x,(sizeOf 25).run prog x=.ok 2 x:=fun x=>by kernel_rfl
 have ha2:∀x,(isAgg 25).run prog x=.ok true x:=fun x=>by kernel_rfl
 clear hB hF hpn hen;go_enter func10,ntmps10;have hOp:=Zvc hOp;have D0:=bk2 M0;go_wp2_with (at_builtin;refine ZlS rfl _ _ 22 rfl rfl rfl hr'.out ?_);go_loopw [4] (fun i wr=>∃j:Nat,∃v:Value,∃xs:List En,j<=en/\i=.int .i64 j/\wr.heap[w2.heap.size]?=some (.cells #[.slice Ap pn cp,v] 25 (0,0))/\Hid (xs.length=j)/\Hid (xs.map En.sig=(es.take j).map En.sig)/\Hid (EnsOwn wr (w2.heap.size+1) v xs)/\Below w2.heap.size w2 wr)(fun i _=>en-(intOf i).toNat);case atStart=>exact⟨0,.slice none 0 0,[],Zxa _,rfl,by(repeat (first|assumption|(refine Zz _ _ ?_;(simp;done))|refine ZB ?_|refine Zy ?_ _|refine ZA ?_ (by simp<;>omega) _)),Zvc rfl,Zvc rfl,Zvc (EnsOwn.nil _ _),by go_grown⟩
 case round=>
  obtain⟨j,v,xs,hj,rfl,M3,hxl,hxs,hown,hb2⟩:=hrel;have hown0:=hown.out.own;rw[hxl.out]at hown0;obtain⟨A5,c5,rfl⟩:=Zac hown0;clear hown0;have hbw:Below w.heap.size w wr:=via hbw2 hb2;have D0:=bk2 (Zw hb2 M0);have D1:=bk2 (Zw hb2 M1);have D3:=bk2 M3;have hsr:=ZI M3;by_cases hlt:j<en
  ·have hjI:(j:Int)<(en:Int):=by omega
   obtain⟨x,hx⟩:∃x,es[j]?=some x:=⟨_,ZvL (by rw[hen'.out];exact hlt)⟩;have hxm:=Zwn hx;obtain⟨b,o,rfl,hbb,hc⟩:=(hE'.out.below hbw).1 j x hx;have y0:=hc 0 _ rfl;have y1:=hc 1 _ rfl;have y2:=hc 2 _ rfl;simp only[ZwK]at y0;obtain⟨L,hL⟩:∃L,x.co.length=L:=⟨_,rfl⟩;have hCi:=Zvc fun W (hb:Below wr.heap.size wr W)=>ZlT x.A x.co x.c L W (((hE'.out.below hbw).2 x hxm).below hb) hL (by rw[<-hL];exact hco'.out x hxm);have hts:=Zvc (show (es.take (j+1)).map En.sig=(es.take j).map En.sig++[x.sig]by rw[ZwA,hx];simp);have hL':=Zvc hL;have hy1:wr.cell? ⟨b,o+j*3+1,none⟩=some (.slice x.A L x.c):=by rw[<-hL];exact y1
   clear hc hx hxm y1 hL;go_wp2_with (first
    |(go_at_call 46;refine(hCi.out _ (ZC _ _)).mono ?_;rintro e w5 ⟨⟨A6,c6,rfl,hO6⟩,hb5⟩;(have Q3:=Zw hb5 (Zy M3 (.cells #[.string x.nm,.slice x.A L x.c,.int .i64 x.mo] 88 (0,0))));(have Q5:=Zw hb5 (Zz wr (.cells #[.string x.nm,.slice x.A L x.c,.int .i64 x.mo] 88 (0,0)) rfl));(have E3:=bk2 Q3);(have E5:=bk3 Q5);(have hw65:=via (ZC wr (.cells #[.string x.nm,.slice x.A L x.c,.int .i64 x.mo] 88 (0,0))) hb5);(have hW6:Below wr.heap.size wr ((w5.setCell ⟨wr.heap.size,1,none⟩ (.slice A6 L c6))):=hw65.trans (((OnlyB.refl wr.heap.size w5).set 1 _).below _ (ZwO _)));(have hown7:=Zvc (hown.out.below (via hW6 (ZC ((w5.setCell ⟨wr.heap.size,1,none⟩ (.slice A6 L c6))) (.cells #[.string x.nm,.slice A6 L c6,.int .i64 x.mo] 88 (0,0))))));(have hO6':=Zvc hO6);clear hO6 hb5)|(at_builtin;refine Zlg rfl (.tmp 28) (.tmp 30) 23 88 i0 _ (.slice A5 j c5) 48 (w2.heap.size+1) j w5.heap.size 3 (xs.flatMap En.cs) [.string x.nm,.slice A6 L c6,.int .i64 x.mo] 88 rfl rfl rfl (by kernel_rfl) hi hz0 hz1 hz2 rfl (by decide) (by decide) rfl ?c1 ?c2 ?c3 ?c4 ?c5 ?_));case c1=>have:=hown7.out.own;rwa [hxl.out]at this
   case c2=>exact Zz _ _ (by simp)
   case c3=>simp[Value.oneCell']
   case c4=>omega
   case c5=>have:=hown7.out;have:=hW6.size;simp at this |-;omega
   intro v' w8 ho8 hg8 hl8;obtain⟨A8,c8,rfl⟩:=Zac ho8;have hs6:((w5.setCell ⟨wr.heap.size,1,none⟩ (.slice A6 L c6))).heap.size=w5.heap.size:=ZdN _ _ _;have hlo:∀g,A6=some g->wr.heap.size+1<=g.block/\g.block<w5.heap.size:=fun g e=>by have:=hO6'.out.lt g.block (by rw[e];rfl);simp only[World.size_alloc]at this;exact this
   have o7:=ZN (Zaj hO6'.out fun r e=>((OnlyB.refl wr.heap.size w5).set 1 (.slice A6 L c6)).other r (by have:=(hO6'.out.lt r e).1;simp at this;omega)) (ZC ((w5.setCell ⟨wr.heap.size,1,none⟩ (.slice A6 L c6))) (.cells #[.string x.nm,.slice A6 L c6,.int .i64 x.mo] 88 (0,0)));have o5:=hown7.out.own;rw[hxl.out]at o5;have hlt5:=fun r e=>(hown.out.own.lt r e).2;have hE8:EnsOwn w8 (w2.heap.size+1) (.slice A8 (j+1) c8) (xs++[⟨x.nm,A6,c6,x.co,x.mo⟩]):=by
    refine EnsOwn.push hown7.out (x:=⟨x.nm,A6,c6,x.co,x.mo⟩) (Zcq o7 hL'.out) (ZdM o7) (fun g e=>?_) hg8 ?_ ?_
    ·have h1:=hlo g e;refine⟨by omega,?_,fun h=>?_⟩;·simp;omega
     ·have:=hlt5 _ h.symm;omega
    ·have:=ho8;simp only[hxl.out,En.cs,hL'.out];exact this
    ·rcases hl8 with h|h;·exact .inl h
     ·exact .inr (by rw[h];simp)
   have R3:=Zal hg8 (Zy (Zff (i:=1) (u:=.slice A6 L c6) Q3 (show w2.heap.size≠wr.heap.size by omega)) (.cells #[.string x.nm,.slice A6 L c6,.int .i64 x.mo] 88 (0,0))) (Zak o5 (Nat.lt_succ_self _));have hbw8:Below w2.heap.size w2 w8:=ZW ((hb2.trans (hW6.mono (by omega))).trans ((ZC ((w5.setCell ⟨wr.heap.size,1,none⟩ (.slice A6 L c6))) (.cells #[.string x.nm,.slice A6 L c6,.int .i64 x.mo] 88 (0,0))).mono (by omega))) hg8 fun b e=>by have:=(o5.lt b e).1;omega
   have hE8':=Zvc hE8;clear hE8 o7 o5 hlt5 hlo hs6 ho8 hg8 hl8 hown7 hO6' hW6 hw65;have F8:=bk2 R3;obtain⟨hx1,hx2⟩:Hid ((xs++[(⟨x.nm,A6,c6,x.co,x.mo⟩:En)]).length=j+1)/\Hid ((xs++[(⟨x.nm,A6,c6,x.co,x.mo⟩:En)]).map En.sig=(es.take (j+1)).map En.sig):=⟨Zvc (by simp[hxl.out]),Zvc (by rw[hts.out,Zv9,hxs.out];rfl)⟩;go_wp2;go_roundw;case rel=>exact⟨j+1,_,_,by omega,by go_num,ZH (o:=1) R3 (.slice A8 (j+1) c8) rfl,hx1,hx2,Zvc (hE8'.out.other (Nat.lt_succ_self _) ((OnlyB.refl _ _).set _ _) (by simp)),hbw8.trans (((OnlyB.refl w2.heap.size w8).set 1 _).below _ (ZwO _))⟩
   case measure=>simp[intOf]<;>omega
  ·obtain rfl:en=j:=by omega
   have hts:xs.map En.sig=es.map En.sig:=by rw[hxs.out,<-hen'.out,ZwB]
   have hts':=Zvc hts;have ho9:=Zvc (ZN hOp.out hb2);clear hts;go_wp2;refine bodyPost_ret (v:=.agg #[.slice Ap pn cp,.slice A5 en c5]) ?_ rfl ⟨⟨Ap,cp,A5,c5,xs,rfl,hxl.out,hts'.out,?_,?_⟩,?_⟩;·exact Zc7 (p:=2) (ad:=⟨w.heap.size+1,0,none⟩) rfl (by rfl) (Z5 (T:=25) (cs:=[.slice Ap pn cp,.slice A5 en c5]) (ha2 _) (hs2 _) (ZH (ZH (Zw hb2 M1) _ rfl) _ rfl))
   ·exact ZaS (Zaj ho9.out fun r e=>(((OnlyB.refl (w.heap.size+1) wr).set _ _).set _ _).other r (by have:=(ho9.out.lt r e).1;omega)) (by omega)
   ·exact(hown.out.other (k:=w.heap.size+1) (by omega) (((OnlyB.refl _ _).set _ _).set _ _) (by simp)).base (by omega)
   ·go_grown
end Go.Proofs
namespace Go.Proofs
open Go.RowKit
section
variable {P:Program}
theorem Zr7 {Q : Exit -> Act -> World -> Prop} {a0 : Act} {w : World} {l : List Oper} (n : Nat) (oz : Oper) (hn : l.length = n + 1) (hz : l[n]? = some oz)
    (hB : Zam (l.take n).toArray = true) (hG : l.all (fun o => o.guard.isNone) = true) (hA : (List.range n).all (fun i => (Zfc l l.length (ZdK oz)).contains i) = true) (hE : oz.after.all (fun e => !Region.binds .any e || decide (e.on < n)) = true)
    (h : wpAny P .any (l.take n).toArray (fun e a x => match e with | .normal => oz.wp P a x (fun a' x' => Q .normal a' x') Q | e => Q e a x) (l.take n).toArray.size (Array.replicate (l.take n).toArray.size false) a0 { w with drawn := w.drawn + 1 }) :
    wpAny P .any l.toArray Q l.toArray.size (Array.replicate l.toArray.size false) a0 { w with drawn := w.drawn + 1 } := by
  have H := ZdD hB
  have hlen : (l.take n).length = n := by simp; omega
  have hgn : ∀ (i : Nat) (o : Oper), l[i]? = some o -> o.guard = none := fun i o ho => by
    have := Zve.1 hG o (Zwn ho)
    simpa using this
  have get0 : ∀ i, i < n -> (l.take n).toArray[i]? = l.toArray[i]? := fun i hi => by simp [ZvV hi]
  have getn : ∀ i, n <= i -> (l.take n).toArray[i]? = none := fun i hi => by simp [ZvM (show (l.take n).length <= i by omega)]
  have pushD : ∀ (listed : Array Bool) (b d : Bool) (i : Nat), listed.size = n -> i < n -> (listed.push b).getD i d = listed.getD i d := fun listed b d i hs hi => by
    rw [Zuj, Zuj, Zut (by omega)]
    simp [Zum (show i < listed.size by omega)]
  have pushL : ∀ (listed : Array Bool) (b d : Bool), listed.size = n -> (listed.push b).getD n d = b := fun listed b d hs => by
    rw [Zuj, <- hs]
    simp
  have rdy : ∀ (listed : Array Bool) (b : Bool) (i : Nat), listed.size = n -> i < n -> (i ∈ Region.ready .any l.toArray (listed.push b) ↔ i ∈ Region.ready .any (l.take n).toArray listed) := fun listed b i hs hi => by
    rw [mem_ready, mem_ready, pushD _ _ _ _ hs hi, get0 i hi]
    constructor
    · rintro ⟨h1, o, ho, h2⟩
      refine ⟨h1, o, ho, fun e he hb => ?_⟩
      have := H.after i o e ((get0 i hi).trans ho) he hb
      rw [<- pushD listed b false e.on hs (by omega)]
      exact h2 e he hb
    · rintro ⟨h1, o, ho, h2⟩
      refine ⟨h1, o, ho, fun e he hb => ?_⟩
      have := H.after i o e ((get0 i hi).trans ho) he hb
      rw [pushD listed b false e.on hs (by omega)]
      exact h2 e he hb
  have gen : ∀ (f : Nat) (listed : Array Bool) (a : Act) (x : World), listed.size = n -> (∀ (i : Nat) (o : Oper), (l.take n).toArray[i]? = some o -> listed.getD i false = true -> ∀ e ∈ o.after, Region.binds .any e = true -> listed.getD e.on false = true) -> wpAny P .any (l.take n).toArray (fun e a x => match e with | .normal => oz.wp P a x (fun a' x' => Q .normal a' x') Q | e => Q e a x) f listed a x -> wpAny P .any l.toArray Q (f + 1) (listed.push false) a x := by
    have fin : ∀ (f : Nat) (listed : Array Bool) (a : Act) (x : World), listed.size = n -> (∀ i, i < n -> listed.getD i true = true) -> oz.wp P a x (fun a' x' => Q .normal a' x') Q -> wpAny P .any l.toArray Q (f + 1) (listed.push false) a x := by
      intro f listed a x hs hu hw
      have hrn : n ∈ Region.ready .any l.toArray (listed.push false) := by
        rw [mem_ready]
        refine ⟨pushL _ _ _ hs, oz, by simpa using hz, fun e he hb => ?_⟩
        have h1 := Zua.1 hE e he
        rw [hb] at h1
        simp only [ZuU, ZuR, decide_eq_true_eq] at h1
        rw [pushD _ _ _ _ hs h1]
        have := hu e.on h1
        rw [Zuj, Zum (by omega)] at this |-
        exact this
      refine ⟨fun h0 => (by rw [h0] at hrn; cases hrn), fun i hi => ?_⟩
      have hin : i = n := by
        obtain ⟨h1, o, ho, -⟩ := mem_ready.1 hi
        have hlt : i < l.length := by simpa using Zan ho
        rcases ZwT i n with h | h
        · rw [pushD _ _ _ _ hs h, hu i h] at h1
          cases h1
        · omega
      subst hin
      have hset : (listed.push false).setIfInBounds i true = listed.push true := by
        apply Zug
        intro j
        rw [Zuv, Zus, Zus]
        simp only [ZuG, hs]
        by_cases h : i = j
        · subst h; simp [hs]
        · simp [h, hs, Ne.symm h]
      have hlast : wpAny P .any l.toArray Q f (listed.push true) = fun a' x' => wpAny P .any l.toArray Q f (listed.push true) a' x' := rfl
      have hr0 : Region.ready .any l.toArray (listed.push true) = [] := by
        rw [Zvv]
        intro j hj
        obtain ⟨h1, o, ho, -⟩ := mem_ready.1 hj
        have hlt : j < l.length := by simpa using Zan ho
        rcases ZwT j i with h | h
        · rw [pushD _ _ _ _ hs h, hu j h] at h1
          cases h1
        · have : j = i := by omega
          subst this
          rw [pushL _ _ _ hs] at h1
          cases h1
      have hK : ∀ a' x', Q .normal a' x' -> wpAny P .any l.toArray Q f (listed.push true) a' x' := fun a' x' h => by
        cases f with
        | zero => exact ⟨hr0, h⟩
        | succ f => exact ⟨fun _ => h, fun j hj => by rw [hr0] at hj; cases hj⟩
      unfold wpOp
      have hzi : l.toArray[i]? = some oz := by simpa using hz
      simp only [hzi]
      have hwn : Region.wanted oz (yielded l.toArray a.tmps) = true := by unfold Region.wanted; rw [hgn i oz hz]
      rw [if_pos hwn, hset]
      exact .inl (Oper.wp_mono hK hw)
    intro f
    induction f with
    | zero =>
      rintro listed a x hs hcl ⟨hr, hq⟩
      exact fin 0 listed a x hs (fun i hi => Zc5 H (by simp [hs]; omega) hr i (by simp; omega)) hq
    | succ f ih =>
      rintro listed a x hs hcl ⟨hr, hq⟩
      by_cases hr0 : Region.ready .any (l.take n).toArray listed = []
      · exact fin (f + 1) listed a x hs (fun i hi => Zc5 H (by simp [hs]; omega) hr0 i (by simp; omega)) (hr hr0)
      · have hnn : ∀ i, i ∈ Region.ready .any l.toArray (listed.push false) -> i < n := by
          intro i hi
          obtain ⟨h1, o, ho, h2⟩ := mem_ready.1 hi
          have hlt : i < l.length := by simpa using Zan ho
          rcases ZwT i n with h | h
          · exact h
          · have hin : i = n := by omega
            subst hin
            exfalso
            obtain ⟨j, hj⟩ := Zvy _ hr0
            obtain ⟨h3, o3, ho3, -⟩ := mem_ready.1 hj
            have hji : j < i := by
              rcases ZwT j i with h | h
              · exact h
              · rw [getn j h] at ho3; cases ho3
            have hzo : o = oz := by
              rw [show l.toArray[i]? = l[i]? by simp, hz] at ho
              exact (Zxh ho).symm
            subst hzo
            have h4 := Zve.1 hA j (Zwo.2 hji)
            have h5 := Zf7 (l := l) (L := fun i => (listed.push false).getD i false) (fun k ok hk hLk e he hb => by
              have hkn : k < i := by
                rcases ZwT k i with h | h
                · exact h
                · exfalso
                  rw [Zuj] at hLk
                  rcases ZwT i k with h' | h'
                  · rw [Zun (by simp; omega)] at hLk
                    cases hLk
                  · have hkk : k = i := by omega
                    rw [hkk, <- hs] at hLk
                    simp at hLk
              have hk' : (l.take i).toArray[k]? = some ok := by simp [ZvV hkn, hk]
              rw [pushD _ _ _ _ hs hkn] at hLk
              have h7 := hcl k ok hk' hLk e he hb
              have h8 := H.after k ok e hk' he hb
              rw [pushD _ _ _ _ hs (by omega)]
              exact h7) l.length (S := ZdK o) (Zf6 fun e he hb => h2 e he hb) j (by simpa using h4)
            rw [pushD _ _ _ _ hs hji] at h5
            rw [Zuj, Zum (by omega)] at h3 h5
            simp only [Zxd] at h3 h5
            rw [h3] at h5
            cases h5
        refine ⟨fun h0 => ?_, fun i hi => ?_⟩
        · exfalso
          obtain ⟨j, hj⟩ := Zvy _ hr0
          have hji : j < n := by
            obtain ⟨h3, o3, ho3, -⟩ := mem_ready.1 hj
            rcases ZwT j n with h | h
            · exact h
            · rw [getn j h] at ho3; cases ho3
          have := (rdy listed false j hs hji).2 hj
          rw [h0] at this
          cases this
        · have hin := hnn i hi
          have hi0 := (rdy listed false i hs hin).1 hi
          have h6 := hq i hi0
          obtain ⟨-, o, ho, -⟩ := mem_ready.1 hi0
          have hol : l.toArray[i]? = some o := (get0 i hin).symm.trans ho
          have hg := hgn i o (by simpa using hol)
          unfold wpOp at h6 |-
          simp only [ho] at h6
          simp only [hol]
          have hw1 : ∀ y, Region.wanted o y = true := fun y => by unfold Region.wanted; rw [hg]
          rw [if_pos (hw1 _)] at h6
          rw [if_pos (hw1 _)]
          have hcl2 : ∀ (k : Nat) (ok : Oper), (l.take n).toArray[k]? = some ok -> (listed.setIfInBounds i true).getD k false = true -> ∀ e ∈ ok.after, Region.binds .any e = true -> (listed.setIfInBounds i true).getD e.on false = true := by
            intro k ok hk hLk e he hb
            have hup : ∀ q, listed.getD q false = true -> (listed.setIfInBounds i true).getD q false = true := fun q hq => by
              rw [Zuj, Zuv]
              split
              · rename_i hiq
                subst hiq
                have hil : i < listed.size := by omega
                simp [hil]
              · rwa [Zuj] at hq
            by_cases hki : k = i
            · subst hki
              obtain ⟨-, o3, ho3, ha3⟩ := mem_ready.1 hi0
              rw [hk] at ho3
              cases ho3
              exact hup _ (ha3 e he hb)
            · refine hup _ (hcl k ok hk ?_ e he hb)
              rw [Zuj, Zuv, if_neg (Ne.symm hki)] at hLk
              rw [Zuj]
              exact hLk
          have hset : (listed.push false).setIfInBounds i true = (listed.setIfInBounds i true).push false := by
            apply Zug
            intro j
            rw [Zuv, Zus, Zus, Zuv]
            simp only [ZuG, ZuH, hs]
            by_cases h : i = j
            · subst h; simp [hs, hin, Nat.lt_succ_of_lt hin, Nat.ne_of_lt hin]
            · simp [h]
          rw [hset]
          have hmono : ∀ a' x', wpAny P .any (l.take n).toArray (fun e a x => match e with | .normal => oz.wp P a x (fun a' x' => Q .normal a' x') Q | e => Q e a x) f (listed.setIfInBounds i true) a' x' -> wpAny P .any l.toArray Q (f + 1) ((listed.setIfInBounds i true).push false) a' x' := fun a' x' h => ih _ a' x' (by simp [hs]) hcl2 h
          rcases h6 with h6 | ⟨h6, h7⟩
          · left
            refine Oper.wp_mono hmono ?_
            unfold Oper.wp at h6 |-
            generalize (execOp a.eval o).run P x = r at *
            cases r with
            | ok nx w' =>
              cases nx with
              | enter f' args => exact (show Calls P f' args w' _ from h6).mono fun e w'' he => by cases e <;> exact he
              | _ => exact h6
            | halt v w' => cases v <;> exact h6
          · right
            exact ⟨h6, h7⟩
  have hpr : (Array.replicate (l.take n).toArray.size false).push false = Array.replicate l.toArray.size false := by
    rw [<- ZuF]
    congr 1
    simp
    omega
  have := gen _ _ _ _ (by simp; omega) (fun k ok hk hLk e he hb => by rw [Zuj, Array.getElem?_replicate] at hLk; split at hLk <;> cases hLk) h
  rw [hpr] at this
  have e : (l.take n).toArray.size + 1 = l.toArray.size := by simp; omega
  rwa [e] at this
end
section
variable {P:Program}
def Zdf(w0 w:World)(b4:Nat)(x:World):Prop:=Below w0.heap.size w0 x/\w.heap.size<=x.heap.size/\∀k,k<w.heap.size->k≠b4->x.heap[k]?=w.heap[k]?
theorem Zr8{Q:Exit->Act->World->Prop} {a0:Act} {w:World} {l:List Oper} (w0:World)(p:Nat)(b4:Nat)(y4 z4:Obj)(af:Act)(hB:Zam l.toArray=true) (hB':Zam (mixL [p] (fun _ _=>undef) (fun _=>Gh.zero) 0 l).toArray=true) (hS:Region.noSelect l.toArray=true) (hN:spB l.toArray [p]=true)(hkd:(match l[p]? with|some o=>o.dst.isNone|_=>false)=true)(hw:Below w0.heap.size w0 w)(hb:w0.heap.size<=b4)(h4:w.heap[b4]?=some y4)(hs4:∀o,l[p]?=some o->∀x,Zdf w0 w b4 x->x.heap[b4]?=some y4->∃x',(execOp af.eval o).run P x=.ok .skip x'/\OnlyB b4 x x'/\x'.heap[b4]?=some z4)(hq:∀u,Zdf w0 w b4 u->(∀(x:Grew u)(b o:Nat),b<u.heap.size->x.val.cell? ⟨b,o,none⟩=u.cell? ⟨b,o,none⟩)->wpQuiet P (mixL [p] (fun _ _=>undef) (fun _=>Gh.zero) 0 l).toArray (fun w'=>∃x:Grew u,w'=x.val) (fun a'=>a'=af) (mixL [p] (fun _ _=>undef) (fun _=>Gh.zero) 0 l) a0)(hend:∀x,Zdf w0 w b4 x->x.heap[b4]?=some z4->Q .normal af x):wpAny P .any l.toArray Q l.toArray.size (Array.replicate l.toArray.size false) a0 {w with drawn:=w.drawn+1}:=by
 have hdst:∀j∈[p],∀o,l[j]?=some o->o.dst=none:=by cases h1:l[p]? with
  |none=>rw[h1]at hkd;simp at hkd|some o1=>rw[h1]at hkd;simp only[Option.isNone_iff_eq_none]at hkd;intro j hj o ho;rw[Zwp]at hj;subst hj;rw[h1]at ho;cases ho;exact hkd
 have hkb:∀{x x':World},Zdf w0 w b4 x->OnlyB b4 x x'->Zdf w0 w b4 x':=fun {x x'} h ho=>⟨h.1.trans (ho.below _ hb),ZwP h.2.1 (ho.below 0 (Zxa _)).size,fun k hk k1=>(ho.other k k1).trans (h.2.2 k hk k1)⟩;have hkB:∀{x x':World},Zdf w0 w b4 x->Below x.heap.size x x'->Zdf w0 w b4 x':=fun {x x'} h hbx=>⟨via h.1 hbx,ZwP h.2.1 hbx.size,fun k hk k1=>(hbx.block k (ZwS hk h.2.1)).trans (h.2.2 k hk k1)⟩;have hmx:∀g g',mixL [p] (fun _ _=>undef) g 0 l=mixL [p] (fun _ _=>undef) g' 0 l:=fun g g'=>by apply Zvz;intro j;have k1:=ZdF [p] (fun _ _=>undef) g l 0 j;have k2:=ZdF [p] (fun _ _=>undef) g' l 0 j;rw[k1,k2]
 refine Zc9 w0 (Zdf w0 w b4) [p] (fun _ _=>undef) (fun L g x=>x.heap[b4]?=some (if L p then z4 else y4)) (fun _=>af) hB (fun g=>by rw[hmx g (fun _=>Gh.zero)];exact hB') hS hN
  ⟨hw,ZwO _,fun _ _ _=>rfl⟩ (fun x x' h hb=>hkB h hb) (fun x h=>h.1) ?_ ?_ (fun g u hu hgc _ _=>by rw[hmx g (fun _=>Gh.zero)];exact hq u hu hgc) (fun _ _ _ _=>rfl) ?_ ?_;·intro L h;rw[h p (by simp)];exact h4
 ·rintro L L' g x x' h k1 hbx;rw[h p (by simp)];exact Zw hbx k1
 ·intro j hj o ho L g x k1 hC hB0 hL hafter hclo;have hd:=hdst j hj o ho;rw[Zwp]at hj;subst hj;rw[hL]at k1;obtain⟨x',r1,r2,r3⟩:=hs4 o ho x hC k1;refine ZcC r1 ⟨hkb hC r2,.inl ⟨hd,?_⟩⟩;rw[Za0];exact r3
 ·rintro g x k1 hC hB0;simp only[if_true]at k1;exact hend x hC k1
end
variable {nm:List UInt8} {k ag v den lev:Int} {W:List Int}
def Zgn:List UInt8:=[109,101,97,110]
def Zgo:List UInt8:=[115,104,97,114,101]
def ZbM(nm:List UInt8)(k ag v den lev:Int)(W:List Int):List (List UInt8):=nm::((if k=1 then [Zgo,Lib.itoa ag]else [Zgn])++(Lib.itoa v::Lib.itoa den::Lib.itoa lev::W.map Lib.itoa))
structure NumsR (ag v den lev:Int)(W:List Int):Prop where
 ag:0<=ag/\ag<=400
 v:0<=v/\v<=1000
 den:1<=den/\den<=1000000000000
 lev:lev.natAbs<=1000000000000
 wt:∀x∈W,0<=x/\x<=1000000000000
 n:W.length<=8
theorem Zfo(n:Int)(h:n.natAbs<=1000000000000):(Lib.itoa n).length<=14:=(Zis 12 n (by omega)).1
theorem ZlU(hn:nm.length<=20)(hR:NumsR ag v den lev W):(ZbM nm k ag v den lev W).length<=14/\5<=(ZbM nm k ag v den lev W).length/\∀x∈ZbM nm k ag v den lev W,x.length<=20:=by
 have hW8:=hR.n;unfold ZbM;refine⟨?_,?_,fun x hx=>?_⟩;·split<;>simp<;>omega
 ·split<;>simp
 ·rcases Zwi.1 hx with rfl|hx;·exact hn
  rcases Zwf.1 hx with hx|hx
  ·split at hx
   ·simp only[Zwi,Zwt,or_false]at hx;rcases hx with rfl|rfl;·decide
    ·have:=Zfo ag (by have:=hR.ag;omega);omega
   ·simp only[Zwi,Zwt,or_false]at hx;subst hx;decide
  ·simp only[Zwi,Zwm]at hx;rcases hx with rfl|rfl|rfl|⟨y,hy,rfl⟩;·have:=Zfo v (by have:=hR.v;omega);omega
   ·have:=Zfo den (by have:=hR.den;omega);omega
   ·have:=Zfo lev hR.lev;omega
   ·have:=Zfo y (by have:=hR.wt y hy;omega);omega
theorem Zr9(hn:nm.length<=20)(hR:NumsR ag v den lev W):(Lib.join (ZbM nm k ag v den lev W) [32]).length<=1000:=by obtain⟨h1,-,h2⟩:=ZlU (k:=k) hn hR;have:=ZlP 20 _ h2;omega
structure EnTy (w:World)(base:Nat)(v:Value)(xs:List En):Prop where
 own:w.ownsRow base 88 3 v xs.length (xs.flatMap En.cs)
 row:∀x∈xs,At 1 Zc w x.A x.co/\(x.A=none->x.c=0)/\∀g,x.A=some g->∃cur fr,w.heap[g.block]?=some (.cells cur 3 fr)
end Go.Proofs
namespace Go.Proofs
open Tryz
open Go.RowKit
def Zce(ps:List Pa)(es:List En)(k ag den lev:Int)(W:List Int):Int:=if Zab ps es k ag≠0 then Zab ps es k ag else if Zbs es.length den lev W≠0 then Zbs es.length den lev W else if Zbg (ZG ps k ag) es den lev W then 0 else 20
def Zb5(ps:List Pa)(es:List En)(k ag den lev:Int)(W:List Int):Int×Int:=if Zce ps es k ag den lev W=0 then ((lev-spentL (exs es) W) / ZS (lev-spentL (exs es) W) den,den / ZS (lev-spentL (exs es) W) den)else (0,0)
theorem Zsa(pA eA A:Option Addr)(pc ec pn en c wn:Nat)(ps:List Pa)(es:List En)(k ag den lev:Int)(W:List Int)(w:World)(hB:BookAt w pA pc ps eA ec es)(hF:FewB ps es)(hpn:ps.length=pn)(hen:es.length=en)(hW:At 1 Zc w A W)(hwn:W.length=wn)(hl:wn<=1000000):Calls prog 17 #[.agg #[.slice pA pn pc,.slice eA en ec],.agg #[.int .i64 k,.int .i64 ag],.agg #[.int .i64 den,.int .i64 lev,.slice A wn c]] w fun e w'=>e=.returned (.tuple #[.agg #[.int .i64 (Zb5 ps es k ag den lev W).1,.int .i64 (Zb5 ps es k ag den lev W).2],.int .i64 (Zce ps es k ag den lev W)])/\Below w.heap.size w w':=by
 have hBo:=Zvc fun W (hb:Below w.heap.size w W)=>ZhP pA eA pc ec pn en ps es k ag W (hB.below hb) hF hpn hen;have hWe:=Zvc fun x (hb:Below w.heap.size w x)=>by have h:=Zk9 pA eA A pc ec pn en c den lev W x (hW.below hb) (by omega) (by rw[<-hen];exact hF.e);rw[hwn]at h;exact h
 have hs2:∀x,(sizeOf 46).run prog x=.ok 2 x:=fun x=>by kernel_rfl
 have ha2:∀x,(isAgg 46).run prog x=.ok true x:=fun x=>by kernel_rfl
 by_cases h1:Zab ps es k ag=0;case neg=>
  have e1:Zce ps es k ag den lev W=Zab ps es k ag:=by unfold Zce;rw[if_pos h1]
  have e2:Zb5 ps es k ag den lev W=(0,0):=by unfold Zb5;rw[e1,if_neg h1]
  rw[e1,e2];obtain⟨E1,hE1⟩:∃x,Zab ps es k ag=x:=⟨_,rfl⟩;rw[hE1]at h1 hBo |-;clear hB hF hpn hen hW hwn e1 e2 hE1 hWe;have h1':decide (E1=0)=false:=by simpa using h1
  go_enter func17,ntmps17;go_wp2_with (first|(go_at_call 52;refine(hBo.out _ (by go_grown)).mono ?_;rintro e w2 ⟨rfl,hb2⟩;(have N0:=Zw hb2 (show (((((w.alloc (.cells #[.slice pA pn pc,.slice eA en ec] 25 (0,0))).alloc (.cells #[.int .i64 k,.int .i64 ag] 27 (0,0))).alloc (.cells #[.int .i64 den,.int .i64 lev,.slice A wn c] 30 (0,0))).alloc (.cells #[.int .i64 0,.int .i64 0] 46 (0,0)))).heap[w.heap.size]?=some (.cells #[.slice pA pn pc,.slice eA en ec] 25 (0,0))from by(repeat (first|assumption|(refine Zz _ _ ?_;(simp;done))|refine ZB ?_|refine Zy ?_ _|refine ZA ?_ (by simp<;>omega) _))));(have N1:=Zw hb2 (show (((((w.alloc (.cells #[.slice pA pn pc,.slice eA en ec] 25 (0,0))).alloc (.cells #[.int .i64 k,.int .i64 ag] 27 (0,0))).alloc (.cells #[.int .i64 den,.int .i64 lev,.slice A wn c] 30 (0,0))).alloc (.cells #[.int .i64 0,.int .i64 0] 46 (0,0)))).heap[w.heap.size+1]?=some (.cells #[.int .i64 k,.int .i64 ag] 27 (0,0))from by(repeat (first|assumption|(refine Zz _ _ ?_;(simp;done))|refine ZB ?_|refine Zy ?_ _|refine ZA ?_ (by simp<;>omega) _))));(have N2:=Zw hb2 (show (((((w.alloc (.cells #[.slice pA pn pc,.slice eA en ec] 25 (0,0))).alloc (.cells #[.int .i64 k,.int .i64 ag] 27 (0,0))).alloc (.cells #[.int .i64 den,.int .i64 lev,.slice A wn c] 30 (0,0))).alloc (.cells #[.int .i64 0,.int .i64 0] 46 (0,0)))).heap[w.heap.size+1+1]?=some (.cells #[.int .i64 den,.int .i64 lev,.slice A wn c] 30 (0,0))from by(repeat (first|assumption|(refine Zz _ _ ?_;(simp;done))|refine ZB ?_|refine Zy ?_ _|refine ZA ?_ (by simp<;>omega) _))));(have N3:=Zw hb2 (show (((((w.alloc (.cells #[.slice pA pn pc,.slice eA en ec] 25 (0,0))).alloc (.cells #[.int .i64 k,.int .i64 ag] 27 (0,0))).alloc (.cells #[.int .i64 den,.int .i64 lev,.slice A wn c] 30 (0,0))).alloc (.cells #[.int .i64 0,.int .i64 0] 46 (0,0)))).heap[w.heap.size+1+1+1]?=some (.cells #[.int .i64 0,.int .i64 0] 46 (0,0))from by(repeat (first|assumption|(refine Zz _ _ ?_;(simp;done))|refine ZB ?_|refine Zy ?_ _|refine ZA ?_ (by simp<;>omega) _))));(have hbw2:=via (by go_grown:Below w.heap.size w (((((w.alloc (.cells #[.slice pA pn pc,.slice eA en ec] 25 (0,0))).alloc (.cells #[.int .i64 k,.int .i64 ag] 27 (0,0))).alloc (.cells #[.int .i64 den,.int .i64 lev,.slice A wn c] 30 (0,0))).alloc (.cells #[.int .i64 0,.int .i64 0] 46 (0,0))))) hb2);clear hb2;(have C0:=bk2 N0);(have C1:=bk2 N1);(have C2:=bk3 N2))|(refine ZaV (by with_reducible rfl) (.tmp 6) (.tmp 21) 46 (by with_reducible rfl) (w.heap.size+1+1+1) [.int .i64 0,.int .i64 0] [.int .i64 0,.int .i64 0] 46 rfl rfl (hs2 _) N3 rfl (by decide) ?_;intro w5 hblk5 hg5 hsz5;(have hbw5:Below w.heap.size w w5:=ZW hbw2 hg5 fun b e=>(by have:=Zxh e;omega));clear hg5));refine bodyPost_ret (v:=.tuple #[.agg #[.int .i64 0,.int .i64 0],.int .i64 E1]) ?_ rfl ⟨rfl,hbw5⟩;exact Zat (p:=6) (u:=7) (ad:=⟨w.heap.size+1+1+1,0,none⟩) (v:=.agg #[.int .i64 0,.int .i64 0]) rfl (by rfl) (Z5 (T:=46) (cs:=[.int .i64 0,.int .i64 0]) (ha2 _) (hs2 _) hblk5)
 case pos=>
  have h2:=h1;unfold Zab at h2;have hR:BookR ps es:=ZbJ.1 (Zbr.1 h2 _ (by simp));clear h2;rw[h1]at hBo;by_cases h3:Zbs en den lev W=0;case neg=>
   have e1:Zce ps es k ag den lev W=Zbs en den lev W:=by unfold Zce;rw[if_neg (by simp[h1]),hen,if_pos h3]
   have e2:Zb5 ps es k ag den lev W=(0,0):=by unfold Zb5;rw[e1,if_neg h3]
   rw[e1,e2];obtain⟨E1,hE1⟩:∃x,Zbs en den lev W=x:=⟨_,rfl⟩;rw[hE1]at h3 hWe |-;clear hB hF hpn hen hW hwn e1 e2 hE1 hR h1;have h1':decide (E1=0)=false:=by simpa using h3
   go_enter func17,ntmps17;go_wp2_with (first|(go_at_call 52;refine(hBo.out _ (by go_grown)).mono ?_;rintro e w2 ⟨rfl,hb2⟩;(have N0:=Zw hb2 (show (((((w.alloc (.cells #[.slice pA pn pc,.slice eA en ec] 25 (0,0))).alloc (.cells #[.int .i64 k,.int .i64 ag] 27 (0,0))).alloc (.cells #[.int .i64 den,.int .i64 lev,.slice A wn c] 30 (0,0))).alloc (.cells #[.int .i64 0,.int .i64 0] 46 (0,0)))).heap[w.heap.size]?=some (.cells #[.slice pA pn pc,.slice eA en ec] 25 (0,0))from by(repeat (first|assumption|(refine Zz _ _ ?_;(simp;done))|refine ZB ?_|refine Zy ?_ _|refine ZA ?_ (by simp<;>omega) _))));(have N1:=Zw hb2 (show (((((w.alloc (.cells #[.slice pA pn pc,.slice eA en ec] 25 (0,0))).alloc (.cells #[.int .i64 k,.int .i64 ag] 27 (0,0))).alloc (.cells #[.int .i64 den,.int .i64 lev,.slice A wn c] 30 (0,0))).alloc (.cells #[.int .i64 0,.int .i64 0] 46 (0,0)))).heap[w.heap.size+1]?=some (.cells #[.int .i64 k,.int .i64 ag] 27 (0,0))from by(repeat (first|assumption|(refine Zz _ _ ?_;(simp;done))|refine ZB ?_|refine Zy ?_ _|refine ZA ?_ (by simp<;>omega) _))));(have N2:=Zw hb2 (show (((((w.alloc (.cells #[.slice pA pn pc,.slice eA en ec] 25 (0,0))).alloc (.cells #[.int .i64 k,.int .i64 ag] 27 (0,0))).alloc (.cells #[.int .i64 den,.int .i64 lev,.slice A wn c] 30 (0,0))).alloc (.cells #[.int .i64 0,.int .i64 0] 46 (0,0)))).heap[w.heap.size+1+1]?=some (.cells #[.int .i64 den,.int .i64 lev,.slice A wn c] 30 (0,0))from by(repeat (first|assumption|(refine Zz _ _ ?_;(simp;done))|refine ZB ?_|refine Zy ?_ _|refine ZA ?_ (by simp<;>omega) _))));(have N3:=Zw hb2 (show (((((w.alloc (.cells #[.slice pA pn pc,.slice eA en ec] 25 (0,0))).alloc (.cells #[.int .i64 k,.int .i64 ag] 27 (0,0))).alloc (.cells #[.int .i64 den,.int .i64 lev,.slice A wn c] 30 (0,0))).alloc (.cells #[.int .i64 0,.int .i64 0] 46 (0,0)))).heap[w.heap.size+1+1+1]?=some (.cells #[.int .i64 0,.int .i64 0] 46 (0,0))from by(repeat (first|assumption|(refine Zz _ _ ?_;(simp;done))|refine ZB ?_|refine Zy ?_ _|refine ZA ?_ (by simp<;>omega) _))));(have hbw2:=via (by go_grown:Below w.heap.size w (((((w.alloc (.cells #[.slice pA pn pc,.slice eA en ec] 25 (0,0))).alloc (.cells #[.int .i64 k,.int .i64 ag] 27 (0,0))).alloc (.cells #[.int .i64 den,.int .i64 lev,.slice A wn c] 30 (0,0))).alloc (.cells #[.int .i64 0,.int .i64 0] 46 (0,0))))) hb2);clear hb2;(have C0:=bk2 N0);(have C1:=bk2 N1);(have C2:=bk3 N2))|(go_at_call 43;refine(hWe.out _ hbw2).mono ?_;rintro e w3 ⟨rfl,hb3⟩;(have M0:=Zw hb3 N0);(have M1:=Zw hb3 N1);(have M2:=Zw hb3 N2);(have M3:=Zw hb3 N3);(have hbw3:=via hbw2 hb3);clear hb3 C0 C1 C2 N0 N1 N2;(have D0:=bk2 M0);(have D1:=bk2 M1);(have D2:=bk3 M2))|(refine ZaV (by with_reducible rfl) (.tmp 6) (.tmp 21) 46 (by with_reducible rfl) (w.heap.size+1+1+1) [.int .i64 0,.int .i64 0] [.int .i64 0,.int .i64 0] 46 rfl rfl (hs2 _) M3 rfl (by decide) ?_;intro w5 hblk5 hg5 hsz5;(have hbw5:Below w.heap.size w w5:=ZW hbw3 hg5 fun b e=>(by have:=Zxh e;omega));clear hg5));refine bodyPost_ret (v:=.tuple #[.agg #[.int .i64 0,.int .i64 0],.int .i64 E1]) ?_ rfl ⟨rfl,hbw5⟩;exact Zat (p:=6) (u:=7) (ad:=⟨w.heap.size+1+1+1,0,none⟩) (v:=.agg #[.int .i64 0,.int .i64 0]) rfl (by rfl) (Z5 (T:=46) (cs:=[.int .i64 0,.int .i64 0]) (ha2 _) (hs2 _) hblk5)
  case pos=>
   have hwr:=Zga.1 h3;rw[h3]at hWe;have sW:Small 1000000000000 W:=fun x hx=>by have:=hwr.w x hx;omega
   have hBd:=Zvc (show ∀x,Below w.heap.size w x->Calls prog 44 #[.agg #[.slice pA pn pc,.slice eA en ec],.agg #[.int .i64 k,.int .i64 ag],.agg #[.int .i64 den,.int .i64 lev,.slice A en c]] x fun e w'=>e=.returned (.tuple #[.agg (if Zbg (ZG ps k ag) es den lev W then #[.int .i64 (lev-spentL (exs es) W),.int .i64 den]else #[.int .i64 0,.int .i64 0]),.bool (Zbg (ZG ps k ag) es den lev W)])/\Below x.heap.size x w' from fun x hb=>(Zla pA eA A pc ec pn en c ps es k ag den lev W x (hB.below hb) hF hR hpn hen (hW.below hb) (by rw[hwr.len,hen]) sW (by have:=hwr.d1;have:=hwr.dK;omega) hwr.lK).mono fun e w' h=>⟨Zlb h.1,h.2⟩);have hs8:(spentL (exs es) W).natAbs<=8*(1000000000000*20):=by have hs:=Ze2 (X:=20) (Y:=1000000000000) (exs es) W 8 hR.right.exs_mo sW;rw[ZwC (by rw[ZaR];exact hR.right.n8),ZwC (by rw[hwr.len,<-hen];exact hR.right.n8)]at hs;exact hs
   have hLo:=Zvc fun x=>ZhN (lev-spentL (exs es) W) den x (by have:=hwr.d1;omega) (by have:=hwr.lK;omega) (by have:=hwr.d1;have:=hwr.dK;omega);have hws:wn=en:=by rw[<-hwn];exact hwr.len
   subst hws;obtain⟨BD,eBD⟩:∃b,lev-spentL (exs es) W=b:=⟨_,rfl⟩;have e0:Zce ps es k ag den lev W=if Zbg (ZG ps k ag) es den lev W then 0 else 20:=by unfold Zce;rw[if_neg (by simp[h1]),hen,if_neg (by simp[h3])]
   cases hH:Zbg (ZG ps k ag) es den lev W with
   |false=>
    rw[hH]at e0 hBd;simp only[ZuQ,if_false]at e0 hBd;have e2:Zb5 ps es k ag den lev W=(0,0):=by unfold Zb5;rw[e0,if_neg (by decide)]
    rw[e0,e2];clear hB hF hpn hen hW hwn e0 e2 hR h1 h3 hwr sW hs8 hLo hH eBD;go_enter func17,ntmps17;go_wp2_with (first|(go_at_call 52;refine(hBo.out _ (by go_grown)).mono ?_;rintro e w2 ⟨rfl,hb2⟩;(have N0:=Zw hb2 (show (((((w.alloc (.cells #[.slice pA pn pc,.slice eA wn ec] 25 (0,0))).alloc (.cells #[.int .i64 k,.int .i64 ag] 27 (0,0))).alloc (.cells #[.int .i64 den,.int .i64 lev,.slice A wn c] 30 (0,0))).alloc (.cells #[.int .i64 0,.int .i64 0] 46 (0,0)))).heap[w.heap.size]?=some (.cells #[.slice pA pn pc,.slice eA wn ec] 25 (0,0))from by(repeat (first|assumption|(refine Zz _ _ ?_;(simp;done))|refine ZB ?_|refine Zy ?_ _|refine ZA ?_ (by simp<;>omega) _))));(have N1:=Zw hb2 (show (((((w.alloc (.cells #[.slice pA pn pc,.slice eA wn ec] 25 (0,0))).alloc (.cells #[.int .i64 k,.int .i64 ag] 27 (0,0))).alloc (.cells #[.int .i64 den,.int .i64 lev,.slice A wn c] 30 (0,0))).alloc (.cells #[.int .i64 0,.int .i64 0] 46 (0,0)))).heap[w.heap.size+1]?=some (.cells #[.int .i64 k,.int .i64 ag] 27 (0,0))from by(repeat (first|assumption|(refine Zz _ _ ?_;(simp;done))|refine ZB ?_|refine Zy ?_ _|refine ZA ?_ (by simp<;>omega) _))));(have N2:=Zw hb2 (show (((((w.alloc (.cells #[.slice pA pn pc,.slice eA wn ec] 25 (0,0))).alloc (.cells #[.int .i64 k,.int .i64 ag] 27 (0,0))).alloc (.cells #[.int .i64 den,.int .i64 lev,.slice A wn c] 30 (0,0))).alloc (.cells #[.int .i64 0,.int .i64 0] 46 (0,0)))).heap[w.heap.size+1+1]?=some (.cells #[.int .i64 den,.int .i64 lev,.slice A wn c] 30 (0,0))from by(repeat (first|assumption|(refine Zz _ _ ?_;(simp;done))|refine ZB ?_|refine Zy ?_ _|refine ZA ?_ (by simp<;>omega) _))));(have N3:=Zw hb2 (show (((((w.alloc (.cells #[.slice pA pn pc,.slice eA wn ec] 25 (0,0))).alloc (.cells #[.int .i64 k,.int .i64 ag] 27 (0,0))).alloc (.cells #[.int .i64 den,.int .i64 lev,.slice A wn c] 30 (0,0))).alloc (.cells #[.int .i64 0,.int .i64 0] 46 (0,0)))).heap[w.heap.size+1+1+1]?=some (.cells #[.int .i64 0,.int .i64 0] 46 (0,0))from by(repeat (first|assumption|(refine Zz _ _ ?_;(simp;done))|refine ZB ?_|refine Zy ?_ _|refine ZA ?_ (by simp<;>omega) _))));(have hbw2:=via (by go_grown:Below w.heap.size w (((((w.alloc (.cells #[.slice pA pn pc,.slice eA wn ec] 25 (0,0))).alloc (.cells #[.int .i64 k,.int .i64 ag] 27 (0,0))).alloc (.cells #[.int .i64 den,.int .i64 lev,.slice A wn c] 30 (0,0))).alloc (.cells #[.int .i64 0,.int .i64 0] 46 (0,0))))) hb2);clear hb2;(have C0:=bk2 N0);(have C1:=bk2 N1);(have C2:=bk3 N2))|(go_at_call 43;refine(hWe.out _ hbw2).mono ?_;rintro e w3 ⟨rfl,hb3⟩;(have M0:=Zw hb3 N0);(have M1:=Zw hb3 N1);(have M2:=Zw hb3 N2);(have M3:=Zw hb3 N3);(have hbw3:=via hbw2 hb3);clear hb3 C0 C1 C2 N0 N1 N2;(have D0:=bk2 M0);(have D1:=bk2 M1);(have D2:=bk3 M2))|(go_at_call 44;refine(hBd.out _ hbw3).mono ?_;rintro e w4 ⟨rfl,hb4⟩;(have P3:=Zw hb4 M3);(have hbw4:=via hbw3 hb4);clear hb4)|(refine ZaV (by with_reducible rfl) (.tmp 9) (.tmp 28) 46 (by with_reducible rfl) w4.heap.size [.int .i64 0,.int .i64 0] [.int .i64 0,.int .i64 0] 46 rfl rfl (hs2 _) (Zz _ _ rfl) rfl (by decide) ?_;intro w6 hblk6 hg6 hsz6;(have Q3:=Zal hg6 (Zw (ZC _ _) P3) (by have:=ZI P3;simp;omega));(have hbw6:Below w.heap.size w w6:=ZW (via hbw4 (ZC _ _)) hg6 fun b e=>(by have:=Zxh e;have:=hbw4.size;omega));clear hg6)|(refine ZaV (by with_reducible rfl) (.tmp 6) (.tmp 32) 46 (by with_reducible rfl) (w.heap.size+1+1+1) [.int .i64 0,.int .i64 0] [.int .i64 0,.int .i64 0] 46 rfl rfl (hs2 _) Q3 rfl (by decide) ?_;intro w5 hblk5 hg5 hsz5;(have hbw5:Below w.heap.size w w5:=ZW hbw6 hg5 fun b e=>(by have:=Zxh e;omega));clear hg5));refine bodyPost_ret (v:=.tuple #[.agg #[.int .i64 0,.int .i64 0],.int .i64 20]) ?_ rfl ⟨rfl,hbw5⟩;exact Zat (p:=6) (u:=7) (ad:=⟨w.heap.size+1+1+1,0,none⟩) (v:=.agg #[.int .i64 0,.int .i64 0]) rfl (by rfl) (Z5 (T:=46) (cs:=[.int .i64 0,.int .i64 0]) (ha2 _) (hs2 _) hblk5)|true=>
    rw[hH]at e0 hBd;simp only[if_true]at e0 hBd;have e2:Zb5 ps es k ag den lev W=(BD / ZS BD den,den / ZS BD den):=by unfold Zb5;rw[e0,if_pos rfl,eBD]
    rw[e0,e2];rw[eBD]at hBd hLo;obtain⟨U1,hU1⟩:∃x,BD / ZS BD den=x:=⟨_,rfl⟩;obtain⟨U2,hU2⟩:∃x,den / ZS BD den=x:=⟨_,rfl⟩;rw[hU1,hU2]at hLo |-;clear hB hF hpn hen hW hwn e0 e2 hR h1 h3 hwr sW hs8 hH eBD hU1 hU2;go_enter func17,ntmps17;go_wp2_with (first|(go_at_call 52;refine(hBo.out _ (by go_grown)).mono ?_;rintro e w2 ⟨rfl,hb2⟩;(have N0:=Zw hb2 (show (((((w.alloc (.cells #[.slice pA pn pc,.slice eA wn ec] 25 (0,0))).alloc (.cells #[.int .i64 k,.int .i64 ag] 27 (0,0))).alloc (.cells #[.int .i64 den,.int .i64 lev,.slice A wn c] 30 (0,0))).alloc (.cells #[.int .i64 0,.int .i64 0] 46 (0,0)))).heap[w.heap.size]?=some (.cells #[.slice pA pn pc,.slice eA wn ec] 25 (0,0))from by(repeat (first|assumption|(refine Zz _ _ ?_;(simp;done))|refine ZB ?_|refine Zy ?_ _|refine ZA ?_ (by simp<;>omega) _))));(have N1:=Zw hb2 (show (((((w.alloc (.cells #[.slice pA pn pc,.slice eA wn ec] 25 (0,0))).alloc (.cells #[.int .i64 k,.int .i64 ag] 27 (0,0))).alloc (.cells #[.int .i64 den,.int .i64 lev,.slice A wn c] 30 (0,0))).alloc (.cells #[.int .i64 0,.int .i64 0] 46 (0,0)))).heap[w.heap.size+1]?=some (.cells #[.int .i64 k,.int .i64 ag] 27 (0,0))from by(repeat (first|assumption|(refine Zz _ _ ?_;(simp;done))|refine ZB ?_|refine Zy ?_ _|refine ZA ?_ (by simp<;>omega) _))));(have N2:=Zw hb2 (show (((((w.alloc (.cells #[.slice pA pn pc,.slice eA wn ec] 25 (0,0))).alloc (.cells #[.int .i64 k,.int .i64 ag] 27 (0,0))).alloc (.cells #[.int .i64 den,.int .i64 lev,.slice A wn c] 30 (0,0))).alloc (.cells #[.int .i64 0,.int .i64 0] 46 (0,0)))).heap[w.heap.size+1+1]?=some (.cells #[.int .i64 den,.int .i64 lev,.slice A wn c] 30 (0,0))from by(repeat (first|assumption|(refine Zz _ _ ?_;(simp;done))|refine ZB ?_|refine Zy ?_ _|refine ZA ?_ (by simp<;>omega) _))));(have N3:=Zw hb2 (show (((((w.alloc (.cells #[.slice pA pn pc,.slice eA wn ec] 25 (0,0))).alloc (.cells #[.int .i64 k,.int .i64 ag] 27 (0,0))).alloc (.cells #[.int .i64 den,.int .i64 lev,.slice A wn c] 30 (0,0))).alloc (.cells #[.int .i64 0,.int .i64 0] 46 (0,0)))).heap[w.heap.size+1+1+1]?=some (.cells #[.int .i64 0,.int .i64 0] 46 (0,0))from by(repeat (first|assumption|(refine Zz _ _ ?_;(simp;done))|refine ZB ?_|refine Zy ?_ _|refine ZA ?_ (by simp<;>omega) _))));(have hbw2:=via (by go_grown:Below w.heap.size w (((((w.alloc (.cells #[.slice pA pn pc,.slice eA wn ec] 25 (0,0))).alloc (.cells #[.int .i64 k,.int .i64 ag] 27 (0,0))).alloc (.cells #[.int .i64 den,.int .i64 lev,.slice A wn c] 30 (0,0))).alloc (.cells #[.int .i64 0,.int .i64 0] 46 (0,0))))) hb2);clear hb2;(have C0:=bk2 N0);(have C1:=bk2 N1);(have C2:=bk3 N2))|(go_at_call 43;refine(hWe.out _ hbw2).mono ?_;rintro e w3 ⟨rfl,hb3⟩;(have M0:=Zw hb3 N0);(have M1:=Zw hb3 N1);(have M2:=Zw hb3 N2);(have M3:=Zw hb3 N3);(have hbw3:=via hbw2 hb3);clear hb3 C0 C1 C2 N0 N1 N2;(have D0:=bk2 M0);(have D1:=bk2 M1);(have D2:=bk3 M2))|(go_at_call 44;refine(hBd.out _ hbw3).mono ?_;rintro e w4 ⟨rfl,hb4⟩;(have P3:=Zw hb4 M3);(have hbw4:=via hbw3 hb4);clear hb4)|(refine ZaV (by with_reducible rfl) (.tmp 9) (.tmp 28) 46 (by with_reducible rfl) w4.heap.size [.int .i64 BD,.int .i64 den] [.int .i64 0,.int .i64 0] 46 rfl rfl (hs2 _) (Zz _ _ rfl) rfl (by simp[Value.oneCell']) ?_;intro w6 hblk6 hg6 hsz6;(have Q3:=Zal hg6 (Zw (ZC _ _) P3) (by have:=ZI P3;simp;omega));(have hbw6:Below w.heap.size w w6:=ZW (via hbw4 (ZC _ _)) hg6 fun b e=>(by have:=Zxh e;have:=hbw4.size;omega));(have C6:=bk2 hblk6);clear hg6)|(go_at_call 53;refine(hLo.out _).mono ?_;rintro e w7 ⟨rfl,hb7⟩;(have S3:=Zw hb7 Q3);(have hbw7:=via hbw6 hb7);clear hb7)|(refine ZaV (by with_reducible rfl) (.tmp 6) (.tmp 37) 46 (by with_reducible rfl) (w.heap.size+1+1+1) [.int .i64 U1,.int .i64 U2] [.int .i64 0,.int .i64 0] 46 rfl rfl (hs2 _) S3 rfl (by simp[Value.oneCell']) ?_;intro w5 hblk5 hg5 hsz5;(have hbw5:Below w.heap.size w w5:=ZW hbw7 hg5 fun b e=>(by have:=Zxh e;omega));clear hg5));refine bodyPost_ret (v:=.tuple #[.agg #[.int .i64 U1,.int .i64 U2],.int .i64 0]) ?_ rfl ⟨rfl,hbw5⟩;exact Zat (p:=6) (u:=7) (ad:=⟨w.heap.size+1+1+1,0,none⟩) (v:=.agg #[.int .i64 U1,.int .i64 U2]) rfl (by rfl) (Z5 (T:=46) (cs:=[.int .i64 U1,.int .i64 U2]) (ha2 _) (hs2 _) hblk5)
theorem Zsb{w:World} {base m c c2 n2:Nat} {A A2:Option Addr} {ps:List Pa} {ys:List En} (h:w.ownsRow base 86 5 (.slice A m c) m (ps.flatMap Pa.cs))(h2:EnTy w base (.slice A2 n2 c2) ys)(hm:ps.length=m)(hn:ys.length=n2):BookAt w A c ps A2 c2 ys:=by
 subst hm;subst hn;have hc:=Zgm h;have hc2:=Zgm h2.own;refine⟨?_,⟨?_,fun x hx=>(h2.row x hx).1⟩,hc,hc2,fun x hx=>(h2.row x hx).2.1⟩;·obtain⟨A',c',e',h1⟩:=ZdC (cs:=Pa.cs) (sz:=5) (fun _=>rfl) h;cases e';exact h1
 ·obtain⟨A',c',e',h1⟩:=ZdC (cs:=En.cs) (sz:=3) (fun _=>rfl) h2.own;cases e';exact h1
def ZY:List Pa:=[⟨bs [97],10,12,5,6⟩,⟨bs [98],50,60,1,2⟩]
def ZL(B:Option Addr):List En:=[⟨bs [104,97,108,102],B,2,[0,-2],-1⟩]
theorem Zdg(B:Option Addr):BookR ZY (ZL B):=by have h:BookR ZY (ZL none):=ZbJ.1 (by decide+kernel);exact h.sig rfl
theorem Zgp(w:World):Calls prog 32 #[] w fun e w'=>(∃A A2 B,e=.returned (.agg #[.slice A 2 2,.slice A2 1 1])/\BookAt w' A 2 ZY A2 1 (ZL B)/\∀g,A=some g->w.heap.size<=g.block)/\Below w.heap.size w w':=by
 go_enter func32,ntmps32;go_wp2;obtain⟨W,hW⟩:∃W,(((w.alloc (.cells #[.slice (some ⟨(w.heap.size+1),0,none⟩) 2 2,.slice (some ⟨(w.heap.size+1+1+1),0,none⟩) 1 1] 25 (0,0))).alloc (.cells #[.string (bs [97]),.int .i64 10,.int .i64 12,.int .i64 5,.int .i64 6,.string (bs [98]),.int .i64 50,.int .i64 60,.int .i64 1,.int .i64 2] 86 (0,0))).alloc (.cells #[.int .i64 0,.int .i64 (-2)] 3 (0,0))).alloc (.cells #[.string (bs [104,97,108,102]),.slice (some ⟨(w.heap.size+1+1),0,none⟩) 2 2,.int .i64 (-1)] 88 (0,0))=W:=⟨_,rfl⟩;have N0:W.heap[w.heap.size]?=some (.cells #[.slice (some ⟨(w.heap.size+1),0,none⟩) 2 2,.slice (some ⟨(w.heap.size+1+1+1),0,none⟩) 1 1] 25 (0,0)):=by rw[<-hW];(repeat (first|assumption|(refine Zz _ _ ?_;(simp;done))|refine ZB ?_|refine Zy ?_ _|refine ZA ?_ (by simp<;>omega) _))
 have N1:W.heap[(w.heap.size+1)]?=some (.cells #[.string (bs [97]),.int .i64 10,.int .i64 12,.int .i64 5,.int .i64 6,.string (bs [98]),.int .i64 50,.int .i64 60,.int .i64 1,.int .i64 2] 86 (0,0)):=by rw[<-hW];(repeat (first|assumption|(refine Zz _ _ ?_;(simp;done))|refine ZB ?_|refine Zy ?_ _|refine ZA ?_ (by simp<;>omega) _))
 have N2:W.heap[(w.heap.size+1+1)]?=some (.cells #[.int .i64 0,.int .i64 (-2)] 3 (0,0)):=by rw[<-hW];(repeat (first|assumption|(refine Zz _ _ ?_;(simp;done))|refine ZB ?_|refine Zy ?_ _|refine ZA ?_ (by simp<;>omega) _))
 have N3:W.heap[(w.heap.size+1+1+1)]?=some (.cells #[.string (bs [104,97,108,102]),.slice (some ⟨(w.heap.size+1+1),0,none⟩) 2 2,.int .i64 (-1)] 88 (0,0)):=by rw[<-hW];(repeat (first|assumption|(refine Zz _ _ ?_;(simp;done))|refine ZB ?_|refine Zy ?_ _|refine ZA ?_ (by simp<;>omega) _))
 have hbW:Below w.heap.size w W:=by rw[<-hW];go_grown
 have o1:W.ownsRow w.heap.size 86 5 (.slice (some ⟨(w.heap.size+1),0,none⟩) 2 2) 2 (ZY.flatMap Pa.cs):=⟨rfl,.inr ⟨(w.heap.size+1),2,_,rfl,by omega,N1,by omega,by unfold maxLen;omega,rfl,rfl⟩⟩;have o2:W.ownsRow w.heap.size 3 1 (.slice (some ⟨(w.heap.size+1+1),0,none⟩) 2 2) 2 (([0,-2]:List Int).flatMap Zc):=⟨rfl,.inr ⟨(w.heap.size+1+1),2,_,rfl,by omega,N2,by omega,by unfold maxLen;omega,rfl,rfl⟩⟩;have o3:W.ownsRow w.heap.size 88 3 (.slice (some ⟨(w.heap.size+1+1+1),0,none⟩) 1 1) 1 ((ZL (some ⟨(w.heap.size+1+1),0,none⟩)).flatMap En.cs):=⟨rfl,.inr ⟨(w.heap.size+1+1+1),1,_,rfl,by omega,N3,by omega,by unfold maxLen;omega,rfl,rfl⟩⟩;have hB:BookAt W (some ⟨(w.heap.size+1),0,none⟩) 2 ZY (some ⟨(w.heap.size+1+1+1),0,none⟩) 1 (ZL (some ⟨(w.heap.size+1+1),0,none⟩)):=Zsb o1 ⟨o3,fun x hx=>by obtain rfl:=Zwp.1 hx;exact⟨Zcq o2 rfl,ZdM o2,fun g e=>by cases e;exact⟨_,_,N2⟩⟩⟩ rfl rfl;have hs2:∀x,(sizeOf 25).run prog x=.ok 2 x:=fun x=>by kernel_rfl
 have ha2:∀x,(isAgg 25).run prog x=.ok true x:=fun x=>by kernel_rfl
 refine bodyPost_ret (v:=.agg #[.slice (some ⟨(w.heap.size+1),0,none⟩) 2 2,.slice (some ⟨(w.heap.size+1+1+1),0,none⟩) 1 1]) ?_ rfl ⟨⟨some ⟨(w.heap.size+1),0,none⟩,some ⟨(w.heap.size+1+1+1),0,none⟩,some ⟨(w.heap.size+1+1),0,none⟩,rfl,by rw[<-hW]at hB;exact hB,fun g e=>by cases e;dsimp only;omega⟩,by rw[<-hW]at hbW;exact hbW⟩;rw[<-hW]at N0;exact Zc7 (p:=0) (ad:=⟨w.heap.size,0,none⟩) rfl (by rfl) (Z5 (T:=25) (cs:=[.slice (some ⟨(w.heap.size+1),0,none⟩) 2 2,.slice (some ⟨(w.heap.size+1+1+1),0,none⟩) 1 1]) (ha2 _) (hs2 _) N0)
theorem Zfp(B:Option Addr):FewB ZY (ZL B):=⟨by decide,by show 1<=1000;decide,fun p hp=>by
 rcases Zwi.1 hp with rfl|hp;·decide
 ·obtain rfl:=Zwp.1 hp;decide,fun x hx=>by obtain rfl:=Zwp.1 hx;show (bs [104,97,108,102]).size<=1000;decide,fun x hx=>by obtain rfl:=Zwp.1 hx;show 2<=1000;decide⟩
theorem Zsc(B:Option Addr):Zab ZY (ZL B) 0 0=0:=by unfold Zab;rw[ZbJ.2 (Zdg B)];rfl
theorem ZlV(B:Option Addr):Zce ZY (ZL B) 0 0 1 10 [20]=0/\Zb5 ZY (ZL B) 0 0 1 10 [20]=(30,1):=by
 have h:Zce ZY (ZL B) 0 0 1 10 [20]=0:=by unfold Zce;rw[if_neg (by rw[Zsc];simp)];rfl
 refine⟨h,?_⟩;unfold Zb5;rw[if_pos h];kernel_rfl
end Go.Proofs
namespace Go.Proofs
open Tryz
open Go.RowKit Go.Twin Go.Conc
variable {w' W w:World}
def codeHd:Code->Code|.seq x _=>x|c=>c
def codeTl:Code->Code|.seq _ y=>y|c=>c
noncomputable def awBody:Code:=Tryz.f7.body.getD .skip
noncomputable def aw1:Code:=codeTl awBody
noncomputable def aw2:Code:=codeTl aw1
noncomputable def aw3:Code:=codeTl aw2
noncomputable def aw4:Code:=codeTl aw3
noncomputable def aw5:Code:=codeTl aw4
def Zgq(A A2:Option Addr)(b14 p1:Nat):Array Value:=#[.bool false,.pointer (some ⟨p1,0,none⟩),.int .i64 0,zu,zu,zu,zu,zu,zu,zu,zu,.tuple #[.agg #[.int .i64 30,.int .i64 1],.int .i64 0],.agg #[.slice A 2 2,.slice A2 1 1],.agg #[.int .i64 0,.int .i64 0],.slice (some ⟨b14,0,none⟩) 1 1,.agg #[.int .i64 1,.int .i64 10,.slice (some ⟨b14,0,none⟩) 1 1],.tuple #[.agg #[.int .i64 30,.int .i64 1],.int .i64 0],.agg #[.int .i64 30,.int .i64 1],.int .i64 0,zu,zu,zu,zu,zu,zu,zu,zu,zu,zu,zu,zu,zu,zu,zu,zu,zu,zu,zu,zu,zu,zu,zu,zu,zu,zu,zu,zu,zu,zu,zu,zu,zu,zu,zu,zu,zu,zu,zu,zu,zu,zu,zu,zu,zu,zu,zu,zu,zu,zu,zu,zu,zu,zu,zu,zu,zu,zu,zu,zu,zu,zu,zu,zu,zu]
theorem Zsd(w:World):(codeHd aw1).wp prog (fun e a' w'=>e=.normal/\a'.defers=[]/\(∃A A2 b14 p1,a'.tmps=Zgq A A2 b14 p1/\w'.heap[p1]?=some (.cells #[.int .i64 30,.int .i64 1] 46 (0,0)))/\Below w.heap.size w w') ⟨#[.bool false,zu,zu,zu,zu,zu,zu,zu,zu,zu,zu,zu,zu,zu,zu,zu,zu,zu,zu,zu,zu,zu,zu,zu,zu,zu,zu,zu,zu,zu,zu,zu,zu,zu,zu,zu,zu,zu,zu,zu,zu,zu,zu,zu,zu,zu,zu,zu,zu,zu,zu,zu,zu,zu,zu,zu,zu,zu,zu,zu,zu,zu,zu,zu,zu,zu,zu,zu,zu,zu,zu,zu,zu,zu,zu,zu,zu,zu,zu,zu,zu,zu,zu,zu],[]⟩ w:=by simp only[aw1,codeHd,codeTl,awBody,Tryz.f7,Zxd];have hOld:=Zvc fun x=>Zgp x;go_wp2_with (first|(go_at_call 32;refine(hOld.out _).mono ?_;rintro e w2 ⟨⟨A,A2,B,rfl,hB,hA⟩,hb2⟩;(have hB':=Zvc hB);(have hbw2:=Zvc hb2);clear hA hB hb2)|(go_at_call 17;(obtain⟨w3,hw3⟩:∃x,w2.alloc (.cells #[.int .i64 20] 3 (0,0))=x:=⟨_,rfl⟩);(have o2:w3.ownsRow w2.heap.size 3 1 (.slice (some ⟨w2.heap.size,0,none⟩) 1 1) 1 (([20]:List Int).flatMap Zc):=⟨rfl,.inr ⟨w2.heap.size,1,_,rfl,by omega,(by rw[<-hw3];(repeat (first|assumption|(refine Zz _ _ ?_;(simp;done))|refine ZB ?_|refine Zy ?_ _|refine ZA ?_ (by simp<;>omega) _))),by omega,by unfold maxLen;omega,rfl,rfl⟩⟩);(have hg3:Below w2.heap.size w2 w3:=by rw[<-hw3];go_grown);rw[hw3];clear hw3;(have hP:=Zsa A A2 (some ⟨w2.heap.size,0,none⟩) 2 1 2 1 1 1 ZY (ZL B) 0 0 1 10 [20] w3 (hB'.out.below hg3) (Zfp B) rfl rfl (Zcq o2 rfl) rfl (by omega));rw[(ZlV B).1,(ZlV B).2]at hP;refine hP.mono ?_;rintro e w4 ⟨rfl,hb4⟩;(have hbw4:=via (via hbw2.out hg3) hb4);clear hP o2 hb4 hg3));exact⟨⟨A,A2,_,_,rfl,by(repeat (first|assumption|(refine Zz _ _ ?_;(simp;done))|refine ZB ?_|refine Zy ?_ _|refine ZA ?_ (by simp<;>omega) _))⟩,via hbw4 (by go_grown)⟩
theorem ZlW(B:Option Addr):solvedL ZY.length (exs (ZL B)) (ZG ZY 1 50)=some ([1,1],2,⟨2,0,[1]⟩):=by show solvedL 2 [([0,-2],-1)] [0,1]=some ([1,1],2,⟨2,0,[1]⟩);kernel_rfl
theorem Zse(B:Option Addr):Zab ZY (ZL B) 1 50=0:=by unfold Zab;rw[ZbJ.2 (Zdg B)];rfl
def ZbN(X:Option Addr)(x:Nat)(Y:Option Addr)(y:Nat):Value:=.agg #[.int .i64 1,.int .i64 2,.int .i64 2,.slice X 2 x,.int .i64 2,.int .i64 0,.slice Y 1 y]
theorem Zsf{B:Option Addr} {n0:Nat} {e:Ending} (h:ZcH ZY (ZL B) 1 50 n0 e w'):∃X x Y y,e=.returned (.tuple #[ZbN X x Y y,.int .i64 0]):=by unfold ZcH at h;rw[if_neg (by rw[Zse];simp),ZlW]at h;obtain⟨X,x,Y,y,h,_⟩:=h;exact⟨X,x,Y,y,h⟩
def tmps2(A A2:Option Addr)(b14 p1:Nat)(C C2 X:Option Addr)(x:Nat)(Y:Option Addr)(y p3:Nat):Array Value:=#[.bool false,.pointer (some ⟨p1,0,none⟩),.int .i64 0,.pointer (some ⟨p3,0,none⟩),.int .i64 0,zu,zu,zu,zu,zu,zu,.tuple #[.agg #[.int .i64 30,.int .i64 1],.int .i64 0],.agg #[.slice A 2 2,.slice A2 1 1],.agg #[.int .i64 0,.int .i64 0],.slice (some ⟨b14,0,none⟩) 1 1,.agg #[.int .i64 1,.int .i64 10,.slice (some ⟨b14,0,none⟩) 1 1],.tuple #[.agg #[.int .i64 30,.int .i64 1],.int .i64 0],.agg #[.int .i64 30,.int .i64 1],.int .i64 0,.tuple #[ZbN X x Y y,.int .i64 0],.agg #[.slice C 2 2,.slice C2 1 1],.agg #[.int .i64 1,.int .i64 50],.tuple #[ZbN X x Y y,.int .i64 0],ZbN X x Y y,.int .i64 0,zu,zu,zu,zu,zu,zu,zu,zu,zu,zu,zu,zu,zu,zu,zu,zu,zu,zu,zu,zu,zu,zu,zu,zu,zu,zu,zu,zu,zu,zu,zu,zu,zu,zu,zu,zu,zu,zu,zu,zu,zu,zu,zu,zu,zu,zu,zu,zu,zu,zu,zu,zu,zu,zu,zu,zu,zu,zu,zu]
def Zdh(X:Option Addr)(x:Nat)(Y:Option Addr)(y:Nat):Obj:=.cells #[.int .i64 1,.int .i64 2,.int .i64 2,.slice X 2 x,.int .i64 2,.int .i64 0,.slice Y 1 y] 75 (0,0)
theorem Zsg(A A2:Option Addr)(b14 p1:Nat)(w:World):(codeHd aw2).wp prog (fun e a' w'=>e=.normal/\a'.defers=[]/\(∃C C2 X x Y y p3,a'.tmps=tmps2 A A2 b14 p1 C C2 X x Y y p3/\w'.heap[p3]?=some (Zdh X x Y y))/\Below w.heap.size w w') ⟨Zgq A A2 b14 p1,[]⟩ w:=by
 simp only[aw2,aw1,codeHd,codeTl,awBody,Tryz.f7,Zxd,Zgq];have hOld:=Zvc fun x=>Zgp x;have hs7:∀x,(sizeOf 75).run prog x=.ok 7 x:=fun x=>by kernel_rfl
 go_wp2_with (first|(go_at_call 32;refine(hOld.out _).mono ?_;rintro e w2 ⟨⟨C,C2,B,rfl,hB,hA⟩,hb2⟩;(have hB':=Zvc hB);(have hbw2:=Zvc hb2);clear hA hB hb2)|(go_at_call 33;(have hP:=Zq7 C C2 2 1 2 1 ZY (ZL B) 1 50 w2 hB'.out (Zfp B) rfl rfl);refine hP.mono ?_;rintro e w4 ⟨hgot,hb4⟩;(obtain⟨X,x,Y,y,rfl⟩:=Zsf hgot);(have hbw4:=via hbw2.out hb4);clear hP hgot hb4;simp only[ZbN]));exact⟨⟨C,C2,X,x,Y,y,_,rfl,by(repeat (first|assumption|(refine Zz _ _ ?_;(simp;done))|refine ZB ?_|refine Zy ?_ _|refine ZA ?_ (by simp<;>omega) _))⟩,via hbw4 (by go_grown)⟩
structure Old (W w':World):Prop where
 size:W.heap.size<=w'.heap.size
 get:∀b,b<W.heap.size->w'.heap[b]?=W.heap[b]?
theorem Old.refl(W:World):Old W W:=⟨ZwO _,fun _ _=>rfl⟩
theorem Old.trans(h:Old W w)(h2:Old w w'):Old W w':=⟨ZwP h.size h2.size,fun b hb=>(h2.get b (ZwS hb h.size)).trans (h.get b hb)⟩
theorem Zp(h:Below w.heap.size w w'):Old w w':=⟨h.size,h.block⟩
theorem Ze{t:Nat->Question->Nat} {d:Nat} (h:Below (w.re t d).heap.size (w.re t d) w'):Old w w':=⟨h.size,h.block⟩
theorem Old.at{b:Nat} {o:Obj} (h:Old W w')(hb:W.heap[b]?=some o):w'.heap[b]?=some o:=(h.get b (Zuo.1 hb).1).trans hb
theorem Zsh:ZK.code (codeHd aw1)=true:=by kernel_rfl
theorem Zsi:ZK.code (codeHd aw2)=true:=by kernel_rfl
theorem Zb{E:Env} {B:Blk} {xs ys:Array Value} (h:AR E B xs xs)(e:xs=ys):AR E B ys ys:=e▸h
theorem Zsj{Stop:Frame->List Frame->World->Prop} {cs:List Frame} (hS:Halts Stop)(hg:GlobOk w)(k:∀A A2 b14 p1 C C2 X x Y y p3 l' B',awB.le B'->Self ZK (fun _=>False) B' l'->AR ZK B' (tmps2 A A2 b14 p1 C C2 X x Y y p3) (tmps2 A A2 b14 p1 C C2 X x Y y p3)->l'.heap[p1]?=some (.cells #[.int .i64 30,.int .i64 1] 46 (0,0))->l'.heap[p3]?=some (Zdh X x Y y)->Old (Z2 w) l'->LG ZM Stop ((Go.Conc.base 7).at ⟨tmps2 A A2 b14 p1 C C2 X x Y y p3,[]⟩ [.code aw3]) cs l'):LG ZM Stop ((Go.Conc.base 7).at ⟨Array.replicate 84 undef,[]⟩ [.code awBody]) cs (Z2 w):=by
 have hs:=ZrP hg;have hle:awB.le awB:=Blk.le_refl _;have ha:AR ZK awB (Array.replicate 84 undef) (Array.replicate 84 undef):=AR.replicate _ undefR;rw[show awBody=.seq (codeHd awBody) aw1 from by kernel_rfl];refine Zaa hS ?_;simp only[awBody,codeHd,Tryz.f7,Zxd];refine Za5 hS ?_;simp only[Zwy,Zv0,Zv3,Nat.reduceAdd,Zw9,List.range,List.range.loop];refine Zae hS ZT ZR hs (Zb ha (by kernel_rfl)) rfl rfl (by decide) (by kernel_rfl) (fun tt dd K k1 k2=>?_);simp only[show ZK.P=prog from rfl];go_simp;first|refine k1 _ _ ?_|refine k2 _ ?_
 clear k1 k2 K tt dd;intro B' hle' hs' ha';replace hle:=Blk.le_trans hle hle';clear hs ha hle';have hs:=hs';have ha:=ha';clear hs' ha';walk_nrm;refine Za6 hS ?_;rw[show aw1=.seq (codeHd aw1) aw2 from by kernel_rfl];refine Zaa hS ?_;refine ZbF (R:=fun a' w'=>(∃A A2 b14 p1,a'.tmps=Zgq A A2 b14 p1/\w'.heap[p1]?=some (.cells #[.int .i64 30,.int .i64 1] 46 (0,0)))/\Old (Z2 w) w') ZR Za7 Zbc ZT hs (Zb ha (by kernel_rfl)) rfl Zsh (fun v w t d h=>⟨h.1,h.2.size,h.2.get⟩) (fun t d=>Code.wp_mono (fun e a' w' h=>⟨h.1,h.2.1,h.2.2.1,(Ze h.2.2.2).size,(Ze h.2.2.2).get⟩) (Zsd _)) ?_;rintro⟨tm,df⟩ l1 B1 ⟨⟨A,A2,b14,p1,e1,n1⟩,ho1⟩ e2 hle1 hs1 ha1;cases e1;cases e2;rw[show aw2=.seq (codeHd aw2) aw3 from by kernel_rfl];refine Zaa hS ?_;refine ZbF (R:=fun a' w'=>(∃C C2 X x Y y p3,a'.tmps=tmps2 A A2 b14 p1 C C2 X x Y y p3/\w'.heap[p3]?=some (Zdh X x Y y))/\Old l1 w') ZR Za7 Zbc ZT hs1 ha1 rfl Zsi (fun v w t d h=>⟨h.1,h.2.size,h.2.get⟩) (fun t d=>Code.wp_mono (fun e a' w' h=>⟨h.1,h.2.1,h.2.2.1,(Ze h.2.2.2).size,(Ze h.2.2.2).get⟩) (Zsg A A2 b14 p1 _)) ?_;rintro⟨tm,df⟩ l2 B2 ⟨⟨C,C2,X,x,Y,y,p3,e1,n3⟩,ho2⟩ e2 hle2 hs2 ha2;cases e1;cases e2;exact k A A2 b14 p1 C C2 X x Y y p3 l2 B2 (Blk.le_trans (Blk.le_trans hle hle1) hle2) hs2 ha2 (ho2.at n1) n3 (ho1.trans ho2)
variable {w w':World} {b o:Nat} {v:Value}
theorem At.old{sz:Nat} {α:Type} {cs:α->List Value} {A:Option Addr} {xs:List α} (h:At sz cs w A xs)(ho:Old w w'):At sz cs w' A xs:=(h.below (⟨rfl,rfl,rfl,ho.size,ho.get⟩:Below w.heap.size w {w' with os:=w.os,tape:=w.tape,output:=w.output}):At sz cs {w' with os:=w.os,tape:=w.tape,output:=w.output} A xs)
theorem BookAt.old{pA eA:Option Addr} {pc ec:Nat} {ps:List Pa} {es:List En} (hB:BookAt w pA pc ps eA ec es)(h:Old w w'):BookAt w' pA pc ps eA ec es:=⟨hB.P.old h,⟨hB.E.1.old h,fun x hx=>(hB.E.2 x hx).old h⟩,hB.pc',hB.ec',hB.nil⟩
noncomputable def shBody:Code:=Tryz.f34.body.getD .skip
noncomputable def shA:Code:=codeTl shBody
noncomputable def shB:Code:=codeTl shA
noncomputable def shC:Code:=codeTl shB
noncomputable def shD:Code:=codeTl shC
noncomputable def shE:Code:=codeTl shD
def Zfq(A A2:Option Addr):Array Value:=#[.agg #[.slice A 2 2,.slice A2 1 1],.int .i64 1,zu,zu,zu,zu,zu,zu,zu,zu,zu,zu,zu,zu,zu,zu,zu,zu,zu,zu,zu,zu,zu,zu,zu,zu,zu,zu,zu,zu,zu,zu,zu,zu,zu,zu,zu,zu,zu,zu,zu,zu]
def Zgr(A A2:Option Addr)(b2 b4:Nat):Array Value:=#[.agg #[.slice A 2 2,.slice A2 1 1],.int .i64 1,.pointer (some ⟨b2,0,none⟩),undef,.pointer (some ⟨b4,0,none⟩),.int .i64 0,zu,zu,zu,zu,zu,zu,zu,zu,zu,zu,zu,zu,zu,zu,zu,zu,zu,zu,zu,zu,zu,zu,zu,zu,zu,zu,zu,zu,zu,zu,zu,zu,zu,zu,zu,zu]
def Zgs(A A2:Option Addr)(b2 b4 b19:Nat):Array Value:=#[.agg #[.slice A 2 2,.slice A2 1 1],.int .i64 1,.pointer (some ⟨b2,0,none⟩),undef,.pointer (some ⟨b4,0,none⟩),.int .i64 0,.int .i64 0,undef,undef,undef,.agg #[.slice A 2 2,.slice A2 1 1],.int .i64 0,.int .i64 1,.pointer (some ⟨b2,0,none⟩),.slice A 2 2,.int .i64 2,.int .i64 1,.bool true,.int .i64 0,.slice (some ⟨b19,0,none⟩) 2 2,.int .i64 0,.int .i64 0,.bool false,zu,zu,zu,zu,zu,zu,zu,zu,zu,zu,zu,zu,zu,zu,zu,zu,zu,zu,zu]
def Zgt(A A2:Option Addr)(b2 b4 b19 b7:Nat):Array Value:=#[.agg #[.slice A 2 2,.slice A2 1 1],.int .i64 1,.pointer (some ⟨b2,0,none⟩),undef,.pointer (some ⟨b4,0,none⟩),.int .i64 0,.int .i64 0,.slice (some ⟨b7,0,none⟩) 2 2,undef,undef,.agg #[.slice A 2 2,.slice A2 1 1],.int .i64 0,.int .i64 1,.pointer (some ⟨b2,0,none⟩),.slice A 2 2,.int .i64 2,.int .i64 1,.bool true,.int .i64 0,.slice (some ⟨b19,0,none⟩) 2 2,.int .i64 0,.int .i64 0,.bool false,undef,undef,.pointer (some ⟨b2,0,none⟩),.slice A 2 2,.int .i64 2,.slice (some ⟨b7,0,none⟩) 2 2,zu,zu,zu,zu,zu,zu,zu,zu,zu,zu,zu,zu,zu]
def ZlX(A A2:Option Addr)(b2 b4 b19 b7:Nat):Array Value:=#[.agg #[.slice A 2 2,.slice A2 1 1],.int .i64 1,.pointer (some ⟨b2,0,none⟩),undef,.pointer (some ⟨b4,0,none⟩),.int .i64 0,.int .i64 0,.slice (some ⟨b7,0,none⟩) 2 2,undef,undef,.agg #[.slice A 2 2,.slice A2 1 1],.int .i64 0,.int .i64 1,.pointer (some ⟨b2,0,none⟩),.slice A 2 2,.int .i64 2,.int .i64 1,.bool true,.int .i64 0,.slice (some ⟨b19,0,none⟩) 2 2,.int .i64 0,.int .i64 0,.bool false,undef,undef,.pointer (some ⟨b2,0,none⟩),.slice A 2 2,.int .i64 2,.slice (some ⟨b7,0,none⟩) 2 2,.slice (some ⟨b7,0,none⟩) 2 2,.int .i64 1,.pointer (some ⟨b7,1,none⟩),zu,zu,zu,zu,zu,zu,zu,zu,zu,zu]
theorem Zsk(A A2:Option Addr)(w:World):(codeHd shBody).wp prog (fun e a' w'=>e=.normal/\a'.defers=[]/\(∃b2 b4,a'.tmps=Zgr A A2 b2 b4/\w'.heap[b2]?=some (.cells #[.slice A 2 2,.slice A2 1 1] 25 (0,0))/\w'.heap[b4]?=some (.cells #[.int .i64 0,.int .i64 0] 79 (0,0))/\w.heap.size<=b4)/\Below w.heap.size w w') ⟨Zfq A A2,[]⟩ w:=by simp only[codeHd,codeTl,shBody,Tryz.f34,Zxd,Zfq];go_wp2;exact⟨⟨_,_,rfl,by(repeat (first|assumption|(refine Zz _ _ ?_;(simp;done))|refine ZB ?_|refine Zy ?_ _|refine ZA ?_ (by simp<;>omega) _)),by(repeat (first|assumption|(refine Zz _ _ ?_;(simp;done))|refine ZB ?_|refine Zy ?_ _|refine ZA ?_ (by simp<;>omega) _)),by first|omega|simp⟩,by go_grown⟩
theorem Zsl(A A2 B:Option Addr)(b2 b4:Nat)(w:World)(hB:BookAt w A 2 ZY A2 1 (ZL B))(h2:w.heap[b2]?=some (.cells #[.slice A 2 2,.slice A2 1 1] 25 (0,0))):(codeHd shA).wp prog (fun e a' w'=>e=.normal/\a'.defers=[]/\(∃b19,a'.tmps=Zgs A A2 b2 b4 b19)/\Below w.heap.size w w') ⟨Zgr A A2 b2 b4,[]⟩ w:=by
 simp only[codeHd,codeTl,shA,shBody,Tryz.f34,Zxd,Zgr];have hC:=Zvc fun W (hb:Below w.heap.size w W)=>(ZbJ.2 (Zdg B))▸Ze9 A A2 2 1 2 1 ZY (ZL B) W (hB.below hb) (Zfp B) rfl rfl;have hWi:=Zvc fun W=>ZbG 1 0 1 W;rw[show ZX 1 0 1=true from by decide]at hWi;have D:=bk2 h2;have hb1:Below w.heap.size w w:=ZuK _ _;clear hB h2;refine wp_seq ?_;refine Zav w 9 (by kernel_rfl) (by kernel_rfl) hb1 ?_;intro hgc hbx;simp only[ZwD,ZwF,Zvt,Zvu];repeat (go_big_quiet_step (first
  |(go_at_call 38;with_reducible exact Grew.call (hC.out _ (hbx.out _)))|(go_at_call 42;with_reducible exact Zd (hWi.out _))|(go_at_call 39;with_reducible exact Zd (Zbd _ _ _))))
 refine wpQuiet_nil ?_;intro wb hb_wb hw_wb hs_wb;clear hgc hbx;simp only[show unl true 6=0 from rfl];go_wp2_with (go_at_call 37;refine(Zc1 _ _ _).mono ?_;rintro e w' ⟨rfl,rfl⟩;simp only[show firstE [0,0]=0 from rfl]);exact⟨⟨_,rfl⟩,via hb_wb (by go_grown)⟩
theorem Zsm(A A2:Option Addr)(b2 b4 b19:Nat)(w:World)(h2:w.heap[b2]?=some (.cells #[.slice A 2 2,.slice A2 1 1] 25 (0,0))):(codeHd shB).wp prog (fun e a' w'=>e=.normal/\a'.defers=[]/\(∃b7,a'.tmps=Zgt A A2 b2 b4 b19 b7/\w'.heap[b7]?=some (.cells #[.int .i64 0,.int .i64 0] 3 (0,0))/\w.heap.size<=b7)/\Below w.heap.size w w') ⟨Zgs A A2 b2 b4 b19,[]⟩ w:=by simp only[codeHd,codeTl,shB,shA,shBody,Tryz.f34,Zxd,Zgs];have D:=bk2 h2;clear h2;have hmk:∀W,(Instr.makeSlice 28 (.int .i64 2) (.int .i64 2)).run prog W=.ok (.slice (some ⟨W.heap.size,0,none⟩) 2 2) (W.alloc (.cells #[.int .i64 0,.int .i64 0] 3 (0,0))):=fun W=>Zd9 2 (by omega) W;go_wp2;exact⟨⟨_,rfl,by(repeat (first|assumption|(refine Zz _ _ ?_;(simp;done))|refine ZB ?_|refine Zy ?_ _|refine ZA ?_ (by simp<;>omega) _)),ZwO _⟩,by go_grown⟩
theorem Zsn{c:Array Value} {T:TypeId} {f:Nat×Nat} (h:w.heap[b]?=some (.cells c T f)):(w.setCell ⟨b,o,none⟩ v).heap[b]?=some (.cells (c.setIfInBounds o v) T f):=by simp[World.setCell,Zur,h]
theorem Zso{k:Nat} (hne:k≠b):(w.setCell ⟨b,o,none⟩ v).heap[k]?=w.heap[k]?:=by simp[World.setCell,Zur,Ne.symm hne]
theorem Zsp(A A2:Option Addr)(b2 b4 b19 b7:Nat)(w:World)(h7:w.heap[b7]?=some (.cells #[.int .i64 0,.int .i64 0] 3 (0,0))):(codeHd shC).wp prog (fun e a' w'=>e=.normal/\a'.defers=[]/\a'.tmps=ZlX A A2 b2 b4 b19 b7/\w'.heap[b7]?=some (.cells #[.int .i64 0,.int .i64 1] 3 (0,0))/\w'.heap.size=w.heap.size/\∀b,b≠b7->w'.heap[b]?=w.heap[b]?) ⟨Zgt A A2 b2 b4 b19 b7,[]⟩ w:=by simp only[codeHd,codeTl,shC,shB,shA,shBody,Tryz.f34,Zxd,Zgt];have D:=bk2 h7;have key:=Zvc (Zsn (o:=1) (v:=.int .i64 1) h7);clear h7;go_wp2;exact⟨rfl,(Zuo.1 key.out).2,fun b hb=>Zso hb⟩
def ZlY(A A2:Option Addr)(b2 b4 b19 b7 b8:Nat):Array Value:=#[.agg #[.slice A 2 2,.slice A2 1 1],.int .i64 1,.pointer (some ⟨b2,0,none⟩),undef,.pointer (some ⟨b4,0,none⟩),.int .i64 0,.int .i64 0,.slice (some ⟨b7,0,none⟩) 2 2,.pointer (some ⟨b8,0,none⟩),.bool true,.agg #[.slice A 2 2,.slice A2 1 1],.int .i64 0,.int .i64 1,.pointer (some ⟨b2,0,none⟩),.slice A 2 2,.int .i64 2,.int .i64 1,.bool true,.int .i64 0,.slice (some ⟨b19,0,none⟩) 2 2,.int .i64 0,.int .i64 0,.bool false,undef,undef,.pointer (some ⟨b2,0,none⟩),.slice A 2 2,.int .i64 2,.slice (some ⟨b7,0,none⟩) 2 2,.slice (some ⟨b7,0,none⟩) 2 2,.int .i64 1,.pointer (some ⟨b7,1,none⟩),.tuple #[.agg #[.int .i64 500,.int .i64 1000],.bool true],.agg #[.slice A 2 2,.slice A2 1 1],.slice (some ⟨b7,0,none⟩) 2 2,.slice (some ⟨b7,0,none⟩) 2 2,.tuple #[.agg #[.int .i64 500,.int .i64 1000],.bool true],.agg #[.int .i64 500,.int .i64 1000],.bool true,undef,undef,undef]
theorem Zsq(A A2:Option Addr)(b2 b4 b19 b7 b8:Nat)(w:World)(h4:w.heap[b4]?=some (.cells #[.int .i64 0,.int .i64 0] 79 (0,0)))(h8:w.heap[b8]?=some (.cells #[.int .i64 500,.int .i64 1000] 79 (0,0))):shE.wp prog (bodyPost prog Tryz.f34 fun e w'=>e=.returned (.tuple #[.agg #[.int .i64 500,.int .i64 1000],.int .i64 0])/\w.heap.size<=w'.heap.size/\∀b,b<w.heap.size->b≠b4->w'.heap[b]?=w.heap[b]?) ⟨ZlY A A2 b2 b4 b19 b7 b8,[]⟩ w:=by
 simp only[codeHd,codeTl,shE,shD,shC,shB,shA,shBody,Tryz.f34,Zxd,ZlY];have D4:=bk2 h4;have D8:=bk2 h8;have hb1:Below w.heap.size w w:=ZuK _ _;have hs2:∀x,(sizeOf 79).run prog x=.ok 2 x:=fun x=>by kernel_rfl
 have ha2:∀x,(isAgg 79).run prog x=.ok true x:=fun x=>by kernel_rfl
 refine wp_seq ?_;refine Zav w 3 (by kernel_rfl) (by kernel_rfl) hb1 ?_;intro hgc hbx;simp only[ZwD,ZwF,Zvt,Zvu];repeat (go_big_quiet_step (first|(go_at_call 39;with_reducible exact Zd (Zbd _ _ _))))
 refine wpQuiet_nil ?_;intro wb hb_wb hw_wb hs_wb;clear hgc hbx;simp only[show unl true 12=0 from rfl];have M4:=Zvc (Zw hb_wb h4);have M8:=Zw hb_wb h8;have E8:=bk2 M8;clear h4 h8 M8 D4 D8;go_wp2_with (first|(go_at_call 39;refine(Zbd _ _ _).mono ?_;rintro e w' ⟨rfl,rfl⟩)|(refine ZaV (by with_reducible rfl) (.tmp 4) (.tmp 39) 79 (by with_reducible rfl) b4 [.int .i64 500,.int .i64 1000] [.int .i64 0,.int .i64 0] 79 rfl rfl (hs2 _) M4.out rfl (by decide) ?_;intro w5 hblk5 hg5 hsz5));refine bodyPost_ret (v:=.tuple #[.agg #[.int .i64 500,.int .i64 1000],.int .i64 0]) ?_ rfl ⟨rfl,by rw[hsz5];exact hs_wb,fun b hb hne=>?_⟩;·exact Zat (p:=4) (u:=5) (ad:=⟨b4,0,none⟩) (v:=.agg #[.int .i64 500,.int .i64 1000]) rfl (by rfl) (Z5 (T:=79) (cs:=[.int .i64 500,.int .i64 1000]) (ha2 _) (hs2 _) hblk5)
 ·have hlt:b<wb.heap.size:=ZwS hb hs_wb;exact(hg5.block b hlt (fun e=>hne (Zxh e))).trans (hb_wb.block b hb)
end Go.Proofs
namespace Go.Proofs
open Go.RowKit Go.Twin Go.Conc
section
variable {B:Blk} {bs':List Frame} {l w:World}
theorem ST.head{E:Env} {bs:List Frame} {f f':Frame} {cs cs':List Frame} (h:ST E B bs bs' (f::cs) (f'::cs')):FR E B f f':=by cases h with|last _ _ h _=>exact h|cons _ _ _ _ h _ _=>exact h
theorem Zn{E:Env} {xs:Array Value} {v:Value} (h:VR E B (.agg xs) v) {i:Nat} {u:Value} (hu:xs[i]?=some u):∃u',VR E B u u':=by cases h with|agg _ xs' hx hxs=>have hi:=(Zuo.1 hu).1;exact⟨_,hxs i u (xs'[i]'(by omega)) hu (Zum (by omega))⟩
theorem Zj{E:Env} {A:Option Addr} {n c:Nat} {v:Value} (h:VR E B (.slice A n c) v)(hz:E.z0=false:=by rfl):∀b o s,A=some ⟨b,o,s⟩->∃b',B b b':=by rintro b o s rfl;cases h with
 |slice _ _ _ _ ha=>cases ha with|mk _ b' _ _ hb=>exact⟨b',hb⟩
 |slice0 _ h=>rw[hz]at h;cases h
theorem ZdP{sz:Nat} {α:Type} {cs:α->List Value} {A:Option Addr} {xs:List α} (h:At sz cs l A xs) {x:α} (hx:xs[0]?=some x) {v:Value} (hv:(cs x)[0]?=some v):∀b o s,A=some ⟨b,o,s⟩->∃c T f,l.heap[b]?=some (.cells c T f):=by rintro b o s rfl;obtain⟨b',o',h1,_,h3⟩:=h 0 x hx;cases h1;exact Zly (h3 0 v hv)
theorem Zsr(BB:Option Addr):(solvedL 2 (exs (ZL BB)) (Zaf [0,1])).map (fun q=>(q.1,q.2.1))=some ([0,1],1):=by show (solvedL 2 [([0,-2],-1)] [0,-1]).map (fun q=>(q.1,q.2.1))=some ([0,1],1);kernel_rfl
theorem ZdQ(BB:Option Addr):exs (ZL BB)=[([0,-2],-1)]:=rfl
theorem ZlZ(BB:Option Addr):Zar 2 (ZL BB) [0,1]=(1,2,true):=by unfold Zar;rw[ZdQ];kernel_rfl
theorem Zl0(BB:Option Addr):Zar 2 (ZL BB) (Zaf [0,1])=(-1,1,true):=by unfold Zar;rw[ZdQ];kernel_rfl
theorem Zss(BB:Option Addr):ZbK 2 (ZL BB) [0,1] [0,1] 1000=.tuple #[.agg #[.int .i64 500,.int .i64 1000],.bool true]:=by unfold ZbK;rw[ZlZ,Zl0];kernel_rfl
theorem Zdi{a b:Int} {K:Nat} (h1:a.natAbs<=K)(h2:b.natAbs<=K):Small K [a,b]:=fun x hx=>by
 simp only[Zwi,Zwt,or_false]at hx;rcases hx with rfl|rfl;·exact h1
 ·exact h2
theorem ZdR{A:Option Addr} {n c:Nat} (h1:∀b o s,A=some ⟨b,o,s⟩->∃b',B b b') (h2:∀b o s,A=some ⟨b,o,s⟩->∃c T f,l.heap[b]?=some (.cells c T f)):VR EnvS (idX (ZZ B l)) (.slice A n c) (.slice A n c):=Zii fun b o s e=>⟨h1 b o s e,h2 b o s e⟩
theorem Zst{sh:Nat->Prop} {A A2 BB:Option Addr} {b7:Nat} {fa:Frame} {cs cb:List Frame} (hB:BookAt l A 2 ZY A2 1 (ZL BB))(h7:l.heap[b7]?=some (.cells #[.int .i64 0,.int .i64 1] 3 (0,0)))(h:Rel ZM sh bs' B (Frame.enter ZM.P 69 #[.agg #[.slice A 2 2,.slice A2 1 1],.slice (some ⟨b7,0,none⟩) 2 2,.slice (some ⟨b7,0,none⟩) 2 2,.int .i64 1000] .normal) cs l fa cb w):ZcX Tryz.prog fa w fun v=>v=.tuple #[.agg #[.int .i64 500,.int .i64 1000],.bool true]:=by
 have hW:At 1 Zc l (some ⟨b7,0,none⟩) [0,1]:=Zcq (⟨rfl,.inr ⟨b7,2,_,rfl,Zxa _,h7,by omega,by unfold maxLen;omega,rfl,rfl⟩⟩:l.ownsRow 0 3 1 (.slice (some ⟨b7,0,none⟩) 2 2) 2 (([0,1]:List Int).flatMap Zc)) rfl;have ht:=h.st.head.tmps;have hf:=Zil (.agg #[.slice A 2 2,.slice A2 1 1]) (.slice (some ⟨b7,0,none⟩) 2 2) (.slice (some ⟨b7,0,none⟩) 2 2) (.int .i64 1000);have e0:(Frame.enter ZM.P 69 #[.agg #[.slice A 2 2,.slice A2 1 1],.slice (some ⟨b7,0,none⟩) 2 2,.slice (some ⟨b7,0,none⟩) 2 2,.int .i64 1000] .normal).tmps=#[.agg #[.slice A 2 2,.slice A2 1 1],.slice (some ⟨b7,0,none⟩) 2 2,.slice (some ⟨b7,0,none⟩) 2 2,.int .i64 1000]++Array.replicate 52 undef:=by show (Frame.enter Tryz.prog _ _ _).tmps=_;rw[hf];rfl
 rw[e0]at ht;have t0:=ht.getD 0 (undefR (G:=ZM) (B:=B));have t1:=ht.getD 1 (undefR (G:=ZM) (B:=B));have g0:((#[.agg #[.slice A 2 2,.slice A2 1 1],.slice (some ⟨b7,0,none⟩) 2 2,.slice (some ⟨b7,0,none⟩) 2 2,.int .i64 1000]++Array.replicate 52 undef:Array Value).getD 0 undef)=.agg #[.slice A 2 2,.slice A2 1 1]:=by simp[Array.getD]
 have g1:((#[.agg #[.slice A 2 2,.slice A2 1 1],.slice (some ⟨b7,0,none⟩) 2 2,.slice (some ⟨b7,0,none⟩) 2 2,.int .i64 1000]++Array.replicate 52 undef:Array Value).getD 1 undef)=.slice (some ⟨b7,0,none⟩) 2 2:=by simp[Array.getD]
 rw[g0]at t0;rw[g1]at t1;obtain⟨u1,hu1⟩:=Zn t0 (i:=0) rfl;obtain⟨u2,hu2⟩:=Zn t0 (i:=1) rfl;have nA:=ZdR (l:=l) (n:=2) (c:=2) (Zj hu1) (ZdP hB.P rfl rfl);have nE:=ZdR (l:=l) (n:=1) (c:=1) (Zj hu2) (ZdP hB.E.1 rfl rfl);have nL:=ZdR (l:=l) (n:=2) (c:=2) (Zj t1) (ZdP hW rfl rfl);intro Post c ca gs sl t q h0 hLv hPa kk;refine ZlA (E1:=ZM) (lows:=[0,1]) (ups:=[0,1]) rfl (fun _=>rfl) rfl (Zdg BB).right hB.E rfl (by decide) (by decide) (fun x hx=>by obtain rfl:=Zwp.1 hx;simp) ⟨hW,rfl,Zdi (by decide) (by decide),fun m d p hm=>?_⟩ hW rfl (Zdi (by decide) (by decide)) (fun m d p hm=>?_) ?_ ?_ nA nE nL nL h h0 hLv hPa (fun hv=>kk (hv.trans (show ZbK ZY.length (ZL BB) [0,1] [0,1] 1000=_ from Zss BB)));·have e:solvedL ZY.length (exs (ZL BB)) [0,1]=_:=ZlW BB;rw[e]at hm;cases hm;exact⟨rfl,Zdi (by decide) (by decide)⟩
 ·have e:=Zsr BB;have hm':solvedL 2 (exs (ZL BB)) (Zaf [0,1])=some (m,d,p):=hm;rw[hm']at e;cases e;exact⟨rfl,Zdi (by decide) (by decide)⟩
 ·unfold ZcK;have e:Zar ZY.length (ZL BB) [0,1]=_:=ZlZ BB;rw[e];intro _;exact⟨by decide,by decide⟩
 ·unfold ZcK;have e:Zar ZY.length (ZL BB) (Zaf [0,1])=_:=Zl0 BB;rw[e];intro _;exact⟨by decide,by decide⟩
end
end Go.Proofs
namespace Go.Proofs
open Tryz
open Go.RowKit Go.Twin Go.Conc
variable {w:World}
attribute [local go_sem] Oper.semAt_some ZcS ZcT ZcU Zcj ZcV ZcW
theorem Zgu{P:Program} {fn:Func} {x:Code} {R:Value->World->Prop} {a:Act} {post:Ending->World->Prop} (h:x.wp P (bodyPost P fn post) a w)(hR:∀e w,post e w->∃v,e=.returned v/\R v w):x.wp P (fun e a' w'=>(e=.ret∨e=.normal)/\a'.defers=[]/\∃v,(results fn a'.tmps).run P w'=.ok v w'/\R v w') a w:=wp_mono h fun e a' w' hb=>by cases e with|normal=>obtain⟨h1,v,h2,h3⟩:=hb;obtain⟨v',e,h4⟩:=hR _ _ h3;cases e;exact⟨.inr rfl,h1,_,h2,h4⟩|ret=>obtain⟨h1,v,h2,h3⟩:=hb;obtain⟨v',e,h4⟩:=hR _ _ h3;cases e;exact⟨.inl rfl,h1,_,h2,h4⟩|panic c=>obtain⟨v',e,h4⟩:=hR _ _ hb.2;cases e|outgrown=>obtain⟨v',e,h4⟩:=hR _ _ hb;cases e|exit id=>exact hb.elim|goto id=>exact hb.elim
theorem Zsu (A A2:Option Addr):Frame.enter prog 34 #[.agg #[.slice A 2 2,.slice A2 1 1],.int .i64 1] .normal=(Go.Conc.base 34).at ⟨Zfq A A2,[]⟩ [.code shBody]:=by rw[enter_at (fn:=Tryz.f34) (c:=Tryz.f34.body.getD .skip) _ func34 rfl];kernel_rfl
theorem Old.re{w':World} (h:Old w w')(t:Nat->Question->Nat)(d:Nat):Old w (w'.re t d):=⟨h.size,h.get⟩
theorem Zsv{Post:Value->World->Prop} {W l0:World} {OldB:Blk} {bs':List Frame} (hold:∀b x,OldB b x->(fun _:Nat=>False) b∨(b=x/\x<l0.heap.size/\l0.heap[x]?=W.heap[x]?/\ZM.sh=false/\ZM.junk=false)) {A A2 BB:Option Addr} {c:Frame} {cs:List Frame} {l:World} {B:Blk} (hs:Self ZK (fun _=>False) B l)(ha:AR ZK B #[.agg #[.slice A 2 2,.slice A2 1 1],.int .i64 1] #[.agg #[.slice A 2 2,.slice A2 1 1],.int .i64 1])(hB:BookAt l A 2 ZY A2 1 (ZL BB))(ho:Old l0 l)(k:∀l' B',Old l l'->B.le B'->Self ZK (fun _=>False) B' l'->LG ZM (StopG ZM Post W l0 OldB (fun _=>False) bs') (c.finish (.tuple #[.agg #[.int .i64 500,.int .i64 1000],.int .i64 0])) cs l'):LG ZM (StopG ZM Post W l0 OldB (fun _=>False) bs') (Frame.enter prog 34 #[.agg #[.slice A 2 2,.slice A2 1 1],.int .i64 1] .normal) (c::cs) l:=by
 have hS:Halts (StopG ZM Post W l0 OldB (fun _=>False) bs'):=Zdw;rw[Zsu];have ha0:AR ZK B (Zfq A A2) (Zfq A A2):=Zb (ha.append (AR.replicate 40 undefR)) (by kernel_rfl);rw[show shBody=.seq (codeHd shBody) shA from by kernel_rfl];refine Zaa hS ?_;refine ZbF (R:=fun a' w'=>(∃b2 b4,a'.tmps=Zgr A A2 b2 b4/\w'.heap[b2]?=some (.cells #[.slice A 2 2,.slice A2 1 1] 25 (0,0))/\w'.heap[b4]?=some (.cells #[.int .i64 0,.int .i64 0] 79 (0,0))/\l.heap.size<=b4)/\Old l w') ZR Za7 Zbc ZT hs ha0 rfl (by kernel_rfl) (fun v w t d h=>⟨h.1,h.2.size,h.2.get⟩) (fun t d=>Code.wp_mono (fun e a' w' h=>⟨h.1,h.2.1,h.2.2.1,(Ze h.2.2.2).size,(Ze h.2.2.2).get⟩) (Zsk A A2 _)) ?_;rintro⟨tm,df⟩ l1 B1 ⟨⟨b2,b4,e1,n2,n4,hb4⟩,ho1⟩ e2 hle1 hs1 ha1;cases e1;cases e2;have hB1:=hB.old ho1;rw[show shA=.seq (codeHd shA) shB from by kernel_rfl];refine Zaa hS ?_;refine ZbF (R:=fun a' w'=>(∃b19,a'.tmps=Zgs A A2 b2 b4 b19)/\Old l1 w') ZR Za7 Zbc ZT hs1 ha1 rfl (by kernel_rfl) (fun v w t d h=>⟨h.1,h.2.size,h.2.get⟩) (fun t d=>Code.wp_mono (fun e a' w' h=>⟨h.1,h.2.1,h.2.2.1,(Ze h.2.2.2).size,(Ze h.2.2.2).get⟩) (Zsl A A2 BB b2 b4 _ (hB1.old ((Old.refl l1).re t d)) n2)) ?_;rintro⟨tm,df⟩ l2 B2 ⟨⟨b19,e1⟩,ho2⟩ e2 hle2 hs2 ha2;cases e1;cases e2;have m2:=ho2.at n2;rw[show shB=.seq (codeHd shB) shC from by kernel_rfl];refine Zaa hS ?_;refine ZbF (R:=fun a' w'=>(∃b7,a'.tmps=Zgt A A2 b2 b4 b19 b7/\w'.heap[b7]?=some (.cells #[.int .i64 0,.int .i64 0] 3 (0,0))/\l2.heap.size<=b7)/\Old l2 w') ZR Za7 Zbc ZT hs2 ha2 rfl (by kernel_rfl) (fun v w t d h=>⟨h.1,h.2.size,h.2.get⟩) (fun t d=>Code.wp_mono (fun e a' w' h=>⟨h.1,h.2.1,h.2.2.1,(Ze h.2.2.2).size,(Ze h.2.2.2).get⟩) (Zsm A A2 b2 b4 b19 _ m2)) ?_;rintro⟨tm,df⟩ l3 B3 ⟨⟨b7,e1,n7,hb7⟩,ho3⟩ e2 hle3 hs3 ha3;cases e1;cases e2;rw[show shC=.seq (codeHd shC) shD from by kernel_rfl];refine Zaa hS ?_;refine ZbF (R:=fun a' w'=>(a'.tmps=ZlX A A2 b2 b4 b19 b7/\w'.heap[b7]?=some (.cells #[.int .i64 0,.int .i64 1] 3 (0,0))/\w'.heap.size=l3.heap.size/\∀b,b≠b7->w'.heap[b]?=l3.heap[b]?)) ZR Za7 Zbc ZT hs3 ha3 rfl (by kernel_rfl) (fun v w t d h=>h) (fun t d=>Code.wp_mono (fun e a' w' h=>h) (Zsp A A2 b2 b4 b19 b7 (l3.re t d) n7)) ?_;rintro⟨tm,df⟩ l4 B4 ⟨e1,n7',hsz4,hot4⟩ e2 hle4 hs ha;cases e1;cases e2;have ho4:Old l2 l4:=⟨by have:=ho3.size;omega,fun b hb=>(hot4 b (by omega)).trans (ho3.get b hb)⟩;have hle:=Blk.le_trans (Blk.le_trans (Blk.le_trans hle1 hle2) hle3) hle4;have hB4:=(hB1.old ho2).old ho4;have h2:=ho4.at m2;have h4:=ho4.at (ho2.at n4);have D2:=bk2 h2;rw[show shD=.seq (codeHd shD) shE from by kernel_rfl];refine Zaa hS ?_;simp only[codeHd,codeTl,shD,shC,shB,shA,shBody,Tryz.f34,Zxd];refine Za5 hS ?_;simp only[Zwy,Zv0,Zv3,Nat.reduceAdd,Zw9,List.range,List.range.loop];refine Zae hS ZT ZR hs (Zb ha (by kernel_rfl)) rfl rfl (by decide) (by kernel_rfl) (fun tt dd K k1 k2=>?_);simp only[show ZK.P=prog from rfl];go_simp;first|refine k1 _ _ ?_|refine k2 _ ?_
 clear k1 k2 K tt dd;intro B' hle' hs' ha';replace hle:=Blk.le_trans hle hle';clear hs ha hle';have hs:=hs';have ha:=ha';clear hs' ha';walk_nrm;refine Zae hS ZT ZR hs (Zb ha (by kernel_rfl)) rfl rfl (by decide) (by kernel_rfl) (fun tt dd K k1 k2=>?_);simp only[show ZK.P=prog from rfl];go_simp;first|refine k1 _ _ ?_|refine k2 _ ?_
 clear k1 k2 K tt dd;intro B' hle' hs' ha';replace hle:=Blk.le_trans hle hle';clear hs ha hle';have hs:=hs';have ha:=ha';clear hs' ha';walk_nrm;refine Zae hS ZT ZR hs (Zb ha (by kernel_rfl)) rfl rfl (by decide) (by kernel_rfl) (fun tt dd K k1 k2=>?_);simp only[show ZK.P=prog from rfl];go_simp;first|refine k1 _ _ ?_|refine k2 _ ?_
 clear k1 k2 K tt dd;intro B' hle' hs' ha';replace hle:=Blk.le_trans hle hle';clear hs ha hle';have hs:=hs';have ha:=ha';clear hs' ha';walk_nrm;have hoA:Old l l4:=ho1.trans (ho2.trans ho4);refine Zci (g:=69) (args:=#[.agg #[.slice A 2 2,.slice A2 1 1],.slice (some ⟨b7,0,none⟩) 2 2,.slice (some ⟨b7,0,none⟩) 2 2,.int .i64 1000]) hS rfl rfl (by decide) (by kernel_rfl) (fun w'=>by simp only[show ZM.P=prog from rfl];kernel_rfl) ?_;refine .stop _ _ _ (Zjq (R:=fun v=>v=.tuple #[.agg #[.int .i64 500,.int .i64 1000],.bool true]) Zhh hold (by simp) (fun c h=>by cases h) (ho.trans hoA).get (fun h hO=>Zst hB4 n7' h) (fun v hv=>by subst hv;kernel_rfl) fun v n hv=>?_);subst hv;rw[Frame.finish_at];have hs:=hs.pad n;have ha:=ha.set 36 (VR.closed 8 (.tuple #[.agg #[.int .i64 500,.int .i64 1000],.bool true]) (by kernel_rfl));have hoP:Old l4 (pad l4 n):=⟨by rw[Zb8];omega,fun b hb=>Zb9 l4 n hb⟩;obtain⟨l5,hl5⟩:∃l5,pad l4 n=l5:=⟨_,rfl⟩;rw[hl5]at hs hoP |-;walk_nrm;refine Zae hS ZT ZR hs (Zb ha (by kernel_rfl)) rfl rfl (by decide) (by kernel_rfl) (fun tt dd K k1 k2=>?_);simp only[show ZK.P=prog from rfl];go_simp;first|refine k1 _ _ ?_|refine k2 _ ?_
 clear k1 k2 K tt dd;intro B' hle' hs' ha';replace hle:=Blk.le_trans hle hle';clear hs ha hle';have hs:=hs';have ha:=ha';clear hs' ha';walk_nrm;refine Zae hS ZT ZR hs (Zb ha (by kernel_rfl)) rfl rfl (by decide) (by kernel_rfl) (fun tt dd K k1 k2=>?_);simp only[show ZK.P=prog from rfl];go_simp;first|refine k1 _ _ ?_|refine k2 _ ?_
 clear k1 k2 K tt dd;intro B' hle' hs' ha';replace hle:=Blk.le_trans hle hle';clear hs ha hle';have hs:=hs';have ha:=ha';clear hs' ha';walk_nrm;refine Zae hS ZT ZR hs (Zb ha (by kernel_rfl)) rfl rfl (by decide) (by kernel_rfl) (fun tt dd K k1 k2=>?_);simp only[show ZK.P=prog from rfl];go_simp;first|refine k1 _ _ ?_|refine k2 _ ?_
 clear k1 k2 K tt dd;intro B' hle' hs' ha';replace hle:=Blk.le_trans hle hle';clear hs ha hle';have hs:=hs';have ha:=ha';clear hs' ha';walk_nrm;refine Zae hS ZT ZR hs (Zb ha (by kernel_rfl)) rfl rfl (by decide) (by kernel_rfl) (fun tt dd K k1 k2=>?_);simp only[show ZK.P=prog from rfl];go_simp;first|refine k1 _ _ ?_|refine k2 _ ?_
 clear k1 k2 K tt dd;intro B' hle' hs' ha';replace hle:=Blk.le_trans hle hle';clear hs ha hle';have hs:=hs';have ha:=ha';clear hs' ha';walk_nrm;refine Zae hS ZT ZR hs (Zb ha (by kernel_rfl)) rfl rfl (by decide) (by kernel_rfl) (fun tt dd K k1 k2=>?_);simp only[show ZK.P=prog from rfl];go_simp;first|refine k1 _ _ ?_|refine k2 _ ?_
 clear k1 k2 K tt dd;intro B' hle' hs' ha';replace hle:=Blk.le_trans hle hle';clear hs ha hle';have hs:=hs';have ha:=ha';clear hs' ha';walk_nrm;refine Zae hS ZT ZR hs (Zb ha (by kernel_rfl)) rfl rfl (by decide) (by kernel_rfl) (fun tt dd K k1 k2=>?_);simp only[show ZK.P=prog from rfl];go_simp;first|refine k1 _ _ ?_|refine k2 _ ?_
 clear k1 k2 K tt dd;intro B' hle' hs' ha';replace hle:=Blk.le_trans hle hle';clear hs ha hle';have hs:=hs';have ha:=ha';clear hs' ha';walk_nrm;refine Za6 hS ?_;obtain⟨l6,hl6⟩:∃l6,l5.alloc (.cells #[.int .i64 500,.int .i64 1000] 79 (0,0))=l6:=⟨_,rfl⟩;have n8:l6.heap[l5.heap.size]?=some (.cells #[.int .i64 500,.int .i64 1000] 79 (0,0)):=by rw[<-hl6];(repeat (first|assumption|(refine Zz _ _ ?_;(simp;done))|refine ZB ?_|refine Zy ?_ _|refine ZA ?_ (by simp<;>omega) _))
 have ho6:Old l5 l6:=by rw[<-hl6];exact Zp (by go_grown:Below l5.heap.size l5 _)
 rw[hl6]at hs |-;clear hl6;have h4':=ho6.at (hoP.at h4);refine Zjx (fn:=Tryz.f34) (x:=shE) (R:=fun v w=>v=.tuple #[.agg #[.int .i64 500,.int .i64 1000],.int .i64 0]/\l6.heap.size<=w.heap.size/\∀b,b<l6.heap.size->b≠b4->w.heap[b]?=l6.heap[b]?) ZR Za7 Zbc ZT hs (Zb ha (by kernel_rfl)) rfl (by kernel_rfl) func34 (fun v w t d h=>h) (fun t d=>Zgu (Zsq A A2 b2 b4 b19 b7 l5.heap.size (l6.re t d) h4' n8) fun e w h=>⟨_,h.1,rfl,h.2⟩) ?_;rintro v l7 B7 ⟨rfl,hsz,hot⟩ hle7 hs7 hv;have z1:=hoA.size;have z2:=hoP.size;have z3:=ho6.size;refine k l7 B7 ⟨by omega,fun b hb=>?_⟩ (Blk.le_trans hle hle7) hs7;exact(hot b (by omega) (by omega)).trans ((ho6.get b (by omega)).trans ((hoP.get b (by omega)).trans (hoA.get b hb)))
variable {B:Blk}
attribute [local go_sem] Oper.semAt_some ZcS ZcT ZcU Zcj ZcV ZcW
def tmps3(A A2:Option Addr)(b14 p1:Nat)(C C2 X:Option Addr)(x:Nat)(Y:Option Addr)(y p3:Nat)(D D2:Option Addr)(p5:Nat):Array Value:=#[.bool false,.pointer (some ⟨p1,0,none⟩),.int .i64 0,.pointer (some ⟨p3,0,none⟩),.int .i64 0,.pointer (some ⟨p5,0,none⟩),.int .i64 0,undef,undef,undef,undef,.tuple #[.agg #[.int .i64 30,.int .i64 1],.int .i64 0],.agg #[.slice A 2 2,.slice A2 1 1],.agg #[.int .i64 0,.int .i64 0],.slice (some ⟨b14,0,none⟩) 1 1,.agg #[.int .i64 1,.int .i64 10,.slice (some ⟨b14,0,none⟩) 1 1],.tuple #[.agg #[.int .i64 30,.int .i64 1],.int .i64 0],.agg #[.int .i64 30,.int .i64 1],.int .i64 0,.tuple #[ZbN X x Y y,.int .i64 0],.agg #[.slice C 2 2,.slice C2 1 1],.agg #[.int .i64 1,.int .i64 50],.tuple #[ZbN X x Y y,.int .i64 0],ZbN X x Y y,.int .i64 0,.tuple #[.agg #[.int .i64 500,.int .i64 1000],.int .i64 0],.agg #[.slice D 2 2,.slice D2 1 1],.tuple #[.agg #[.int .i64 500,.int .i64 1000],.int .i64 0],.agg #[.int .i64 500,.int .i64 1000],.int .i64 0,zu,zu,zu,zu,zu,zu,zu,zu,zu,zu,zu,zu,zu,zu,zu,zu,zu,zu,zu,zu,zu,zu,zu,zu,zu,zu,zu,zu,zu,zu,zu,zu,zu,zu,zu,zu,zu,zu,zu,zu,zu,zu,zu,zu,zu,zu,zu,zu,zu,zu,zu,zu,zu,zu]
theorem Zq{E:Env} {xs:Array Value} (h:AR E B xs xs)(i:Nat) {v:Value} (e:xs.getD i undef=v):VR E B v v:=e▸h.getD i undefR
theorem Zl1(l:World)(t:Nat->Question->Nat)(d:Nat):Calls ZK.P 32 #[] (l.re t d) fun e w=>∃v,e=.returned v/\((∃A A2 B,v=.agg #[.slice A 2 2,.slice A2 1 1]/\BookAt w A 2 ZY A2 1 (ZL B))/\Old l w):=(Zgp (l.re t d)).mono fun e w h=>by obtain⟨⟨A,A2,B,rfl,hB,_⟩,hb⟩:=h;exact⟨_,rfl,⟨A,A2,B,rfl,hB⟩,Ze hb⟩
theorem Zl2(l:World)(v:Value)(w:World)(t:Nat->Question->Nat)(d:Nat)(h:(∃A A2 B,v=.agg #[.slice A 2 2,.slice A2 1 1]/\BookAt w A 2 ZY A2 1 (ZL B))/\Old l w):(∃A A2 B,v=.agg #[.slice A 2 2,.slice A2 1 1]/\BookAt (w.re t d) A 2 ZY A2 1 (ZL B))/\Old l (w.re t d):=by obtain⟨⟨A,A2,B,e,hB⟩,ho⟩:=h;exact⟨⟨A,A2,B,e,hB.old ((Old.refl w).re t d)⟩,ho.re t d⟩
theorem Zsw{Post:Value->World->Prop} {W l0:World} {OldB:Blk} {bs':List Frame} (hold:∀b x,OldB b x->(fun _:Nat=>False) b∨(b=x/\x<l0.heap.size/\l0.heap[x]?=W.heap[x]?/\ZM.sh=false/\ZM.junk=false)) {A A2:Option Addr} {b14 p1:Nat} {C C2 X:Option Addr} {x:Nat} {Y:Option Addr} {y p3:Nat} {cs:List Frame} (hcs:cs≠[]) {l:World} (hs:Self ZK (fun _=>False) B l) (ha:AR ZK B (tmps2 A A2 b14 p1 C C2 X x Y y p3) (tmps2 A A2 b14 p1 C C2 X x Y y p3)) (ho:Old l0 l)(k:∀D D2 p5 l' B',B.le B'->Self ZK (fun _=>False) B' l'->AR ZK B' (tmps3 A A2 b14 p1 C C2 X x Y y p3 D D2 p5) (tmps3 A A2 b14 p1 C C2 X x Y y p3 D D2 p5)->l'.heap[p5]?=some (.cells #[.int .i64 500,.int .i64 1000] 79 (0,0))->Old l l'->LG ZM (StopG ZM Post W l0 OldB (fun _=>False) bs') ((Go.Conc.base 7).at ⟨tmps3 A A2 b14 p1 C C2 X x Y y p3 D D2 p5,[]⟩ [.code aw4]) cs l'):LG ZM (StopG ZM Post W l0 OldB (fun _=>False) bs') ((Go.Conc.base 7).at ⟨tmps2 A A2 b14 p1 C C2 X x Y y p3,[]⟩ [.code aw3]) cs l:=by
 have hS:Halts (StopG ZM Post W l0 OldB (fun _=>False) bs'):=Zdw;have hle:B.le B:=Blk.le_refl _;rw[show aw3=.seq (codeHd aw3) aw4 from by kernel_rfl];refine Zaa hS ?_;simp only[codeHd,codeTl,aw3,aw2,aw1,awBody,Tryz.f7,Zxd,tmps2,ZbN];refine Za5 hS ?_;simp only[Zwy,Zv0,Zv3,Nat.reduceAdd,Zw9,List.range,List.range.loop];refine Zjw (g:=32) (args:=#[]) hS ZR Za7 Zbc ZT hs (Zb ha (by kernel_rfl)) rfl rfl (by decide) (by kernel_rfl) (fun w'=>by simp only[show ZK.P=prog from rfl];kernel_rfl) (by kernel_rfl) (AR.empty) (Zl2 l) (Zl1 l) ?_;rintro v l1 B1 ⟨⟨D,D2,BB,rfl,hB1⟩,ho1⟩ hle1 hs1 ha1;clear hs ha;walk_nrm;refine Zci (g:=34) (args:=#[.agg #[.slice D 2 2,.slice D2 1 1],.int .i64 1]) hS rfl rfl (by decide) (by kernel_rfl) (fun w'=>by simp only[show ZM.P=prog from rfl];kernel_rfl) ?_;refine Zsv hold hs1 (Zb (((AR.replicate 2 undefR).set 0 (Zq ha1 26 (v:=.agg #[.slice D 2 2,.slice D2 1 1]) (by kernel_rfl))).set 1 (.int .i64 1)) (by kernel_rfl)) hB1 (ho.trans ho1) fun l2 B2 ho2 hle2 hs=>?_;have ha:=(ha1.mono hle2).set 27 (VR.closed 8 (.tuple #[.agg #[.int .i64 500,.int .i64 1000],.int .i64 0]) (by kernel_rfl));replace hle:=Blk.le_trans hle1 hle2;rw[Frame.finish_at];clear ha1;walk_nrm;refine Zae hS ZT ZR hs (Zb ha (by kernel_rfl)) rfl rfl (by decide) (by kernel_rfl) (fun tt dd K k1 k2=>?_);simp only[show ZK.P=prog from rfl];go_simp;first|refine k1 _ _ ?_|refine k2 _ ?_
 clear k1 k2 K tt dd;intro B' hle' hs' ha';replace hle:=Blk.le_trans hle hle';clear hs ha hle';have hs:=hs';have ha:=ha';clear hs' ha';walk_nrm;refine Zae hS ZT ZR hs (Zb ha (by kernel_rfl)) rfl rfl (by decide) (by kernel_rfl) (fun tt dd K k1 k2=>?_);simp only[show ZK.P=prog from rfl];go_simp;first|refine k1 _ _ ?_|refine k2 _ ?_
 clear k1 k2 K tt dd;intro B' hle' hs' ha';replace hle:=Blk.le_trans hle hle';clear hs ha hle';have hs:=hs';have ha:=ha';clear hs' ha';walk_nrm;refine Zae hS ZT ZR hs (Zb ha (by kernel_rfl)) rfl rfl (by decide) (by kernel_rfl) (fun tt dd K k1 k2=>?_);simp only[show ZK.P=prog from rfl];go_simp;first|refine k1 _ _ ?_|refine k2 _ ?_
 clear k1 k2 K tt dd;intro B' hle' hs' ha';replace hle:=Blk.le_trans hle hle';clear hs ha hle';have hs:=hs';have ha:=ha';clear hs' ha';walk_nrm;refine Zae hS ZT ZR hs (Zb ha (by kernel_rfl)) rfl rfl (by decide) (by kernel_rfl) (fun tt dd K k1 k2=>?_);simp only[show ZK.P=prog from rfl];go_simp;first|refine k1 _ _ ?_|refine k2 _ ?_
 clear k1 k2 K tt dd;intro B' hle' hs' ha';replace hle:=Blk.le_trans hle hle';clear hs ha hle';have hs:=hs';have ha:=ha';clear hs' ha';walk_nrm;refine Zae hS ZT ZR hs (Zb ha (by kernel_rfl)) rfl rfl (by decide) (by kernel_rfl) (fun tt dd K k1 k2=>?_);simp only[show ZK.P=prog from rfl];go_simp;first|refine k1 _ _ ?_|refine k2 _ ?_
 clear k1 k2 K tt dd;intro B' hle' hs' ha';replace hle:=Blk.le_trans hle hle';clear hs ha hle';have hs:=hs';have ha:=ha';clear hs' ha';walk_nrm;refine Zae hS ZT ZR hs (Zb ha (by kernel_rfl)) rfl rfl (by decide) (by kernel_rfl) (fun tt dd K k1 k2=>?_);simp only[show ZK.P=prog from rfl];go_simp;first|refine k1 _ _ ?_|refine k2 _ ?_
 clear k1 k2 K tt dd;intro B' hle' hs' ha';replace hle:=Blk.le_trans hle hle';clear hs ha hle';have hs:=hs';have ha:=ha';clear hs' ha';walk_nrm;refine Za6 hS ?_;have ho6:Old l2 (l2.alloc (.cells #[.int .i64 500,.int .i64 1000] 79 (0,0))):=Zp (by go_grown:Below l2.heap.size l2 _);refine k D D2 l2.heap.size _ _ hle hs (Zb ha (by kernel_rfl)) (by(repeat (first|assumption|(refine Zz _ _ ?_;(simp;done))|refine ZB ?_|refine Zy ?_ _|refine ZA ?_ (by simp<;>omega) _))) (ho1.trans (ho2.trans ho6))
end Go.Proofs
namespace Go.Proofs
open Go.RowKit Go.Twin Go.Conc
variable {w:World}
theorem Zl3(hg:GlobOk w):∀b x,awB b x->(fun _:Nat=>False) b∨(b=x/\x<(Z2 w).heap.size/\(Z2 w).heap[x]?=w.heap[x]?/\ZM.sh=false/\ZM.junk=false):=fun b x hb=>by obtain⟨rfl,hb⟩:=hb;obtain⟨cc,T,f,h1,_⟩:=hg.ints b hb;refine .inr ⟨rfl,?_,Zes w (Zet hb).1 (Zet hb).2,rfl,rfl⟩;rw[ZcL];exact(Zuo.1 h1).1
theorem Zsx{Post:Value->World->Prop} {cs:List Frame} {bs':List Frame} (hcs:cs≠[])(hg:GlobOk w)(k:∀A A2 b14 p1 C C2 X x Y y p3 D D2 p5 l' B',awB.le B'->Self ZK (fun _=>False) B' l'->AR ZK B' (tmps3 A A2 b14 p1 C C2 X x Y y p3 D D2 p5) (tmps3 A A2 b14 p1 C C2 X x Y y p3 D D2 p5)->l'.heap[p1]?=some (.cells #[.int .i64 30,.int .i64 1] 46 (0,0))->l'.heap[p3]?=some (Zdh X x Y y)->l'.heap[p5]?=some (.cells #[.int .i64 500,.int .i64 1000] 79 (0,0))->Old (Z2 w) l'->LG ZM (StopG ZM Post w (Z2 w) awB (fun _=>False) bs') ((Go.Conc.base 7).at ⟨tmps3 A A2 b14 p1 C C2 X x Y y p3 D D2 p5,[]⟩ [.code aw4]) cs l'):LG ZM (StopG ZM Post w (Z2 w) awB (fun _=>False) bs') (Frame.enter Tryz.prog 7 #[] .normal) cs (Z2 w):=by rw[ZlC];refine Zsj Zdw hg fun A A2 b14 p1 C C2 X x Y y p3 l1 B1 hle1 hs1 ha1 n1 n3 ho1=>?_;exact Zsw (Zl3 hg) hcs hs1 ha1 ho1 fun D D2 p5 l2 B2 hle2 hs2 ha2 n5 ho2=>k A A2 b14 p1 C C2 X x Y y p3 D D2 p5 l2 B2 (Blk.le_trans hle1 hle2) hs2 ha2 (ho2.at n1) (ho2.at n3) n5 (ho1.trans ho2)
end Go.Proofs
namespace Go.Proofs
open Tryz
open Go.RowKit
theorem Zsy{l:List UInt8} (h:Zah l=true):∀c∈l,c≠32/\c≠10:=fun c hc=>by
 unfold Zah Zcz at h;simp only[ZuM,Zve,Zwo]at h;obtain⟨i,hi⟩:=ZvQ hc;have h1:=h.2 i (ZvO.1 hi).1;rw[ZvG,hi]at h1;simp only[Zxd]at h1;constructor;·rintro rfl;revert h1;simp[Zbz,ZeU]
 ·rintro rfl;revert h1;simp[Zbz,ZeU]
def Zcf(k ag v den lev:Int)(W:List Int):List Int:=if k=1 then ag::v::den::lev::W else v::den::lev::W
theorem Zit(nm:List UInt8)(k ag v den lev:Int)(W:List Int):ZbM nm k ag v den lev W=nm::(if k=1 then Zgo else Zgn)::(Zcf k ag v den lev W).map Lib.itoa:=by unfold ZbM Zcf;split<;>simp
theorem Zsz:((bs Zgn).toList==[109,101,97,110])=true/\((bs Zgn).toList==[115,104,97,114,101])=false/\((bs Zgo).toList==[109,101,97,110])=false/\((bs Zgo).toList==[115,104,97,114,101])=true:=by rw[ByteArray.toList_eq,ByteArray.toList_eq,Zeu,Zeu];decide
theorem ZsA(k ag v den lev:Int)(W:List Int):3<=(Zcf k ag v den lev W).length/\(Zcf k ag v den lev W).length=W.length+(if k=1 then 4 else 3):=by unfold Zcf;split<;>simp
theorem ZsB{nm:List UInt8} {k ag v den lev:Int} {W:List Int} (hn:Zah nm=true):cutL (Lib.join (ZbM nm k ag v den lev W) [32])=ZbM nm k ag v den lev W:=by
 refine ZlO _ (by rw[Zit];simp) fun x hx=>?_;rw[Zit]at hx;rcases Zwi.1 hx with rfl|hx;·exact fun c hc=>(Zsy hn c hc).1
 rcases Zwi.1 hx with rfl|hx;·split<;>decide
 ·obtain⟨n,-,rfl⟩:=Zwm.1 hx;exact fun c hc=>((ZrW n).2 c hc).1
section
variable {P:Program} {f:Operand->Value} {o:Oper} {t ty:TypeId} {p q:Operand} {b:Nat} {v0 v1 v2 u0 u1 u2 u3 u4 u5 u6:Value} {x:World}
theorem ZsC(ho:o.op=.store t p q)(h0:v0.oneCell'=true)(h1:v1.oneCell'=true)(h2:v2.oneCell'=true)(hsz:Sem.run P (sizeOf t) x=.ok 3 x)(hp:f p=.pointer (some ⟨b,4,none⟩))(hq:f q=.agg #[v0,v1,v2])(hz:x.heap[b]?=some (.cells #[u0,u1,u2,u3,u4,u5,u6] ty (0,0))):(execOp f o).run P x=.ok .skip (((x.setCell ⟨b,4,none⟩ v0).setCell ⟨b,5,none⟩ v1).setCell ⟨b,6,none⟩ v2):=by have Cz:=bk7 hz;unfold execOp;rw[ho];simp[go_sem,hp,hq,Cz,hsz,run_store _ _ _ v0 _ h0,run_store _ _ _ v1 _ h1,run_store _ _ _ v2 _ h2]
theorem ZsD{n:Int} (ho:o.op=.store t p q)(hsz:Sem.run P (sizeOf t) x=.ok 1 x)(hp:f p=.pointer (some ⟨b,3,none⟩))(hq:f q=.int .i64 n)(hz:x.heap[b]?=some (.cells #[u0,u1,u2,u3,u4,u5,u6] ty (0,0))):(execOp f o).run P x=.ok .skip (x.setCell ⟨b,3,none⟩ (.int .i64 n)):=by have Cz:=bk7 hz;unfold execOp;rw[ho];simp[go_sem,hp,hq,Cz,hsz]
end
theorem ZsE(nm:List UInt8)(v den lev:Int)(W:List Int)(wn:Nat)(w:World)(hnm:nm.length<=20)(hnb:Zah nm=true)(hR:NumsR 0 v den lev W)(hwn:W.length=wn)(ht:Tabs w):Calls prog 36 #[.string (bs (Lib.join (ZbM nm 0 0 v den lev W) [32]))] w fun e w'=>(∃A c,e=.returned (.tuple #[.agg #[.string (bs nm),.int .i64 0,.int .i64 0,.int .i64 v,.int .i64 den,.int .i64 lev,.slice A wn c],.int .i64 0])/\At 1 Zc w' A W)/\Below w.heap.size w w':=by
 have hlen:=Zr9 (k:=0) hnm hR;have hSp:=Zvc fun W' (hb:Below w.heap.size w W')=>Zr1 (bs (Lib.join (ZbM nm 0 0 v den lev W) [32])) W' (by rw[Zgl];omega) (ht.below hb);simp only[Zeu,ZsB hnb]at hSp;obtain⟨hw1,hw2,-⟩:=ZlU (k:=0) hnm hR;have hnN:∀x∈Zcf 0 0 v den lev W,x.natAbs<10^(12+1):=fun x hx=>by
  have h1:=hR.ag;have h2:=hR.v;have h3:=hR.den;have h4:=hR.lev;unfold Zcf at hx;split at hx
  ·simp only[Zwi]at hx;rcases hx with rfl|rfl|rfl|rfl|hx;·omega
   ·omega
   ·omega
   ·omega
   ·have:=hR.wt x hx;omega
  ·simp only[Zwi]at hx;rcases hx with rfl|rfl|rfl|hx;·omega
   ·omega
   ·omega
   ·have:=hR.wt x hx;omega
 have hNu:=Zvc fun(A:Option Addr)(m c:Nat)(W':World)(hb:Below w.heap.size w W')(hA:At 1 Sc W' A ((Zcf 0 0 v den lev W).map Lib.itoa))(hm:(Zcf 0 0 v den lev W).length=m)(h9:m<=900)=>Zr5 A (Zcf 0 0 v den lev W) 12 m c W' (by decide) hnN hA hm h9 (ht.below hb);obtain⟨S,hS⟩:∃S,bs (Lib.join (ZbM nm 0 0 v den lev W) [32])=S:=⟨_,rfl⟩;rw[hS]at hSp |-;rw[Zit]at hSp;have e13:((12+1:Nat):Int)=13:=rfl;simp only[e13]at hNu;have hR':=Zvc hR;have hnb':=Zvc hnb;have hs7:∀x,(sizeOf 32).run prog x=.ok 7 x:=fun x=>by kernel_rfl
 have ha7:∀x,(isAgg 32).run prog x=.ok true x:=fun x=>by kernel_rfl
 have hv1:=Zvc fun W=>ZbG v 0 1000 W;have hv2:=Zvc fun W=>ZbG den 1 1000000000000 W;have hv3:=Zvc fun W=>ZhM lev 1000000000000 W (by decide);rw[ZaH.2 hR.v]at hv1;rw[ZaH.2 hR.den]at hv2;rw[show Zbf lev 1000000000000=true from ZaH.2 (by have:=hR.lev;omega)]at hv3;have hNm:=Zvc fun W=>ZeV (bs nm) W (by rw[Zgl];omega);rw[Zeu,hnb]at hNm;have hAs:=Zvc fun W=>ZhO 0 0 W;rw[ZkC.2 ⟨.inl rfl,hR.ag.1,hR.ag.2⟩]at hAs;clear hlen hw1 hw2 hnN hS ht hR hnb;obtain⟨q1,q2,q3,q4⟩:=Zsz;obtain⟨l1,l2⟩:=ZsA 0 0 v den lev W;have hW8:=hR'.out.n;obtain⟨N,hN⟩:∃N,Zcf 0 0 v den lev W=N:=⟨_,rfl⟩;have hN':=Zvc hN;rw[hN]at hSp hNu l1 l2;obtain⟨m,hm⟩:∃m,N.length=m:=⟨_,rfl⟩;have hm':=Zvc hm;obtain⟨n,hn⟩:∃n,m+1+1=n:=⟨_,rfl⟩;simp only[Zv0,Zv2,hm,hn]at hSp hNu;have l2':=Zvc l2;have hm3:3<=m:=by omega
 have hm12:m<=12:=by split at l2<;>omega
 have hnI:¬(n:Int)<2:=by omega
 have hn0:(0:Int)<(n:Int):=by omega
 have hn1:(1:Int)<(n:Int):=by omega
 have hn2:(2:Int)<=(n:Int):=by omega
 have hmn:n-2=m:=by omega
 have hmI:¬(m:Int)<3:=by omega
 have hmI0:(0:Int)<(m:Int):=by omega
 have hmI1:(1:Int)<(m:Int):=by omega
 have hmI2:(2:Int)<(m:Int):=by omega
 clear hN hm hn l1 l2 hW8 e13;simp only[show ¬((0:Int)=1)by decide,if_false]at hSp;go_enter func36,ntmps36;go_wp2_with (first|(go_at_call 72;refine(hSp.out _ (by go_grown)).mono ?_;rintro e w2 ⟨⟨A,c,rfl,hAt,hnc⟩,hb2⟩;(obtain⟨b,o,rfl,hbs,hc0⟩:=hAt 0 _ rfl);(obtain⟨b',o',e1,-,hc1⟩:=hAt 1 _ rfl);cases e1;(have y0:=hc0 0 _ rfl);(have y1:=hc1 0 _ rfl);(have hAt2:=Zvc (hAt.tail1 2));simp only[ZwK,Zxb,Nat.one_mul]at y0 y1;(have M0:=Zw hb2 (Zz w (.cells #[.string (ByteArray.mk #[]),.int .i64 0,.int .i64 0,.int .i64 0,.int .i64 0,.int .i64 0,.slice none 0 0] 32 (0,0)) rfl));(have hs2:=ZI M0);(have hbw2:=via (ZC w (.cells #[.string (ByteArray.mk #[]),.int .i64 0,.int .i64 0,.int .i64 0,.int .i64 0,.int .i64 0,.slice none 0 0] 32 (0,0))) hb2);clear hAt hc0 hc1 hb2)|(go_at_call 73;refine(hNu.out _ m _ _ hbw2 (by have:=hAt2.out;simpa using this) rfl (by omega)).mono ?_;rintro e w3 ⟨⟨A2,c2,rfl,hO3⟩,hb3⟩;(have z0:=Zde y0 hb3);(have z1:=Zde y1 hb3);(have M1:=Zw hb3 M0);(have hbw3:=via hbw2 hb3);(have hO3':=Zvc hO3);(have hbs3:=ZwS hbs hb3.size);clear hO3 hb3 y0 y1 M0)|(refine ZaV (by with_reducible rfl) (.tmp 7) (.tmp 40) 32 (by with_reducible rfl) w3.heap.size [.string (bs nm),.int .i64 0,.int .i64 0,.int .i64 0,.int .i64 0,.int .i64 0,.slice none 0 0] [.string (ByteArray.mk #[]),.int .i64 0,.int .i64 0,.int .i64 0,.int .i64 0,.int .i64 0,.slice none 0 0] 32 ?sp ?sq (hs7 _) ?sb rfl (by simp[Value.oneCell']) ?_));case sp=>rfl
 case sq=>rfl
 case sb=>exact Zz _ _ rfl
 intro w4 hblk4 hg4 hsz4;have hs03:=ZI M1;have hb34:Below w3.heap.size w3 w4:=ZW (ZC _ _) hg4 fun b e=>by cases e;exact ZwO _
 have x0:=Zde z0 hb34;have x1:=Zde z1 hb34;have M2:=Zw hb34 M1;have hb4:=via hbw3 hb34;have hL:=Zvc (ZaJ hO3'.out);have hL4:=Zvc ((ZaJ hO3'.out).below hb34);have hNe:N=v::den::lev::W:=by rw[<-hN'.out];rfl
 subst hNe;have hmc2:m<=c2:=Zig hO3'.out;have hmw:m-3=wn:=by have:=hm'.out;simp at this;omega
 obtain⟨B2,o2,rfl,hB3,c0⟩:=ZaF hL.out (k:=0) (by simp);obtain⟨_,_,ee,-,c1⟩:=ZaF hL.out (k:=1) (by simp);cases ee;obtain⟨_,_,ee,-,c2'⟩:=ZaF hL.out (k:=2) (by simp);cases ee;simp only[List.getD_cons_zero,ZvE,ZwK]at c0 c1 c2';have e0:=Zde c0 hb34;have e1:=Zde c1 hb34;have e2:=Zde c2' hb34;have hB2:=ZwS hB3 hb34.size;have hB2n:B2≠w3.heap.size:=by omega
 have hB2w:B2≠w.heap.size:=by have:=(hO3'.out.lt B2 rfl).1;omega
 clear c0 c1 c2';have F0:=bk7 M2;have F4:=bk7 hblk4;clear hg4 hsz4 hb34 M1 z0 z1 hbw2;have hbX:=hb4;have hblkX:=hblk4;have hTl:=Zvc (hL4.out.tail1 3);simp only[Zw0]at hTl;clear hb4 hblk4 hL4 hL;go_wp2;refine wp_region_any (by kernel_rfl) ?_;refine Zfd 15 _ rfl rfl (by kernel_rfl) (by kernel_rfl) (by kernel_rfl) (by kernel_rfl) ?_;simp only[ZwD,ZwF];apply Zr8 w 13 w3.heap.size (.cells #[.string (bs nm),.int .i64 0,.int .i64 0,.int .i64 0,.int .i64 0,.int .i64 0,.slice none 0 0] 32 (0,0)) (.cells #[.string (bs nm),.int .i64 0,.int .i64 0,.int .i64 v,.int .i64 0,.int .i64 0,.slice none 0 0] 32 (0,0));case hB=>kernel_rfl
 case hB'=>kernel_rfl
 case hS=>kernel_rfl
 case hN=>kernel_rfl
 case hkd=>kernel_rfl
 case hw=>exact hbX
 case hb=>exact hbw3.size
 case h4=>exact hblkX
 case hq=>
  intro u hu hgc;have hB2u:=ZwS hB2 hu.2.1;have G0:=(World.cell?_of_block (a:=⟨B2,o2,none⟩) (hu.2.2 B2 hB2 hB2n)).trans e0;have G1:=(World.cell?_of_block (a:=⟨B2,o2+1,none⟩) (hu.2.2 B2 hB2 hB2n)).trans e1;have G2:=(World.cell?_of_block (a:=⟨B2,o2+2,none⟩) (hu.2.2 B2 hB2 hB2n)).trans e2;simp only[mixL,yieldsC,Zvn,Zvq,Nat.reduceAdd,Nat.reduceBEq,Zw9,ZuW,ZuY,ZuR,ZuZ,ZuQ,if_true,if_false,ZuX,Nat.reduceEqDiff];repeat (go_big_quiet_step (fail))
  exact wpQuiet_nil rfl
 case hs4=>intro o ho x hx hz;simp only[ZvJ,ZvK,Zxi]at ho;subst ho;exact⟨_,ZsD rfl (by kernel_rfl) rfl rfl hz,(OnlyB.refl _ _).set _ _,ZH hz _ rfl⟩
 intro x hx hz;refine Zic (ZsC rfl rfl rfl rfl (by kernel_rfl) rfl rfl hz) ?_;obtain⟨A9,hA9⟩:∃A:Option Addr,(if c2=3 then some ⟨B2,o2,none⟩else some ⟨B2,o2+3,none⟩)=A:=⟨_,rfl⟩;obtain⟨X9,hX9⟩:∃X,((x.setCell ⟨w3.heap.size,4,none⟩ (.int .i64 den)).setCell ⟨w3.heap.size,5,none⟩ (.int .i64 lev)).setCell ⟨w3.heap.size,6,none⟩ (.slice A9 wn (c2-3))=X:=⟨_,rfl⟩;have hO9:OnlyB w3.heap.size x X9:=by rw[<-hX9];exact(((OnlyB.refl _ _).set _ _).set _ _).set _ _
 have Z9:X9.heap[w3.heap.size]?=some (.cells #[.string (bs nm),.int .i64 0,.int .i64 0,.int .i64 v,.int .i64 den,.int .i64 lev,.slice A9 wn (c2-3)] 32 (0,0)):=by rw[<-hX9];exact ZH (ZH (ZH hz _ rfl) _ rfl) _ rfl
 have hz9:x.heap.size=X9.heap.size:=by rw[<-hX9];simp
 simp only[hmw,hA9];rw[hX9];have hk9:∀k,k<w4.heap.size->k≠w3.heap.size->X9.heap[k]?=w4.heap[k]?:=fun k h1 h2=>(hO9.other k h2).trans (hx.2.2 k h1 h2);have hb9:Below w.heap.size w X9:=hx.1.trans (hO9.below _ hbw3.size);have M9:=(hk9 w.heap.size (ZI M2) (by omega)).trans M2;have hL9:=Zvc (show At 1 Zc X9 A9 W from by
  rw[<-hA9];split
  ·have h0:wn=0:=by omega
   rw[Zvw (hwn.trans h0)];exact fun k x hx=>by simp at hx
  ·exact Zie (hTl.out) (by have:=hx.2.1;omega) fun g e=>by cases e;exact hk9 _ hB2 hB2n);have F9:=bk7 Z9;have J0:=bk7 M9;clear hX9 hk9 hO9 hz9 hx hz hTl e0 e1 e2 hblkX M2;go_wp2_with (first
  |(go_at_call 42;first|(refine Calls.mono (by with_reducible exact hv1.out _) ?_;rintro e w' ⟨rfl,rfl⟩)|(refine Calls.mono (by with_reducible exact hv2.out _) ?_;rintro e w' ⟨rfl,rfl⟩))|(go_at_call 74;refine(hv3.out _).mono ?_;rintro e w' ⟨rfl,rfl⟩));go_loopw [8,105] (fun r i wr=>∃j:Nat,j<=wn/\r=.bool true/\i=.int .i64 j/\wr=X9)(fun _ i _=>wn-(intOf i).toNat);case atStart=>exact⟨0,Zxa _,rfl,rfl,rfl⟩
 case round=>
  obtain⟨j,hj,rfl,rfl,rfl⟩:=hrel;by_cases hlt:j<wn
  ·have hjI:(j:Int)<(wn:Int):=by omega
   obtain⟨b3,o3,rfl,hs3,c4⟩:=ZaF hL9.out (k:=j) (by rw[hwn];exact hlt);obtain⟨y,hy⟩:∃y,W.getD j 0=y:=⟨_,rfl⟩;have hyb:0<=y/\y<=1000000000000:=by rw[<-hy,ZvG,ZvL (by omega)];exact hR'.out.wt _ (ZvX _)
   rw[hy]at c4;have hvy:=Zvc fun W=>ZbG y 0 1000000000000 W;rw[ZaH.2 hyb]at hvy;go_wp2_with (go_at_call 42;refine(hvy.out _).mono ?_;rintro e w' ⟨rfl,rfl⟩);go_roundw;case rel=>exact⟨j+1,by omega,by first|rfl|trivial,by go_num,by first|rfl|trivial⟩
   case measure=>simp[intOf]<;>omega
  ·obtain rfl:wn=j:=by omega
   have hW8:=hR'.out.n;have hwn8:(wn:Int)<=8:=by omega
   have hwn8b:decide ((wn:Int)<=8)=true:=by simpa using hwn8
   go_wp2;refine Zav w 15 (by kernel_rfl) (by kernel_rfl) hb9 ?_;intro hgc hbx;simp only[ZwD,ZwF,Zvt,Zvu];repeat (go_big_quiet_step (first|(go_at_call 40;with_reducible exact Grew.call (hNm.out _))|(go_at_call 41;with_reducible exact Grew.call (hAs.out _))|(go_at_call 39;with_reducible exact Zd (Zbd _ _ _))))
   refine wpQuiet_nil ?_;intro wb hb_wb hw_wb hs_wb;clear hgc hbx;have Q9:=Zw hb_wb Z9;have P9:=Zw hb_wb M9;have hLb:=Zvc (hL9.out.below hb_wb);have hbb:=via hb9 hb_wb;clear Z9 M9 F9 J0;go_wp2_with (first
    |(go_at_call 37;refine(Zcb _ _ _ _ _).mono ?_;rintro e w' ⟨rfl,rfl⟩)|(refine Zeg (by with_reducible rfl) (.tmp 7) 32 (by with_reducible rfl) w3.heap.size [.string (bs nm),.int .i64 0,.int .i64 0,.int .i64 v,.int .i64 den,.int .i64 lev,.slice A9 wn (c2-3)] 32 ?lp (ha7 _) (hs7 _) ?lb ?_)|(refine ZaV (by with_reducible rfl) (.tmp 2) (.tmp 136) 32 (by with_reducible rfl) w.heap.size [.string (bs nm),.int .i64 0,.int .i64 0,.int .i64 v,.int .i64 den,.int .i64 lev,.slice A9 wn (c2-3)] [.string (ByteArray.mk #[]),.int .i64 0,.int .i64 0,.int .i64 0,.int .i64 0,.int .i64 0,.slice none 0 0] 32 ?sp2 ?sq2 (hs7 _) ?sb2 rfl (by simp[Value.oneCell']) ?_));case lp=>rfl
   case lb=>exact Zy Q9 _
   all_goals try (case sp2=>rfl)
   all_goals try (case sq2=>rfl)
   case sb2=>exact Zy P9 _
   intro w9 hblk9 hg9 hsz9;have hb9f:Below w.heap.size w w9:=ZW (via hbb (ZC _ _)) hg9 fun b e=>by have:=Zxh e;omega
   have hLf:=Zvc (Zid (hLb.out.below (ZC _ _)) hg9 fun g e=>by rw[<-hA9]at e;split at e<;>(cases e;intro h;exact hB2w (Zxh h)));go_wp2;refine bodyPost_ret (v:=.tuple #[.agg #[.string (bs nm),.int .i64 0,.int .i64 0,.int .i64 v,.int .i64 den,.int .i64 lev,.slice A9 wn (c2-3)],.int .i64 0]) ?_ rfl ⟨⟨A9,c2-3,rfl,hLf.out⟩,hb9f⟩;exact Zat (p:=2) (u:=3) (ad:=⟨w.heap.size,0,none⟩) (v:=.agg #[.string (bs nm),.int .i64 0,.int .i64 0,.int .i64 v,.int .i64 den,.int .i64 lev,.slice A9 wn (c2-3)]) rfl (by rfl) (Z5 (T:=32) (cs:=[.string (bs nm),.int .i64 0,.int .i64 0,.int .i64 v,.int .i64 den,.int .i64 lev,.slice A9 wn (c2-3)]) (ha7 _) (hs7 _) hblk9)
end Go.Proofs
namespace Go.Proofs
open Tryz
open Go.RowKit Go.Twin Go.Conc
def Zev:List UInt8:=[111,108,100,49]
theorem ZsF:NumsR 0 30 1 10 [20]:=⟨by decide,by decide,by decide,by decide,by decide,by decide⟩
theorem ZsG(B:Option Addr):Zep ZY (ZL B) (bs Zev) 0 0 30 1 10 [20]=0:=by
 have hx:exs (ZL B)=exs (ZL none):=rfl;refine Zrm (Zdg B) (by decide+kernel) (ZkC.2 (by decide)) (by decide) ?_ ?_ ?_;·exact Zga.1 (show Zbs 1 1 10 [20]=0 by decide+kernel)
 ·rw[hx];decide+kernel
 ·rw[hx];decide+kernel
theorem ZsH:bs (Lib.join (ZbM Zev 0 0 30 1 10 [20]) [32])=ByteArray.mk #[111,108,100,49,32,109,101,97,110,32,51,48,32,49,32,49,48,32,50,48]:=by
 have h:Lib.join (ZbM Zev 0 0 30 1 10 [20]) [32]=[111,108,100,49,32,109,101,97,110,32,51,48,32,49,32,49,48,32,50,48]:=by decide+kernel
 rw[h];rfl
def tmps4(A A2:Option Addr)(b14 p1:Nat)(C C2 X:Option Addr)(x:Nat)(Y:Option Addr)(y p3:Nat)(D D2:Option Addr)(p5:Nat)(F F2:Option Addr):Array Value:=#[.bool false,.pointer (some ⟨p1,0,none⟩),.int .i64 0,.pointer (some ⟨p3,0,none⟩),.int .i64 0,.pointer (some ⟨p5,0,none⟩),.int .i64 0,.int .i64 1,.int .i64 0,undef,undef,.tuple #[.agg #[.int .i64 30,.int .i64 1],.int .i64 0],.agg #[.slice A 2 2,.slice A2 1 1],.agg #[.int .i64 0,.int .i64 0],.slice (some ⟨b14,0,none⟩) 1 1,.agg #[.int .i64 1,.int .i64 10,.slice (some ⟨b14,0,none⟩) 1 1],.tuple #[.agg #[.int .i64 30,.int .i64 1],.int .i64 0],.agg #[.int .i64 30,.int .i64 1],.int .i64 0,.tuple #[ZbN X x Y y,.int .i64 0],.agg #[.slice C 2 2,.slice C2 1 1],.agg #[.int .i64 1,.int .i64 50],.tuple #[ZbN X x Y y,.int .i64 0],ZbN X x Y y,.int .i64 0,.tuple #[.agg #[.int .i64 500,.int .i64 1000],.int .i64 0],.agg #[.slice D 2 2,.slice D2 1 1],.tuple #[.agg #[.int .i64 500,.int .i64 1000],.int .i64 0],.agg #[.int .i64 500,.int .i64 1000],.int .i64 0,.tuple #[.int .i64 1,.int .i64 0],.agg #[.slice F 2 2,.slice F2 1 1],.agg #[.int .i64 4,.int .i64 5],.tuple #[.int .i64 1,.int .i64 0],.int .i64 1,.int .i64 0,zu,zu,zu,zu,zu,zu,zu,zu,zu,zu,zu,zu,zu,zu,zu,zu,zu,zu,zu,zu,zu,zu,zu,zu,zu,zu,zu,zu,zu,zu,zu,zu,zu,zu,zu,zu,zu,zu,zu,zu,zu,zu,zu,zu,zu,zu,zu,zu]
theorem ZsI(A A2:Option Addr)(b14 p1:Nat)(C C2 X:Option Addr)(x:Nat)(Y:Option Addr)(y p3:Nat)(D D2:Option Addr)(p5:Nat)(F F2:Option Addr)(w:World)(ht:Tabs w)(n1:w.heap[p1]?=some (.cells #[.int .i64 30,.int .i64 1] 46 (0,0)))(n3:w.heap[p3]?=some (Zdh X x Y y))(n5:w.heap[p5]?=some (.cells #[.int .i64 500,.int .i64 1000] 79 (0,0))):aw5.wp prog (bodyPost prog Tryz.f7 fun e w'=>e=.returned (.bool true)/\Below w.heap.size w w') ⟨tmps4 A A2 b14 p1 C C2 X x Y y p3 D D2 p5 F F2,[]⟩ w:=by
 simp only[codeHd,codeTl,aw5,aw4,aw3,aw2,aw1,awBody,Tryz.f7,Zxd,tmps4,ZbN];have hPa:=Zvc fun W (hb:Below w.heap.size w W)=>ZsE Zev 30 1 10 [20] 1 W (by decide) (by decide+kernel) ZsF rfl (ht.below hb);rw[ZsH]at hPa;have hOl:=Zvc fun W=>Zgp W;have hCk:=Zvc fun W A A2 B C c (hB:BookAt W A 2 ZY A2 1 (ZL B)) (hC:At 1 Zc W C [20])=>Zrb A A2 C 2 1 2 1 c 1 ZY (ZL B) (bs Zev) 0 0 30 1 10 [20] W hB (Zfp B) rfl rfl (by decide+kernel) hC rfl (by decide);have hs7:∀x,(sizeOf 32).run prog x=.ok 7 x:=fun x=>by kernel_rfl
 have Q1:=Zvc n1;have Q3:=Zvc n3;have Q5:=Zvc n5;clear ht n1 n3 n5;go_wp2_with (first|(go_at_call 36;refine(hPa.out _ (ZuK _ _)).mono ?_;rintro e w3 ⟨⟨G,c,rfl,hC⟩,hb3⟩;(have hC':=Zvc hC);clear hC));have hbw3:=hb3;refine Zba ?_;intro u0 hx;have X1:u0.heap[p1]?=some (.cells #[.int .i64 30,.int .i64 1] 46 (0,0)):=by rw[hx];exact Zy (Zw hbw3 Q1.out) _
 have X3:u0.heap[p3]?=some (Zdh X x Y y):=by rw[hx];exact Zy (Zw hbw3 Q3.out) _
 have X5:u0.heap[p5]?=some (.cells #[.int .i64 500,.int .i64 1000] 79 (0,0)):=by rw[hx];exact Zy (Zw hbw3 Q5.out) _
 have X9:u0.heap[w3.heap.size]?=some (.cells #[.string (bs Zev),.int .i64 0,.int .i64 0,.int .i64 30,.int .i64 1,.int .i64 10,.slice G 1 c] 32 (0,0)):=by rw[hx];exact Zz w3 _ rfl
 have hbx:Below w.heap.size w u0:=by rw[hx];exact via hbw3 (ZC _ _)
 have hCx:=Zvc (show At 1 Zc u0 G [20]by rw[hx];exact hC'.out.below (ZC _ _));clear hx hC' hb3 hbw3 Q1 Q3 Q5;unfold Zdh at X3;refine wp_region_any (by kernel_rfl) ?_;apply ZlD w (fun y=>Below u0.heap.size u0 y) [39,41] (fun j g=>if j=39 then .agg #[.slice g.a1 2 2,.slice g.a2 1 1]else .int .i64 0)
  (fun L g y=>L 39=true->∃B,BookAt y (g 39).a1 2 ZY (g 39).a2 1 (ZL B));case hB=>kernel_rfl
 case hB'=>intro g;kernel_rfl
 case hS=>kernel_rfl
 case hN=>kernel_rfl
 case hC0=>exact ZuK _ _
 case hCs=>exact fun y y' h hb=>h.trans (hb.mono h.size)
 case hCw=>exact fun y h=>via hbx h
 case h0=>intro L h h13;rw[h 39 (by simp)]at h13;cases h13
 case hst=>intro L L' g y y' h hJ hb h13;obtain⟨B,hB⟩:=hJ (by rw[<-h 39 (by simp)];exact h13);exact⟨B,hB.below hb⟩
 case hq=>
  have hEq:∀W,(binOp .eql 46 (.agg #[.int .i64 30,.int .i64 1]) (.agg #[.int .i64 30,.int .i64 1])).run prog W=.ok (.bool true) W:=fun W=>by kernel_rfl
  have hEq2:∀W,(binOp .eql 46 (.agg #[.int .i64 1,.int .i64 2]) (.agg #[.int .i64 1,.int .i64 2])).run prog W=.ok (.bool true) W:=fun W=>by kernel_rfl
  have hEq3:∀W,(binOp .eql 79 (.agg #[.int .i64 500,.int .i64 1000]) (.agg #[.int .i64 500,.int .i64 1000])).run prog W=.ok (.bool true) W:=fun W=>by kernel_rfl
  intro g u hu hgc hbx hbX;have D1:=bk2 (Zw hu X1);have D3:=bk7 (Zw hu X3);have D5:=bk2 (Zw hu X5);have D9:=bk7 (Zw hu X9);simp only[mixL,yieldsC,Zvn,Zvq,Nat.reduceAdd,Nat.reduceBEq,Zw9,ZuW,ZuY,ZuR,ZuZ,ZuQ,if_true,if_false,ZuX,Nat.reduceEqDiff];repeat (go_big_quiet_step (fail))
  exact wpQuiet_nil rfl
 case hind=>intro j hj;simp only[Zwi,Zwt,or_false]at hj;rcases hj with rfl|rfl<;>(intro g h;kernel_rfl)
 case hwa=>intro g j hj;simp only[Zwi,Zwt,or_false]at hj;rcases hj with rfl|rfl<;>(intro o ho;simp only[List.getElem?_toArray,ZvJ,ZvK,Zxi]at ho;subst ho;kernel_rfl)
 case hsp=>
  intro j hj o ho L g y hJ hC hb0 hL hafter hclo;simp only[Zwi,Zwt,or_false]at hj;rcases hj with rfl|rfl;·simp only[ZvJ,ZvK,Zxi]at ho;subst ho;refine ZaU (by kernel_rfl) ((hOl.out y).mono ?_);rintro e y' ⟨⟨A5,A6,B5,rfl,hB5,-⟩,hb⟩;refine⟨_,rfl,hC.trans (hb.mono hC.size),.inr ⟨{Gh.zero with a1:=A5,a2:=A6},rfl,fun _=>?_⟩⟩;rw[Zad];exact⟨B5,hB5⟩
  ·simp only[ZvJ,ZvK,Zxi]at ho;subst ho;have h13:L 39=true:=hafter ⟨39,.data⟩ (by simp) rfl;obtain⟨B5,hB5⟩:=hJ h13;refine ZaU (by kernel_rfl) ((hCk.out y _ _ B5 G c hB5 (hCx.out.below hC)).mono ?_);rw[ZsG];rintro e y' ⟨rfl,hb⟩;refine⟨_,rfl,hC.trans (hb.mono hC.size),.inr ⟨Gh.zero,rfl,fun _=>?_⟩⟩;rw[upd_ne (by decide)];exact⟨B5,hB5.below hb⟩
 intro g y hJ hC hb0;clear hJ;go_wp2;go_ret;exact⟨rfl,hb0⟩
theorem Tabs.old{w w':World} (h:Tabs w)(ho:Old w w'):Tabs w':=by have:=h.below (⟨rfl,rfl,rfl,ho.size,ho.get⟩:Below w.heap.size w {w' with os:=w.os,tape:=w.tape,output:=w.output});obtain⟨⟩:=this;constructor<;>assumption
theorem ZsJ{Stop:Frame->List Frame->World->Prop} {A A2:Option Addr} {b14 p1:Nat} {C C2 X:Option Addr} {x:Nat} {Y:Option Addr} {y p3:Nat} {D D2:Option Addr} {p5:Nat} {F F2:Option Addr} {l:World} {B:Blk} (hs:Self ZK (fun _=>False) B l) (ha:AR ZK B (tmps4 A A2 b14 p1 C C2 X x Y y p3 D D2 p5 F F2) (tmps4 A A2 b14 p1 C C2 X x Y y p3 D D2 p5 F F2)) (ht:Tabs l) (n1:l.heap[p1]?=some (.cells #[.int .i64 30,.int .i64 1] 46 (0,0))) (n3:l.heap[p3]?=some (Zdh X x Y y)) (n5:l.heap[p5]?=some (.cells #[.int .i64 500,.int .i64 1000] 79 (0,0)))(k:∀f l',Ret prog (fun v _=>v=.bool true) f [ZD prog] l'->f.fn=7->Old l l'->Stop f [ZD prog] l'):LG ZM Stop ((Go.Conc.base 7).at ⟨tmps4 A A2 b14 p1 C C2 X x Y y p3 D D2 p5 F F2,[]⟩ [.code aw5]) [ZD prog] l:=by refine Zhb (E0:=ZK) (E:=ZM) (fn:=Tryz.f7) (R:=fun v w=>v=.bool true/\Old l w) ZR Za7 ZT hs ha rfl (by kernel_rfl) func7 (fun t d=>Zgu (ZsI A A2 b14 p1 C C2 X x Y y p3 D D2 p5 F F2 (l.re t d) (ht.old ((Old.refl l).re t d)) n1 n3 n5) fun e w h=>⟨_,h.1,rfl,Ze h.2⟩) fun f l' hret hfn=>.stop _ _ _ ?_;obtain⟨hc,v,t,d,hl,rfl,ho⟩:=hret;exact k f l' ⟨hc,_,t,d,hl,rfl⟩ hfn ⟨ho.size,ho.get⟩
end Go.Proofs
namespace Go.Proofs
open Go.RowKit Go.Twin Go.Conc
def Aw4:Prop:=∀(Post:Value->World->Prop)(W l0:World)(OldB:Blk)(bs':List Frame),(∀b x,OldB b x->(fun _:Nat=>False) b∨(b=x/\x<l0.heap.size/\l0.heap[x]?=W.heap[x]?/\ZM.sh=false/\ZM.junk=false))->∀(A A2:Option Addr) (b14 p1:Nat) (C C2 X:Option Addr) (x:Nat) (Y:Option Addr) (y p3:Nat) (D D2:Option Addr) (p5:Nat) (cs:List Frame) (l:World) (B:Blk),cs≠[]->Self ZK (fun _=>False) B l->AR ZK B (tmps3 A A2 b14 p1 C C2 X x Y y p3 D D2 p5) (tmps3 A A2 b14 p1 C C2 X x Y y p3 D D2 p5)->Old l0 l->(∀F F2 l' B',B.le B'->Self ZK (fun _=>False) B' l'->AR ZK B' (tmps4 A A2 b14 p1 C C2 X x Y y p3 D D2 p5 F F2) (tmps4 A A2 b14 p1 C C2 X x Y y p3 D D2 p5 F F2)->Old l l'->LG ZM (StopG ZM Post W l0 OldB (fun _=>False) bs') ((Go.Conc.base 7).at ⟨tmps4 A A2 b14 p1 C C2 X x Y y p3 D D2 p5 F F2,[]⟩ [.code aw5]) cs l')->LG ZM (StopG ZM Post W l0 OldB (fun _=>False) bs') ((Go.Conc.base 7).at ⟨tmps3 A A2 b14 p1 C C2 X x Y y p3 D D2 p5,[]⟩ [.code aw4]) cs l
theorem awake_of(h4:Aw4) {w:World} (hg:GlobOk w)(ht:Tabs (Z2 w)):ZcX Tryz.prog (Frame.enter Tryz.prog 7 #[] .normal) w fun v=>v=.bool true:=by refine ZrQ hg (fun Post c ca hend=>?_) rfl;refine Zsx (by simp) hg fun A A2 b14 p1 C C2 X x Y y p3 D D2 p5 l1 B1 hle1 hs1 ha1 n1 n3 n5 ho1=>?_;refine h4 Post w (Z2 w) awB (c::ca) (Zl3 hg) A A2 b14 p1 C C2 X x Y y p3 D D2 p5 _ l1 B1 (by simp) hs1 ha1 ho1 fun F F2 l2 B2 hle2 hs2 ha2 ho2=>?_;exact ZsJ hs2 ha2 (ht.old (ho1.trans ho2)) (ho2.at n1) (ho2.at n3) (ho2.at n5) fun f l' hret hfn ho3=>hend f l' hret hfn (ho1.trans (ho2.trans ho3)).get
theorem ZsK(BB:Option Addr):(solvedL 2 (exs (ZL BB)) [5,1]).map (fun q=>(q.1,q.2.1))=some ([0,1],1):=by rw[ZdQ];kernel_rfl
theorem ZsL(BB:Option Addr):(solvedL 2 (exs (ZL BB)) (Zaf [6,2])).map (fun q=>(q.1,q.2.1))=some ([1,1],2):=by rw[ZdQ];kernel_rfl
theorem Zl4(BB:Option Addr):Zar 2 (ZL BB) [5,1]=(1,1,true):=by unfold Zar;rw[ZdQ];kernel_rfl
theorem Zl5(BB:Option Addr):Zar 2 (ZL BB) (Zaf [6,2])=(-8,2,true):=by unfold Zar;rw[ZdQ];kernel_rfl
theorem ZsM(BB:Option Addr):ZbK 2 (ZL BB) [5,1] [6,2] 1=.tuple #[.agg #[.int .i64 1,.int .i64 4],.bool true]:=by unfold ZbK;rw[Zl4,Zl5];kernel_rfl
section
variable {B:Blk} {bs':List Frame} {l w:World}
theorem ZsN{sh:Nat->Prop} {A A2 BB loA upA:Option Addr} {lc uc:Nat} {fa:Frame} {cs cb:List Frame} (hB:BookAt l A 2 ZY A2 1 (ZL BB))(hL:At 1 Zc l loA [5,1])(hU:At 1 Zc l upA [6,2])(h:Rel ZM sh bs' B (Frame.enter ZM.P 69 #[.agg #[.slice A 2 2,.slice A2 1 1],.slice loA 2 lc,.slice upA 2 uc,.int .i64 1] .normal) cs l fa cb w):ZcX Tryz.prog fa w fun v=>v=.tuple #[.agg #[.int .i64 1,.int .i64 4],.bool true]:=by
 have ht:=h.st.head.tmps;have hf:=Zil (.agg #[.slice A 2 2,.slice A2 1 1]) (.slice loA 2 lc) (.slice upA 2 uc) (.int .i64 1);have e0:(Frame.enter ZM.P 69 #[.agg #[.slice A 2 2,.slice A2 1 1],.slice loA 2 lc,.slice upA 2 uc,.int .i64 1] .normal).tmps=#[.agg #[.slice A 2 2,.slice A2 1 1],.slice loA 2 lc,.slice upA 2 uc,.int .i64 1]++Array.replicate 52 undef:=by show (Frame.enter Tryz.prog _ _ _).tmps=_;rw[hf];rfl
 rw[e0]at ht;have t0:=ht.getD 0 (undefR (G:=ZM) (B:=B));have t1:=ht.getD 1 (undefR (G:=ZM) (B:=B));have t2:=ht.getD 2 (undefR (G:=ZM) (B:=B));have g0:((#[.agg #[.slice A 2 2,.slice A2 1 1],.slice loA 2 lc,.slice upA 2 uc,.int .i64 1]++Array.replicate 52 undef:Array Value).getD 0 undef)=.agg #[.slice A 2 2,.slice A2 1 1]:=by simp[Array.getD]
 have g1:((#[.agg #[.slice A 2 2,.slice A2 1 1],.slice loA 2 lc,.slice upA 2 uc,.int .i64 1]++Array.replicate 52 undef:Array Value).getD 1 undef)=.slice loA 2 lc:=by simp[Array.getD]
 have g2:((#[.agg #[.slice A 2 2,.slice A2 1 1],.slice loA 2 lc,.slice upA 2 uc,.int .i64 1]++Array.replicate 52 undef:Array Value).getD 2 undef)=.slice upA 2 uc:=by simp[Array.getD]
 rw[g0]at t0;rw[g1]at t1;rw[g2]at t2;obtain⟨u1,hu1⟩:=Zn t0 (i:=0) rfl;obtain⟨u2,hu2⟩:=Zn t0 (i:=1) rfl;have nA:=ZdR (l:=l) (n:=2) (c:=2) (Zj hu1) (ZdP hB.P rfl rfl);have nE:=ZdR (l:=l) (n:=1) (c:=1) (Zj hu2) (ZdP hB.E.1 rfl rfl);have nL:=ZdR (l:=l) (n:=2) (c:=lc) (Zj t1) (ZdP hL rfl rfl);have nU:=ZdR (l:=l) (n:=2) (c:=uc) (Zj t2) (ZdP hU rfl rfl);intro Post c ca gs sl t q h0 hLv hPa kk;refine ZlA (E1:=ZM) (lows:=[5,1]) (ups:=[6,2]) rfl (fun _=>rfl) rfl (Zdg BB).right hB.E rfl (by decide) (by decide) (fun x hx=>by obtain rfl:=Zwp.1 hx;simp) ⟨hL,rfl,Zdi (by decide) (by decide),fun m d p hm=>?_⟩ hU rfl (Zdi (by decide) (by decide)) (fun m d p hm=>?_) ?_ ?_ nA nE nL nU h h0 hLv hPa (fun hv=>kk (hv.trans (show ZbK ZY.length (ZL BB) [5,1] [6,2] 1=_ from ZsM BB)));·have e:=ZsK BB;have hm':solvedL 2 (exs (ZL BB)) [5,1]=some (m,d,p):=hm;rw[hm']at e;cases e;exact⟨rfl,Zdi (by decide) (by decide)⟩
 ·have e:=ZsL BB;have hm':solvedL 2 (exs (ZL BB)) (Zaf [6,2])=some (m,d,p):=hm;rw[hm']at e;cases e;exact⟨rfl,Zdi (by decide) (by decide)⟩
 ·unfold ZcK;have e:Zar ZY.length (ZL BB) [5,1]=_:=Zl4 BB;rw[e];intro _;exact⟨by decide,by decide⟩
 ·unfold ZcK;have e:Zar ZY.length (ZL BB) (Zaf [6,2])=_:=Zl5 BB;rw[e];intro _;exact⟨by decide,by decide⟩
end
end Go.Proofs
namespace Go.Proofs
open Tryz
open Go.RowKit Go.Twin Go.Conc
variable {es2:List En} {BB:Option Addr}
attribute [local go_sem] Oper.semAt_some ZcS ZcT ZcU Zcj ZcV ZcW
def Zgv(A A2:Option Addr)(b2 b3:Nat)(C1:Option Addr)(c1:Nat)(C2:Option Addr)(c2 b6:Nat)(L1:Option Addr)(k1:Nat)(L2:Option Addr)(k2:Nat)(u11 u33 u34 u35 u36 u37 u38 u39 u40 u41 u42 u43 u44 u45 u46 u47 u48:Value)(b12:Nat):Array Value:=#[.agg #[.slice A 2 2,.slice A2 1 1],.agg #[.int .i64 4,.int .i64 5],.pointer (some ⟨b2,0,none⟩),.pointer (some ⟨b3,0,none⟩),.int .i64 0,.int .i64 0,.pointer (some ⟨b6,0,none⟩),.int .i64 0,.slice L1 2 k1,.slice L2 2 k2,undef,u11,.pointer (some ⟨b12,0,none⟩),.bool true,.tuple #[.agg #[.slice C1 2 c1,.slice C2 3 c2],.int .i64 0],.agg #[.slice A 2 2,.slice A2 1 1],.agg #[.int .i64 4,.int .i64 5],.tuple #[.agg #[.slice C1 2 c1,.slice C2 3 c2],.int .i64 0],.agg #[.slice C1 2 c1,.slice C2 3 c2],.int .i64 0,.int .i64 0,.bool false,undef,.agg #[.slice A 2 2,.slice A2 1 1],.bool false,.bool false,.agg #[.slice C1 2 c1,.slice C2 3 c2],.bool false,.bool false,.pointer (some ⟨b2,0,none⟩),.slice A 2 2,.int .i64 2,.int .i64 2,u33,u34,u35,u36,u37,u38,u39,u40,u41,u42,u43,u44,u45,u46,u47,u48,.tuple #[.agg #[.int .i64 1,.int .i64 4],.bool true],.agg #[.slice A 2 2,.slice A2 1 1],.slice L1 2 k1,.slice L2 2 k2,.tuple #[.agg #[.int .i64 1,.int .i64 4],.bool true],.agg #[.int .i64 1,.int .i64 4],.bool true,.bool true,.bool true,.pointer (some ⟨b12,0,none⟩),.int .i64 1,.pointer (some ⟨b3,0,none⟩),.int .i64 4,.bool false,.bool false,.bool false,zu,zu,zu,zu,zu,.bool false]
theorem ZsO(A A2:Option Addr)(b2 b3:Nat)(C1:Option Addr)(c1:Nat)(C2:Option Addr)(c2 b6:Nat)(L1:Option Addr)(k1:Nat)(L2:Option Addr)(k2:Nat)(u11 u33 u34 u35 u36 u37 u38 u39 u40 u41 u42 u43 u44 u45 u46 u47 u48:Value)(b12:Nat)(w:World)(M3:w.heap[b3]?=some (.cells #[.int .i64 4,.int .i64 5] 79 (0,0)))(M12:w.heap[b12]?=some (.cells #[.int .i64 1,.int .i64 4] 79 (0,0))):agY.wp prog (fun e a' w'=>e=.normal/\a'.defers=[]/\a'.tmps=Zgv A A2 b2 b3 C1 c1 C2 c2 b6 L1 k1 L2 k2 u11 u33 u34 u35 u36 u37 u38 u39 u40 u41 u42 u43 u44 u45 u46 u47 u48 b12/\Below w.heap.size w w') ⟨Zlm A A2 2 2 1 1 4 5 b2 b3 C1 c1 C2 c2 b6 L1 k1 L2 k2 u11 u33 u34 u35 u36 u37 u38 u39 u40 u41 u42 u43 u44 u45 u46 u47 u48 1 4 b12,[]⟩ w:=by simp only[agY,agX,cHd,cTl,ag6,ag5,ag4,ag3,ag2,ag1,agBody,Tryz.f35,Zxd,Zlm];have D3:=bk2 M3;have D12:=bk2 M12;go_wp2;exact⟨rfl,ZuK _ _⟩
theorem ZsP(A A2:Option Addr)(b2 b3:Nat)(C1:Option Addr)(c1:Nat)(C2:Option Addr)(c2 b6:Nat)(L1:Option Addr)(k1:Nat)(L2:Option Addr)(k2:Nat)(u11 u33 u34 u35 u36 u37 u38 u39 u40 u41 u42 u43 u44 u45 u46 u47 u48:Value)(b12:Nat)(w:World):ag7.wp prog (bodyPost prog Tryz.f35 fun e w'=>e=.returned (.tuple #[.int .i64 1,.int .i64 0])/\Below w.heap.size w w') ⟨Zgv A A2 b2 b3 C1 c1 C2 c2 b6 L1 k1 L2 k2 u11 u33 u34 u35 u36 u37 u38 u39 u40 u41 u42 u43 u44 u45 u46 u47 u48 b12,[]⟩ w:=by simp only[cHd,cTl,ag7,ag6,ag5,ag4,ag3,ag2,ag1,agBody,Tryz.f35,Zxd,Zgv];go_wp2;go_ret2;exact⟨rfl,ZuK _ _⟩
theorem Zl6(h:es2.map En.sig=(ZL BB).map En.sig++wcL ZY 4 5):exs es2=[([0,-2],-1),([5,1],5),([-6,-2],-4)]:=by
 have e:exs es2=(es2.map En.sig).map fun s=>(s.2.1,s.2.2):=by simp only[exs,Zwb];rfl
 rw[e,h];rfl
theorem ZsQ(h:es2.map En.sig=(ZL BB).map En.sig++wcL ZY 4 5):RightE es2 2/\es2.length=3:=by
 have hl:es2.length=3:=by have:=congrArg List.length h;simpa [ZL,wcL] using this
 refine⟨⟨by omega,fun x hx=>?_⟩,hl⟩;have hm:x.ex∈exs es2:=List.mem_map_of_mem hx;rw[Zl6 h]at hm;have key:x.co.length=2/\(∀n∈x.co,n.natAbs<=20)/\x.mo.natAbs<=20:=by simp only[Zwi,Zwt,or_false,En.ex,Prod.mk.injEq]at hm;rcases hm with⟨h1,h2⟩|⟨h1,h2⟩|⟨h1,h2⟩<;>rw[h1,h2]<;>exact⟨rfl,by decide,by decide⟩
 exact key
theorem ZsR(BB:Option Addr):wcE ZY (ZL BB) 4 5=0:=by
 unfold wcE;rw[Zbr];intro e he;simp only[Zwi,Zwt,or_false]at he;rcases he with rfl|rfl|rfl|rfl;·exact ZbJ.2 (Zdg BB)
 ·decide
 ·have h1:Zcr (ZL BB) mostS=false:=by have:Zcr (ZL BB) mostS=Zcr (ZL none) mostS:=rfl;rw[this];decide+kernel
  have h2:Zcr (ZL BB) leastS=false:=by have:Zcr (ZL BB) leastS=Zcr (ZL none) leastS:=rfl;rw[this];decide+kernel
  rw[h1,h2];rfl
 ·rfl
theorem ZsS(BB:Option Addr):ZdL 2 (exs (ZL BB))=false:=by rw[ZdQ];kernel_rfl
theorem ZsT(h:es2.map En.sig=(ZL BB).map En.sig++wcL ZY 4 5):ZdL 2 (exs es2)=false:=by rw[Zl6 h];kernel_rfl
theorem ZsU{sz:Nat} {α:Type} {cs:α->List Value} {l:World} {A:Option Addr} {xs:List α} (h:At sz cs l A xs) {x:α} (hx:xs[0]?=some x):A≠none:=by rintro rfl;obtain⟨b,o,h1,_⟩:=h 0 x hx;cases h1
end Go.Proofs
namespace Go.Proofs
open Tryz
open Go.RowKit Go.Twin Go.Conc
attribute [local go_sem] Oper.semAt_some ZcS ZcT ZcU Zcj ZcV ZcW
theorem ZsV (A A2:Option Addr):Frame.enter prog 35 #[.agg #[.slice A 2 2,.slice A2 1 1],.agg #[.int .i64 4,.int .i64 5]] .normal=(Go.Conc.base 35).at ⟨Zfj A A2 2 2 1 1 4 5,[]⟩ [.code agBody]:=by rw[enter_at (fn:=Tryz.f35) (c:=Tryz.f35.body.getD .skip) _ func35 rfl];kernel_rfl
theorem BookAt.re{w:World} {pA eA:Option Addr} {pc ec:Nat} {ps:List Pa} {es:List En} (h:BookAt w pA pc ps eA ec es)(t:Nat->Question->Nat)(d:Nat):BookAt (w.re t d) pA pc ps eA ec es:=h.old ((Old.refl w).re t d)
theorem ZsW{Post:Value->World->Prop} {W l0:World} {OldB:Blk} {bs':List Frame} (hold:∀b x,OldB b x->(fun _:Nat=>False) b∨(b=x/\x<l0.heap.size/\l0.heap[x]?=W.heap[x]?/\ZM.sh=false/\ZM.junk=false)) {A A2 BB:Option Addr} {c:Frame} {cs:List Frame} {l:World} {B:Blk} (hs:Self ZK (fun _=>False) B l)(ha:AR ZK B #[.agg #[.slice A 2 2,.slice A2 1 1],.agg #[.int .i64 4,.int .i64 5]] #[.agg #[.slice A 2 2,.slice A2 1 1],.agg #[.int .i64 4,.int .i64 5]])(hB:BookAt l A 2 ZY A2 1 (ZL BB))(ho:Old l0 l)(k:∀l' B',Old l l'->B.le B'->Self ZK (fun _=>False) B' l'->LG ZM (StopG ZM Post W l0 OldB (fun _=>False) bs') (c.finish (.tuple #[.int .i64 1,.int .i64 0])) cs l'):LG ZM (StopG ZM Post W l0 OldB (fun _=>False) bs') (Frame.enter prog 35 #[.agg #[.slice A 2 2,.slice A2 1 1],.agg #[.int .i64 4,.int .i64 5]] .normal) (c::cs) l:=by
 have hS:Halts (StopG ZM Post W l0 OldB (fun _=>False) bs'):=Zdw;rw[ZsV];have ha0:AR ZK B (Zfj A A2 2 2 1 1 4 5) (Zfj A A2 2 2 1 1 4 5):=Zb (ha.append (AR.replicate 69 undefR)) (by kernel_rfl);rw[show agBody=.seq (cHd agBody) ag1 from by kernel_rfl];refine Zaa hS ?_;refine ZbF (R:=fun a' w'=>(∃b2 b3,a'.tmps=Zgd A A2 2 2 1 1 4 5 b2 b3/\w'.heap[b2]?=some (.cells #[.slice A 2 2,.slice A2 1 1] 25 (0,0))/\w'.heap[b3]?=some (.cells #[.int .i64 4,.int .i64 5] 79 (0,0)))/\Old l w') ZR Za7 Zbc ZT hs ha0 rfl (by kernel_rfl) (fun v w t d h=>⟨h.1,h.2.size,h.2.get⟩) (fun t d=>Code.wp_mono (fun e a' w' h=>⟨h.1,h.2.1,h.2.2.1,(Ze h.2.2.2).size,(Ze h.2.2.2).get⟩) (Zrq A A2 2 2 1 1 4 5 _)) ?_;rintro⟨tm,df⟩ l1 B1 ⟨⟨b2,b3,e1,m2,m3⟩,ho1⟩ e2 hle1 hs1 ha1;cases e1;cases e2;have hB1:=hB.old ho1;rw[show ag1=.seq (cHd ag1) ag2 from by kernel_rfl];refine Zaa hS ?_;refine ZbF (R:=fun a' w'=>Zln A A2 2 2 1 1 4 5 ZY (ZL BB) b2 b3 a'.tmps w'/\Old l1 w') ZR Za7 Zbc ZT hs1 ha1 rfl (by kernel_rfl) (fun v w t d h=>⟨by obtain⟨C1,c1,C2,c2,b6,es2,g1,g2,g3,g4⟩:=h.1;exact⟨C1,c1,C2,c2,b6,es2,g1,g2,g3,g4.re t d⟩,h.2.size,h.2.get⟩) (fun t d=>Code.wp_mono (fun e a' w' h=>⟨h.1,h.2.1,h.2.2.1,(Ze h.2.2.2).size,(Ze h.2.2.2).get⟩) (Zrr A A2 2 2 1 1 4 5 ZY (ZL BB) b2 b3 (l1.re t d) (hB1.re t d) (Zfp BB) rfl rfl (fun h=>absurd h (ZsU hB1.P rfl)) (ZsR BB) m2 m3)) ?_;rintro⟨tm,df⟩ l2 B2 ⟨⟨C1,c1,C2,c2,b6,es2,e1,m6,hsg,hB2⟩,ho2⟩ e2 hle2 hs2 ha2;cases e1;cases e2;obtain⟨hR2,hl2⟩:=ZsQ hsg;have hBo2:=hB1.old ho2;have m2':=ho2.at m2;have m3':=ho2.at m3;rw[show ag2=.seq (cHd ag2) ag3 from by kernel_rfl];refine Zaa hS ?_;refine ZbF (R:=fun a' w'=>(a'.tmps=Zge A A2 2 2 1 1 4 5 b2 b3 C1 c1 C2 c2 b6)/\Old l2 w') ZR Za7 Zbc ZT hs2 ha2 rfl (by kernel_rfl) (fun v w t d h=>⟨h.1,h.2.size,h.2.get⟩) (fun t d=>Code.wp_mono (fun e a' w' h=>⟨h.1,h.2.1,h.2.2.1,(Ze h.2.2.2).size,(Ze h.2.2.2).get⟩) (Zrs A A2 2 2 1 1 4 5 b2 b3 C1 c1 C2 c2 b6 _)) ?_;rintro⟨tm,df⟩ l3 B3 ⟨e1,ho3⟩ e2 hle3 hs3 ha3;cases e1;cases e2;rw[show ag3=.seq (cHd ag3) ag4 from by kernel_rfl];refine Zaa hS ?_;refine ZbF (R:=fun a' w'=>(a'.tmps=Zgf A A2 2 2 1 1 4 5 b2 b3 C1 c1 C2 c2 b6)/\Old l3 w') ZR Za7 Zbc ZT hs3 ha3 rfl (by kernel_rfl) (fun v w t d h=>⟨h.1,h.2.size,h.2.get⟩) (fun t d=>Code.wp_mono (fun e a' w' h=>⟨h.1,h.2.1,h.2.2.1,(Ze h.2.2.2).size,(Ze h.2.2.2).get⟩) (Zrt A A2 2 2 1 1 4 5 (ZL BB) es2 b2 b3 C1 c1 C2 c2 b6 (l3.re t d) (Zdg BB).right ((hBo2.old ho3).re t d).E rfl (by decide) (by decide) hR2 ((hB2.old ho3).re t d).E hl2 (ZsS BB) (ZsT hsg) (ho3.at m2') (ho3.at m6))) ?_;rintro⟨tm,df⟩ l4 B4 ⟨e1,ho4⟩ e2 hle4 hs4 ha4;cases e1;cases e2;rw[show ag4=.seq (cHd ag4) ag5 from by kernel_rfl];refine Zaa hS ?_;refine ZbF (R:=fun a' w'=>(a'.tmps=Zgg A A2 2 2 1 1 4 5 b2 b3 C1 c1 C2 c2 b6)/\Old l4 w') ZR Za7 Zbc ZT hs4 ha4 rfl (by kernel_rfl) (fun v w t d h=>⟨h.1,h.2.size,h.2.get⟩) (fun t d=>Code.wp_mono (fun e a' w' h=>⟨h.1,h.2.1,h.2.2.1,(Ze h.2.2.2).size,(Ze h.2.2.2).get⟩) (Zru A A2 2 2 1 1 4 5 b2 b3 C1 c1 C2 c2 b6 _)) ?_;rintro⟨tm,df⟩ l5 B5 ⟨e1,ho5⟩ e2 hle5 hs5 ha5;cases e1;cases e2;have ho25:=(ho3.trans ho4).trans ho5;have hB5:=hBo2.old ho25;rw[show ag5=.seq (cHd ag5) ag6 from by kernel_rfl];refine Zaa hS ?_;refine ZbF (R:=fun a' w'=>Zlo A A2 2 2 1 1 4 5 ZY b2 b3 C1 c1 C2 c2 b6 l5.heap.size a'.tmps w'/\Old l5 w') ZR Za7 Zbc ZT hs5 ha5 rfl (by kernel_rfl) (fun v w t d h=>⟨h.1,h.2.size,h.2.get⟩) (fun t d=>Code.wp_mono (fun e a' w' h=>⟨h.1,h.2.1,h.2.2.1,(Ze h.2.2.2).size,(Ze h.2.2.2).get⟩) (Zrv A A2 2 2 1 1 4 5 ZY b2 b3 C1 c1 C2 c2 b6 (l5.re t d) (hB5.re t d).P rfl (by decide) (by decide) (ho25.at m2'))) ?_;rintro⟨tm,df⟩ l6 B6 ⟨⟨L1,k1,L2,k2,u11,u33,u34,u35,u36,u37,u38,u39,u40,u41,u42,u43,u44,u45,u46,u47,u48,e1,o1,o2⟩,ho6⟩ e2 hle6 hs ha;cases e1;cases e2;have hle:=Blk.le_trans (Blk.le_trans (Blk.le_trans (Blk.le_trans (Blk.le_trans hle1 hle2) hle3) hle4) hle5) hle6;have hB6:=hB5.old ho6;have n2:=ho6.at (ho25.at m2');have n3:=ho6.at (ho25.at m3');have hoA:Old l l6:=ho1.trans (ho2.trans (ho25.trans ho6));have hL1:At 1 Zc l6 L1 [5,1]:=Zcq o1 rfl;have hL2:At 1 Zc l6 L2 [6,2]:=Zcq o2 rfl;have D2:=bk2 n2;clear hs1 hs2 hs3 hs4 hs5 ha1 ha2 ha3 ha4 ha5 ha0;rw[show ag6=.seq agX ag7 from by kernel_rfl];refine Zaa hS ?_;rw[show agX=.seq (cHd agX) agY from by kernel_rfl];refine Zaa hS ?_;simp only[cHd,cTl,agX,ag6,ag5,ag4,ag3,ag2,ag1,agBody,Tryz.f35,Zxd,Zll];refine Za5 hS ?_;simp only[Zwy,Zv0,Zv3,Nat.reduceAdd,Zw9,List.range,List.range.loop];refine Zae hS ZT ZR hs (Zb ha (by kernel_rfl)) rfl rfl (by decide) (by kernel_rfl) (fun tt dd K k1 k2=>?_);simp only[show ZK.P=prog from rfl];go_simp;first|refine k1 _ _ ?_|refine k2 _ ?_
 clear k1 k2 K tt dd;intro B' hle' hs' ha';replace hle:=Blk.le_trans hle hle';clear hs ha hle';have hs:=hs';have ha:=ha';clear hs' ha';walk_nrm;refine Zae hS ZT ZR hs (Zb ha (by kernel_rfl)) rfl rfl (by decide) (by kernel_rfl) (fun tt dd K k1 k2=>?_);simp only[show ZK.P=prog from rfl];go_simp;first|refine k1 _ _ ?_|refine k2 _ ?_
 clear k1 k2 K tt dd;intro B' hle' hs' ha';replace hle:=Blk.le_trans hle hle';clear hs ha hle';have hs:=hs';have ha:=ha';clear hs' ha';walk_nrm;refine Zae hS ZT ZR hs (Zb ha (by kernel_rfl)) rfl rfl (by decide) (by kernel_rfl) (fun tt dd K k1 k2=>?_);simp only[show ZK.P=prog from rfl];go_simp;first|refine k1 _ _ ?_|refine k2 _ ?_
 clear k1 k2 K tt dd;intro B' hle' hs' ha';replace hle:=Blk.le_trans hle hle';clear hs ha hle';have hs:=hs';have ha:=ha';clear hs' ha';walk_nrm;refine Zci (g:=69) (args:=#[.agg #[.slice A 2 2,.slice A2 1 1],.slice L1 2 k1,.slice L2 2 k2,.int .i64 1]) hS rfl rfl (by decide) (by kernel_rfl) (fun w'=>by simp only[show ZM.P=prog from rfl];kernel_rfl) ?_;refine .stop _ _ _ (Zjq (R:=fun v=>v=.tuple #[.agg #[.int .i64 1,.int .i64 4],.bool true]) Zhh hold (by simp) (fun c h=>by cases h) (ho.trans hoA).get (fun h hO=>ZsN hB6 hL1 hL2 h) (fun v hv=>by subst hv;kernel_rfl) fun v n hv=>?_);subst hv;rw[Frame.finish_at];have hs:=hs.pad n;have ha:=ha.set 53 (VR.closed 8 (.tuple #[.agg #[.int .i64 1,.int .i64 4],.bool true]) (by kernel_rfl));have hoP:Old l6 (pad l6 n):=⟨by rw[Zb8];omega,fun b hb=>Zb9 l6 n hb⟩;obtain⟨l7,hl7⟩:∃l7,pad l6 n=l7:=⟨_,rfl⟩;rw[hl7]at hs hoP |-;walk_nrm;refine Zae hS ZT ZR hs (Zb ha (by kernel_rfl)) rfl rfl (by decide) (by kernel_rfl) (fun tt dd K k1 k2=>?_);simp only[show ZK.P=prog from rfl];go_simp;first|refine k1 _ _ ?_|refine k2 _ ?_
 clear k1 k2 K tt dd;intro B' hle' hs' ha';replace hle:=Blk.le_trans hle hle';clear hs ha hle';have hs:=hs';have ha:=ha';clear hs' ha';walk_nrm;refine Zae hS ZT ZR hs (Zb ha (by kernel_rfl)) rfl rfl (by decide) (by kernel_rfl) (fun tt dd K k1 k2=>?_);simp only[show ZK.P=prog from rfl];go_simp;first|refine k1 _ _ ?_|refine k2 _ ?_
 clear k1 k2 K tt dd;intro B' hle' hs' ha';replace hle:=Blk.le_trans hle hle';clear hs ha hle';have hs:=hs';have ha:=ha';clear hs' ha';walk_nrm;refine Zae hS ZT ZR hs (Zb ha (by kernel_rfl)) rfl rfl (by decide) (by kernel_rfl) (fun tt dd K k1 k2=>?_);simp only[show ZK.P=prog from rfl];go_simp;first|refine k1 _ _ ?_|refine k2 _ ?_
 clear k1 k2 K tt dd;intro B' hle' hs' ha';replace hle:=Blk.le_trans hle hle';clear hs ha hle';have hs:=hs';have ha:=ha';clear hs' ha';walk_nrm;refine Zae hS ZT ZR hs (Zb ha (by kernel_rfl)) rfl rfl (by decide) (by kernel_rfl) (fun tt dd K k1 k2=>?_);simp only[show ZK.P=prog from rfl];go_simp;first|refine k1 _ _ ?_|refine k2 _ ?_
 clear k1 k2 K tt dd;intro B' hle' hs' ha';replace hle:=Blk.le_trans hle hle';clear hs ha hle';have hs:=hs';have ha:=ha';clear hs' ha';walk_nrm;refine Zae hS ZT ZR hs (Zb ha (by kernel_rfl)) rfl rfl (by decide) (by kernel_rfl) (fun tt dd K k1 k2=>?_);simp only[show ZK.P=prog from rfl];go_simp;first|refine k1 _ _ ?_|refine k2 _ ?_
 clear k1 k2 K tt dd;intro B' hle' hs' ha';replace hle:=Blk.le_trans hle hle';clear hs ha hle';have hs:=hs';have ha:=ha';clear hs' ha';walk_nrm;refine Zae hS ZT ZR hs (Zb ha (by kernel_rfl)) rfl rfl (by decide) (by kernel_rfl) (fun tt dd K k1 k2=>?_);simp only[show ZK.P=prog from rfl];go_simp;first|refine k1 _ _ ?_|refine k2 _ ?_
 clear k1 k2 K tt dd;intro B' hle' hs' ha';replace hle:=Blk.le_trans hle hle';clear hs ha hle';have hs:=hs';have ha:=ha';clear hs' ha';walk_nrm;refine Za6 hS ?_;obtain⟨l8,hl8⟩:∃l8,l7.alloc (.cells #[.int .i64 1,.int .i64 4] 79 (0,0))=l8:=⟨_,rfl⟩;have n12:l8.heap[l7.heap.size]?=some (.cells #[.int .i64 1,.int .i64 4] 79 (0,0)):=by rw[<-hl8];(repeat (first|assumption|(refine Zz _ _ ?_;(simp;done))|refine ZB ?_|refine Zy ?_ _|refine ZA ?_ (by simp<;>omega) _))
 have ho8:Old l7 l8:=by rw[<-hl8];exact Zp (by go_grown:Below l7.heap.size l7 _)
 rw[hl8]at hs |-;clear hl8;have n3':=ho8.at (hoP.at n3);refine ZbF (x:=agY) (R:=fun a' w'=>a'.tmps=Zgv A A2 b2 b3 C1 c1 C2 c2 b6 L1 k1 L2 k2 u11 u33 u34 u35 u36 u37 u38 u39 u40 u41 u42 u43 u44 u45 u46 u47 u48 l7.heap.size/\Old l8 w') ZR Za7 Zbc ZT hs (Zb ha (by kernel_rfl)) rfl (by kernel_rfl) (fun v w t d h=>⟨h.1,h.2.size,h.2.get⟩) (fun t d=>Code.wp_mono (fun e a' w' h=>⟨h.1,h.2.1,h.2.2.1,(Ze h.2.2.2).size,(Ze h.2.2.2).get⟩) (ZsO A A2 b2 b3 C1 c1 C2 c2 b6 L1 k1 L2 k2 u11 u33 u34 u35 u36 u37 u38 u39 u40 u41 u42 u43 u44 u45 u46 u47 u48 l7.heap.size (l8.re t d) n3' n12)) ?_;rintro⟨tm,df⟩ l9 B9 ⟨e1,ho9⟩ e2 hle9 hs9 ha9;cases e1;cases e2;refine Zjx (fn:=Tryz.f35) (x:=ag7) (R:=fun v w=>v=.tuple #[.int .i64 1,.int .i64 0]/\Old l9 w) ZR Za7 Zbc ZT hs9 ha9 rfl (by kernel_rfl) func35 (fun v w t d h=>⟨h.1,h.2.size,h.2.get⟩) (fun t d=>Zgu (ZsP A A2 b2 b3 C1 c1 C2 c2 b6 L1 k1 L2 k2 u11 u33 u34 u35 u36 u37 u38 u39 u40 u41 u42 u43 u44 u45 u46 u47 u48 l7.heap.size (l9.re t d)) fun e w h=>⟨_,h.1,rfl,Ze h.2⟩) ?_;rintro v l10 B10 ⟨rfl,ho10⟩ hle10 hs10 hv;exact k l10 B10 (hoA.trans (hoP.trans (ho8.trans (ho9.trans ho10)))) (Blk.le_trans hle (Blk.le_trans hle9 hle10)) hs10
theorem ZsX:Aw4:=by
 intro Post W l0 OldB bs' hold A A2 b14 p1 C C2 X x Y y p3 D D2 p5 cs l B hcs hs ha ho k;have hS:Halts (StopG ZM Post W l0 OldB (fun _=>False) bs'):=Zdw;have hle:B.le B:=Blk.le_refl _;rw[show aw4=.seq (codeHd aw4) aw5 from by kernel_rfl];refine Zaa hS ?_;simp only[codeHd,codeTl,aw4,aw3,aw2,aw1,awBody,Tryz.f7,Zxd,tmps3,ZbN];refine Za5 hS ?_;simp only[Zwy,Zv0,Zv3,Nat.reduceAdd,Zw9,List.range,List.range.loop];refine Zjw (g:=32) (args:=#[]) hS ZR Za7 Zbc ZT hs (Zb ha (by kernel_rfl)) rfl rfl (by decide) (by kernel_rfl) (fun w'=>by simp only[show ZK.P=prog from rfl];kernel_rfl) (by kernel_rfl) (AR.empty) (Zl2 l) (Zl1 l) ?_;rintro v l1 B1 ⟨⟨F,F2,BB,rfl,hB1⟩,ho1⟩ hle1 hs1 ha1;clear hs ha;walk_nrm;replace hle:=hle1;have hs:=hs1;have ha:=ha1;clear hs1 ha1;refine Zae hS ZT ZR hs (Zb ha (by kernel_rfl)) rfl rfl (by decide) (by kernel_rfl) (fun tt dd K k1 k2=>?_);simp only[show ZK.P=prog from rfl];go_simp;first|refine k1 _ _ ?_|refine k2 _ ?_
 clear k1 k2 K tt dd;intro B' hle' hs' ha';replace hle:=Blk.le_trans hle hle';clear hs ha hle';have hs:=hs';have ha:=ha';clear hs' ha';walk_nrm;refine Zci (g:=35) (args:=#[.agg #[.slice F 2 2,.slice F2 1 1],.agg #[.int .i64 4,.int .i64 5]]) hS rfl rfl (by decide) (by kernel_rfl) (fun w'=>by simp only[show ZM.P=prog from rfl];kernel_rfl) ?_;refine ZsW hold hs (Zb (((AR.replicate 2 undefR).set 0 (Zq ha 31 (v:=.agg #[.slice F 2 2,.slice F2 1 1]) (by kernel_rfl))).set 1 (Zq ha 32 (v:=.agg #[.int .i64 4,.int .i64 5]) (by kernel_rfl))) (by kernel_rfl)) hB1 (ho.trans ho1) fun l2 B2 ho2 hle2 hs2=>?_;have ha2:=(ha.mono hle2).set 33 (VR.closed 8 (.tuple #[.int .i64 1,.int .i64 0]) (by kernel_rfl));replace hle:=Blk.le_trans hle hle2;rw[Frame.finish_at];clear ha hs;have hs:=hs2;have ha:=ha2;clear ha2 hs2;walk_nrm;refine Zae hS ZT ZR hs (Zb ha (by kernel_rfl)) rfl rfl (by decide) (by kernel_rfl) (fun tt dd K k1 k2=>?_);simp only[show ZK.P=prog from rfl];go_simp;first|refine k1 _ _ ?_|refine k2 _ ?_
 clear k1 k2 K tt dd;intro B' hle' hs' ha';replace hle:=Blk.le_trans hle hle';clear hs ha hle';have hs:=hs';have ha:=ha';clear hs' ha';walk_nrm;refine Zae hS ZT ZR hs (Zb ha (by kernel_rfl)) rfl rfl (by decide) (by kernel_rfl) (fun tt dd K k1 k2=>?_);simp only[show ZK.P=prog from rfl];go_simp;first|refine k1 _ _ ?_|refine k2 _ ?_
 clear k1 k2 K tt dd;intro B' hle' hs' ha';replace hle:=Blk.le_trans hle hle';clear hs ha hle';have hs:=hs';have ha:=ha';clear hs' ha';walk_nrm;refine Zae hS ZT ZR hs (Zb ha (by kernel_rfl)) rfl rfl (by decide) (by kernel_rfl) (fun tt dd K k1 k2=>?_);simp only[show ZK.P=prog from rfl];go_simp;first|refine k1 _ _ ?_|refine k2 _ ?_
 clear k1 k2 K tt dd;intro B' hle' hs' ha';replace hle:=Blk.le_trans hle hle';clear hs ha hle';have hs:=hs';have ha:=ha';clear hs' ha';walk_nrm;refine Zae hS ZT ZR hs (Zb ha (by kernel_rfl)) rfl rfl (by decide) (by kernel_rfl) (fun tt dd K k1 k2=>?_);simp only[show ZK.P=prog from rfl];go_simp;first|refine k1 _ _ ?_|refine k2 _ ?_
 clear k1 k2 K tt dd;intro B' hle' hs' ha';replace hle:=Blk.le_trans hle hle';clear hs ha hle';have hs:=hs';have ha:=ha';clear hs' ha';walk_nrm;refine Zae hS ZT ZR hs (Zb ha (by kernel_rfl)) rfl rfl (by decide) (by kernel_rfl) (fun tt dd K k1 k2=>?_);simp only[show ZK.P=prog from rfl];go_simp;first|refine k1 _ _ ?_|refine k2 _ ?_
 clear k1 k2 K tt dd;intro B' hle' hs' ha';replace hle:=Blk.le_trans hle hle';clear hs ha hle';have hs:=hs';have ha:=ha';clear hs' ha';walk_nrm;refine Za6 hS ?_;exact k F F2 l2 _ hle hs (Zb ha (by kernel_rfl)) (ho1.trans ho2)
theorem ZsY{w:World} (hg:GlobOk w)(ht:Tabs (Z2 w)):ZcX prog (Frame.enter prog 7 #[] .normal) w fun v=>v=.bool true:=awake_of ZsX hg ht
end Go.Proofs
namespace Go.Proofs
open Tryz
open Go.RowKit Go.Twin Go.Conc
variable {W w:World} {p:Nat}
noncomputable def rA(n p q:Nat)(s:String):Code:=.region n #[{dst:=some p,op:=.call {callee:=.value (.func 7),args:=#[],argTypes:=#[]},type:=4,pos:=s,after:=#[],guard:=none},{dst:=some q,op:=.unOp .not 4 (.tmp p),type:=4,pos:=s,after:=#[{on:=0,ground:=.data}],guard:=none}] false
theorem ZsZ(hk:Kept1 W w):Old (Z2 W) (Z2 w):=by
 refine⟨by rw[ZcL,ZcL];exact hk.size,fun b hb=>?_⟩;rw[ZcL]at hb;have hb2:b<w.heap.size:=ZwS hb hk.size;unfold Z2;simp only[Zuv,ZuH];by_cases h6:4=b;·subst h6;simp[hb,hb2]
 ·by_cases h5:3=b;·subst h5;simp[hb,hb2]
  ·simp[h5,h6,hk.heap b hb]
theorem Tabs.kept(h:Tabs (Z2 W))(hk:Kept1 W w):Tabs (Z2 w):=h.old (ZsZ hk)
theorem Old.pad(l:World)(n:Nat):Old l (Twin.pad l n):=⟨by rw[Zb8];omega,fun b hb=>Zb9 l n hb⟩
theorem Zs0(p:Nat):ZaI.op (.unOp .not 4 (.tmp p))=true:=by simp[Env.op,Env.op0,Env.darkOp,Op.operands,Env.operand]
theorem Zs1{ρ:Operand->Value} {o:Oper} (h:ρ (.tmp p)=.bool true)(ho:o.op=.unOp .not 4 (.tmp p))(w:World):(execOp ρ o).run prog w=.ok (.value (.bool false)) w:=by unfold execOp;rw[ho];go_simp
noncomputable def Zex(W:World):World:=ZbT ZaI (fun _=>False) W
theorem Zs2{F:Nat} {fn:Func} {c0 x rest:Code} {n q:Nat} {s:String} {args:Array Value} {Post:Value->World->Prop} {T:Array Value->World->Prop} (hf:prog.funcs[F]?=some fn) (hb:fn.body=some (.seq c0 (.seq (.seq (rA n p q s) (.cond (.tmp q) x .skip)) rest))) (hm:Zag (.seq c0 (.seq (.seq (rA n p q s) (.cond (.tmp q) x .skip)) rest))=true)(hc0:ZaI.code c0=true)(hcr:ZaI.code rest=true)(hi:prog.inits.idxOf? F=none)(hg:GlobOk W)(ht:Tabs (Z2 W))(ha:AR ZaI (idX (ZaC (fun _=>False) W)) args args)(hpq:p≠q)(hT:∀tm w w',T tm w->Old w w'->T tm w')(hTs:∀tm w,T tm w->p<tm.size/\q<tm.size)(h0:∀l,Old (Zex W) l->c0.wp prog (fun e a w'=>e=.normal/\a.defers=[]/\T a.tmps w'/\Below l.heap.size l w') ⟨args++Array.replicate (fn.ntmps-args.size) undef,[]⟩ l)(hr:∀tm w,T tm w->rest.wp prog (bodyPost prog fn fun e w'=>e=.returned (.bool true)/\Below w.heap.size w w') ⟨(tm.setIfInBounds p (.bool true)).setIfInBounds q (.bool false),[]⟩ w)(hk:∀w',Kept1 W w'->Post (.bool true) w'):Fin prog Post #[G (Frame.enter prog F args .normal) []] W none #[]:=by
 have hsz:prog.globals.size<=W.heap.size:=hg.size;refine ZoL (S:=ZaI) (E:=Zca) (D:=fun _=>False) ZjS ZfU rfl rfl rfl (fn:=fn) hf hb hm (fun g hg=>by cases hg) (fun g hg=>by cases hg) hsz ha ?_;have hS:Halts (StopG Zca Post W (ZbT ZaI (fun _=>False) W) (idX (ZaC (fun _=>False) W)) (ZaC (fun _=>False) W) []):=Zdw;have e0:Frame.enter Zca.P F args .normal=(Go.Conc.base F).at ⟨args++Array.replicate (fn.ntmps-args.size) undef,[]⟩ [.code (.seq c0 (.seq (.seq (rA n p q s) (.cond (.tmp q) x .skip)) rest))]:=enter_at _ hf hb;rw[e0];have hs:=ZoI (S:=ZaI) (D:=fun _=>False) (w:=W) rfl (fun g hg=>by cases hg) (fun g hg=>by cases hg) hsz;refine Zaa hS ?_;refine ZbF (E0:=ZaI) (E:=Zca) (R:=fun a' w'=>T a'.tmps w'/\Old (Zex W) w') Zhi ZjR ZoX ZfU hs (ha.append (AR.replicate _ undefR)) rfl hc0 (fun v w t d h=>⟨hT _ _ _ h.1 ((Old.refl w).re t d),h.2.size,h.2.get⟩) (fun t d=>Code.wp_mono (fun e a' w' h=>⟨h.1,h.2.1,h.2.2.1,Ze h.2.2.2⟩) (h0 _ ((Old.refl (Zex W)).re t d))) ?_;rintro⟨tm,df⟩ l1 B1 ⟨hT1,ho1⟩ e2 hle1 hs1 ha1;cases e2;refine Zaa hS (Zaa hS ?_);simp only[rA];refine Za5 hS ?_;simp only[Zwy,Zv0,Zv3,Nat.reduceAdd,Zw9,List.range,List.range.loop];refine .stop _ _ _ (ZoJ (E:=Zca) (g:=7) (R:=fun v=>v=.bool true) ZjS (fun b x hb=>.inl hb.2) (by simp) rfl rfl (fun a w=>?_) (fun a w=>?_) ho1.get (fun hk1=>ZsY (hg.kept hk1) (ht.kept hk1)) (fun v h=>by subst h;rfl) fun v m hv=>?_);·simp only[show Zca.P=prog from rfl];kernel_rfl
 ·simp only[show Zca.P=prog from rfl];kernel_rfl
 subst hv;have ho2:Old l1 (Twin.pad l1 m):=Old.pad l1 m;replace hs1:=hs1.pad m;obtain⟨l2,hl2⟩:∃l2,Twin.pad l1 m=l2:=⟨_,rfl⟩;rw[hl2]at ho2 hs1 |-;have hT2:=hT _ _ _ hT1 ho2;have ha2:AR ZaI B1 (tm.setIfInBounds p (.bool true)) (tm.setIfInBounds p (.bool true)):=ha1.set p (.bool true);obtain⟨hp1,hq1⟩:=hTs _ _ hT2;have hget:(tm.setIfInBounds p (.bool true)).getD p undef=.bool true:=by rw[Zuj,Zux hp1];rfl
 have hget2:((tm.setIfInBounds p (.bool true)).setIfInBounds q (.bool false)).getD q undef=.bool false:=by rw[Zuj,Zux (by simpa using hq1)];rfl
 refine Zae (E0:=ZaI) (a:=⟨tm.setIfInBounds p (.bool true),[]⟩) hS ZfU Zhi hs1 ha2 rfl rfl (fun h=>by cases h) (Zs0 p) (fun tt dd K k1 k2=>?_);have ev:(⟨tm.setIfInBounds p (.bool true),[]⟩:Act).eval (.tmp p)=.bool true:=hget;simp only[show ZaI.P=prog from rfl];rw[show (execOp (⟨tm.setIfInBounds p (.bool true),[]⟩:Act).eval (#[{dst:=some p,op:=Op.call {callee:=Callee.value (Operand.func 7),args:=#[],argTypes:=#[]},type:=4,pos:=s,after:=#[],guard:=none},{dst:=some q,op:=Op.unOp UnOp.not 4 (Operand.tmp p),type:=4,pos:=s,after:=#[{on:=0,ground:=Ground.data}],guard:=none}][1])).run prog (l2.re tt dd)=.ok (.value (.bool false)) (l2.re tt dd)from Zs1 ev rfl _];refine k1 _ _ ?_;clear k1 k2 K;intro B2 hle2 hs2 ha3;refine Za6 hS ?_;refine Zg6 hS (t:=false) rfl hget2 ?_;simp only[ZuQ,if_false];refine Zjg hS ?_;refine Zhb (E0:=ZaI) (E:=Zca) (fn:=fn) (R:=fun v w=>v=.bool true/\Old l2 w) Zhi ZjR ZfU hs2 ha3 rfl hcr hf (fun t d=>Zgu (hr _ _ (hT _ _ _ hT2 ((Old.refl l2).re t d))) fun e w h=>⟨_,h.1,rfl,Ze h.2⟩) fun f l' hret hfn=>.stop _ _ _ ?_;obtain⟨hc,v,t,d,hl,rfl,ho⟩:=hret;refine ZoK (u:=.bool true) (R:=fun v _=>v=.bool true) (by rfl) (by rw[hfn];exact hi) ⟨hc,_,t,d,hl,rfl⟩ (fun v t d h=>h) rfl ?_ hk;have ho3:Old l2 l':=⟨ho.size,ho.get⟩;exact(ho1.trans (ho2.trans ho3)).get
end Go.Proofs
