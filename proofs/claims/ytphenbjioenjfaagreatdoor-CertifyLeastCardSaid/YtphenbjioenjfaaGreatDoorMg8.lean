import Derived.Shelf.Utf8.RuneCount
import Derived.Shelf.Strconv.Atoi
import Derived.Shelf.Strconv.Itoa3
import Derived.Shelf.Strings.Shaped
import Derived.Shelf.Strings.Prefix
import Derived.Shelf.Strings.SplitShaped
import Derived.Shelf.Strings.Explode
import Derived.Shelf.Unicode.DecodeAny
import Derived.Shelf.Slices.Clone
import Derived.Shelf.SlicesE.Clone
import Derived.Test.YtphenbjioenjfaaGreatDoorMg7
import Derived.Lib.AppendIntMem
set_option linter.unusedVariables false
set_option linter.unusedSimpArgs false
set_option maxRecDepth 100000
set_option maxHeartbeats 16000000
namespace Go.Proofs
open Tryz
open Go.Shelf
def Tryz.lays172_ren:Go.Shelf.Ren:=⟨fun|172=>104|244=>114|245=>115|247=>125|279=>126|280=>127|281=>128|282=>129|287=>136|316=>137|171=>105|205=>138|321=>143|322=>144|243=>116|246=>130|283=>139|284=>140|285=>141|286=>142|129=>146|317=>145|318=>147|319=>148|320=>149|337=>150|338=>151|n=>n,fun|9=>9|3=>3|75=>164|76=>165|4=>4|5=>5|167=>178|37=>146|0=>0|85=>179|2=>2|168=>181|53=>189|175=>196|46=>177|210=>200|127=>207|145=>210|143=>208|21=>21|171=>202|173=>204|212=>212|51=>187|20=>20|213=>213|232=>214|233=>215|80=>216|n=>n,fun|15=>3|16=>4|17=>5|18=>6|19=>7|n=>n⟩
theorem Tryz.lays172:Go.Proofs.Lays.n172 prog Tryz.lays172_ren:={
 mixed:=Qb
 f129:=func146.trans (congrArg some Qb)
 f171:=func105.trans (congrArg some Qb)
 f172:=func104.trans (congrArg some Qb)
 f205:=func138.trans (congrArg some Qb)
 f243:=func116.trans (congrArg some Qb)
 f244:=func114.trans (congrArg some Qb)
 f245:=func115.trans (congrArg some Qb)
 f246:=func130.trans (congrArg some Qb)
 f247:=func125.trans (congrArg some Qb)
 f279:=func126.trans (congrArg some Qb)
 f280:=func127.trans (congrArg some Qb)
 f281:=func128.trans (congrArg some Qb)
 f282:=func129.trans (congrArg some Qb)
 f283:=func139.trans (congrArg some Qb)
 f284:=func140.trans (congrArg some Qb)
 f285:=func141.trans (congrArg some Qb)
 f286:=func142.trans (congrArg some Qb)
 f287:=func136.trans (congrArg some Qb)
 f316:=func137.trans (congrArg some Qb)
 f317:=func145.trans (congrArg some Qb)
 f318:=func147.trans (congrArg some Qb)
 f319:=func148.trans (congrArg some Qb)
 f320:=func149.trans (congrArg some Qb)
 f321:=func143.trans (congrArg some Qb)
 f322:=func144.trans (congrArg some Qb)
 f337:=func150.trans (congrArg some Qb)
 f338:=func151.trans (congrArg some Qb)
 t0:=underlying0
 a0:=isAgg0
 z0:=sizeOf0
 v0:=zeroValue0
 t2:=underlying2
 a2:=isAgg2
 z2:=sizeOf2
 v2:=zeroValue2
 t3:=underlying3
 a3:=isAgg3
 z3:=sizeOf3
 v3:=zeroValue3
 t4:=underlying4
 a4:=isAgg4
 z4:=sizeOf4
 v4:=zeroValue4
 t5:=underlying5
 a5:=isAgg5
 z5:=sizeOf5
 v5:=zeroValue5
 t9:=underlying9
 a9:=isAgg9
 z9:=sizeOf9
 v9:=zeroValue9
 t20:=underlying20
 a20:=isAgg20
 z20:=sizeOf20
 v20:=zeroValue20
 t21:=underlying21
 a21:=isAgg21
 z21:=sizeOf21
 v21:=zeroValue21
 t37:=underlying146
 a37:=isAgg146
 z37:=sizeOf146
 v37:=zeroValue146
 t46:=underlying177
 a46:=isAgg177
 z46:=sizeOf177
 v46:=zeroValue177
 t51:=underlying187
 a51:=isAgg187
 z51:=sizeOf187
 v51:=zeroValue187
 t53:=underlying189
 a53:=isAgg189
 z53:=sizeOf189
 v53:=zeroValue189
 t75:=underlying164
 a75:=isAgg164
 z75:=sizeOf164
 v75:=zeroValue164
 t76:=underlying165
 a76:=isAgg165
 z76:=sizeOf165
 v76:=zeroValue165
 t85:=underlying179
 a85:=isAgg179
 z85:=sizeOf179
 v85:=zeroValue179
 t127:=underlying207
 a127:=isAgg207
 z127:=sizeOf207
 v127:=zeroValue207
 t143:=underlying208
 a143:=isAgg208
 z143:=sizeOf208
 v143:=zeroValue208
 t145:=underlying210
 a145:=isAgg210
 z145:=sizeOf210
 v145:=zeroValue210
 t167:=underlying178
 a167:=isAgg178
 z167:=sizeOf178
 v167:=zeroValue178
 t168:=underlying181
 a168:=isAgg181
 z168:=sizeOf181
 v168:=zeroValue181
 t171:=underlying202
 a171:=isAgg202
 z171:=sizeOf202
 v171:=zeroValue202
 t173:=underlying204
 a173:=isAgg204
 z173:=sizeOf204
 v173:=zeroValue204
 t175:=underlying196
 a175:=isAgg196
 z175:=sizeOf196
 v175:=zeroValue196
 t210:=underlying200
 a210:=isAgg200
 z210:=sizeOf200
 v210:=zeroValue200
 t212:=underlying212
 a212:=isAgg212
 z212:=sizeOf212
 v212:=zeroValue212
 t213:=underlying213
 a213:=isAgg213
 z213:=sizeOf213
 t232:=underlying214
 a232:=isAgg214
 z232:=sizeOf214
 v232:=zeroValue214
 t233:=underlying215
 a233:=isAgg215
 z233:=sizeOf215
 v233:=zeroValue215
 g15:=Qb
 g16:=Qb
 g17:=Qb
 g18:=Qb
 g19:=by kernel_rfl}
open Go.RowKit in theorem Tryz.strconv_Atoi(s:ByteArray)(n:Int)(hl:s.size<=18)(h:Lib.atoi s.data.toList=some n)(w:World):Calls prog 104 #[.string s] w fun e w'=>e=.returned (.tuple #[n,.nilIface])/\∃t,w'=Lib.bytesWorld w 5 t:=Any.strconv_Atoi Tryz.lays172 s n hl h w
def Tryz.laysM171_ren:Go.Shelf.Ren:=⟨fun|171=>105|243=>116|246=>130|283=>139|284=>140|285=>141|286=>142|129=>146|317=>145|318=>147|319=>148|320=>149|337=>150|338=>151|n=>n,fun|3=>3|9=>9|2=>2|4=>4|171=>202|0=>0|53=>189|37=>146|5=>5|173=>204|212=>212|51=>187|20=>20|213=>213|46=>177|232=>214|233=>215|n=>n,fun|17=>5|18=>6|19=>7|n=>n⟩
theorem Tryz.laysM171:Go.Proofs.LaysM.n171 prog Tryz.laysM171_ren:={
 mixed:=Qb
 f129:=func146.trans (congrArg some Qb)
 f171:=func105.trans (congrArg some Qb)
 f243:=func116.trans (congrArg some Qb)
 f246:=func130.trans (congrArg some Qb)
 f283:=func139.trans (congrArg some Qb)
 f284:=func140.trans (congrArg some Qb)
 f285:=func141.trans (congrArg some Qb)
 f286:=func142.trans (congrArg some Qb)
 f317:=func145.trans (congrArg some Qb)
 f318:=func147.trans (congrArg some Qb)
 f319:=func148.trans (congrArg some Qb)
 f320:=func149.trans (congrArg some Qb)
 f337:=func150.trans (congrArg some Qb)
 f338:=func151.trans (congrArg some Qb)
 t0:=underlying0
 a0:=isAgg0
 z0:=sizeOf0
 v0:=zeroValue0
 t2:=underlying2
 a2:=isAgg2
 z2:=sizeOf2
 v2:=zeroValue2
 t3:=underlying3
 a3:=isAgg3
 z3:=sizeOf3
 v3:=zeroValue3
 t4:=underlying4
 a4:=isAgg4
 z4:=sizeOf4
 v4:=zeroValue4
 t5:=underlying5
 a5:=isAgg5
 z5:=sizeOf5
 v5:=zeroValue5
 t9:=underlying9
 a9:=isAgg9
 z9:=sizeOf9
 v9:=zeroValue9
 t20:=underlying20
 a20:=isAgg20
 z20:=sizeOf20
 v20:=zeroValue20
 t37:=underlying146
 a37:=isAgg146
 z37:=sizeOf146
 v37:=zeroValue146
 t46:=underlying177
 a46:=isAgg177
 z46:=sizeOf177
 v46:=zeroValue177
 t51:=underlying187
 a51:=isAgg187
 z51:=sizeOf187
 v51:=zeroValue187
 t53:=underlying189
 a53:=isAgg189
 z53:=sizeOf189
 v53:=zeroValue189
 t171:=underlying202
 a171:=isAgg202
 z171:=sizeOf202
 v171:=zeroValue202
 t173:=underlying204
 a173:=isAgg204
 z173:=sizeOf204
 v173:=zeroValue204
 t212:=underlying212
 a212:=isAgg212
 z212:=sizeOf212
 v212:=zeroValue212
 t213:=underlying213
 a213:=isAgg213
 z213:=sizeOf213
 t232:=underlying214
 a232:=isAgg214
 z232:=sizeOf214
 v232:=zeroValue214
 t233:=underlying215
 a233:=isAgg215
 z233:=sizeOf215
 v233:=zeroValue215
 g17:=Qb
 g18:=Qb
 g19:=Qb
 i0:=Qb
 i2:=Qb
 i3:=Qb
 i4:=Qb
 i5:=Qb
 i9:=Qb
 i20:=Qb
 i37:=Qb
 i46:=Qb
 i51:=Qb
 i53:=Qb
 i171:=Qb
 i173:=Qb
 i212:=Qb
 i232:=Qb
 i233:=Qb
 m17:=Qb
 m18:=Qb
 m19:=by kernel_rfl}
open Go.RowKit Go.Sort Go.Lib in theorem Tryz.strconv_Itoa(n:Int)(h0:-9223372036854775808<=n)(h1:n<=9223372036854775807)(w:World)(htab:Lib.TabIs prog w "internal/strconv.uint64pow10" .u64 Lib.pow10Tab):Calls prog 105 #[n] w fun e w'=>e=.returned (.string ⟨(Lib.itoa n).toArray⟩)/\∃k os,w'=grow (w.drewN k) os:=Any.strconv_Itoa Tryz.laysM171 n h0 h1 w htab
def Tryz.lays101_ren:Go.Shelf.Ren:=⟨fun|101=>106|208=>117|206=>131|n=>n,fun|9=>9|4=>4|3=>3|n=>n,fun|n=>n⟩
theorem Tryz.lays101:Go.Proofs.Lays.n101 prog Tryz.lays101_ren:={
 mixed:=Qb
 f101:=func106.trans (congrArg some Qb)
 f206:=func131.trans (congrArg some Qb)
 f208:=func117.trans (congrArg some Qb)
 t3:=underlying3
 a3:=isAgg3
 z3:=sizeOf3
 v3:=zeroValue3
 t4:=underlying4
 a4:=isAgg4
 z4:=sizeOf4
 v4:=zeroValue4
 t9:=underlying9
 a9:=isAgg9
 z9:=sizeOf9
 v9:=zeroValue9}
open Go.RowKit Go.Lib in theorem Tryz.strings_TrimPrefix(s p:ByteArray)(w:World):Calls prog 106 #[.string s,.string p] w fun e w'=>e=.returned (.string ⟨(Lib.trimPrefix s.data.toList p.data.toList).toArray⟩)/\w'=w:=Any.strings_TrimPrefix Tryz.lays101 s p w
def Tryz.lays146_ren:Go.Shelf.Ren:=⟨fun|146=>52|221=>82|268=>101|138=>102|143=>103|195=>110|197=>111|218=>112|219=>113|260=>120|217=>121|225=>122|224=>123|267=>124|266=>134|314=>135|n=>n,fun|9=>9|31=>102|3=>3|4=>4|0=>0|105=>172|21=>21|5=>5|46=>177|119=>190|139=>193|138=>192|146=>194|51=>187|n=>n,fun|1=>0|3=>1|4=>2|n=>n⟩
theorem Tryz.lays146:Go.Proofs.Lays.n146 prog Tryz.lays146_ren:={
 mixed:=Qb
 f138:=func102.trans (congrArg some Qb)
 f143:=func103.trans (congrArg some Qb)
 f146:=func52.trans (congrArg some Qb)
 f195:=func110.trans (congrArg some Qb)
 f197:=func111.trans (congrArg some Qb)
 f217:=func121.trans (congrArg some Qb)
 f218:=func112.trans (congrArg some Qb)
 f219:=func113.trans (congrArg some Qb)
 f221:=func82.trans (congrArg some Qb)
 f224:=func123.trans (congrArg some Qb)
 f225:=func122.trans (congrArg some Qb)
 f260:=func120.trans (congrArg some Qb)
 f266:=func134.trans (congrArg some Qb)
 f267:=func124.trans (congrArg some Qb)
 f268:=func101.trans (congrArg some Qb)
 f314:=func135.trans (congrArg some Qb)
 t0:=underlying0
 a0:=isAgg0
 z0:=sizeOf0
 v0:=zeroValue0
 t3:=underlying3
 a3:=isAgg3
 z3:=sizeOf3
 v3:=zeroValue3
 t4:=underlying4
 a4:=isAgg4
 z4:=sizeOf4
 v4:=zeroValue4
 t5:=underlying5
 a5:=isAgg5
 z5:=sizeOf5
 v5:=zeroValue5
 t9:=underlying9
 a9:=isAgg9
 z9:=sizeOf9
 v9:=zeroValue9
 t21:=underlying21
 a21:=isAgg21
 z21:=sizeOf21
 v21:=zeroValue21
 t31:=underlying102
 a31:=isAgg102
 z31:=sizeOf102
 v31:=zeroValue102
 t46:=underlying177
 a46:=isAgg177
 z46:=sizeOf177
 v46:=zeroValue177
 t51:=underlying187
 a51:=isAgg187
 z51:=sizeOf187
 v51:=zeroValue187
 t105:=underlying172
 a105:=isAgg172
 z105:=sizeOf172
 v105:=zeroValue172
 t119:=underlying190
 a119:=isAgg190
 z119:=sizeOf190
 t138:=underlying192
 a138:=isAgg192
 z138:=sizeOf192
 v138:=zeroValue192
 t139:=underlying193
 a139:=isAgg193
 z139:=sizeOf193
 v139:=zeroValue193
 t146:=underlying194
 a146:=isAgg194
 z146:=sizeOf194
 v146:=zeroValue194
 g1:=Qb
 g3:=Qb
 g4:=by kernel_rfl}
open Go.RowKit Go.Lib in theorem Tryz.strings_Split(s sep:ByteArray)(m:Int)(w:World)(hs:s.size<4294967281)(hm:w.cell? ⟨0,0,none⟩=some (.int .i64 m))(h1:1<=sep.size):Calls prog 52 #[.string s,.string sep] w fun e w'=>e=.returned (.slice (some w.heap.size) (Lib.countB s sep+1) (Lib.countB s sep+1))/\w'=w.alloc (.cells ((Lib.splitB sep 0 (Lib.countB s sep) s).map Value.string).toArray 9):=Any.strings_Split Tryz.lays146 Qb s sep m w hs hm h1
end Go.Proofs
namespace Go.Proofs
open Tryz
open Go.RowKit
variable {w w':World}
def bs(l:List UInt8):ByteArray:=⟨l.toArray⟩
def Sc(l:List UInt8):List Value:=[.string (bs l)]
theorem Ze9(l:List UInt8):(bs l).data.toList=l:=by simp[bs]
theorem ZuF(s:ByteArray):bs s.data.toList=s:=by cases s;simp[bs]
theorem Zhp(l:List UInt8):(bs l).size=l.length:=by simp[bs,ByteArray.size]
structure Tabs (w:World):Prop where
 tab:Lib.TabIs prog w "internal/strconv.uint64pow10" .u64 Lib.pow10Tab
 mx:∃m,w.cell? ⟨0,0,none⟩=some (.int .i64 m)
theorem ZdO{p:Addr} {v:Value} (h:w.cell? p=some v)(hb:QB w w'):w'.cell? p=some v:=(hb.cell (World.block_lt_of_cell? _ _ h)).trans h
theorem Tabs.below(h:Tabs w)(hb:QB w w'):Tabs w':=by obtain⟨a,⟨m,c⟩⟩:=h;exact⟨Lib.tabBelow_of_tabIs a w' hb,⟨m,ZdO c hb⟩⟩
theorem ZuG(n:Int)(w:World)(h:n.natAbs<=9000000000000000000)(c:Tabs w):Calls prog 105 #[n] w (Qt w (.string (bs (Lib.itoa n)))):=(Tryz.strconv_Itoa n Qa Qa w c.tab).mono fun e w' ⟨a,k,g,d⟩=>⟨a,d▸Lib.below_grow w.heap.size w (ZBF _) k g⟩
theorem ZuH(a:ByteArray)(e:1<=a.size):∀(n:Nat)(s:ByteArray),s.size<=n->(Lib.splitB a 0 (Lib.countB s a) s).length=Lib.countB s a+1:=by intro n;induction n with
 |zero=>
  intro s m;rcases Lib.index_spec s.data.toList a.data.toList with⟨h,-⟩|⟨i,h,g,-,-⟩;·rw[Lib.countB_miss s a h];rfl
  ·have j:=Lib.index_room s.data.toList a.data.toList Qa;have c:s.data.toList.length=s.size:=Qd
   have d:a.data.toList.length=a.size:=Qd
   omega|succ n ih=>
  intro s m;rcases Lib.index_spec s.data.toList a.data.toList with⟨h,-⟩|⟨i,h,g,-,-⟩;·rw[Lib.countB_miss s a h];rfl
  ·have j:=Lib.index_room s.data.toList a.data.toList Qa;have c:s.data.toList.length=s.size:=Qd
   have d:a.data.toList.length=a.size:=Qd
   rw[Lib.countB_hit s a i e h,ZBv 1,Lib.splitB_hit a 0 _ s i h,ZAB,ih _ (by rw[ByteArray.size_extract];omega)]
theorem ZuI{l:List ByteArray} {m:List (List UInt8)} (h:l.map (·.data.toList)=m):l=m.map bs:=by subst h;rw[ZAP,show (bs ∘ fun x:ByteArray=>x.data.toList)=id from funext fun x=>ZuF x,List.map_id]
theorem ZnN(s:ByteArray):Lib.splitB ⟨#[32]⟩ 0 (Lib.countB s ⟨#[32]⟩) s=(cutL s.data.toList).map bs:=by refine ZuI ?_;rw[Lib.splitB_data];exact ZuA _ _ (ZBF _)
theorem ZuJ(s:ByteArray)(w:World)(hs:s.size<=100000)(g:Tabs w):Calls prog 52 #[.string s,.string ⟨#[32]⟩] w fun e w'=>(∃A c,e=.returned (.slice A (cutL s.data.toList).length c)/\At 1 Sc w' A (cutL s.data.toList)/\(cutL s.data.toList).length<=c)/\QB w w':=by obtain⟨m,d⟩:=g.mx;refine(Tryz.strings_Split s ⟨#[32]⟩ m w Qa d Qc).mono ?_;rintro e w' ⟨rfl,rfl⟩;have a:=ZuH ⟨#[32]⟩ Qc s.size s (ZBF _);rw[ZnN,ZAD]at a;rw[ZnN,<-a];refine⟨⟨_,_,rfl,?_,ZBF _⟩,ZC _ _⟩;intro k x i;refine⟨w.heap.size,0,rfl,Qd,?_⟩;intro j v h;match j,h with|0,rfl=>rw[World.cell?_alloc_at _ _ _ _ rfl];simp[i]
theorem ZuK(n:Int)(w:World)(c:n.natAbs<10^16):Calls prog 104 #[.string (bs (Lib.itoa n))] w (Qt w (.tuple #[n,.nilIface])):=by refine(Tryz.strconv_Atoi (bs (Lib.itoa n)) n (by rw[Zhp];have:=(ZjN 15 n c).1;omega) (by rw[Ze9];exact ZuD n) w).mono ?_;rintro e w' ⟨rfl,t,rfl⟩;exact⟨rfl,rfl,rfl,rfl,by rw[Lib.bytesWorld_size];omega,fun k a=>Lib.bytesWorld_at_old w 5 t k a⟩
theorem ZuL(b:List UInt8)(w:World):Calls prog 106 #[.string (bs b),.string ⟨#[45]⟩] w fun e w'=>e=.returned (.string (bs (ZdN b)))/\w=w':=by refine(Tryz.strings_TrimPrefix (bs b) ⟨#[45]⟩ w).mono ?_;rintro e w' ⟨rfl,rfl⟩;refine⟨?_,rfl⟩;rw[Ze9];show _=Ending.returned (.string (bs (ZdN b)));rw[<-ZuC];rfl
theorem At.tail1{α:Type} {sz:Nat} {cs:α->List Value} {w:World} {b o:Nat} {l:List α} (h:At sz cs w (some ⟨b,o,none⟩) l) (n:Nat):At sz cs w (some ⟨b,o+n*sz,none⟩) (l.drop n):=fun k x a=>by rw[ZAl]at a;obtain⟨i,m,c,d,e⟩:=h (n+k) x a;cases c;refine⟨b,o+n*sz,rfl,d,fun j u g=>?_⟩;rw[<-e j u g,ZBw];congr 2;omega
theorem ZuM(n:Int)(k:Nat)(w:World)(hk:k<=14)(z:n.natAbs<10^(k+1))(A:Tabs w):Calls prog 83 #[.string (bs (Lib.itoa n)),((k+1:Nat):Int)] w (Qt w (.tuple #[n,true])):=by
 have i:(10:Nat)^(k+1)<=10^15:=ZBV Qc Qa;have c:=ZuK n w Qa;have d:=ZzG fun W (D:QB w W)=>ZuG n W Qa (A.below D);have a:=ZzG fun W=>ZuL (Lib.itoa n) W;have y:=(ZjN k n z).2;obtain⟨S,u⟩:=Qu (bs (Lib.itoa n));obtain⟨M,j⟩:=Qu (bs (ZdN (Lib.itoa n)));have C:M.size<=k+1:=by rw[<-j,Zhp];exact y
 have m:decide ((M.size:Int)<=((k+1:Nat):Int))=true:=Qk
 have g:(M.size:Int)<=((k+1:Nat):Int):=Qa
 rw[u]at c d a |-;rw[j]at a;obtain⟨K,s⟩:∃K:Int,((k+1:Nat):Int)=K:=⟨_,rfl⟩;rw[s]at m g |-;have F:(S.toList==S.toList)=true:=Qd
 have E:∀W,(binOp .eql 164 .nilIface .nilIface).run prog W=.ok (.bool true) W:=fun W=>Qb
 clear z A i y u j s hk;go_enter func83,ntmps83;go_wp2_with (first|(go_at_call 104;refine c.mono ?_;rintro e G ⟨rfl,h⟩)|(go_at_call 105;refine(d.out _ h).mono ?_;rintro e w2 ⟨rfl,r⟩)|(go_at_call 106;refine(a.out _).mono ?_;rintro e H ⟨rfl,rfl⟩));go_ret2;exact⟨rfl,via h r⟩
theorem ZuN(A:Option Addr)(l:List Int)(k n c:Nat)(w:World)(hk:k<=14)(T:∀x∈l,x.natAbs<10^(k+1))(Q:At 1 Sc w A (l.map Lib.itoa))(U:l.length=n)(h9:n<=900)(V:Tabs w):Calls prog 53 #[.slice A n c,((k+1:Nat):Int)] w fun e w'=>(∃O c2,e=.returned (.tuple #[.slice O n c2,true])/\w'.ownsRow w.heap.size 3 1 (.slice O n c2) n (l.map (Value.int .i64)))/\QB w w':=by
 have y:=ZzG fun x (s:x∈l) W (hb:QB w W)=>ZuM x k W hk (T x s) (V.below hb);have G:=ZzG Q;have F:=ZzG U;obtain⟨K,R⟩:∃K:Int,((k+1:Nat):Int)=K:=⟨_,rfl⟩;rw[R]at y |-;obtain⟨i0,hi,L,M,N⟩:=info_parts info3;clear hk T Q U V R;go_enter func53,ntmps53;go_wp2;go_loopw [6,13] (fun v i wr=>∃j:Nat,j<=n/\i=.int .i64 j/\Hid (wr.ownsRow w.heap.size 3 1 v j ((l.take j).map (Value.int .i64)))/\QB w wr)(fun _ i _=>n-(intOf i).toNat);case atStart=>exact⟨0,ZB2 _,rfl,ZzG (World.ownsRow_nil _ _ _ _),ZyU _ _⟩
 case round=>
  obtain⟨j,hj,rfl,a,g⟩:=hrel;obtain⟨Z,c5,rfl⟩:=Z2 a.out;by_cases I:j<n
  ·have aB:(j:Int)<(n:Int):=Qa
   obtain⟨x,s⟩:∃x,l[j]?=some x:=⟨_,ZAm (by rw[F.out];exact I)⟩;obtain⟨b,o,rfl,aA,S⟩:=G.out.below g j (Lib.itoa x) (by rw[ZAq,s];rfl);have y0:=S 0 _ rfl;simp only[ZBz,ZBR]at y0;have H:=ZzG (y.out x (ZA5 s) wr g);have J:=ZzG (show (l.take (j+1)).map (Value.int .i64)=(l.take j).map (Value.int .i64)++[.int .i64 x]by rw[ZBn,s];simp);clear S s;go_wp2_with (first
    |(go_at_call 83;refine H.out.mono ?_;rintro e w2 ⟨rfl,m⟩;(have z:=ZzG (ZK a.out m));(have h:=via g m);clear m)|(at_builtin;refine wpList_append_own _ rfl _ _ 31 rfl w.heap.size 3 i0 (.int .i64 0) 1 8 underlying31 hi L M N rfl Qc _ _ _ rfl (z.out.alloc _) ⟨w2.heap.size,0,none⟩ 1 1 [.int .i64 x] rfl rfl ?c1 ?c2 ?c3 ?c4 ?c5 ?_));try (case c1=>exact Zbd _ [.int .i64 x] _ Qd)
   case c2=>first|rfl|(intro u X;simp at X;subst X;rfl)
   case c3=>first|omega|(unfold maxLen;omega)
   case c4=>omega
   case c5=>have:=h.size;first|omega|(simp;omega)
   intro v' Y d E _;have r:=ZzG (show Y.ownsRow w.heap.size 3 1 v' (j+1) ((l.take (j+1)).map (Value.int .i64))from by rw[J.out,List.map_take];exact d);have D:QB w Y:=ZT (via h (ZC _ _)) E fun b e=>by have:=(z.out.lt b e).1;omega
   clear d E;go_wp2;go_roundw;case rel=>exact⟨j+1,Qa,Qj,r.out,D⟩
   case measure=>exact Qv
  ·obtain rfl:n=j:=Qa
   have C:=ZzG (show l.take n=l by rw[<-F.out,ZBo]);go_wp2;go_ret2;exact⟨⟨Z,c5,rfl,by have:=a.out;rwa [C.out]at this⟩,g⟩
end Go.Proofs
namespace Go.Proofs
open Go.RowKit
theorem Zhq{w:World} {base:Nat} {e:TypeId} {a n c:Nat} {A:Option Addr} {xs:List Value} (h:w.ownsRow base e a (.slice A n c) n xs):n<=c:=by
 rcases h.2 with⟨h,r⟩|⟨g,d,i,j,s,u,m,-⟩;·omega
 ·cases j;exact m
end Go.Proofs
namespace Go.Proofs
open Tryz
open Go.RowKit
theorem ZnO{P:Program} {α:Type} {sz:Nat} {cs:α->List Value} (C:∀y,(cs y).length=sz)(hp:0<sz) {x:World} {t ty e:TypeId} {i:TypeInfo} {z:Value} {d:Nat} (J:P.underlying t=some (.slice e))(hi:P.info? e=some i)(hz:i.zero=some z)(hs:i.size=sz)(K:z.cells.size=sz)(G:i.bytes=d)(E:d<=1000)(b base:Nat)(s:base<=b)(u:x.heap[b]?=some (.cells #[] e))(F:base<=x.heap.size) {l:List α} {A:Option Addr} (c n:Nat)(S:l.length=n)(j:At sz cs x A l)(O:l.length<=1000):∃M N L,(Builtin.append_ #[t,t] ty #[.slice (some b) 0 0,.slice A n c]).run P x=.ok (.slice M n N) L/\QB x L/\L.ownsRow base e sz (.slice M n N) n (l.flatMap cs):=by subst S;cases l with
 |nil=>refine⟨some ⟨b,0,none⟩,0,x,?_,ZyU _ _,Qd,.inr ⟨b,0,#[],rfl,s,u,ZBF _,ZB2 _,Qd,Qd⟩⟩;cases A with
  |none=>simp[Builtin.append_,run_underlying J,sizeOf,typeInfo,hi,Builtin.lenOf,Builtin.firstCells,loadCells,loadCellsFrom,storeCells]|some a=>simp[Builtin.append_,run_underlying J,sizeOf,typeInfo,hi,Builtin.lenOf,Builtin.firstCells,loadCells,loadCellsFrom,storeCells]
 |cons y l'=>
  obtain⟨l,m⟩:∃l,y::l'=l:=⟨_,rfl⟩;have T:0<l.length:=by rw[<-m];simp
  rw[m]at j O |-;obtain⟨a,rfl⟩:∃a,A=some a:=by obtain⟨U,V,h,-⟩:=j 0 y (by rw[<-m];rfl);exact⟨_,h⟩
  have g:=Zjt cs sz C l;have r:=Zhf C j;have R:l.length*d<=1000*1000:=ZBP O E;subst hs;subst G;have Q:=run_append_grow (P:=P) (w:=x) t ty e i z J hi hz ⟨b,0,none⟩ 0 0 [] Qd Qd a l.length c (l.flatMap cs) g r Qa Qa (growslice_fits Qa (by rw[ZB1];omega));simp only[ZB1]at Q;have I:=grownCap_ge x l.length 0 e;have H:grownCap x l.length 0 e<=maxLen:=grownCap_le_maxLen x l.length 0 e Qq;have D:QB x (x.drew.alloc (.cells (([]:List Value).toArray++(l.flatMap cs).toArray++Builtin.zeroCells z.cells (grownCap x l.length 0 e-l.length)) e)):=((ZyU _ x).drew).alloc Qd _;refine⟨_,_,_,Q,D,g,.inr ⟨x.heap.size,_,_,rfl,F,heap_alloc_new x.drew _,I,H,?_,?_⟩⟩;·simp only[Array.size_append,ZBl,size_zeroCells,K,g,ZAE,ZB1,<-ZBw];congr 1;omega
  ·simp only[Array.toList_append,ZBb];rw[<-g];exact List.take_left
section
variable {P:Program} {ops:Array Oper}
theorem ZnP{rest:List Oper} {o:Oper} {a:Act} {x e:World} {v1 v2 d:Value} {Q:Exit->Act->World->Prop} (c:o.guard=none)(s y:Operand)(t:TypeId)(i:o.op=.call {callee:=.builtin .append,args:=#[s,y],argTypes:=#[t,t]})(hs:a.eval s=v1)(m:a.eval y=v2)(j:(Builtin.append_ #[t,t] o.type #[v1,v2]).run P x=.ok d e)(h:wpList P ops Q rest (a.put o.dst d) e):wpList P ops Q (o::rest) a x:=by refine wpList_plain c fun K g=>?_;unfold Oper.wp execOp;simp only[i,resolve,invoke,builtin,Sem.run_bind,Sem.run_pure,Result.andThen_ok,ZAT,ZAN,ZAQ,hs,m,j];exact g _ _ h
end
theorem ZjO(A:Option Addr)(l:List Int)(c n:Nat)(w:World)(g:At 1 Zc w A l)(D:l.length=n)(E:n<=1000):Calls prog 31 #[.slice A n c] w fun e w'=>(∃m r,e=.returned (.slice m n r)/\w'.ownsRow w.heap.size 3 1 (.slice m n r) n (l.flatMap Zc))/\QB w w':=by obtain⟨F,y,h,i,j⟩:=info_parts info3;obtain⟨m,r,G,z,C,a⟩:=ZnO (P:=prog) (sz:=1) (cs:=Zc) (x:=w.alloc (.cells #[] 3)) (t:=31) (ty:=31) (e:=3) (fun _=>rfl) Qc underlying31 y h i rfl j Qc w.heap.size w.heap.size (ZBF _) (ZA _ _ rfl) Qd c n D (g.below (ZC _ _)) Qa;have u:=ZzG z;have d:=ZzG a;have s:=via (ZC _ _) C;clear z a y h i j g;go_enter func31,ntmps31;go_wp2_with (at_builtin;refine ZnP rfl _ _ 31 rfl rfl rfl u.out ?_);go_ret;exact⟨⟨m,r,rfl,d.out⟩,s⟩
theorem ZuO(pA eA:Option Addr)(Z R F d:Nat)(ps:List Pa)(es:List En)(w:World)(hB:BookAt w pA Z ps eA R es)(hF:FewB ps es)(aM:ps.length=F)(V:es.length=d)(bH:d<=900):Calls prog 7 #[.agg #[.slice pA F Z,.slice eA d R]] w fun e w'=>(∃A c A2 c2 es2,e=.returned (.agg #[.slice A F c,.slice A2 d c2])/\es2.length=d/\es2.map En.sig=es.map En.sig/\w'.ownsRow w.heap.size 74 5 (.slice A F c) F (ps.flatMap Pa.cs)/\EnsOwn w' w.heap.size (.slice A2 d c2) es2)/\QB w w':=by
 obtain⟨j0,ji,aP,aQ,aR⟩:=info_parts Zne;obtain⟨Ap,cp,w2,hr,U,S⟩:=ZnO (P:=prog) (sz:=5) (cs:=Pa.cs) (x:=((w.alloc (.cells #[.slice pA F Z,.slice eA d R] 25)).alloc (.cells #[.slice none 0 0,.slice none 0 0] 25)).alloc (.cells #[] 74)) (t:=22) (ty:=22) (e:=74) (fun _=>rfl) Qc (by first|exact underlying22|kernel_rfl) ji aP aQ rfl aR Qc (w.heap.size+2) (w.heap.size+2) (ZBF _) (ZA _ _ Qd) Qd Z F aM (hB.P.below Qi) (by have:=hF.p;omega);have aV:=ZzG hr;have M0:=Zx U (Qs:(((w.alloc (.cells #[.slice pA F Z,.slice eA d R] 25)).alloc (.cells #[.slice none 0 0,.slice none 0 0] 25)).alloc (.cells #[] 74)).heap[w.heap.size]?=some (.cells #[.slice pA F Z,.slice eA d R] 25));have M1:=Zx U (Qs:(((w.alloc (.cells #[.slice pA F Z,.slice eA d R] 25)).alloc (.cells #[.slice none 0 0,.slice none 0 0] 25)).alloc (.cells #[] 74)).heap[w.heap.size+1]?=some (.cells #[.slice none 0 0,.slice none 0 0] 25));have aG:QB w w2:=via Qi U;have bE:=ZI M1;have bF:=U.size;clear hr ji aP aQ aR U;have bI:d<=R:=by rw[<-V];exact hB.ec'
 have aA:=ZzG hB.E;have bD:=ZzG hB.nil;have N:=ZzG V;have aI:=ZzG hF.co;obtain⟨i0,hi,bA,bB,bC⟩:=info_parts Zju;have aW:∀x,(sizeOf 25).run prog x=.ok 2 x:=fun x=>Qb
 have aT:∀x,(isAgg 25).run prog x=.ok true x:=fun x=>Qb
 clear hB hF aM V;go_enter func7,ntmps7;have S:=ZzG S;have D0:=bk2 M0;go_wp2_with (at_builtin;refine ZnP rfl _ _ 22 rfl rfl rfl aV.out ?_);go_loopw [4] (fun i wr=>∃j:Nat,∃v:Value,∃H:List En,j<=d/\i=.int .i64 j/\wr.heap[w2.heap.size]?=some (.cells #[.slice Ap F cp,v] 25)/\Hid (H.length=j)/\Hid (H.map En.sig=(es.take j).map En.sig)/\Hid (EnsOwn wr (w2.heap.size+1) v H)/\QB w2 wr)(fun i _=>d-(intOf i).toNat);case atStart=>exact⟨0,.slice none 0 0,[],ZB2 _,rfl,Qs,ZzG rfl,ZzG rfl,ZzG (EnsOwn.nil _ _),Qi⟩
 case round=>
  obtain⟨j,v,H,hj,rfl,M3,D,aO,z,C⟩:=hrel;have s:=z.out.own;rw[D.out]at s;obtain⟨A5,c5,rfl⟩:=Z2 s;clear s;have aF:QB w wr:=via aG C;have D0:=bk2 (Zx C M0);have D1:=bk2 (Zx C M1);have D3:=bk2 M3;have bK:=ZI M3;by_cases aU:j<d
  ·have bJ:(j:Int)<(d:Int):=Qa
   obtain⟨x,hx⟩:∃x,es[j]?=some x:=⟨_,ZAm (by rw[N.out];exact aU)⟩;have Y:=ZA5 hx;obtain⟨b,o,rfl,bG,hc⟩:=(aA.out.below aF).1 j x hx;have y0:=hc 0 _ rfl;have y1:=hc 1 _ rfl;have y2:=hc 2 _ rfl;simp only[ZBz]at y0;obtain⟨L,hL⟩:=Qu x.co.length;have aS:=ZzG fun W (U:QB wr W)=>ZjO x.A x.co x.c L W (((aA.out.below aF).2 x Y).below U) hL (by rw[<-hL];exact aI.out x Y);have M:=ZzG (show (es.take (j+1)).map En.sig=(es.take j).map En.sig++[x.sig]by rw[ZBn,hx];simp);have aD:=ZzG hL;have bL:wr.cell? ⟨b,o+j*3+1,none⟩=some (.slice x.A L x.c):=by rw[<-hL];exact y1
   clear hc hx Y y1 hL;go_wp2_with (first
    |(go_at_call 31;refine(aS.out _ (ZC _ _)).mono ?_;rintro e G ⟨⟨m,n,rfl,aE⟩,J⟩;(have Q3:=Zx J (Zz M3 (.cells #[.string x.nm,.slice x.A L x.c,.int .i64 x.mo] 76 (0,0))));(have Q5:=Zx J (ZA wr (.cells #[.string x.nm,.slice x.A L x.c,.int .i64 x.mo] 76 (0,0)) rfl));(have E3:=bk2 Q3);(have E5:=bk3 Q5);(have Q:=via (ZC wr (.cells #[.string x.nm,.slice x.A L x.c,.int .i64 x.mo] 76 (0,0))) J);(have I:QB wr ((G.setCell ⟨wr.heap.size,1,none⟩ (.slice m L n))):=Q.trans (((OnlyB.refl wr.heap.size G).set 1 _).below _ (ZBF _)));(have a:=ZzG (z.out.below (via I (ZC ((G.setCell ⟨wr.heap.size,1,none⟩ (.slice m L n))) (.cells #[.string x.nm,.slice m L n,.int .i64 x.mo] 76 (0,0))))));(have y:=ZzG aE);clear aE J)|(at_builtin;refine Zng rfl (.tmp 28) (.tmp 30) 23 76 i0 _ (.slice A5 j c5) 48 (w2.heap.size+1) j G.heap.size 3 (H.flatMap En.cs) [.string x.nm,.slice m L n,.int .i64 x.mo] 76 rfl rfl rfl Qb hi bA bB bC rfl Qc Qc rfl ?c1 ?c2 ?c3 ?c4 ?c5 ?_));case c1=>have:=a.out.own;rwa [D.out]at this
   case c2=>exact ZA _ _ Qd
   case c3=>simp[Value.oneCell']
   case c4=>omega
   case c5=>have:=a.out;have:=I.size;simp at this |-;omega
   intro v' w8 X K aJ;obtain⟨A8,c8,rfl⟩:=Z2 X;have aX:((G.setCell ⟨wr.heap.size,1,none⟩ (.slice m L n))).heap.size=G.heap.size:=Zem _ _ _;have aK:∀g,m=some g->wr.heap.size+1<=g.block/\g.block<G.heap.size:=fun g e=>by have:=y.out.lt g.block (by rw[e];rfl);simp only[World.size_alloc]at this;exact this
   have o7:=ZK (Zaq y.out fun r e=>((OnlyB.refl wr.heap.size G).set 1 (.slice m L n)).other r (by have:=(y.out.lt r e).1;simp at this;omega)) (ZC ((G.setCell ⟨wr.heap.size,1,none⟩ (.slice m L n))) (.cells #[.string x.nm,.slice m L n,x.mo] 76));have o5:=a.out.own;rw[D.out]at o5;have O:=fun r e=>(z.out.own.lt r e).2;have aB:EnsOwn w8 (w2.heap.size+1) (.slice A8 (j+1) c8) (H++[⟨x.nm,m,n,x.co,x.mo⟩]):=by
    refine EnsOwn.push a.out (x:=⟨x.nm,m,n,x.co,x.mo⟩) (Zc1 o7 aD.out) (Zel o7) (fun g e=>?_) K ?_ ?_
    ·have h1:=aK g e;refine⟨Qa,?_,fun h=>?_⟩;·simp;omega
     ·have:=O _ h.symm;omega
    ·have:=X;simp only[D.out,En.cs,aD.out];exact this
    ·rcases aJ with h|h;·exact .inl h
     ·exact .inr (by rw[h];simp)
   have R3:=Zaz K (Zz (Zf1 (i:=1) (u:=.slice m L n) Q3 (show w2.heap.size≠wr.heap.size by omega)) (.cells #[.string x.nm,.slice m L n,x.mo] 76)) (Zay o5 (Nat.lt_succ_self _));have aH:QB w2 w8:=ZT ((C.trans (I.mono Qa)).trans ((ZC ((G.setCell ⟨wr.heap.size,1,none⟩ (.slice m L n))) (.cells #[.string x.nm,.slice m L n,x.mo] 76)).mono Qa)) K fun b e=>by have:=(o5.lt b e).1;omega
   have aC:=ZzG aB;clear aB o7 o5 O aK aX X K aJ a y I Q;have F8:=bk2 R3;obtain⟨aY,aZ⟩:Hid ((H++[(⟨x.nm,m,n,x.co,x.mo⟩:En)]).length=j+1)/\Hid ((H++[(⟨x.nm,m,n,x.co,x.mo⟩:En)]).map En.sig=(es.take (j+1)).map En.sig):=⟨ZzG (by simp[D.out]),ZzG (by rw[M.out,ZAL,aO.out];rfl)⟩;go_wp2;go_roundw;case rel=>exact⟨j+1,_,_,Qa,Qj,ZL (o:=1) R3 (.slice A8 (j+1) c8) rfl,aY,aZ,ZzG (aC.out.other (Nat.lt_succ_self _) ((OnlyB.refl _ _).set _ _) Qd),aH.trans (((OnlyB.refl w2.heap.size w8).set 1 _).below _ (ZBF _))⟩
   case measure=>exact Qv
  ·obtain rfl:d=j:=Qa
   have M:H.map En.sig=es.map En.sig:=by rw[aO.out,<-N.out,ZBo]
   have aN:=ZzG M;have aL:=ZzG (ZK S.out C);clear M;go_wp2;refine bodyPost_ret (v:=.agg #[.slice Ap F cp,.slice A5 d c5]) ?_ rfl ⟨⟨Ap,cp,A5,c5,H,rfl,D.out,aN.out,?_,?_⟩,?_⟩;·exact Zeg (p:=2) (ad:=⟨w.heap.size+1,0,none⟩) rfl Qe (Zag (T:=25) (cs:=[.slice Ap F cp,.slice A5 d c5]) (aT _) (aW _) (ZL (ZL (Zx C M1) _ rfl) _ rfl))
   ·exact ZaN (Zaq aL.out fun r e=>(((OnlyB.refl (w.heap.size+1) wr).set _ _).set _ _).other r (by have:=(aL.out.lt r e).1;omega)) Qa
   ·exact(z.out.other (k:=w.heap.size+1) Qa (((OnlyB.refl _ _).set _ _).set _ _) Qd).base Qa
   ·go_grown
end Go.Proofs
namespace Go.Proofs
open Go.RowKit
section
variable {P:Program}
def ZdP(w0 w:World)(a:Nat)(x:World):Prop:=QB w0 x/\w.heap.size<=x.heap.size/\∀k,k<w.heap.size->k≠a->x.heap[k]?=w.heap[k]?
theorem ZjP{Q:Exit->Act->World->Prop} {a0:Act} {w:World} {l:List Oper} (w0:World)(p:Nat)(a:Nat)(H I:Obj)(s:Act)(hB:Zav l.toArray=true) (hB':Zav (mixL [p] (fun _ _=>undef) (fun _=>Gh.zero) 0 l).toArray=true) (hS:Region.noSelect l.toArray=true) (hN:spB l.toArray [p]=true)(hkd:(match l[p]? with|some o=>o.dst.isNone|_=>false)=true)(hw:QB w0 w)(hb:w0.heap.size<=a)(h4:w.heap[a]?=some H)(hs4:∀o,l[p]?=some o->∀x,ZdP w0 w a x->x.heap[a]?=some H->∃d,(execOp s.eval o).run P x=.ok .skip d/\OnlyB a x d/\d.heap[a]?=some I)(hq:∀u,ZdP w0 w a u->(∀(x:Grew u)(b o:Nat),b<u.heap.size->x.val.cell? ⟨b,o,none⟩=u.cell? ⟨b,o,none⟩)->wpQuiet P (mixL [p] (fun _ _=>undef) (fun _=>Gh.zero) 0 l).toArray (fun w'=>∃x:Grew u,w'=x.val) (fun K=>K=s) (mixL [p] (fun _ _=>undef) (fun _=>Gh.zero) 0 l) a0)(hend:∀x,ZdP w0 w a x->x.heap[a]?=some I->Q .normal s x):wpAny P .any l.toArray Q l.toArray.size (Array.replicate l.toArray.size false) a0 {w with drawn:=w.drawn+1}:=by
 have n:∀j∈[p],∀o,l[j]?=some o->o.dst=none:=by cases C:l[p]? with
  |none=>rw[C]at hkd;simp at hkd|some o1=>rw[C]at hkd;simp only[Option.isNone_iff_eq_none]at hkd;intro j m o i;rw[ZA9]at m;subst m;rw[C]at i;cases i;exact hkd
 have G:∀{x d:World},ZdP w0 w a x->OnlyB a x d->ZdP w0 w a d:=fun {x d} h i=>⟨h.1.trans (i.below _ hb),ZBG h.2.1 (i.below 0 (ZB2 _)).size,fun k A c=>(i.other k c).trans (h.2.2 k A c)⟩;have F:∀{x d:World},ZdP w0 w a x->QB x d->ZdP w0 w a d:=fun {x d} h e=>⟨via h.1 e,ZBG h.2.1 e.size,fun k A c=>(e.block k (ZBJ A h.2.1)).trans (h.2.2 k A c)⟩;have r:∀g g',mixL [p] (fun _ _=>undef) g 0 l=mixL [p] (fun _ _=>undef) g' 0 l:=fun g g'=>by apply Zz5;intro j;have c:=Zee [p] (fun _ _=>undef) g l 0 j;have R:=Zee [p] (fun _ _=>undef) g' l 0 j;rw[c,R]
 refine ZcF w0 (ZdP w0 w a) [p] (fun _ _=>undef) (fun L g x=>x.heap[a]?=some (if L p then I else H)) (fun _=>s) hB (fun g=>by rw[r g (fun _=>Gh.zero)];exact hB') hS hN
  ⟨hw,ZBF _,fun _ _ _=>rfl⟩ (fun x d h hb=>F h hb) (fun x h=>h.1) ?_ ?_ (fun g u O E _ _=>by rw[r g (fun _=>Gh.zero)];exact hq u O E) (fun _ _ _ _=>rfl) ?_ ?_;·intro L h;rw[h p Qd];exact h4
 ·rintro L V g x d h c e;rw[h p Qd];exact Zx e c
 ·intro j m o i L g x c y D M z J;have N:=n j m o i;rw[ZA9]at m;subst m;rw[M]at c;obtain⟨d,S,T,U⟩:=hs4 o i x y c;refine ZcB S ⟨G y T,.inl ⟨N,?_⟩⟩;rw[ZaV];exact U
 ·rintro g x c y D;simp only[if_true]at c;exact hend x y c
theorem ZjQ{Q:Exit->Act->World->Prop} {a0:Act} {w:World} {l:List Oper} (w0:World)(c:Act)(hB:Zav l.toArray=true) (hB':Zav (mixL [] (fun _ _=>undef) (fun _=>Gh.zero) 0 l).toArray=true) (hS:Region.noSelect l.toArray=true) (hN:spB l.toArray []=true) (hw:QB w0 w)(hq:∀u,QB w u->(∀(x:Grew u)(b o:Nat),b<u.heap.size->x.val.cell? ⟨b,o,none⟩=u.cell? ⟨b,o,none⟩)->wpQuiet P (mixL [] (fun _ _=>undef) (fun _=>Gh.zero) 0 l).toArray (fun w'=>∃x:Grew u,w'=x.val) (fun i=>i=c) (mixL [] (fun _ _=>undef) (fun _=>Gh.zero) 0 l) a0)(hend:∀x,QB w x->Q .normal c x):wpAny P .any l.toArray Q l.toArray.size (Array.replicate l.toArray.size false) a0 {w with drawn:=w.drawn+1}:=by
 have a:∀g g',mixL [] (fun _ _=>undef) g 0 l=mixL [] (fun _ _=>undef) g' 0 l:=fun g g'=>by apply Zz5;intro j;have s:=Zee [] (fun _ _=>undef) g l 0 j;have y:=Zee [] (fun _ _=>undef) g' l 0 j;rw[s,y]
 exact ZcF w0 (fun x=>QB w x) [] (fun _ _=>undef) (fun _ _ _=>True) (fun _=>c) hB (fun g=>by rw[a g (fun _=>Gh.zero)];exact hB') hS hN (ZyU _ _) (fun x z h m=>h.trans (m.mono h.size)) (fun x h=>via hw h) (fun _ _=>trivial) (fun _ _ _ _ _ _ _ _=>trivial) (fun g u n d _ _=>by rw[a g (fun _=>Gh.zero)];exact hq u n d) (fun j e=>by cases e) (fun j e=>by cases e) (fun g x _ r _=>hend x r)
end
end Go.Proofs
namespace Go.Proofs
open Tryz
open Go.RowKit
theorem ZuP(A D:Option Addr)(l:List Int)(c c2 n:Nat)(w:World)(E:At 1 Zc w A l)(F:At 1 Zc w D l)(I:l.length=n)(R:n<=1000):Calls prog 35 #[.slice A n c,.slice D n c2] w (Qt w true):=by
 have y:=ZzG I;have h:=ZzG E;have j:=ZzG F;clear I E F;go_enter func35,ntmps35;go_wp2;go_loopw [5] (fun i wr=>∃k:Nat,k<=n/\i=.int .i64 k/\QB w wr)(fun i _=>n-(intOf i).toNat);case atStart=>exact⟨0,ZB2 _,rfl,Qi⟩
 case round=>
  obtain⟨k,Q,rfl,d⟩:=hrel;by_cases u:k<n
  ·have L:(k:Int)<(n:Int):=Qa
   have K:(0:Int)<=(k:Int):=Qa
   obtain⟨x,C⟩:∃x,l[k]?=some x:=⟨_,ZAm (by rw[y.out];exact u)⟩;obtain⟨b,o,rfl,J,H⟩:=(h.out.below d) k x C;obtain⟨O,o2,rfl,G,g⟩:=(j.out.below d) k x C;have M:=H 0 _ rfl;have N:=g 0 _ rfl;simp only[ZBz,ZBR]at M N;clear H g C;go_wp2;refine Zbr w Qb Qb Qi ?_;intro s r;repeat (go_big_quiet_step (fail))
   refine wpQuiet_nil ?_;intro S m a z;clear s r;go_wp2;go_roundw;case rel=>exact⟨k+1,Qa,Qj,a⟩
   case measure=>exact Qv
  ·obtain rfl:n=k:=Qa
   go_wp2;go_ret;exact⟨rfl,Qi⟩
theorem ZuQ(den lev:Int)(A d:Option Addr)(l:List Int)(c c2 n:Nat)(w:World)(h:At 1 Zc w A l)(i:At 1 Zc w d l)(r:l.length=n)(m:n<=1000):Calls prog 10 #[.agg #[den,lev,.slice A n c],.agg #[den,lev,.slice d n c2]] w (Qt w true):=by have s:=ZzG fun W (j:QB w W)=>ZuP A d l c c2 n W (h.below j) (i.below j) r m;clear h i r m;go_enter func10,ntmps10;go_wp2_with (go_at_call 35;refine(s.out _ Qi).mono ?_;rintro e w2 ⟨rfl,g⟩;(have a:QB w w2:=via Qi g));go_ret;exact⟨rfl,a⟩
end Go.Proofs
namespace Go.Proofs
open Go.RowKit
variable {nm:List UInt8} {k ag v den lev:Int} {W:List Int}
def Zhr:List UInt8:=[109,101,97,110]
def Zhs:List UInt8:=[115,104,97,114,101]
def Zb6(nm:List UInt8)(k ag v den lev:Int)(W:List Int):List (List UInt8):=nm::((if k=1 then [Zhs,Lib.itoa ag]else [Zhr])++(Lib.itoa v::Lib.itoa den::Lib.itoa lev::W.map Lib.itoa))
structure NumsR (ag v den lev:Int)(W:List Int):Prop where
 ag:0<=ag/\ag<=400
 v:0<=v/\v<=1000
 den:1<=den/\den<=1000000000000
 lev:lev.natAbs<=1000000000000
 wt:∀x∈W,0<=x/\x<=1000000000000
 n:W.length<=8
theorem Zf8(n:Int)(h:n.natAbs<=1000000000000):(Lib.itoa n).length<=14:=(ZjN 12 n Qa).1
theorem ZnQ(d:nm.length<=20)(hR:NumsR ag v den lev W):(Zb6 nm k ag v den lev W).length<=14/\5<=(Zb6 nm k ag v den lev W).length/\∀x∈Zb6 nm k ag v den lev W,x.length<=20:=by
 have c:=hR.n;unfold Zb6;refine⟨?_,?_,fun x a=>?_⟩;·split<;>simp<;>omega
 ·split<;>simp
 ·rcases ZAX.1 a with rfl|a;·exact d
  rcases ZAU.1 a with a|a
  ·split at a
   ·simp only[ZAX,ZBe,or_false]at a;rcases a with rfl|rfl;·decide
    ·have:=Zf8 ag (by have:=hR.ag;omega);omega
   ·simp only[ZAX,ZBe,or_false]at a;subst a;decide
  ·simp only[ZAX,ZA3]at a;rcases a with rfl|rfl|rfl|⟨y,e,rfl⟩;·have:=Zf8 v (by have:=hR.v;omega);omega
   ·have:=Zf8 den (by have:=hR.den;omega);omega
   ·have:=Zf8 lev hR.lev;omega
   ·have:=Zf8 y (by have:=hR.wt y e;omega);omega
theorem ZuR(c:nm.length<=20)(hR:NumsR ag v den lev W):(Lib.join (Zb6 nm k ag v den lev W) [32]).length<=1000:=by obtain⟨d,-,a⟩:=ZnQ (k:=k) c hR;have:=ZnM 20 _ a;omega
structure EnTy (w:World)(base:Nat)(v:Value)(xs:List En):Prop where
 own:w.ownsRow base 76 3 v xs.length (xs.flatMap En.cs)
 row:∀x∈xs,At 1 Zc w x.A x.co/\(x.A=none->x.c=0)/\∀g,x.A=some g->∃cur fr,w.heap[g.block]?=some (.cells cur 3 fr)
end Go.Proofs
namespace Go.Proofs
open Tryz
open Go.RowKit
def ZcJ(ps:List Pa)(es:List En)(k ag den lev:Int)(W:List Int):Int:=if Zaw ps es k ag≠0 then Zaw ps es k ag else if Zbf es.length den lev W≠0 then Zbf es.length den lev W else if ZaH (ZP ps k ag) es den lev W then 0 else 20
def Zcs(ps:List Pa)(es:List En)(k ag den lev:Int)(W:List Int):Int×Int:=if ZcJ ps es k ag den lev W=0 then ((lev-spentL (exs es) W) / lowG (lev-spentL (exs es) W) den,den / lowG (lev-spentL (exs es) W) den)else (0,0)
theorem ZuS(r m A:Option Addr)(s n y C c g:Nat)(ps:List Pa)(es:List En)(k ag den lev:Int)(W:List Int)(w:World)(hB:BookAt w r s ps m n es)(hF:FewB ps es)(S:ps.length=y)(F:es.length=C)(hW:At 1 Zc w A W)(U:W.length=g)(hl:g<=1000000):Calls prog 20 #[.agg #[.slice r y s,.slice m C n],.agg #[k,ag],.agg #[den,lev,.slice A g c]] w (Qt w (.tuple #[.agg #[(Zcs ps es k ag den lev W).1,(Zcs ps es k ag den lev W).2],(ZcJ ps es k ag den lev W)])):=by
 have Q:=ZzG fun W (hb:QB w W)=>Zmv r m s n y C ps es k ag W (hB.below hb) hF S F;have R:=ZzG fun x (hb:QB w x)=>by have h:=Zm9 r m A s n y C c den lev W x (hW.below hb) Qa (by rw[<-F];exact hF.e);rw[U]at h;exact h
 have H:∀x,(sizeOf 30).run prog x=.ok 2 x:=fun x=>Qb
 have aG:∀x,(isAgg 30).run prog x=.ok true x:=fun x=>Qb
 by_cases Z:Zaw ps es k ag=0;case neg=>
  have e1:ZcJ ps es k ag den lev W=Zaw ps es k ag:=by unfold ZcJ;rw[if_pos Z]
  have V:Zcs ps es k ag den lev W=(0,0):=by unfold Zcs;rw[e1,if_neg Z]
  rw[e1,V];obtain⟨E1,aA⟩:=Qu (Zaw ps es k ag);rw[aA]at Z Q |-;clear hB hF S F hW U e1 V aA R;have aN:decide (E1=0)=false:=by simpa using Z
  go_enter func20,ntmps20;go_wp2_with (first|(go_at_call 26;refine(Q.out _ Qi).mono ?_;rintro e w2 ⟨rfl,a⟩;(have M:=Zx a (show (((((w.alloc (.cells #[.slice r y s,.slice m C n] 25)).alloc (.cells #[k,ag] 27)).alloc (.cells #[den,lev,.slice A g c] 35)).alloc (.cells #[(0:Int),(0:Int)] 30))).heap[w.heap.size]?=some (.cells #[.slice r y s,.slice m C n] 25)from Qs));(have N:=Zx a (show (((((w.alloc (.cells #[.slice r y s,.slice m C n] 25)).alloc (.cells #[k,ag] 27)).alloc (.cells #[den,lev,.slice A g c] 35)).alloc (.cells #[(0:Int),(0:Int)] 30))).heap[w.heap.size+1]?=some (.cells #[k,ag] 27)from Qs));(have O:=Zx a (show (((((w.alloc (.cells #[.slice r y s,.slice m C n] 25)).alloc (.cells #[k,ag] 27)).alloc (.cells #[den,lev,.slice A g c] 35)).alloc (.cells #[(0:Int),(0:Int)] 30))).heap[w.heap.size+1+1]?=some (.cells #[den,lev,.slice A g c] 35)from Qs));(have N3:=Zx a (show (((((w.alloc (.cells #[.slice r y s,.slice m C n] 25)).alloc (.cells #[k,ag] 27)).alloc (.cells #[den,lev,.slice A g c] 35)).alloc (.cells #[(0:Int),(0:Int)] 30))).heap[w.heap.size+1+1+1]?=some (.cells #[(0:Int),(0:Int)] 30)from Qs));(have i:=via (by go_grown:QB w (((((w.alloc (.cells #[.slice r y s,.slice m C n] 25)).alloc (.cells #[k,ag] 27)).alloc (.cells #[den,lev,.slice A g c] 35)).alloc (.cells #[(0:Int),(0:Int)] 30)))) a);clear a;(have C0:=bk2 M);(have C1:=bk2 N);(have C2:=bk3 O))|(refine ZaC Qh (.tmp 6) (.tmp 21) 30 Qh (w.heap.size+1+1+1) [.int .i64 0,.int .i64 0] [.int .i64 0,.int .i64 0] 30 rfl rfl (H _) N3 rfl Qc ?_;intro w5 j G aD;(have E:QB w w5:=ZT i G fun b e=>(by have:=ZB9 e;omega));clear G));refine bodyPost_ret (v:=.tuple #[.agg #[(0:Int),(0:Int)],E1]) ?_ rfl ⟨rfl,E⟩;exact ZaG (p:=6) (u:=7) (ad:=⟨w.heap.size+1+1+1,0,none⟩) (v:=.agg #[(0:Int),(0:Int)]) rfl Qe (Zag (T:=30) (cs:=[.int .i64 0,.int .i64 0]) (aG _) (H _) j)
 case pos=>
  have h2:=Z;unfold Zaw at h2;have hR:BookR ps es:=ZcC.1 (Zb3.1 h2 _ Qd);clear h2;rw[Z]at Q;by_cases h3:Zbf C den lev W=0;case neg=>
   have e1:ZcJ ps es k ag den lev W=Zbf C den lev W:=by unfold ZcJ;rw[if_neg (by simp[Z]),F,if_pos h3]
   have V:Zcs ps es k ag den lev W=(0,0):=by unfold Zcs;rw[e1,if_neg h3]
   rw[e1,V];obtain⟨E1,aA⟩:=Qu (Zbf C den lev W);rw[aA]at h3 R |-;clear hB hF S F hW U e1 V aA hR Z;have aN:decide (E1=0)=false:=by simpa using h3
   go_enter func20,ntmps20;go_wp2_with (first|(go_at_call 26;refine(Q.out _ Qi).mono ?_;rintro e w2 ⟨rfl,a⟩;(have M:=Zx a (show (((((w.alloc (.cells #[.slice r y s,.slice m C n] 25)).alloc (.cells #[k,ag] 27)).alloc (.cells #[den,lev,.slice A g c] 35)).alloc (.cells #[(0:Int),(0:Int)] 30))).heap[w.heap.size]?=some (.cells #[.slice r y s,.slice m C n] 25)from Qs));(have N:=Zx a (show (((((w.alloc (.cells #[.slice r y s,.slice m C n] 25)).alloc (.cells #[k,ag] 27)).alloc (.cells #[den,lev,.slice A g c] 35)).alloc (.cells #[(0:Int),(0:Int)] 30))).heap[w.heap.size+1]?=some (.cells #[k,ag] 27)from Qs));(have O:=Zx a (show (((((w.alloc (.cells #[.slice r y s,.slice m C n] 25)).alloc (.cells #[k,ag] 27)).alloc (.cells #[den,lev,.slice A g c] 35)).alloc (.cells #[(0:Int),(0:Int)] 30))).heap[w.heap.size+1+1]?=some (.cells #[den,lev,.slice A g c] 35)from Qs));(have N3:=Zx a (show (((((w.alloc (.cells #[.slice r y s,.slice m C n] 25)).alloc (.cells #[k,ag] 27)).alloc (.cells #[den,lev,.slice A g c] 35)).alloc (.cells #[(0:Int),(0:Int)] 30))).heap[w.heap.size+1+1+1]?=some (.cells #[(0:Int),(0:Int)] 30)from Qs));(have i:=via (by go_grown:QB w (((((w.alloc (.cells #[.slice r y s,.slice m C n] 25)).alloc (.cells #[k,ag] 27)).alloc (.cells #[den,lev,.slice A g c] 35)).alloc (.cells #[(0:Int),(0:Int)] 30)))) a);clear a;(have C0:=bk2 M);(have C1:=bk2 N);(have C2:=bk3 O))|(go_at_call 43;refine(R.out _ i).mono ?_;rintro e w3 ⟨rfl,d⟩;(have M0:=Zx d M);(have M1:=Zx d N);(have M2:=Zx d O);(have M3:=Zx d N3);(have D:=via i d);clear d C0 C1 C2 M N O;(have D0:=bk2 M0);(have D1:=bk2 M1);(have D2:=bk3 M2))|(refine ZaC Qh (.tmp 6) (.tmp 21) 30 Qh (w.heap.size+1+1+1) [.int .i64 0,.int .i64 0] [.int .i64 0,.int .i64 0] 30 rfl rfl (H _) M3 rfl Qc ?_;intro w5 j G aD;(have E:QB w w5:=ZT D G fun b e=>(by have:=ZB9 e;omega));clear G));refine bodyPost_ret (v:=.tuple #[.agg #[(0:Int),(0:Int)],E1]) ?_ rfl ⟨rfl,E⟩;exact ZaG (p:=6) (u:=7) (ad:=⟨w.heap.size+1+1+1,0,none⟩) (v:=.agg #[(0:Int),(0:Int)]) rfl Qe (Zag (T:=30) (cs:=[.int .i64 0,.int .i64 0]) (aG _) (H _) j)
  case pos=>
   have z:=Zf0.1 h3;rw[h3]at R;have sW:ZE 1000000000000 W:=fun x hx=>by have:=z.w x hx;omega
   have J:=ZzG (show ∀x,QB w x->Calls prog 44 #[.agg #[.slice r y s,.slice m C n],.agg #[k,ag],.agg #[den,lev,.slice A C c]] x (Qt x (.tuple #[.agg (if ZaH (ZP ps k ag) es den lev W then #[.int .i64 (lev-spentL (exs es) W),.int .i64 den]else #[.int .i64 0,.int .i64 0]),(ZaH (ZP ps k ag) es den lev W)])) from fun x hb=>(Zna r m A s n y C c ps es k ag den lev W x (hB.below hb) hF hR S F (hW.below hb) (by rw[z.len,F]) sW (by have:=z.d1;have:=z.dK;omega) z.lK).mono fun e w' h=>⟨Znb h.1,h.2⟩);have aL:(spentL (exs es) W).natAbs<=8*(1000000000000*20):=by have hs:=Zec (X:=20) (Y:=1000000000000) (exs es) W 8 hR.right.exs_mo sW;rw[ZBp (by rw[Z8];exact hR.right.n8),ZBp (by rw[z.len,<-F];exact hR.right.n8)]at hs;exact hs
   have aF:=ZzG fun x=>Zmr (lev-spentL (exs es) W) den x (by have:=z.d1;omega) (by have:=z.lK;omega) (by have:=z.d1;have:=z.dK;omega);have aO:g=C:=by rw[<-U];exact z.len
   subst aO;obtain⟨BD,aE⟩:=Qu (lev-spentL (exs es) W);have e0:ZcJ ps es k ag den lev W=if ZaH (ZP ps k ag) es den lev W then 0 else 20:=by unfold ZcJ;rw[if_neg (by simp[Z]),F,if_neg (by simp[h3])]
   cases hH:ZaH (ZP ps k ag) es den lev W with
   |false=>
    rw[hH]at e0 J;simp only[Zy0,if_false]at e0 J;have V:Zcs ps es k ag den lev W=(0,0):=by unfold Zcs;rw[e0,if_neg Qc]
    rw[e0,V];clear hB hF S F hW U e0 V hR Z h3 z sW aL aF hH aE;go_enter func20,ntmps20;go_wp2_with (first|(go_at_call 26;refine(Q.out _ Qi).mono ?_;rintro e w2 ⟨rfl,a⟩;(have M:=Zx a (show (((((w.alloc (.cells #[.slice r y s,.slice m g n] 25)).alloc (.cells #[k,ag] 27)).alloc (.cells #[den,lev,.slice A g c] 35)).alloc (.cells #[(0:Int),(0:Int)] 30))).heap[w.heap.size]?=some (.cells #[.slice r y s,.slice m g n] 25)from Qs));(have N:=Zx a (show (((((w.alloc (.cells #[.slice r y s,.slice m g n] 25)).alloc (.cells #[k,ag] 27)).alloc (.cells #[den,lev,.slice A g c] 35)).alloc (.cells #[(0:Int),(0:Int)] 30))).heap[w.heap.size+1]?=some (.cells #[k,ag] 27)from Qs));(have O:=Zx a (show (((((w.alloc (.cells #[.slice r y s,.slice m g n] 25)).alloc (.cells #[k,ag] 27)).alloc (.cells #[den,lev,.slice A g c] 35)).alloc (.cells #[(0:Int),(0:Int)] 30))).heap[w.heap.size+1+1]?=some (.cells #[den,lev,.slice A g c] 35)from Qs));(have N3:=Zx a (show (((((w.alloc (.cells #[.slice r y s,.slice m g n] 25)).alloc (.cells #[k,ag] 27)).alloc (.cells #[den,lev,.slice A g c] 35)).alloc (.cells #[(0:Int),(0:Int)] 30))).heap[w.heap.size+1+1+1]?=some (.cells #[(0:Int),(0:Int)] 30)from Qs));(have i:=via (by go_grown:QB w (((((w.alloc (.cells #[.slice r y s,.slice m g n] 25)).alloc (.cells #[k,ag] 27)).alloc (.cells #[den,lev,.slice A g c] 35)).alloc (.cells #[(0:Int),(0:Int)] 30)))) a);clear a;(have C0:=bk2 M);(have C1:=bk2 N);(have C2:=bk3 O))|(go_at_call 43;refine(R.out _ i).mono ?_;rintro e w3 ⟨rfl,d⟩;(have M0:=Zx d M);(have M1:=Zx d N);(have M2:=Zx d O);(have M3:=Zx d N3);(have D:=via i d);clear d C0 C1 C2 M N O;(have D0:=bk2 M0);(have D1:=bk2 M1);(have D2:=bk3 M2))|(go_at_call 44;refine(J.out _ D).mono ?_;rintro e w4 ⟨rfl,K⟩;(have P3:=Zx K M3);(have I:=via D K);clear K)|(refine ZaC Qh (.tmp 9) (.tmp 28) 30 Qh w4.heap.size [.int .i64 0,.int .i64 0] [.int .i64 0,.int .i64 0] 30 rfl rfl (H _) (ZA _ _ rfl) rfl Qc ?_;intro w6 aB L aM;(have Q3:=Zaz L (Zx (ZC _ _) P3) (by have:=ZI P3;simp;omega));(have aC:QB w w6:=ZT (via I (ZC _ _)) L fun b e=>(by have:=ZB9 e;have:=I.size;omega));clear L)|(refine ZaC Qh (.tmp 6) (.tmp 32) 30 Qh (w.heap.size+1+1+1) [.int .i64 0,.int .i64 0] [.int .i64 0,.int .i64 0] 30 rfl rfl (H _) Q3 rfl Qc ?_;intro w5 j G aD;(have E:QB w w5:=ZT aC G fun b e=>(by have:=ZB9 e;omega));clear G));refine bodyPost_ret (v:=.tuple #[.agg #[(0:Int),(0:Int)],(20:Int)]) ?_ rfl ⟨rfl,E⟩;exact ZaG (p:=6) (u:=7) (ad:=⟨w.heap.size+1+1+1,0,none⟩) (v:=.agg #[(0:Int),(0:Int)]) rfl Qe (Zag (T:=30) (cs:=[.int .i64 0,.int .i64 0]) (aG _) (H _) j)|true=>
    rw[hH]at e0 J;simp only[if_true]at e0 J;have V:Zcs ps es k ag den lev W=(BD / lowG BD den,den / lowG BD den):=by unfold Zcs;rw[e0,if_pos rfl,aE]
    rw[e0,V];rw[aE]at J aF;obtain⟨U1,aI⟩:=Qu (BD / lowG BD den);obtain⟨U2,aJ⟩:=Qu (den / lowG BD den);rw[aI,aJ]at aF |-;clear hB hF S F hW U e0 V hR Z h3 z sW aL hH aE aI aJ;go_enter func20,ntmps20;go_wp2_with (first|(go_at_call 26;refine(Q.out _ Qi).mono ?_;rintro e w2 ⟨rfl,a⟩;(have M:=Zx a (show (((((w.alloc (.cells #[.slice r y s,.slice m g n] 25)).alloc (.cells #[k,ag] 27)).alloc (.cells #[den,lev,.slice A g c] 35)).alloc (.cells #[(0:Int),(0:Int)] 30))).heap[w.heap.size]?=some (.cells #[.slice r y s,.slice m g n] 25)from Qs));(have N:=Zx a (show (((((w.alloc (.cells #[.slice r y s,.slice m g n] 25)).alloc (.cells #[k,ag] 27)).alloc (.cells #[den,lev,.slice A g c] 35)).alloc (.cells #[(0:Int),(0:Int)] 30))).heap[w.heap.size+1]?=some (.cells #[k,ag] 27)from Qs));(have O:=Zx a (show (((((w.alloc (.cells #[.slice r y s,.slice m g n] 25)).alloc (.cells #[k,ag] 27)).alloc (.cells #[den,lev,.slice A g c] 35)).alloc (.cells #[(0:Int),(0:Int)] 30))).heap[w.heap.size+1+1]?=some (.cells #[den,lev,.slice A g c] 35)from Qs));(have N3:=Zx a (show (((((w.alloc (.cells #[.slice r y s,.slice m g n] 25)).alloc (.cells #[k,ag] 27)).alloc (.cells #[den,lev,.slice A g c] 35)).alloc (.cells #[(0:Int),(0:Int)] 30))).heap[w.heap.size+1+1+1]?=some (.cells #[(0:Int),(0:Int)] 30)from Qs));(have i:=via (by go_grown:QB w (((((w.alloc (.cells #[.slice r y s,.slice m g n] 25)).alloc (.cells #[k,ag] 27)).alloc (.cells #[den,lev,.slice A g c] 35)).alloc (.cells #[(0:Int),(0:Int)] 30)))) a);clear a;(have C0:=bk2 M);(have C1:=bk2 N);(have C2:=bk3 O))|(go_at_call 43;refine(R.out _ i).mono ?_;rintro e w3 ⟨rfl,d⟩;(have M0:=Zx d M);(have M1:=Zx d N);(have M2:=Zx d O);(have M3:=Zx d N3);(have D:=via i d);clear d C0 C1 C2 M N O;(have D0:=bk2 M0);(have D1:=bk2 M1);(have D2:=bk3 M2))|(go_at_call 44;refine(J.out _ D).mono ?_;rintro e w4 ⟨rfl,K⟩;(have P3:=Zx K M3);(have I:=via D K);clear K)|(refine ZaC Qh (.tmp 9) (.tmp 28) 30 Qh w4.heap.size [.int .i64 BD,.int .i64 den] [.int .i64 0,.int .i64 0] 30 rfl rfl (H _) (ZA _ _ rfl) rfl (by simp[Value.oneCell']) ?_;intro w6 aB L aM;(have Q3:=Zaz L (Zx (ZC _ _) P3) (by have:=ZI P3;simp;omega));(have aC:QB w w6:=ZT (via I (ZC _ _)) L fun b e=>(by have:=ZB9 e;have:=I.size;omega));(have C6:=bk2 aB);clear L)|(go_at_call 29;refine(aF.out _).mono ?_;rintro e w7 ⟨rfl,aH⟩;(have S3:=Zx aH Q3);(have aK:=via aC aH);clear aH)|(refine ZaC Qh (.tmp 6) (.tmp 37) 30 Qh (w.heap.size+1+1+1) [.int .i64 U1,.int .i64 U2] [.int .i64 0,.int .i64 0] 30 rfl rfl (H _) S3 rfl (by simp[Value.oneCell']) ?_;intro w5 j G aD;(have E:QB w w5:=ZT aK G fun b e=>(by have:=ZB9 e;omega));clear G));refine bodyPost_ret (v:=.tuple #[.agg #[U1,U2],(0:Int)]) ?_ rfl ⟨rfl,E⟩;exact ZaG (p:=6) (u:=7) (ad:=⟨w.heap.size+1+1+1,0,none⟩) (v:=.agg #[U1,U2]) rfl Qe (Zag (T:=30) (cs:=[.int .i64 U1,.int .i64 U2]) (aG _) (H _) j)
theorem ZuT{w:World} {base m c c2 n:Nat} {A j:Option Addr} {ps:List Pa} {ys:List En} (h:w.ownsRow base 74 5 (.slice A m c) m (ps.flatMap Pa.cs))(a:EnTy w base (.slice j n c2) ys)(hm:ps.length=m)(y:ys.length=n):BookAt w A c ps j c2 ys:=by
 subst hm;subst y;have u:=Zhq h;have g:=Zhq a.own;refine⟨?_,⟨?_,fun x i=>(a.row x i).1⟩,u,g,fun x i=>(a.row x i).2.1⟩;·obtain⟨r,s,d,e⟩:=ZdI (cs:=Pa.cs) (sz:=5) (fun _=>rfl) h;cases d;exact e
 ·obtain⟨r,s,d,e⟩:=ZdI (cs:=En.cs) (sz:=3) (fun _=>rfl) a.own;cases d;exact e
def Z5:List Pa:=[⟨bs [97],10,12,5,6⟩,⟨bs [98],50,60,1,2⟩]
def ZQ(B:Option Addr):List En:=[⟨bs [104,97,108,102],B,2,[0,-2],-1⟩]
theorem ZdQ(B:Option Addr):BookR Z5 (ZQ B):=by have h:BookR Z5 (ZQ none):=ZcC.1 Qm;exact h.sig rfl
theorem Zht(w:World):Calls prog 21 #[] w fun e w'=>(∃A i B,e=.returned (.agg #[.slice A 2 2,.slice i 1 1])/\BookAt w' A 2 Z5 i 1 (ZQ B)/\∀g,A=some g->w.heap.size<=g.block)/\QB w w':=by
 go_enter func21,ntmps21;go_wp2;obtain⟨W,a⟩:=Qu ((((w.alloc (.cells #[.slice (some ⟨(w.heap.size+1),0,none⟩) 2 2,.slice (some ⟨(w.heap.size+1+1+1),0,none⟩) 1 1] 25)).alloc (.cells #[.string (bs [97]),(10:Int),(12:Int),(5:Int),(6:Int),.string (bs [98]),(50:Int),(60:Int),(1:Int),(2:Int)] 74)).alloc (.cells #[(0:Int),.int .i64 (-2)] 3)).alloc (.cells #[.string (bs [104,97,108,102]),.slice (some ⟨(w.heap.size+1+1),0,none⟩) 2 2,.int .i64 (-1)] 76));have j:W.heap[w.heap.size]?=some (.cells #[.slice (some ⟨(w.heap.size+1),0,none⟩) 2 2,.slice (some ⟨(w.heap.size+1+1+1),0,none⟩) 1 1] 25):=by rw[<-a];exact Qs
 have r:W.heap[(w.heap.size+1)]?=some (.cells #[.string (bs [97]),(10:Int),(12:Int),(5:Int),(6:Int),.string (bs [98]),(50:Int),(60:Int),(1:Int),(2:Int)] 74):=by rw[<-a];exact Qs
 have m:W.heap[(w.heap.size+1+1)]?=some (.cells #[(0:Int),.int .i64 (-2)] 3):=by rw[<-a];exact Qs
 have s:W.heap[(w.heap.size+1+1+1)]?=some (.cells #[.string (bs [104,97,108,102]),.slice (some ⟨(w.heap.size+1+1),0,none⟩) 2 2,.int .i64 (-1)] 76):=by rw[<-a];exact Qs
 have c:QB w W:=by rw[<-a];go_grown
 have o1:W.ownsRow w.heap.size 74 5 (.slice (some ⟨(w.heap.size+1),0,none⟩) 2 2) 2 (Z5.flatMap Pa.cs):=⟨rfl,.inr ⟨(w.heap.size+1),2,_,rfl,Qa,r,Qa,Qq,rfl,rfl⟩⟩;have o2:W.ownsRow w.heap.size 3 1 (.slice (some ⟨(w.heap.size+1+1),0,none⟩) 2 2) 2 (([0,-2]:List Int).flatMap Zc):=⟨rfl,.inr ⟨(w.heap.size+1+1),2,_,rfl,Qa,m,Qa,Qq,rfl,rfl⟩⟩;have o3:W.ownsRow w.heap.size 76 3 (.slice (some ⟨(w.heap.size+1+1+1),0,none⟩) 1 1) 1 ((ZQ (some ⟨(w.heap.size+1+1),0,none⟩)).flatMap En.cs):=⟨rfl,.inr ⟨(w.heap.size+1+1+1),1,_,rfl,Qa,s,Qa,Qq,rfl,rfl⟩⟩;have n:BookAt W (some ⟨(w.heap.size+1),0,none⟩) 2 Z5 (some ⟨(w.heap.size+1+1+1),0,none⟩) 1 (ZQ (some ⟨(w.heap.size+1+1),0,none⟩)):=ZuT o1 ⟨o3,fun x u=>by obtain rfl:=ZA9.1 u;exact⟨Zc1 o2 rfl,Zel o2,fun g e=>by cases e;exact⟨_,_,m⟩⟩⟩ rfl rfl;have h:∀x,(sizeOf 25).run prog x=.ok 2 x:=fun x=>Qb
 have d:∀x,(isAgg 25).run prog x=.ok true x:=fun x=>Qb
 refine bodyPost_ret (v:=.agg #[.slice (some ⟨(w.heap.size+1),0,none⟩) 2 2,.slice (some ⟨(w.heap.size+1+1+1),0,none⟩) 1 1]) ?_ rfl ⟨⟨some ⟨(w.heap.size+1),0,none⟩,some ⟨(w.heap.size+1+1+1),0,none⟩,some ⟨(w.heap.size+1+1),0,none⟩,rfl,by rw[<-a]at n;exact n,fun g e=>by cases e;dsimp only;omega⟩,by rw[<-a]at c;exact c⟩;rw[<-a]at j;exact Zeg (p:=0) (ad:=⟨w.heap.size,0,none⟩) rfl Qe (Zag (T:=25) (cs:=[.slice (some ⟨(w.heap.size+1),0,none⟩) 2 2,.slice (some ⟨(w.heap.size+1+1+1),0,none⟩) 1 1]) (d _) (h _) j)
theorem Zf9(B:Option Addr):FewB Z5 (ZQ B):=⟨Qc,by show 1<=1000;decide,fun p a=>by
 rcases ZAX.1 a with rfl|a;·decide
 ·obtain rfl:=ZA9.1 a;decide,fun x c=>by obtain rfl:=ZA9.1 c;show (bs [104,97,108,102]).size<=1000;decide,fun x c=>by obtain rfl:=ZA9.1 c;show 2<=1000;decide⟩
theorem ZuU(B:Option Addr):Zaw Z5 (ZQ B) 0 0=0:=by unfold Zaw;rw[ZcC.2 (ZdQ B)];rfl
theorem ZnR(B:Option Addr):ZcJ Z5 (ZQ B) 0 0 1 10 [20]=0/\Zcs Z5 (ZQ B) 0 0 1 10 [20]=(30,1):=by
 have h:ZcJ Z5 (ZQ B) 0 0 1 10 [20]=0:=by unfold ZcJ;rw[if_neg (by rw[ZuU];simp)];rfl
 refine⟨h,?_⟩;unfold Zcs;rw[if_pos h];kernel_rfl
end Go.Proofs
namespace Go.Proofs
open Tryz
open Go.RowKit Go.Twin Go.Conc
variable {w' W w:World}
def codeHd:Code->Code|.seq x _=>x|c=>c
def codeTl:Code->Code|.seq _ y=>y|c=>c
noncomputable def awBody:Code:=Tryz.f4.body.getD .skip
noncomputable def aw1:Code:=codeTl awBody
noncomputable def aw2:Code:=codeTl aw1
noncomputable def aw3:Code:=codeTl aw2
noncomputable def aw4:Code:=codeTl aw3
noncomputable def aw5:Code:=codeTl aw4
def Zhu(A c:Option Addr)(a p1:Nat):Array Value:=#[.bool false,.pointer (some p1),.int .i64 0,zu,zu,zu,zu,zu,zu,zu,zu,.tuple #[.agg #[(30:Int),(1:Int)],(0:Int)],.agg #[.slice A 2 2,.slice c 1 1],.agg #[(0:Int),(0:Int)],.slice (some a) 1 1,.agg #[(1:Int),(10:Int),.slice (some a) 1 1],.tuple #[.agg #[(30:Int),(1:Int)],(0:Int)],.agg #[(30:Int),(1:Int)],.int .i64 0,zu,zu,zu,zu,zu,zu,zu,zu,zu,zu,zu,zu,zu,zu,zu,zu,zu,zu,zu,zu,zu,zu,zu,zu,zu,zu,zu,zu,zu,zu,zu,zu,zu,zu,zu,zu,zu,zu,zu,zu,zu,zu,zu,zu,zu,zu,zu,zu,zu,zu,zu,zu,zu,zu,zu,zu,zu,zu,zu,zu,zu,zu,zu,zu,zu]
theorem ZuV(w:World):(codeHd aw1).wp prog (fun e y w'=>e=.normal/\y.defers=[]/\(∃A m n C,y.tmps=Zhu A m n C/\w'.heap[C]?=some (.cells #[(30:Int),(1:Int)] 30))/\QB w w') ⟨#[.bool false,zu,zu,zu,zu,zu,zu,zu,zu,zu,zu,zu,zu,zu,zu,zu,zu,zu,zu,zu,zu,zu,zu,zu,zu,zu,zu,zu,zu,zu,zu,zu,zu,zu,zu,zu,zu,zu,zu,zu,zu,zu,zu,zu,zu,zu,zu,zu,zu,zu,zu,zu,zu,zu,zu,zu,zu,zu,zu,zu,zu,zu,zu,zu,zu,zu,zu,zu,zu,zu,zu,zu,zu,zu,zu,zu,zu,zu,zu,zu,zu,zu,zu,zu],[]⟩ w:=by simp only[aw1,codeHd,codeTl,awBody,Tryz.f4,ZB5];have d:=ZzG fun x=>Zht x;go_wp2_with (first|(go_at_call 21;refine(d.out _).mono ?_;rintro e w2 ⟨⟨A,m,B,rfl,z,D⟩,g⟩;(have r:=ZzG z);(have i:=ZzG g);clear D z g)|(go_at_call 20;(obtain⟨u,a⟩:=Qu (w2.alloc (.cells #[(20:Int)] 3)));(have o2:u.ownsRow w2.heap.size 3 1 (.slice (some w2.heap.size) 1 1) 1 (([20]:List Int).flatMap Zc):=⟨rfl,.inr ⟨w2.heap.size,1,_,rfl,Qa,(by rw[<-a];exact Qs),Qa,Qq,rfl,rfl⟩⟩);(have c:QB w2 u:=by rw[<-a];go_grown);rw[a];clear a;(have s:=ZuS A m (some ⟨w2.heap.size,0,none⟩) 2 1 2 1 1 1 Z5 (ZQ B) 0 0 1 10 [20] u (r.out.below c) (Zf9 B) rfl rfl (Zc1 o2 rfl) rfl Qa);rw[(ZnR B).1,(ZnR B).2]at s;refine s.mono ?_;rintro e E ⟨rfl,h⟩;(have j:=via (via i.out c) h);clear s o2 h c));exact⟨⟨A,m,_,_,rfl,Qs⟩,via j Qi⟩
theorem ZnS(B:Option Addr):solvedL Z5.length (exs (ZQ B)) (ZP Z5 1 50)=some ([1,1],2,⟨2,0,[1]⟩):=by show solvedL 2 [([0,-2],-1)] [0,1]=some ([1,1],2,⟨2,0,[1]⟩);kernel_rfl
theorem ZuW(B:Option Addr):Zaw Z5 (ZQ B) 1 50=0:=by unfold Zaw;rw[ZcC.2 (ZdQ B)];rfl
def Zb7(X:Option Addr)(x:Nat)(Y:Option Addr)(y:Nat):Value:=.agg #[(1:Int),(2:Int),(2:Int),.slice X 2 x,(2:Int),(0:Int),.slice Y 1 y]
theorem ZuX{B:Option Addr} {a:Nat} {e:Ending} (h:ZcH Z5 (ZQ B) 1 50 a e w'):∃X x Y y,e=.returned (.tuple #[Zb7 X x Y y,(0:Int)]):=by unfold ZcH at h;rw[if_neg (by rw[ZuW];simp),ZnS]at h;obtain⟨X,x,Y,y,h,_⟩:=h;exact⟨X,x,Y,y,h⟩
def tmps2(A c:Option Addr)(a p1:Nat)(C d X:Option Addr)(x:Nat)(Y:Option Addr)(y p3:Nat):Array Value:=#[.bool false,.pointer (some p1),.int .i64 0,.pointer (some p3),.int .i64 0,zu,zu,zu,zu,zu,zu,.tuple #[.agg #[(30:Int),(1:Int)],(0:Int)],.agg #[.slice A 2 2,.slice c 1 1],.agg #[(0:Int),(0:Int)],.slice (some a) 1 1,.agg #[(1:Int),(10:Int),.slice (some a) 1 1],.tuple #[.agg #[(30:Int),(1:Int)],(0:Int)],.agg #[(30:Int),(1:Int)],.int .i64 0,.tuple #[Zb7 X x Y y,(0:Int)],.agg #[.slice C 2 2,.slice d 1 1],.agg #[(1:Int),(50:Int)],.tuple #[Zb7 X x Y y,(0:Int)],Zb7 X x Y y,.int .i64 0,zu,zu,zu,zu,zu,zu,zu,zu,zu,zu,zu,zu,zu,zu,zu,zu,zu,zu,zu,zu,zu,zu,zu,zu,zu,zu,zu,zu,zu,zu,zu,zu,zu,zu,zu,zu,zu,zu,zu,zu,zu,zu,zu,zu,zu,zu,zu,zu,zu,zu,zu,zu,zu,zu,zu,zu,zu,zu,zu]
def ZdR(X:Option Addr)(x:Nat)(Y:Option Addr)(y:Nat):Obj:=.cells #[(1:Int),(2:Int),(2:Int),.slice X 2 x,(2:Int),(0:Int),.slice Y 1 y] 37
theorem ZuY(A r:Option Addr)(c p1:Nat)(w:World):(codeHd aw2).wp prog (fun e s w'=>e=.normal/\s.defers=[]/\(∃C m X x Y y D,s.tmps=tmps2 A r c p1 C m X x Y y D/\w'.heap[D]?=some (ZdR X x Y y))/\QB w w') ⟨Zhu A r c p1,[]⟩ w:=by
 simp only[aw2,aw1,codeHd,codeTl,awBody,Tryz.f4,ZB5,Zhu];have d:=ZzG fun x=>Zht x;have F:∀x,(sizeOf 37).run prog x=.ok 7 x:=fun x=>Qb
 go_wp2_with (first|(go_at_call 21;refine(d.out _).mono ?_;rintro e w2 ⟨⟨C,m,B,rfl,u,E⟩,g⟩;(have n:=ZzG u);(have i:=ZzG g);clear E u g)|(go_at_call 6;(have z:=Zjr C m 2 1 2 1 Z5 (ZQ B) 1 50 w2 n.out (Zf9 B) rfl rfl);refine z.mono ?_;rintro e G ⟨a,h⟩;(obtain⟨X,x,Y,y,rfl⟩:=ZuX a);(have j:=via i.out h);clear z a h;simp only[Zb7]));exact⟨⟨C,m,X,x,Y,y,_,rfl,Qs⟩,via j Qi⟩
structure Old (W w':World):Prop where
 size:W.heap.size<=w'.heap.size
 get:∀b,b<W.heap.size->w'.heap[b]?=W.heap[b]?
theorem Old.refl(W:World):Old W W:=⟨ZBF _,fun _ _=>rfl⟩
theorem Old.trans(h:Old W w)(a:Old w w'):Old W w':=⟨ZBG h.size a.size,fun b c=>(a.get b (ZBJ c h.size)).trans (h.get b c)⟩
theorem Zp(h:QB w w'):Old w w':=⟨h.size,h.block⟩
theorem Ze{t:Nat->Question->Nat} {d:Nat} (h:Below (w.re t d).heap.size (w.re t d) w'):Old w w':=⟨h.size,h.block⟩
theorem Old.at{b:Nat} {o:Obj} (h:Old W w')(hb:W.heap[b]?=some o):w'.heap[b]?=some o:=(h.get b (Zyy.1 hb).1).trans hb
theorem ZuZ:ZO.code (codeHd aw1)=true:=Qb
theorem Zu0:ZO.code (codeHd aw2)=true:=Qb
theorem Zb{E:Env} {B:Blk} {xs ys:Array Value} (h:AR E B xs xs)(e:xs=ys):AR E B ys ys:=e▸h
theorem Zu1{Stop:Frame->List Frame->World->Prop} {cs:List Frame} (hS:Halts Stop)(V:GlobOk w)(k:∀A c a p1 C i X x Y y p3 l' D,awB.le D->Self ZO (fun _=>False) D l'->AR ZO D (tmps2 A c a p1 C i X x Y y p3) (tmps2 A c a p1 C i X x Y y p3)->l'.heap[p1]?=some (.cells #[(30:Int),(1:Int)] 30)->l'.heap[p3]?=some (ZdR X x Y y)->Old (Zac w) l'->LG ZR Stop ((Go.Conc.base 4).at ⟨tmps2 A c a p1 C i X x Y y p3,[]⟩ [.code aw3]) cs l'):LG ZR Stop ((Go.Conc.base 4).at ⟨Array.replicate 84 undef,[]⟩ [.code awBody]) cs (Zac w):=by
 have F:=Zux V;have j:awB.le awB:=Blk.le_refl _;have E:AR ZO awB (Array.replicate 84 undef) (Array.replicate 84 undef):=AR.replicate _ undefR;rw[show awBody=.seq (codeHd awBody) aw1 from Qb];refine Zal hS ?_;simp only[awBody,codeHd,Tryz.f4,ZB5];refine Zbo hS ?_;simp only[ZBl,ZAB,ZAE,Nat.reduceAdd,ZB1,List.range,List.range.loop];refine Zap hS ZZ ZX F (Zb E Qb) rfl rfl Qc Qb (fun tt T K O Q=>?_);simp only[show ZO.P=prog from rfl];go_simp;first|refine O _ _ ?_|refine Q _ ?_
 clear O Q K tt T;intro D g z n;replace j:=Blk.le_trans j g;clear F E g;have F:=z;have E:=n;clear z n;walk_nrm;refine Zbp hS ?_;rw[show aw1=.seq (codeHd aw1) aw2 from Qb];refine Zal hS ?_;refine Zb1 (R:=fun m w'=>(∃A c a p1,m.tmps=Zhu A c a p1/\w'.heap[p1]?=some (.cells #[(30:Int),(1:Int)] 30))/\Old (Zac w) w') ZX Zbq Zbv ZZ F (Zb E Qb) rfl ZuZ (fun v w t d h=>⟨h.1,h.2.size,h.2.get⟩) (fun t d=>Code.wp_mono (fun e m w' h=>⟨h.1,h.2.1,h.2.2.1,(Ze h.2.2.2).size,(Ze h.2.2.2).get⟩) (ZuV _)) ?_;rintro⟨tm,U⟩ Z B1 ⟨⟨A,c,a,p1,G,n1⟩,L⟩ H r M I;cases G;cases H;rw[show aw2=.seq (codeHd aw2) aw3 from Qb];refine Zal hS ?_;refine Zb1 (R:=fun m w'=>(∃C i X x Y y p3,m.tmps=tmps2 A c a p1 C i X x Y y p3/\w'.heap[p3]?=some (ZdR X x Y y))/\Old Z w') ZX Zbq Zbv ZZ M I rfl Zu0 (fun v w t d h=>⟨h.1,h.2.size,h.2.get⟩) (fun t d=>Code.wp_mono (fun e m w' h=>⟨h.1,h.2.1,h.2.2.1,(Ze h.2.2.2).size,(Ze h.2.2.2).get⟩) (ZuY A c a p1 _)) ?_;rintro⟨tm,U⟩ l2 S ⟨⟨C,i,X,x,Y,y,p3,G,n3⟩,u⟩ H s N J;cases G;cases H;exact k A c a p1 C i X x Y y p3 l2 S (Blk.le_trans (Blk.le_trans j r) s) N J (u.at n1) n3 (L.trans u)
variable {w w':World} {b o:Nat} {v:Value}
theorem At.old{sz:Nat} {α:Type} {cs:α->List Value} {A:Option Addr} {xs:List α} (h:At sz cs w A xs)(a:Old w w'):At sz cs w' A xs:=(h.below (⟨rfl,rfl,rfl,a.size,a.get⟩:QB w {w' with os:=w.os,tape:=w.tape,output:=w.output}):At sz cs {w' with os:=w.os,tape:=w.tape,output:=w.output} A xs)
theorem BookAt.old{d a:Option Addr} {e c:Nat} {ps:List Pa} {es:List En} (hB:BookAt w d e ps a c es)(h:Old w w'):BookAt w' d e ps a c es:=⟨hB.P.old h,⟨hB.E.1.old h,fun x g=>(hB.E.2 x g).old h⟩,hB.pc',hB.ec',hB.nil⟩
noncomputable def shBody:Code:=Tryz.f22.body.getD .skip
noncomputable def shA:Code:=codeTl shBody
noncomputable def shB:Code:=codeTl shA
noncomputable def shC:Code:=codeTl shB
noncomputable def shD:Code:=codeTl shC
noncomputable def shE:Code:=codeTl shD
def Zga(A a:Option Addr):Array Value:=#[.agg #[.slice A 2 2,.slice a 1 1],.int .i64 1,zu,zu,zu,zu,zu,zu,zu,zu,zu,zu,zu,zu,zu,zu,zu,zu,zu,zu,zu,zu,zu,zu,zu,zu,zu,zu,zu,zu,zu,zu,zu,zu,zu,zu,zu,zu,zu,zu,zu,zu]
def Zhv(A a:Option Addr)(c d:Nat):Array Value:=#[.agg #[.slice A 2 2,.slice a 1 1],.int .i64 1,.pointer (some c),undef,.pointer (some d),.int .i64 0,zu,zu,zu,zu,zu,zu,zu,zu,zu,zu,zu,zu,zu,zu,zu,zu,zu,zu,zu,zu,zu,zu,zu,zu,zu,zu,zu,zu,zu,zu,zu,zu,zu,zu,zu,zu]
def Zhw(A c:Option Addr)(d e a:Nat):Array Value:=#[.agg #[.slice A 2 2,.slice c 1 1],.int .i64 1,.pointer (some d),undef,.pointer (some e),.int .i64 0,.int .i64 0,undef,undef,undef,.agg #[.slice A 2 2,.slice c 1 1],.int .i64 0,.int .i64 1,.pointer (some d),.slice A 2 2,.int .i64 2,.int .i64 1,.bool true,.int .i64 0,.slice (some a) 2 2,.int .i64 0,.int .i64 0,.bool false,zu,zu,zu,zu,zu,zu,zu,zu,zu,zu,zu,zu,zu,zu,zu,zu,zu,zu,zu]
def Zhx(A d:Option Addr)(c g a e:Nat):Array Value:=#[.agg #[.slice A 2 2,.slice d 1 1],.int .i64 1,.pointer (some c),undef,.pointer (some g),.int .i64 0,.int .i64 0,.slice (some e) 2 2,undef,undef,.agg #[.slice A 2 2,.slice d 1 1],.int .i64 0,.int .i64 1,.pointer (some c),.slice A 2 2,.int .i64 2,.int .i64 1,.bool true,.int .i64 0,.slice (some a) 2 2,.int .i64 0,.int .i64 0,.bool false,undef,undef,.pointer (some c),.slice A 2 2,.int .i64 2,.slice (some e) 2 2,zu,zu,zu,zu,zu,zu,zu,zu,zu,zu,zu,zu,zu]
def ZnT(A e:Option Addr)(d g c a:Nat):Array Value:=#[.agg #[.slice A 2 2,.slice e 1 1],.int .i64 1,.pointer (some d),undef,.pointer (some g),.int .i64 0,.int .i64 0,.slice (some a) 2 2,undef,undef,.agg #[.slice A 2 2,.slice e 1 1],.int .i64 0,.int .i64 1,.pointer (some d),.slice A 2 2,.int .i64 2,.int .i64 1,.bool true,.int .i64 0,.slice (some c) 2 2,.int .i64 0,.int .i64 0,.bool false,undef,undef,.pointer (some d),.slice A 2 2,.int .i64 2,.slice (some a) 2 2,.slice (some a) 2 2,.int .i64 1,.pointer (some ⟨a,1,none⟩),zu,zu,zu,zu,zu,zu,zu,zu,zu,zu]
theorem Zu2(A a:Option Addr)(w:World):(codeHd shBody).wp prog (fun e d w'=>e=.normal/\d.defers=[]/\(∃g c,d.tmps=Zhv A a g c/\w'.heap[g]?=some (.cells #[.slice A 2 2,.slice a 1 1] 25)/\w'.heap[c]?=some (.cells #[(0:Int),(0:Int)] 63)/\w.heap.size<=c)/\QB w w') ⟨Zga A a,[]⟩ w:=by simp only[codeHd,codeTl,shBody,Tryz.f22,ZB5,Zga];go_wp2;exact⟨⟨_,_,rfl,Qs,Qs,by first|omega|simp⟩,Qi⟩
theorem Zu3(A c B:Option Addr)(i u:Nat)(w:World)(hB:BookAt w A 2 Z5 c 1 (ZQ B))(y:w.heap[i]?=some (.cells #[.slice A 2 2,.slice c 1 1] 25)):(codeHd shA).wp prog (fun e s w'=>e=.normal/\s.defers=[]/\(∃h,s.tmps=Zhw A c i u h)/\QB w w') ⟨Zhv A c i u,[]⟩ w:=by
 simp only[codeHd,codeTl,shA,shBody,Tryz.f22,ZB5,Zhv];have z:=ZzG fun W (C:QB w W)=>(ZcC.2 (ZdQ B))▸Zg2 A c 2 1 2 1 Z5 (ZQ B) W (hB.below C) (Zf9 B) rfl rfl;have d:=ZzG fun W=>Zco 1 0 1 W;rw[show Z1 1 0 1=true from Qc]at d;have D:=bk2 y;have j:QB w w:=ZyU _ _;clear hB y;refine wp_seq ?_;refine ZaK w 9 Qb Qb j ?_;intro m g;simp only[ZBr,ZBt,ZzZ,Zz0];repeat (go_big_quiet_step (first
  |(go_at_call 46;with_reducible exact Grew.call (z.out _ (g.out _)))|(go_at_call 48;with_reducible exact Zd (d.out _))|(go_at_call 47;with_reducible exact Zd (ZbH _ _ _))))
 refine wpQuiet_nil ?_;intro E a r n;clear m g;simp only[show unl true 6=0 from rfl];go_wp2_with (go_at_call 45;refine(Zea _ _ _).mono ?_;rintro e w' ⟨rfl,rfl⟩;simp only[show Z4 [0,0]=0 from rfl]);exact⟨⟨_,rfl⟩,via a Qi⟩
theorem Zu4(A c:Option Addr)(d i a:Nat)(w:World)(j:w.heap[d]?=some (.cells #[.slice A 2 2,.slice c 1 1] 25)):(codeHd shB).wp prog (fun e h w'=>e=.normal/\h.defers=[]/\(∃g,h.tmps=Zhx A c d i a g/\w'.heap[g]?=some (.cells #[(0:Int),(0:Int)] 3)/\w.heap.size<=g)/\QB w w') ⟨Zhw A c d i a,[]⟩ w:=by simp only[codeHd,codeTl,shB,shA,shBody,Tryz.f22,ZB5,Zhw];have D:=bk2 j;clear j;have m:∀W,(Instr.makeSlice 31 (.int .i64 2) (.int .i64 2)).run prog W=.ok (.slice (some W.heap.size) 2 2) (W.alloc (.cells #[(0:Int),(0:Int)] 3)):=fun W=>ZdG 2 Qa W;go_wp2;exact⟨⟨_,rfl,Qs,ZBF _⟩,Qi⟩
theorem Zu5{c:Array Value} {T:TypeId} {f:Nat×Nat} (h:w.heap[b]?=some (.cells c T f)):(w.setCell ⟨b,o,none⟩ v).heap[b]?=some (.cells (c.setIfInBounds o v) T f):=by simp[World.setCell,ZyB,h]
theorem Zu6{k:Nat} (hne:k≠b):(w.setCell ⟨b,o,none⟩ v).heap[k]?=w.heap[k]?:=by simp[World.setCell,ZyB,Ne.symm hne]
theorem Zu7(A h:Option Addr)(j m a c:Nat)(w:World)(d:w.heap[c]?=some (.cells #[(0:Int),(0:Int)] 3)):(codeHd shC).wp prog (fun e i w'=>e=.normal/\i.defers=[]/\i.tmps=ZnT A h j m a c/\w'.heap[c]?=some (.cells #[(0:Int),(1:Int)] 3)/\w'.heap.size=w.heap.size/\∀b,b≠c->w'.heap[b]?=w.heap[b]?) ⟨Zhx A h j m a c,[]⟩ w:=by simp only[codeHd,codeTl,shC,shB,shA,shBody,Tryz.f22,ZB5,Zhx];have D:=bk2 d;have g:=ZzG (Zu5 (o:=1) (v:=.int .i64 1) d);clear d;go_wp2;exact⟨rfl,(Zyy.1 g.out).2,fun b n=>Zu6 n⟩
def ZnU(A c:Option Addr)(e g d a h:Nat):Array Value:=#[.agg #[.slice A 2 2,.slice c 1 1],.int .i64 1,.pointer (some e),undef,.pointer (some g),.int .i64 0,.int .i64 0,.slice (some a) 2 2,.pointer (some h),.bool true,.agg #[.slice A 2 2,.slice c 1 1],.int .i64 0,.int .i64 1,.pointer (some e),.slice A 2 2,.int .i64 2,.int .i64 1,.bool true,.int .i64 0,.slice (some d) 2 2,.int .i64 0,.int .i64 0,.bool false,undef,undef,.pointer (some e),.slice A 2 2,.int .i64 2,.slice (some a) 2 2,.slice (some a) 2 2,.int .i64 1,.pointer (some ⟨a,1,none⟩),.tuple #[.agg #[(500:Int),(1000:Int)],true],.agg #[.slice A 2 2,.slice c 1 1],.slice (some a) 2 2,.slice (some a) 2 2,.tuple #[.agg #[(500:Int),(1000:Int)],true],.agg #[(500:Int),(1000:Int)],.bool true,undef,undef,undef]
theorem Zu8(A I:Option Addr)(M g j N G:Nat)(w:World)(h4:w.heap[g]?=some (.cells #[(0:Int),(0:Int)] 63))(m:w.heap[G]?=some (.cells #[(500:Int),(1000:Int)] 63)):shE.wp prog (bodyPost prog Tryz.f22 fun e w'=>e=.returned (.tuple #[.agg #[(500:Int),(1000:Int)],(0:Int)])/\w.heap.size<=w'.heap.size/\∀b,b<w.heap.size->b≠g->w'.heap[b]?=w.heap[b]?) ⟨ZnU A I M g j N G,[]⟩ w:=by
 simp only[codeHd,codeTl,shE,shD,shC,shB,shA,shBody,Tryz.f22,ZB5,ZnU];have J:=bk2 h4;have K:=bk2 m;have r:QB w w:=ZyU _ _;have h:∀x,(sizeOf 63).run prog x=.ok 2 x:=fun x=>Qb
 have n:∀x,(isAgg 63).run prog x=.ok true x:=fun x=>Qb
 refine wp_seq ?_;refine ZaK w 3 Qb Qb r ?_;intro z s;simp only[ZBr,ZBt,ZzZ,Zz0];repeat (go_big_quiet_step (first|(go_at_call 47;with_reducible exact Zd (ZbH _ _ _))))
 refine wpQuiet_nil ?_;intro O a E c;clear z s;simp only[show unl true 12=0 from rfl];have L:=ZzG (Zx a h4);have F:=Zx a m;have Q:=bk2 F;clear h4 m F J K;go_wp2_with (first|(go_at_call 47;refine(ZbH _ _ _).mono ?_;rintro e w' ⟨rfl,rfl⟩)|(refine ZaC Qh (.tmp 4) (.tmp 39) 63 Qh g [.int .i64 500,.int .i64 1000] [.int .i64 0,.int .i64 0] 63 rfl rfl (h _) L.out rfl Qc ?_;intro R d y i));refine bodyPost_ret (v:=.tuple #[.agg #[(500:Int),(1000:Int)],(0:Int)]) ?_ rfl ⟨rfl,by rw[i];exact c,fun b H D=>?_⟩;·exact ZaG (p:=4) (u:=5) (ad:=⟨g,0,none⟩) (v:=.agg #[(500:Int),(1000:Int)]) rfl Qe (Zag (T:=63) (cs:=[.int .i64 500,.int .i64 1000]) (n _) (h _) d)
 ·have C:b<O.heap.size:=ZBJ H c;exact(y.block b C (fun e=>D (ZB9 e))).trans (a.block b H)
end Go.Proofs
namespace Go.Proofs
open Go.RowKit Go.Twin Go.Conc
section
variable {B:Blk} {bs':List Frame} {l w:World}
theorem ST.head{E:Env} {bs:List Frame} {f c:Frame} {cs a:List Frame} (h:ST E B bs bs' (f::cs) (c::a)):FR E B f c:=by cases h with|last _ _ h _=>exact h|cons _ _ _ _ h _ _=>exact h
theorem Zn{E:Env} {xs:Array Value} {v:Value} (h:VR E B (.agg xs) v) {i:Nat} {u:Value} (hu:xs[i]?=some u):∃a,VR E B u a:=by cases h with|agg _ xs' hx hxs=>have c:=(Zyy.1 hu).1;exact⟨_,hxs i u (xs'[i]'Qa) hu (Zyw Qa)⟩
theorem Zj{E:Env} {A:Option Addr} {n c:Nat} {v:Value} (h:VR E B (.slice A n c) v)(hz:E.z0=false:=by rfl):∀b o s,A=some ⟨b,o,s⟩->∃a,B b a:=by rintro b o s rfl;cases h with
 |slice _ _ _ _ ha=>cases ha with|mk _ a _ _ hb=>exact⟨a,hb⟩
 |slice0 _ h=>rw[hz]at h;cases h
theorem Zep{sz:Nat} {α:Type} {cs:α->List Value} {A:Option Addr} {xs:List α} (h:At sz cs l A xs) {x:α} (hx:xs[0]?=some x) {v:Value} (hv:(cs x)[0]?=some v):∀b o s,A=some ⟨b,o,s⟩->∃c T f,l.heap[b]?=some (.cells c T f):=by rintro b o s rfl;obtain⟨e,g,a,_,d⟩:=h 0 x hx;cases a;exact Znx (d 0 v hv)
theorem Zu9(BB:Option Addr):(solvedL 2 (exs (ZQ BB)) (Zar [0,1])).map (fun q=>(q.1,q.2.1))=some ([0,1],1):=by show (solvedL 2 [([0,-2],-1)] [0,-1]).map (fun q=>(q.1,q.2.1))=some ([0,1],1);kernel_rfl
theorem Zeq(BB:Option Addr):exs (ZQ BB)=[([0,-2],-1)]:=rfl
theorem ZnV(BB:Option Addr):ZaE 2 (ZQ BB) [0,1]=(1,2,true):=by unfold ZaE;rw[Zeq];kernel_rfl
theorem ZnW(BB:Option Addr):ZaE 2 (ZQ BB) (Zar [0,1])=(-1,1,true):=by unfold ZaE;rw[Zeq];kernel_rfl
theorem Zva(BB:Option Addr):Zb4 2 (ZQ BB) [0,1] [0,1] 1000=.tuple #[.agg #[(500:Int),(1000:Int)],true]:=by unfold Zb4;rw[ZnV,ZnW];kernel_rfl
theorem ZdS{a b:Int} {K:Nat} (d:a.natAbs<=K)(e:b.natAbs<=K):ZE K [a,b]:=fun x c=>by
 simp only[ZAX,ZBe,or_false]at c;rcases c with rfl|rfl;·exact d
 ·exact e
theorem Zer{A:Option Addr} {n c:Nat} (d:∀b o s,A=some ⟨b,o,s⟩->∃a,B b a) (g:∀b o s,A=some ⟨b,o,s⟩->∃c T f,l.heap[b]?=some (.cells c T f)):VR EnvS (idX (Z6 B l)) (.slice A n c) (.slice A n c):=ZjC fun b o s e=>⟨d b o s e,g b o s e⟩
theorem Zvb{sh:Nat->Prop} {A g BB:Option Addr} {a:Nat} {fa:Frame} {cs cb:List Frame} (hB:BookAt l A 2 Z5 g 1 (ZQ BB))(O:l.heap[a]?=some (.cells #[(0:Int),(1:Int)] 3))(h:Rel ZR sh bs' B (Frame.enter ZR.P 49 #[.agg #[.slice A 2 2,.slice g 1 1],.slice (some a) 2 2,.slice (some a) 2 2,.int .i64 1000] .normal) cs l fa cb w):ZdA Tryz.prog fa w fun v=>v=.tuple #[.agg #[(500:Int),(1000:Int)],true]:=by
 have u:At 1 Zc l (some ⟨a,0,none⟩) [0,1]:=Zc1 (⟨rfl,.inr ⟨a,2,_,rfl,ZB2 _,O,Qa,Qq,rfl,rfl⟩⟩:l.ownsRow 0 3 1 (.slice (some a) 2 2) 2 (([0,1]:List Int).flatMap Zc)) rfl;have z:=h.st.head.tmps;have Q:=ZjF (.agg #[.slice A 2 2,.slice g 1 1]) (.slice (some a) 2 2) (.slice (some a) 2 2) (.int .i64 1000);have K:(Frame.enter ZR.P 49 #[.agg #[.slice A 2 2,.slice g 1 1],.slice (some a) 2 2,.slice (some a) 2 2,.int .i64 1000] .normal).tmps=#[.agg #[.slice A 2 2,.slice g 1 1],.slice (some a) 2 2,.slice (some a) 2 2,.int .i64 1000]++Array.replicate 52 undef:=by show (Frame.enter Tryz.prog _ _ _).tmps=_;rw[Q];rfl
 rw[K]at z;have F:=z.getD 0 (undefR (G:=ZR) (B:=B));have J:=z.getD 1 (undefR (G:=ZR) (B:=B));have L:((#[.agg #[.slice A 2 2,.slice g 1 1],.slice (some a) 2 2,.slice (some a) 2 2,.int .i64 1000]++Array.replicate 52 undef:Array Value).getD 0 undef)=.agg #[.slice A 2 2,.slice g 1 1]:=by simp[Array.getD]
 have M:((#[.agg #[.slice A 2 2,.slice g 1 1],.slice (some a) 2 2,.slice (some a) 2 2,.int .i64 1000]++Array.replicate 52 undef:Array Value).getD 1 undef)=.slice (some a) 2 2:=by simp[Array.getD]
 rw[L]at F;rw[M]at J;obtain⟨u1,C⟩:=Zn F (i:=0) rfl;obtain⟨u2,D⟩:=Zn F (i:=1) rfl;have U:=Zer (l:=l) (n:=2) (c:=2) (Zj C) (Zep hB.P rfl rfl);have V:=Zer (l:=l) (n:=1) (c:=1) (Zj D) (Zep hB.E.1 rfl rfl);have I:=Zer (l:=l) (n:=2) (c:=2) (Zj J) (Zep u rfl rfl);intro H c X Y Z t q N r s T;refine Znz (E1:=ZR) (lows:=[0,1]) (ups:=[0,1]) rfl (fun _=>rfl) rfl (ZdQ BB).right hB.E rfl Qc Qc (fun x S=>by obtain rfl:=ZA9.1 S;simp) ⟨u,rfl,ZdS Qc Qc,fun m d p j=>?_⟩ u rfl (ZdS Qc Qc) (fun m d p j=>?_) ?_ ?_ U V I I h N r s (fun R=>T (R.trans (show Zb4 Z5.length (ZQ BB) [0,1] [0,1] 1000=_ from Zva BB)));·have e:solvedL Z5.length (exs (ZQ BB)) [0,1]=_:=ZnS BB;rw[e]at j;cases j;exact⟨rfl,ZdS Qc Qc⟩
 ·have e:=Zu9 BB;have y:solvedL 2 (exs (ZQ BB)) (Zar [0,1])=some (m,d,p):=j;rw[y]at e;cases e;exact⟨rfl,ZdS Qc Qc⟩
 ·unfold Zdl;have e:ZaE Z5.length (ZQ BB) [0,1]=_:=ZnV BB;rw[e];intro _;exact⟨Qc,Qc⟩
 ·unfold Zdl;have e:ZaE Z5.length (ZQ BB) (Zar [0,1])=_:=ZnW BB;rw[e];intro _;exact⟨Qc,Qc⟩
end
end Go.Proofs
namespace Go.Proofs
open Tryz
open Go.RowKit Go.Twin Go.Conc
variable {w:World}
attribute [local go_sem] Oper.semAt_some Zdv Zdw Zdx ZcR Zdy Zdz
theorem Zhy{P:Program} {fn:Func} {x:Code} {R:Value->World->Prop} {a:Act} {d:Ending->World->Prop} (h:x.wp P (bodyPost P fn d) a w)(hR:∀e w,d e w->∃v,e=.returned v/\R v w):x.wp P (fun e j w'=>(e=.ret∨e=.normal)/\j.defers=[]/\∃v,(results fn j.tmps).run P w'=.ok v w'/\R v w') a w:=wp_mono h fun e j w' g=>by cases e with|normal=>obtain⟨m,v,n,r⟩:=g;obtain⟨s,e,i⟩:=hR _ _ r;cases e;exact⟨.inr rfl,m,_,n,i⟩|ret=>obtain⟨m,v,n,r⟩:=g;obtain⟨s,e,i⟩:=hR _ _ r;cases e;exact⟨.inl rfl,m,_,n,i⟩|panic c=>obtain⟨s,e,i⟩:=hR _ _ g.2;cases e|outgrown=>obtain⟨s,e,i⟩:=hR _ _ g;cases e|exit id=>exact g.elim|goto id=>exact g.elim
theorem Zvc (A a:Option Addr):Frame.enter prog 22 #[.agg #[.slice A 2 2,.slice a 1 1],.int .i64 1] .normal=(Go.Conc.base 22).at ⟨Zga A a,[]⟩ [.code shBody]:=by rw[enter_at (fn:=Tryz.f22) (c:=Tryz.f22.body.getD .skip) _ func22 rfl];kernel_rfl
theorem Old.re{w':World} (h:Old w w')(t:Nat->Question->Nat)(d:Nat):Old w (w'.re t d):=⟨h.size,h.get⟩
theorem Zvd{Post:Value->World->Prop} {W l0:World} {E:Blk} {bs':List Frame} (aH:∀b x,E b x->(fun _:Nat=>False) b∨(b=x/\x<l0.heap.size/\l0.heap[x]?=W.heap[x]?/\ZR.sh=false/\ZR.junk=false)) {A u BB:Option Addr} {c:Frame} {cs:List Frame} {l:World} {B:Blk} (hs:Self ZO (fun _=>False) B l)(ha:AR ZO B #[.agg #[.slice A 2 2,.slice u 1 1],.int .i64 1] #[.agg #[.slice A 2 2,.slice u 1 1],.int .i64 1])(hB:BookAt l A 2 Z5 u 1 (ZQ BB))(ho:Old l0 l)(k:∀l' G,Old l l'->B.le G->Self ZO (fun _=>False) G l'->LG ZR (StopG ZR Post W l0 E (fun _=>False) bs') (c.finish (.tuple #[.agg #[(500:Int),(1000:Int)],(0:Int)])) cs l'):LG ZR (StopG ZR Post W l0 E (fun _=>False) bs') (Frame.enter prog 22 #[.agg #[.slice A 2 2,.slice u 1 1],.int .i64 1] .normal) (c::cs) l:=by
 have z:Halts (StopG ZR Post W l0 E (fun _=>False) bs'):=Zd7;rw[Zvc];have aL:AR ZO B (Zga A u) (Zga A u):=Zb (ha.append (AR.replicate 40 undefR)) Qb;rw[show shBody=.seq (codeHd shBody) shA from Qb];refine Zal z ?_;refine Zb1 (R:=fun H w'=>(∃J F,H.tmps=Zhv A u J F/\w'.heap[J]?=some (.cells #[.slice A 2 2,.slice u 1 1] 25)/\w'.heap[F]?=some (.cells #[(0:Int),(0:Int)] 63)/\l.heap.size<=F)/\Old l w') ZX Zbq Zbv ZZ hs aL rfl Qb (fun v w t d h=>⟨h.1,h.2.size,h.2.get⟩) (fun t d=>Code.wp_mono (fun e H w' h=>⟨h.1,h.2.1,h.2.2.1,(Ze h.2.2.2).size,(Ze h.2.2.2).get⟩) (Zu2 A u _)) ?_;rintro⟨tm,df⟩ l1 B1 ⟨⟨J,F,T,n2,n4,aX⟩,aF⟩ U aA aR aM;cases T;cases U;have Z:=hB.old aF;rw[show shA=.seq (codeHd shA) shB from Qb];refine Zal z ?_;refine Zb1 (R:=fun H w'=>(∃D,H.tmps=Zhw A u J F D)/\Old l1 w') ZX Zbq Zbv ZZ aR aM rfl Qb (fun v w t d h=>⟨h.1,h.2.size,h.2.get⟩) (fun t d=>Code.wp_mono (fun e H w' h=>⟨h.1,h.2.1,h.2.2.1,(Ze h.2.2.2).size,(Ze h.2.2.2).get⟩) (Zu3 A u BB J F _ (Z.old ((Old.refl l1).re t d)) n2)) ?_;rintro⟨tm,df⟩ l2 B2 ⟨⟨D,T⟩,M⟩ U aB aS aN;cases T;cases U;have m2:=M.at n2;rw[show shB=.seq (codeHd shB) shC from Qb];refine Zal z ?_;refine Zb1 (R:=fun H w'=>(∃I,H.tmps=Zhx A u J F D I/\w'.heap[I]?=some (.cells #[(0:Int),(0:Int)] 3)/\l2.heap.size<=I)/\Old l2 w') ZX Zbq Zbv ZZ aS aN rfl Qb (fun v w t d h=>⟨h.1,h.2.size,h.2.get⟩) (fun t d=>Code.wp_mono (fun e H w' h=>⟨h.1,h.2.1,h.2.2.1,(Ze h.2.2.2).size,(Ze h.2.2.2).get⟩) (Zu4 A u J F D _ m2)) ?_;rintro⟨tm,df⟩ l3 B3 ⟨⟨I,T,n7,aY⟩,aG⟩ U aC aT aO;cases T;cases U;rw[show shC=.seq (codeHd shC) shD from Qb];refine Zal z ?_;refine Zb1 (R:=fun H w'=>(H.tmps=ZnT A u J F D I/\w'.heap[I]?=some (.cells #[(0:Int),(1:Int)] 3)/\w'.heap.size=l3.heap.size/\∀b,b≠I->w'.heap[b]?=l3.heap[b]?)) ZX Zbq Zbv ZZ aT aO rfl Qb (fun v w t d h=>h) (fun t d=>Code.wp_mono (fun e H w' h=>h) (Zu7 A u J F D I (l3.re t d) n7)) ?_;rintro⟨tm,df⟩ Y B4 ⟨T,aV,aW,aI⟩ U aD hs ha;cases T;cases U;have N:Old l2 Y:=⟨by have:=aG.size;omega,fun b hb=>(aI b Qa).trans (aG.get b hb)⟩;have m:=Blk.le_trans (Blk.le_trans (Blk.le_trans aA aB) aC) aD;have aK:=(Z.old M).old N;have h2:=N.at m2;have h4:=N.at (M.at n4);have D2:=bk2 h2;rw[show shD=.seq (codeHd shD) shE from Qb];refine Zal z ?_;simp only[codeHd,codeTl,shD,shC,shB,shA,shBody,Tryz.f22,ZB5];refine Zbo z ?_;simp only[ZBl,ZAB,ZAE,Nat.reduceAdd,ZB1,List.range,List.range.loop];refine Zap z ZZ ZX hs (Zb ha Qb) rfl rfl Qc Qb (fun C y K r s=>?_);simp only[show ZO.P=prog from rfl];go_simp;first|refine r _ _ ?_|refine s _ ?_
 clear r s K C y;intro G a j i;replace m:=Blk.le_trans m a;clear hs ha a;have hs:=j;have ha:=i;clear j i;walk_nrm;refine Zap z ZZ ZX hs (Zb ha Qb) rfl rfl Qc Qb (fun C y K r s=>?_);simp only[show ZO.P=prog from rfl];go_simp;first|refine r _ _ ?_|refine s _ ?_
 clear r s K C y;intro G a j i;replace m:=Blk.le_trans m a;clear hs ha a;have hs:=j;have ha:=i;clear j i;walk_nrm;refine Zap z ZZ ZX hs (Zb ha Qb) rfl rfl Qc Qb (fun C y K r s=>?_);simp only[show ZO.P=prog from rfl];go_simp;first|refine r _ _ ?_|refine s _ ?_
 clear r s K C y;intro G a j i;replace m:=Blk.le_trans m a;clear hs ha a;have hs:=j;have ha:=i;clear j i;walk_nrm;have X:Old l Y:=aF.trans (M.trans N);refine ZcQ (g:=49) (args:=#[.agg #[.slice A 2 2,.slice u 1 1],.slice (some I) 2 2,.slice (some I) 2 2,.int .i64 1000]) z rfl rfl Qc Qb (fun w'=>by simp only[show ZR.P=prog from rfl];kernel_rfl) ?_;refine .stop _ _ _ (Zli (R:=fun v=>v=.tuple #[.agg #[(500:Int),(1000:Int)],true]) Zix aH Qd (fun c h=>by cases h) (ho.trans X).get (fun h hO=>Zvb aK aV h) (fun v hv=>by subst hv;kernel_rfl) fun v n hv=>?_);subst hv;rw[Frame.finish_at];have hs:=hs.pad n;have ha:=ha.set 36 (VR.closed 8 (.tuple #[.agg #[(500:Int),(1000:Int)],true]) Qb);have O:Old Y (pad Y n):=⟨by rw[Zcv];omega,fun b hb=>Zcw Y n hb⟩;obtain⟨Q,aP⟩:=Qu (pad Y n);rw[aP]at hs O |-;walk_nrm;refine Zap z ZZ ZX hs (Zb ha Qb) rfl rfl Qc Qb (fun C y K r s=>?_);simp only[show ZO.P=prog from rfl];go_simp;first|refine r _ _ ?_|refine s _ ?_
 clear r s K C y;intro G a j i;replace m:=Blk.le_trans m a;clear hs ha a;have hs:=j;have ha:=i;clear j i;walk_nrm;refine Zap z ZZ ZX hs (Zb ha Qb) rfl rfl Qc Qb (fun C y K r s=>?_);simp only[show ZO.P=prog from rfl];go_simp;first|refine r _ _ ?_|refine s _ ?_
 clear r s K C y;intro G a j i;replace m:=Blk.le_trans m a;clear hs ha a;have hs:=j;have ha:=i;clear j i;walk_nrm;refine Zap z ZZ ZX hs (Zb ha Qb) rfl rfl Qc Qb (fun C y K r s=>?_);simp only[show ZO.P=prog from rfl];go_simp;first|refine r _ _ ?_|refine s _ ?_
 clear r s K C y;intro G a j i;replace m:=Blk.le_trans m a;clear hs ha a;have hs:=j;have ha:=i;clear j i;walk_nrm;refine Zap z ZZ ZX hs (Zb ha Qb) rfl rfl Qc Qb (fun C y K r s=>?_);simp only[show ZO.P=prog from rfl];go_simp;first|refine r _ _ ?_|refine s _ ?_
 clear r s K C y;intro G a j i;replace m:=Blk.le_trans m a;clear hs ha a;have hs:=j;have ha:=i;clear j i;walk_nrm;refine Zap z ZZ ZX hs (Zb ha Qb) rfl rfl Qc Qb (fun C y K r s=>?_);simp only[show ZO.P=prog from rfl];go_simp;first|refine r _ _ ?_|refine s _ ?_
 clear r s K C y;intro G a j i;replace m:=Blk.le_trans m a;clear hs ha a;have hs:=j;have ha:=i;clear j i;walk_nrm;refine Zap z ZZ ZX hs (Zb ha Qb) rfl rfl Qc Qb (fun C y K r s=>?_);simp only[show ZO.P=prog from rfl];go_simp;first|refine r _ _ ?_|refine s _ ?_
 clear r s K C y;intro G a j i;replace m:=Blk.le_trans m a;clear hs ha a;have hs:=j;have ha:=i;clear j i;walk_nrm;refine Zbp z ?_;obtain⟨S,L⟩:=Qu (Q.alloc (.cells #[(500:Int),(1000:Int)] 63));have n8:S.heap[Q.heap.size]?=some (.cells #[(500:Int),(1000:Int)] 63):=by rw[<-L];exact Qs
 have V:Old Q S:=by rw[<-L];exact Zp (by go_grown:QB Q _)
 rw[L]at hs |-;clear L;have aJ:=V.at (O.at h4);refine Zlp (fn:=Tryz.f22) (x:=shE) (R:=fun v w=>v=.tuple #[.agg #[(500:Int),(1000:Int)],(0:Int)]/\S.heap.size<=w.heap.size/\∀b,b<S.heap.size->b≠F->w.heap[b]?=S.heap[b]?) ZX Zbq Zbv ZZ hs (Zb ha Qb) rfl Qb func22 (fun v w t d h=>h) (fun t d=>Zhy (Zu8 A u J F D I Q.heap.size (S.re t d) aJ n8) fun e w h=>⟨_,h.1,rfl,h.2⟩) ?_;rintro v l7 B7 ⟨rfl,aZ,aQ⟩ aE aU hv;have z1:=X.size;have z2:=O.size;have z3:=V.size;refine k l7 B7 ⟨Qa,fun b hb=>?_⟩ (Blk.le_trans m aE) aU;exact(aQ b Qa Qa).trans ((V.get b Qa).trans ((O.get b Qa).trans (X.get b hb)))
variable {B:Blk}
attribute [local go_sem] Oper.semAt_some Zdv Zdw Zdx ZcR Zdy Zdz
def tmps3(A c:Option Addr)(a p1:Nat)(C d X:Option Addr)(x:Nat)(Y:Option Addr)(y p3:Nat)(D e:Option Addr)(g:Nat):Array Value:=#[.bool false,.pointer (some p1),.int .i64 0,.pointer (some p3),.int .i64 0,.pointer (some g),.int .i64 0,undef,undef,undef,undef,.tuple #[.agg #[(30:Int),(1:Int)],(0:Int)],.agg #[.slice A 2 2,.slice c 1 1],.agg #[(0:Int),(0:Int)],.slice (some a) 1 1,.agg #[(1:Int),(10:Int),.slice (some a) 1 1],.tuple #[.agg #[(30:Int),(1:Int)],(0:Int)],.agg #[(30:Int),(1:Int)],.int .i64 0,.tuple #[Zb7 X x Y y,(0:Int)],.agg #[.slice C 2 2,.slice d 1 1],.agg #[(1:Int),(50:Int)],.tuple #[Zb7 X x Y y,(0:Int)],Zb7 X x Y y,.int .i64 0,.tuple #[.agg #[(500:Int),(1000:Int)],(0:Int)],.agg #[.slice D 2 2,.slice e 1 1],.tuple #[.agg #[(500:Int),(1000:Int)],(0:Int)],.agg #[(500:Int),(1000:Int)],.int .i64 0,zu,zu,zu,zu,zu,zu,zu,zu,zu,zu,zu,zu,zu,zu,zu,zu,zu,zu,zu,zu,zu,zu,zu,zu,zu,zu,zu,zu,zu,zu,zu,zu,zu,zu,zu,zu,zu,zu,zu,zu,zu,zu,zu,zu,zu,zu,zu,zu,zu,zu,zu,zu,zu,zu]
theorem Zq{E:Env} {xs:Array Value} (h:AR E B xs xs)(i:Nat) {v:Value} (e:xs.getD i undef=v):VR E B v v:=e▸h.getD i undefR
theorem ZnX(l:World)(t:Nat->Question->Nat)(d:Nat):Calls ZO.P 21 #[] (l.re t d) fun e w=>∃v,e=.returned v/\((∃A a B,v=.agg #[.slice A 2 2,.slice a 1 1]/\BookAt w A 2 Z5 a 1 (ZQ B))/\Old l w):=(Zht (l.re t d)).mono fun e w h=>by obtain⟨⟨A,a,B,rfl,c,_⟩,g⟩:=h;exact⟨_,rfl,⟨A,a,B,rfl,c⟩,Ze g⟩
theorem ZnY(l:World)(v:Value)(w:World)(t:Nat->Question->Nat)(d:Nat)(h:(∃A a B,v=.agg #[.slice A 2 2,.slice a 1 1]/\BookAt w A 2 Z5 a 1 (ZQ B))/\Old l w):(∃A a B,v=.agg #[.slice A 2 2,.slice a 1 1]/\BookAt (w.re t d) A 2 Z5 a 1 (ZQ B))/\Old l (w.re t d):=by obtain⟨⟨A,a,B,e,c⟩,g⟩:=h;exact⟨⟨A,a,B,e,c.old ((Old.refl w).re t d)⟩,g.re t d⟩
theorem Zve{Post:Value->World->Prop} {W l0:World} {j:Blk} {bs':List Frame} (L:∀b x,j b x->(fun _:Nat=>False) b∨(b=x/\x<l0.heap.size/\l0.heap[x]?=W.heap[x]?/\ZR.sh=false/\ZR.junk=false)) {A G:Option Addr} {m p1:Nat} {C H X:Option Addr} {x:Nat} {Y:Option Addr} {y p3:Nat} {cs:List Frame} (T:cs≠[]) {l:World} (hs:Self ZO (fun _=>False) B l) (ha:AR ZO B (tmps2 A G m p1 C H X x Y y p3) (tmps2 A G m p1 C H X x Y y p3)) (U:Old l0 l)(k:∀D E N l' u,B.le u->Self ZO (fun _=>False) u l'->AR ZO u (tmps3 A G m p1 C H X x Y y p3 D E N) (tmps3 A G m p1 C H X x Y y p3 D E N)->l'.heap[N]?=some (.cells #[(500:Int),(1000:Int)] 63)->Old l l'->LG ZR (StopG ZR Post W l0 j (fun _=>False) bs') ((Go.Conc.base 4).at ⟨tmps3 A G m p1 C H X x Y y p3 D E N,[]⟩ [.code aw4]) cs l'):LG ZR (StopG ZR Post W l0 j (fun _=>False) bs') ((Go.Conc.base 4).at ⟨tmps2 A G m p1 C H X x Y y p3,[]⟩ [.code aw3]) cs l:=by
 have r:Halts (StopG ZR Post W l0 j (fun _=>False) bs'):=Zd7;have e:B.le B:=Blk.le_refl _;rw[show aw3=.seq (codeHd aw3) aw4 from Qb];refine Zal r ?_;simp only[codeHd,codeTl,aw3,aw2,aw1,awBody,Tryz.f4,ZB5,tmps2,Zb7];refine Zbo r ?_;simp only[ZBl,ZAB,ZAE,Nat.reduceAdd,ZB1,List.range,List.range.loop];refine Zlo (g:=21) (args:=#[]) r ZX Zbq Zbv ZZ hs (Zb ha Qb) rfl rfl Qc Qb (fun w'=>by simp only[show ZO.P=prog from rfl];kernel_rfl) Qb (AR.empty) (ZnY l) (ZnX l) ?_;rintro v l1 V ⟨⟨D,E,BB,rfl,O⟩,J⟩ I S F;clear hs ha;walk_nrm;refine ZcQ (g:=22) (args:=#[.agg #[.slice D 2 2,.slice E 1 1],.int .i64 1]) r rfl rfl Qc Qb (fun w'=>by simp only[show ZR.P=prog from rfl];kernel_rfl) ?_;refine Zvd L S (Zb (((AR.replicate 2 undefR).set 0 (Zq F 26 (v:=.agg #[.slice D 2 2,.slice E 1 1]) Qb)).set 1 (.int .i64 1)) Qb) O (U.trans J) fun M Z Q z hs=>?_;have ha:=(F.mono z).set 27 (VR.closed 8 (.tuple #[.agg #[(500:Int),(1000:Int)],(0:Int)]) Qb);replace e:=Blk.le_trans I z;rw[Frame.finish_at];clear F;walk_nrm;refine Zap r ZZ ZX hs (Zb ha Qb) rfl rfl Qc Qb (fun s n K h i=>?_);simp only[show ZO.P=prog from rfl];go_simp;first|refine h _ _ ?_|refine i _ ?_
 clear h i K s n;intro u a d c;replace e:=Blk.le_trans e a;clear hs ha a;have hs:=d;have ha:=c;clear d c;walk_nrm;refine Zap r ZZ ZX hs (Zb ha Qb) rfl rfl Qc Qb (fun s n K h i=>?_);simp only[show ZO.P=prog from rfl];go_simp;first|refine h _ _ ?_|refine i _ ?_
 clear h i K s n;intro u a d c;replace e:=Blk.le_trans e a;clear hs ha a;have hs:=d;have ha:=c;clear d c;walk_nrm;refine Zap r ZZ ZX hs (Zb ha Qb) rfl rfl Qc Qb (fun s n K h i=>?_);simp only[show ZO.P=prog from rfl];go_simp;first|refine h _ _ ?_|refine i _ ?_
 clear h i K s n;intro u a d c;replace e:=Blk.le_trans e a;clear hs ha a;have hs:=d;have ha:=c;clear d c;walk_nrm;refine Zap r ZZ ZX hs (Zb ha Qb) rfl rfl Qc Qb (fun s n K h i=>?_);simp only[show ZO.P=prog from rfl];go_simp;first|refine h _ _ ?_|refine i _ ?_
 clear h i K s n;intro u a d c;replace e:=Blk.le_trans e a;clear hs ha a;have hs:=d;have ha:=c;clear d c;walk_nrm;refine Zap r ZZ ZX hs (Zb ha Qb) rfl rfl Qc Qb (fun s n K h i=>?_);simp only[show ZO.P=prog from rfl];go_simp;first|refine h _ _ ?_|refine i _ ?_
 clear h i K s n;intro u a d c;replace e:=Blk.le_trans e a;clear hs ha a;have hs:=d;have ha:=c;clear d c;walk_nrm;refine Zap r ZZ ZX hs (Zb ha Qb) rfl rfl Qc Qb (fun s n K h i=>?_);simp only[show ZO.P=prog from rfl];go_simp;first|refine h _ _ ?_|refine i _ ?_
 clear h i K s n;intro u a d c;replace e:=Blk.le_trans e a;clear hs ha a;have hs:=d;have ha:=c;clear d c;walk_nrm;refine Zbp r ?_;have R:Old M (M.alloc (.cells #[(500:Int),(1000:Int)] 63)):=Zp (by go_grown:QB M _);refine k D E M.heap.size _ _ e hs (Zb ha Qb) (Qs) (J.trans (Q.trans R))
end Go.Proofs
namespace Go.Proofs
open Go.RowKit Go.Twin Go.Conc
variable {w:World}
theorem ZnZ(d:GlobOk w):∀b x,awB b x->(fun _:Nat=>False) b∨(b=x/\x<(Zac w).heap.size/\(Zac w).heap[x]?=w.heap[x]?/\ZR.sh=false/\ZR.junk=false):=fun b x a=>by obtain⟨rfl,a⟩:=a;obtain⟨e,T,f,c,_⟩:=d.ints b a;refine .inr ⟨rfl,?_,Ze7 w (Ze8 a).1 (Ze8 a).2,rfl,rfl⟩;rw[Zdm];exact(Zyy.1 c).1
theorem Zvf{Post:Value->World->Prop} {cs:List Frame} {bs':List Frame} (u:cs≠[])(F:GlobOk w)(k:∀A e a p1 C g X x Y y p3 D h d l' n,awB.le n->Self ZO (fun _=>False) n l'->AR ZO n (tmps3 A e a p1 C g X x Y y p3 D h d) (tmps3 A e a p1 C g X x Y y p3 D h d)->l'.heap[p1]?=some (.cells #[(30:Int),(1:Int)] 30)->l'.heap[p3]?=some (ZdR X x Y y)->l'.heap[d]?=some (.cells #[(500:Int),(1000:Int)] 63)->Old (Zac w) l'->LG ZR (StopG ZR Post w (Zac w) awB (fun _=>False) bs') ((Go.Conc.base 4).at ⟨tmps3 A e a p1 C g X x Y y p3 D h d,[]⟩ [.code aw4]) cs l'):LG ZR (StopG ZR Post w (Zac w) awB (fun _=>False) bs') (Frame.enter Tryz.prog 4 #[] .normal) cs (Zac w):=by rw[ZnB];refine Zu1 Zd7 F fun A e a p1 C g X x Y y p3 M L i z r I J m=>?_;exact Zve (ZnZ F) u z r m fun D h d H G j E s K c=>k A e a p1 C g X x Y y p3 D h d H G (Blk.le_trans i j) E s (c.at I) (c.at J) K (m.trans c)
end Go.Proofs
namespace Go.Proofs
open Tryz
open Go.RowKit
theorem Zvg{l:List UInt8} (h:Zau l=true):∀c∈l,c≠32/\c≠10:=fun c e=>by
 unfold Zau Zdd at h;simp only[ZyW,ZzJ,ZA8]at h;obtain⟨i,d⟩:=ZAr e;have a:=h.2 i (ZAp.1 d).1;rw[ZAg,d]at a;simp only[ZB5]at a;constructor;·rintro rfl;revert a;simp[ZbQ,ZfI]
 ·rintro rfl;revert a;simp[ZbQ,ZfI]
def ZcK(k ag v den lev:Int)(W:List Int):List Int:=if k=1 then ag::v::den::lev::W else v::den::lev::W
theorem ZjR(nm:List UInt8)(k ag v den lev:Int)(W:List Int):Zb6 nm k ag v den lev W=nm::(if k=1 then Zhs else Zhr)::(ZcK k ag v den lev W).map Lib.itoa:=by unfold Zb6 ZcK;split<;>simp
theorem Zvh:((bs Zhr).toList==[109,101,97,110])=true/\((bs Zhr).toList==[115,104,97,114,101])=false/\((bs Zhs).toList==[109,101,97,110])=false/\((bs Zhs).toList==[115,104,97,114,101])=true:=by rw[ByteArray.toList_eq,ByteArray.toList_eq,Ze9,Ze9];decide
theorem Zvi(k ag v den lev:Int)(W:List Int):3<=(ZcK k ag v den lev W).length/\(ZcK k ag v den lev W).length=W.length+(if k=1 then 4 else 3):=by unfold ZcK;split<;>simp
theorem Zvj{nm:List UInt8} {k ag v den lev:Int} {W:List Int} (e:Zau nm=true):cutL (Lib.join (Zb6 nm k ag v den lev W) [32])=Zb6 nm k ag v den lev W:=by
 refine ZnL _ (by rw[ZjR];simp) fun x a=>?_;rw[ZjR]at a;rcases ZAX.1 a with rfl|a;·exact fun c d=>(Zvg e c d).1
 rcases ZAX.1 a with rfl|a;·split<;>decide
 ·obtain⟨n,-,rfl⟩:=ZA3.1 a;exact fun c d=>((ZuE n).2 c d).1
section
variable {P:Program} {f:Operand->Value} {o:Oper} {t ty:TypeId} {p q:Operand} {b:Nat} {v0 v1 v2 u0 u1 u2 u3 u4 u5 u6:Value} {x:World}
theorem Zvk(g:o.op=.store t p q)(h0:v0.oneCell'=true)(d:v1.oneCell'=true)(e:v2.oneCell'=true)(a:Sem.run P (sizeOf t) x=.ok 3 x)(hp:f p=.pointer (some ⟨b,4,none⟩))(hq:f q=.agg #[v0,v1,v2])(hz:x.heap[b]?=some (.cells #[u0,u1,u2,u3,u4,u5,u6] ty)):(execOp f o).run P x=.ok .skip (((x.setCell ⟨b,4,none⟩ v0).setCell ⟨b,5,none⟩ v1).setCell ⟨b,6,none⟩ v2):=by have c:=bk7 hz;unfold execOp;rw[g];simp[go_sem,hp,hq,c,a,run_store _ _ _ v0 _ h0,run_store _ _ _ v1 _ d,run_store _ _ _ v2 _ e]
theorem Zvl{n:Int} (d:o.op=.store t p q)(a:Sem.run P (sizeOf t) x=.ok 1 x)(hp:f p=.pointer (some ⟨b,3,none⟩))(hq:f q=.int .i64 n)(hz:x.heap[b]?=some (.cells #[u0,u1,u2,u3,u4,u5,u6] ty)):(execOp f o).run P x=.ok .skip (x.setCell ⟨b,3,none⟩ (.int .i64 n)):=by have c:=bk7 hz;unfold execOp;rw[d];simp[go_sem,hp,hq,c,a]
end
theorem Zvm(nm:List UInt8)(v den lev:Int)(W:List Int)(C:Nat)(w:World)(bC:nm.length<=20)(Z:Zau nm=true)(hR:NumsR 0 v den lev W)(bI:W.length=C)(ht:Tabs w):Calls prog 24 #[.string (bs (Lib.join (Zb6 nm 0 0 v den lev W) [32]))] w fun e w'=>(∃A c,e=.returned (.tuple #[.agg #[.string (bs nm),(0:Int),(0:Int),v,den,lev,.slice A C c],(0:Int)])/\At 1 Zc w' A W)/\QB w w':=by
 have bA:=ZuR (k:=0) bC hR;have D:=ZzG fun W' (hb:QB w W')=>ZuJ (bs (Lib.join (Zb6 nm 0 0 v den lev W) [32])) W' (by rw[Zhp];omega) (ht.below hb);simp only[Ze9,Zvj Z]at D;obtain⟨bX,bY,-⟩:=ZnQ (k:=0) bC hR;have bB:∀x∈ZcK 0 0 v den lev W,x.natAbs<10^(12+1):=fun x z=>by
  have h1:=hR.ag;have h2:=hR.v;have h3:=hR.den;have h4:=hR.lev;unfold ZcK at z;split at z
  ·simp only[ZAX]at z;rcases z with rfl|rfl|rfl|rfl|z;·omega
   ·omega
   ·omega
   ·omega
   ·have:=hR.wt x z;omega
  ·simp only[ZAX]at z;rcases z with rfl|rfl|rfl|z;·omega
   ·omega
   ·omega
   ·have:=hR.wt x z;omega
 have Y:=ZzG fun(A:Option Addr)(m c:Nat)(W':World)(hb:QB w W')(hA:At 1 Sc W' A ((ZcK 0 0 v den lev W).map Lib.itoa))(hm:(ZcK 0 0 v den lev W).length=m)(h9:m<=900)=>ZuN A (ZcK 0 0 v den lev W) 12 m c W' Qc bB hA hm h9 (ht.below hb);obtain⟨S,hS⟩:=Qu (bs (Lib.join (Zb6 nm 0 0 v den lev W) [32]));rw[hS]at D |-;rw[ZjR]at D;have aI:((12+1:Nat):Int)=13:=rfl;simp only[aI]at Y;have aD:=ZzG hR;have cL:=ZzG Z;have aA:∀x,(sizeOf 69).run prog x=.ok 7 x:=fun x=>Qb
 have aR:∀x,(isAgg 69).run prog x=.ok true x:=fun x=>Qb
 have bE:=ZzG fun W=>Zco v 0 1000 W;have bF:=ZzG fun W=>Zco den 1 1000000000000 W;have bG:=ZzG fun W=>Zi8 lev 1000000000000 W Qc;rw[ZaW.2 hR.v]at bE;rw[ZaW.2 hR.den]at bF;rw[show Zbj lev 1000000000000=true from ZaW.2 (by have:=hR.lev;omega)]at bG;have aO:=ZzG fun W=>ZfJ (bs nm) W (by rw[Zhp];omega);rw[Ze9,Z]at aO;have aJ:=ZzG fun W=>Zi9 0 0 W;rw[Zjb.2 ⟨.inl rfl,hR.ag.1,hR.ag.2⟩]at aJ;clear bA bX bY bB hS ht hR Z;obtain⟨q1,q2,q3,q4⟩:=Zvh;obtain⟨l1,l2⟩:=Zvi 0 0 v den lev W;have aQ:=aD.out.n;obtain⟨N,hN⟩:=Qu (ZcK 0 0 v den lev W);have bN:=ZzG hN;rw[hN]at D Y l1 l2;obtain⟨m,hm⟩:=Qu N.length;have bU:=ZzG hm;obtain⟨n,hn⟩:=Qu (m+1+1);simp only[ZAB,ZAD,hm,hn]at D Y;have cZ:=ZzG l2;have cP:3<=m:=Qa
 have cG:m<=12:=by split at l2<;>omega
 have cV:¬(n:Int)<2:=Qa
 have cS:(0:Int)<(n:Int):=Qa
 have cT:(1:Int)<(n:Int):=Qa
 have cU:(2:Int)<=(n:Int):=Qa
 have cR:n-2=m:=Qa
 have cQ:¬(m:Int)<3:=Qa
 have cH:(0:Int)<(m:Int):=Qa
 have cI:(1:Int)<(m:Int):=Qa
 have cJ:(2:Int)<(m:Int):=Qa
 clear hN hm hn l1 l2 aQ aI;simp only[show ¬((0:Int)=1)by decide,if_false]at D;go_enter func24,ntmps24;go_wp2_with (first|(go_at_call 52;refine(D.out _ Qi).mono ?_;rintro e w2 ⟨⟨A,c,rfl,V,cW⟩,aF⟩;(obtain⟨b,o,rfl,bR,aV⟩:=V 0 _ rfl);(obtain⟨b',o',e1,-,aW⟩:=V 1 _ rfl);cases e1;(have y0:=aV 0 _ rfl);(have y1:=aW 0 _ rfl);(have aK:=ZzG (V.tail1 2));simp only[ZBz,ZB3,Nat.one_mul]at y0 y1;(have M0:=Zx aF (ZA w (.cells #[.string (ByteArray.mk #[]),(0:Int),(0:Int),(0:Int),(0:Int),(0:Int),.slice none 0 0] 69) rfl));(have cX:=ZI M0);(have O:=via (ZC w (.cells #[.string (ByteArray.mk #[]),(0:Int),(0:Int),(0:Int),(0:Int),(0:Int),.slice none 0 0] 69)) aF);clear V aV aW aF)|(go_at_call 53;refine(Y.out _ m _ _ O (by have:=aK.out;simpa using this) rfl Qa).mono ?_;rintro e I ⟨⟨A2,R,rfl,aP⟩,H⟩;(have z0:=ZdO y0 H);(have z1:=ZdO y1 H);(have M1:=Zx H M0);(have Q:=via O H);(have G:=ZzG aP);(have cF:=ZBJ bR H.size);clear aP H y0 y1 M0)|(refine ZaC Qh (.tmp 7) (.tmp 40) 69 Qh I.heap.size [.string (bs nm),.int .i64 0,.int .i64 0,.int .i64 0,.int .i64 0,.int .i64 0,.slice none 0 0] [.string (ByteArray.mk #[]),.int .i64 0,.int .i64 0,.int .i64 0,.int .i64 0,.int .i64 0,.slice none 0 0] 69 ?sp ?sq (aA _) ?sb rfl (by simp[Value.oneCell']) ?_));case sp=>rfl
 case sq=>rfl
 case sb=>exact ZA _ _ rfl
 intro w4 E aX bD;have cM:=ZI M1;have d:QB I w4:=ZT (ZC _ _) aX fun b e=>by cases e;exact ZBF _
 have x0:=ZdO z0 d;have x1:=ZdO z1 d;have M2:=Zx d M1;have aS:=via Q d;have hL:=ZzG (ZaA G.out);have aM:=ZzG ((ZaA G.out).below d);have bO:N=v::den::lev::W:=by rw[<-bN.out];rfl
 subst bO;have cK:m<=R:=ZjA G.out;have bV:m-3=C:=by have:=bU.out;simp at this;omega
 obtain⟨J,o2,rfl,bK,c0⟩:=Zan hL.out (k:=0) Qd;obtain⟨_,_,ee,-,c1⟩:=Zan hL.out (k:=1) Qd;cases ee;obtain⟨_,_,ee,-,aB⟩:=Zan hL.out (k:=2) Qd;cases ee;simp only[ZAf,ZAe,ZBz]at c0 c1 aB;have e0:=ZdO c0 d;have e1:=ZdO c1 d;have e2:=ZdO aB d;have K:=ZBJ bK d.size;have F:J≠I.heap.size:=Qa
 have aL:J≠w.heap.size:=by have:=(G.out.lt J rfl).1;omega
 clear c0 c1 aB;have F0:=bk7 M2;have F4:=bk7 E;clear aX bD d M1 z0 z1 O;have bP:=aS;have M:=E;have aE:=ZzG (aM.out.tail1 3);simp only[ZBR]at aE;clear aS E aM hL;go_wp2;refine wp_region_any Qb ?_;refine Zbt 15 _ rfl rfl Qb Qb Qb Qb ?_;simp only[ZBr,ZBt];apply ZjP w 13 I.heap.size (.cells #[.string (bs nm),(0:Int),(0:Int),(0:Int),(0:Int),(0:Int),.slice none 0 0] 69) (.cells #[.string (bs nm),(0:Int),(0:Int),v,(0:Int),(0:Int),.slice none 0 0] 69);case hB=>kernel_rfl
 case hB'|hS|hN|hkd=>kernel_rfl
 case hw=>exact bP
 case hb=>exact Q.size
 case h4=>exact M
 case hq=>
  intro u hu aZ;have cE:=ZBJ K hu.2.1;have G0:=(World.cell?_of_block (a:=⟨J,o2,none⟩) (hu.2.2 J K F)).trans e0;have G1:=(World.cell?_of_block (a:=⟨J,o2+1,none⟩) (hu.2.2 J K F)).trans e1;have G2:=(World.cell?_of_block (a:=⟨J,o2+2,none⟩) (hu.2.2 J K F)).trans e2;simp only[mixL,yieldsC,ZzS,ZzV,Nat.reduceAdd,Nat.reduceBEq,ZB1,Zy6,Zy8,Zy1,Zy9,Zy0,if_true,if_false,Zy7,Nat.reduceEqDiff];repeat (go_big_quiet_step (fail))
  exact wpQuiet_nil rfl
 case hs4=>intro o ho x z hz;simp only[ZAj,ZAk,ZCa]at ho;subst ho;exact⟨_,Zvl rfl Qb rfl rfl hz,(OnlyB.refl _ _).set _ _,ZL hz _ rfl⟩
 intro x z hz;refine Zjv (Zvk rfl rfl rfl rfl Qb rfl rfl hz) ?_;obtain⟨U,hA9⟩:∃A:Option Addr,(if R=3 then some ⟨J,o2,none⟩else some ⟨J,o2+3,none⟩)=A:=⟨_,rfl⟩;obtain⟨X9,L⟩:=Qu (((x.setCell ⟨I.heap.size,4,none⟩ (.int .i64 den)).setCell ⟨I.heap.size,5,none⟩ (.int .i64 lev)).setCell ⟨I.heap.size,6,none⟩ (.slice U C (R-3)));have aC:OnlyB I.heap.size x X9:=by rw[<-L];exact(((OnlyB.refl _ _).set _ _).set _ _).set _ _
 have Z9:X9.heap[I.heap.size]?=some (.cells #[.string (bs nm),(0:Int),(0:Int),v,den,lev,.slice U C (R-3)] 69):=by rw[<-L];exact ZL (ZL (ZL hz _ rfl) _ rfl) _ rfl
 have cD:x.heap.size=X9.heap.size:=by rw[<-L];simp
 simp only[bV,hA9];rw[L];have aH:∀k,k<w4.heap.size->k≠I.heap.size->X9.heap[k]?=w4.heap[k]?:=fun k h1 h2=>(aC.other k h2).trans (z.2.2 k h1 h2);have aT:QB w X9:=z.1.trans (aC.below _ Q.size);have M9:=(aH w.heap.size (ZI M2) Qa).trans M2;have aN:=ZzG (show At 1 Zc X9 U W from by
  rw[<-hA9];split
  ·have h0:C=0:=Qa
   rw[Zz2 (bI.trans h0)];exact fun k x z=>by simp at z
  ·exact Zjx (aE.out) (by have:=z.2.1;omega) fun g e=>by cases e;exact aH _ K F);have F9:=bk7 Z9;have J0:=bk7 M9;clear L aH aC cD z hz aE e0 e1 e2 M M2;go_wp2_with (first
  |(go_at_call 48;first|(refine Calls.mono (by with_reducible exact bE.out _) ?_;rintro e w' ⟨rfl,rfl⟩)|(refine Calls.mono (by with_reducible exact bF.out _) ?_;rintro e w' ⟨rfl,rfl⟩))|(go_at_call 54;refine(bG.out _).mono ?_;rintro e w' ⟨rfl,rfl⟩));go_loopw [8,105] (fun r i wr=>∃j:Nat,j<=C/\r=.bool true/\i=.int .i64 j/\wr=X9)(fun _ i _=>C-(intOf i).toNat);case atStart=>exact⟨0,ZB2 _,rfl,rfl,rfl⟩
 case round=>
  obtain⟨j,hj,rfl,rfl,rfl⟩:=hrel;by_cases bT:j<C
  ·have cO:(j:Int)<(C:Int):=Qa
   obtain⟨b3,o3,rfl,cY,c4⟩:=Zan aN.out (k:=j) (by rw[bI];exact bT);obtain⟨y,hy⟩:=Qu (W.getD j 0);have cC:0<=y/\y<=1000000000000:=by rw[<-hy,ZAg,ZAm Qa];exact aD.out.wt _ (ZAy _)
   rw[hy]at c4;have bH:=ZzG fun W=>Zco y 0 1000000000000 W;rw[ZaW.2 cC]at bH;go_wp2_with (go_at_call 48;refine(bH.out _).mono ?_;rintro e w' ⟨rfl,rfl⟩);go_roundw;case rel=>exact⟨j+1,Qa,by first|rfl|trivial,Qj,by first|rfl|trivial⟩
   case measure=>exact Qv
  ·obtain rfl:C=j:=Qa
   have aQ:=aD.out.n;have bJ:(C:Int)<=8:=Qa
   have cA:decide ((C:Int)<=8)=true:=by simpa using bJ
   go_wp2;refine ZaK w 15 Qb Qb aT ?_;intro aZ bS;simp only[ZBr,ZBt,ZzZ,Zz0];repeat (go_big_quiet_step (first|(go_at_call 55;with_reducible exact Grew.call (aO.out _))|(go_at_call 56;with_reducible exact Grew.call (aJ.out _))|(go_at_call 47;with_reducible exact Zd (ZbH _ _ _))))
   refine wpQuiet_nil ?_;intro wb s bZ bW;clear aZ bS;have Q9:=Zx s Z9;have P9:=Zx s M9;have bL:=ZzG (aN.out.below s);have bQ:=via aT s;clear Z9 M9 F9 J0;go_wp2_with (first
    |(go_at_call 45;refine(Zcy _ _ _ _ _).mono ?_;rintro e w' ⟨rfl,rfl⟩)|(refine ZeU Qh (.tmp 7) 69 Qh I.heap.size [.string (bs nm),.int .i64 0,.int .i64 0,.int .i64 v,.int .i64 den,.int .i64 lev,.slice U C (R-3)] 69 ?lp (aR _) (aA _) ?lb ?_)|(refine ZaC Qh (.tmp 2) (.tmp 136) 69 Qh w.heap.size [.string (bs nm),.int .i64 0,.int .i64 0,.int .i64 v,.int .i64 den,.int .i64 lev,.slice U C (R-3)] [.string (ByteArray.mk #[]),.int .i64 0,.int .i64 0,.int .i64 0,.int .i64 0,.int .i64 0,.slice none 0 0] 69 ?sp2 ?sq2 (aA _) ?sb2 rfl (by simp[Value.oneCell']) ?_));case lp=>rfl
   case lb=>exact Zz Q9 _
   all_goals try (case sp2=>rfl)
   all_goals try (case sq2=>rfl)
   case sb2=>exact Zz P9 _
   intro w9 aG aY cN;have aU:QB w w9:=ZT (via bQ (ZC _ _)) aY fun b e=>by have:=ZB9 e;omega
   have bM:=ZzG (Zf2 (bL.out.below (ZC _ _)) aY fun g e=>by rw[<-hA9]at e;split at e<;>(cases e;intro h;exact aL (ZB9 h)));go_wp2;refine bodyPost_ret (v:=.tuple #[.agg #[.string (bs nm),(0:Int),(0:Int),v,den,lev,.slice U C (R-3)],(0:Int)]) ?_ rfl ⟨⟨U,R-3,rfl,bM.out⟩,aU⟩;exact ZaG (p:=2) (u:=3) (ad:=⟨w.heap.size,0,none⟩) (v:=.agg #[.string (bs nm),(0:Int),(0:Int),v,den,lev,.slice U C (R-3)]) rfl Qe (Zag (T:=69) (cs:=[.string (bs nm),.int .i64 0,.int .i64 0,.int .i64 v,.int .i64 den,.int .i64 lev,.slice U C (R-3)]) (aR _) (aA _) aG)
end Go.Proofs
namespace Go.Proofs
open Tryz
open Go.RowKit Go.Twin Go.Conc
def Zfa:List UInt8:=[111,108,100,49]
theorem Zvn:NumsR 0 30 1 10 [20]:=⟨Qc,Qc,Qc,Qc,Qc,Qc⟩
theorem Zvo(B:Option Addr):Ze3 Z5 (ZQ B) (bs Zfa) 0 0 30 1 10 [20]=0:=by
 have a:exs (ZQ B)=exs (ZQ none):=rfl;refine Zt4 (ZdQ B) Qm (Zjb.2 Qc) Qc ?_ ?_ ?_;·exact Zf0.1 (show Zbf 1 1 10 [20]=0 by decide+kernel)
 ·rw[a];decide+kernel
 ·rw[a];decide+kernel
theorem Zvp:bs (Lib.join (Zb6 Zfa 0 0 30 1 10 [20]) [32])=ByteArray.mk #[111,108,100,49,32,109,101,97,110,32,51,48,32,49,32,49,48,32,50,48]:=by
 have h:Lib.join (Zb6 Zfa 0 0 30 1 10 [20]) [32]=[111,108,100,49,32,109,101,97,110,32,51,48,32,49,32,49,48,32,50,48]:=Qm
 rw[h];rfl
def tmps4(A c:Option Addr)(a p1:Nat)(C d X:Option Addr)(x:Nat)(Y:Option Addr)(y p3:Nat)(D e:Option Addr)(h:Nat)(F g:Option Addr):Array Value:=#[.bool false,.pointer (some p1),.int .i64 0,.pointer (some p3),.int .i64 0,.pointer (some h),.int .i64 0,.int .i64 1,.int .i64 0,undef,undef,.tuple #[.agg #[(30:Int),(1:Int)],(0:Int)],.agg #[.slice A 2 2,.slice c 1 1],.agg #[(0:Int),(0:Int)],.slice (some a) 1 1,.agg #[(1:Int),(10:Int),.slice (some a) 1 1],.tuple #[.agg #[(30:Int),(1:Int)],(0:Int)],.agg #[(30:Int),(1:Int)],.int .i64 0,.tuple #[Zb7 X x Y y,(0:Int)],.agg #[.slice C 2 2,.slice d 1 1],.agg #[(1:Int),(50:Int)],.tuple #[Zb7 X x Y y,(0:Int)],Zb7 X x Y y,.int .i64 0,.tuple #[.agg #[(500:Int),(1000:Int)],(0:Int)],.agg #[.slice D 2 2,.slice e 1 1],.tuple #[.agg #[(500:Int),(1000:Int)],(0:Int)],.agg #[(500:Int),(1000:Int)],.int .i64 0,.tuple #[(1:Int),(0:Int)],.agg #[.slice F 2 2,.slice g 1 1],.agg #[(4:Int),(5:Int)],.tuple #[(1:Int),(0:Int)],.int .i64 1,.int .i64 0,zu,zu,zu,zu,zu,zu,zu,zu,zu,zu,zu,zu,zu,zu,zu,zu,zu,zu,zu,zu,zu,zu,zu,zu,zu,zu,zu,zu,zu,zu,zu,zu,zu,zu,zu,zu,zu,zu,zu,zu,zu,zu,zu,zu,zu,zu,zu,zu]
theorem _root_.Qz{P:Prop}(h:P:=by intro a b;simp only[ZAX,ZBe,or_false]at b;rcases b with rfl|rfl<;>(intro c d;kernel_rfl)):P:=h
theorem Zvq(A O:Option Addr)(S p1:Nat)(C C2 X:Option Addr)(x:Nat)(Y:Option Addr)(y p3:Nat)(D D2:Option Addr)(Z:Nat)(F F2:Option Addr)(w:World)(ht:Tabs w)(n1:w.heap[p1]?=some (.cells #[(30:Int),(1:Int)] 30))(n3:w.heap[p3]?=some (ZdR X x Y y))(n5:w.heap[Z]?=some (.cells #[(500:Int),(1000:Int)] 63)):aw5.wp prog (bodyPost prog Tryz.f4 (Qt w true)) ⟨tmps4 A O S p1 C C2 X x Y y p3 D D2 Z F F2,[]⟩ w:=by
 simp only[codeHd,codeTl,aw5,aw4,aw3,aw2,aw1,awBody,Tryz.f4,ZB5,tmps4,Zb7];have J:=ZzG fun W (m:QB w W)=>Zvm Zfa 30 1 10 [20] 1 W Qc Qm Zvn rfl (ht.below m);rw[Zvp]at J;have V:=ZzG fun W=>Zht W;have T:=ZzG fun W A O B C c (hB:BookAt W A 2 Z5 O 1 (ZQ B)) (i:At 1 Zc W C [20])=>ZtQ A O C 2 1 2 1 c 1 Z5 (ZQ B) (bs Zfa) 0 0 30 1 10 [20] W hB (Zf9 B) rfl rfl Qm i rfl Qc;have aG:∀x,(sizeOf 69).run prog x=.ok 7 x:=fun x=>Qb
 have Q1:=ZzG n1;have Q3:=ZzG n3;have Q5:=ZzG n5;clear ht n1 n3 n5;go_wp2_with (first|(go_at_call 24;refine(J.out _ (ZyU _ _)).mono ?_;rintro e w3 ⟨⟨G,c,rfl,i⟩,M⟩;(have H:=ZzG i);clear i));have a:=M;refine Zbw ?_;intro u0 E;have X1:u0.heap[p1]?=some (.cells #[(30:Int),(1:Int)] 30):=by rw[E];exact Zz (Zx a Q1.out) _
 have X3:u0.heap[p3]?=some (ZdR X x Y y):=by rw[E];exact Zz (Zx a Q3.out) _
 have X5:u0.heap[Z]?=some (.cells #[(500:Int),(1000:Int)] 63):=by rw[E];exact Zz (Zx a Q5.out) _
 have X9:u0.heap[w3.heap.size]?=some (.cells #[.string (bs Zfa),(0:Int),(0:Int),(30:Int),(1:Int),(10:Int),.slice G 1 c] 69):=by rw[E];exact ZA w3 _ rfl
 have N:QB w u0:=by rw[E];exact via a (ZC _ _)
 have U:=ZzG (show At 1 Zc u0 G [20]by rw[E];exact H.out.below (ZC _ _));clear E H M a Q1 Q3 Q5;unfold ZdR at X3;refine wp_region_any Qb ?_;apply ZmG w (fun y=>QB u0 y) [39,41] (fun j g=>if j=39 then .agg #[.slice g.a1 2 2,.slice g.a2 1 1]else .int .i64 0)
  (fun L g y=>L 39=true->∃B,BookAt y (g 39).a1 2 Z5 (g 39).a2 1 (ZQ B));case hB=>kernel_rfl
 case hB'=>intro g;kernel_rfl
 case hS|hN=>kernel_rfl
 case hC0=>exact ZyU _ _
 case hCs=>exact fun y y' h m=>h.trans (m.mono h.size)
 case hCw=>exact fun y h=>via N h
 case h0=>intro L h d;rw[h 39 Qd]at d;cases d
 case hst=>intro L L' g y y' h I m d;obtain⟨B,hB⟩:=I (by rw[<-h 39 Qd];exact d);exact⟨B,hB.below m⟩
 case hq=>
  have aD:∀W,(binOp .eql 30 (.agg #[(30:Int),(1:Int)]) (.agg #[(30:Int),(1:Int)])).run prog W=.ok (.bool true) W:=fun W=>Qb
  have aA:∀W,(binOp .eql 30 (.agg #[(1:Int),(2:Int)]) (.agg #[(1:Int),(2:Int)])).run prog W=.ok (.bool true) W:=fun W=>Qb
  have aB:∀W,(binOp .eql 63 (.agg #[(500:Int),(1000:Int)]) (.agg #[(500:Int),(1000:Int)])).run prog W=.ok (.bool true) W:=fun W=>Qb
  intro g u R aF N aE;have D1:=bk2 (Zx R X1);have D3:=bk7 (Zx R X3);have D5:=bk2 (Zx R X5);have D9:=bk7 (Zx R X9);simp only[mixL,yieldsC,ZzS,ZzV,Nat.reduceAdd,Nat.reduceBEq,ZB1,Zy6,Zy8,Zy1,Zy9,Zy0,if_true,if_false,Zy7,Nat.reduceEqDiff];repeat (go_big_quiet_step (fail))
  exact wpQuiet_nil rfl
 case hind=>exact Qz
 case hwa=>intro g j s;simp only[ZAX,ZBe,or_false]at s;rcases s with rfl|rfl<;>(intro o z;simp only[List.getElem?_toArray,ZAj,ZAk,ZCa]at z;subst z;kernel_rfl)
 case hsp=>
  intro j s o z L g y I i K hL r aC;simp only[ZAX,ZBe,or_false]at s;rcases s with rfl|rfl;·simp only[ZAj,ZAk,ZCa]at z;subst z;refine Zbx Qb ((V.out y).mono ?_);rintro e y' ⟨⟨A5,A6,Q,rfl,n,-⟩,m⟩;refine⟨_,rfl,i.trans (m.mono i.size),.inr ⟨{Gh.zero with a1:=A5,a2:=A6},rfl,fun _=>?_⟩⟩;rw[Zaa];exact⟨Q,n⟩
  ·simp only[ZAj,ZAk,ZCa]at z;subst z;have d:L 39=true:=r ⟨39,.data⟩ Qd rfl;obtain⟨Q,n⟩:=I d;refine Zbx Qb ((T.out y _ _ Q G c n (U.out.below i)).mono ?_);rw[Zvo];rintro e y' ⟨rfl,m⟩;refine⟨_,rfl,i.trans (m.mono i.size),.inr ⟨Gh.zero,rfl,fun _=>?_⟩⟩;rw[upd_ne Qc];exact⟨Q,n.below m⟩
 intro g y I i K;clear I;go_wp2;go_ret;exact⟨rfl,K⟩
theorem Tabs.old{w w':World} (h:Tabs w)(a:Old w w'):Tabs w':=by have:=h.below (⟨rfl,rfl,rfl,a.size,a.get⟩:QB w {w' with os:=w.os,tape:=w.tape,output:=w.output});obtain⟨⟩:=this;constructor<;>assumption
theorem Zvr{Stop:Frame->List Frame->World->Prop} {A i:Option Addr} {a p1:Nat} {C j X:Option Addr} {x:Nat} {Y:Option Addr} {y p3:Nat} {D m:Option Addr} {g:Nat} {F n:Option Addr} {l:World} {B:Blk} (hs:Self ZO (fun _=>False) B l) (ha:AR ZO B (tmps4 A i a p1 C j X x Y y p3 D m g F n) (tmps4 A i a p1 C j X x Y y p3 D m g F n)) (G:Tabs l) (H:l.heap[p1]?=some (.cells #[(30:Int),(1:Int)] 30)) (I:l.heap[p3]?=some (ZdR X x Y y)) (J:l.heap[g]?=some (.cells #[(500:Int),(1000:Int)] 63))(k:∀f l',Ret prog (fun v _=>v=.bool true) f [ZG prog] l'->f.fn=4->Old l l'->Stop f [ZG prog] l'):LG ZR Stop ((Go.Conc.base 4).at ⟨tmps4 A i a p1 C j X x Y y p3 D m g F n,[]⟩ [.code aw5]) [ZG prog] l:=by refine Zir (E0:=ZO) (E:=ZR) (fn:=Tryz.f4) (R:=fun v w=>v=.bool true/\Old l w) ZX Zbq ZZ hs ha rfl Qb func4 (fun t d=>Zhy (Zvq A i a p1 C j X x Y y p3 D m g F n (l.re t d) (G.old ((Old.refl l).re t d)) H I J) fun e w h=>⟨_,h.1,rfl,Ze h.2⟩) fun f l' c r=>.stop _ _ _ ?_;obtain⟨u,v,t,d,z,rfl,s⟩:=c;exact k f l' ⟨u,_,t,d,z,rfl⟩ r ⟨s.size,s.get⟩
end Go.Proofs
namespace Go.Proofs
open Go.RowKit Go.Twin Go.Conc
def Aw4:Prop:=∀(Post:Value->World->Prop)(W l0:World)(c:Blk)(bs':List Frame),(∀b x,c b x->(fun _:Nat=>False) b∨(b=x/\x<l0.heap.size/\l0.heap[x]?=W.heap[x]?/\ZR.sh=false/\ZR.junk=false))->∀(A d:Option Addr) (a p1:Nat) (C e X:Option Addr) (x:Nat) (Y:Option Addr) (y p3:Nat) (D g:Option Addr) (h:Nat) (cs:List Frame) (l:World) (B:Blk),cs≠[]->Self ZO (fun _=>False) B l->AR ZO B (tmps3 A d a p1 C e X x Y y p3 D g h) (tmps3 A d a p1 C e X x Y y p3 D g h)->Old l0 l->(∀F j l' i,B.le i->Self ZO (fun _=>False) i l'->AR ZO i (tmps4 A d a p1 C e X x Y y p3 D g h F j) (tmps4 A d a p1 C e X x Y y p3 D g h F j)->Old l l'->LG ZR (StopG ZR Post W l0 c (fun _=>False) bs') ((Go.Conc.base 4).at ⟨tmps4 A d a p1 C e X x Y y p3 D g h F j,[]⟩ [.code aw5]) cs l')->LG ZR (StopG ZR Post W l0 c (fun _=>False) bs') ((Go.Conc.base 4).at ⟨tmps3 A d a p1 C e X x Y y p3 D g h,[]⟩ [.code aw4]) cs l
theorem awake_of(h4:Aw4) {w:World} (r:GlobOk w)(M:Tabs (Zac w)):ZdA Tryz.prog (Frame.enter Tryz.prog 4 #[] .normal) w fun v=>v=true:=by refine Zuy r (fun e c L g=>?_) rfl;refine Zvf Qd r fun A H i T C J X x Y y U D K V O I E u j Q R S d=>?_;refine h4 e w (Zac w) awB (c::L) (ZnZ r) A H i T C J X x Y y U D K V _ O I Qd u j d fun F F2 l2 Z G z m a=>?_;exact Zvr z m (M.old (d.trans a)) (a.at Q) (a.at R) (a.at S) fun f N h n s=>g f N h n (d.trans (a.trans s)).get
theorem Zvs(BB:Option Addr):(solvedL 2 (exs (ZQ BB)) [5,1]).map (fun q=>(q.1,q.2.1))=some ([0,1],1):=by rw[Zeq];kernel_rfl
theorem Zvt(BB:Option Addr):(solvedL 2 (exs (ZQ BB)) (Zar [6,2])).map (fun q=>(q.1,q.2.1))=some ([1,1],2):=by rw[Zeq];kernel_rfl
theorem Zn0(BB:Option Addr):ZaE 2 (ZQ BB) [5,1]=(1,1,true):=by unfold ZaE;rw[Zeq];kernel_rfl
theorem Zn1(BB:Option Addr):ZaE 2 (ZQ BB) (Zar [6,2])=(-8,2,true):=by unfold ZaE;rw[Zeq];kernel_rfl
theorem Zvu(BB:Option Addr):Zb4 2 (ZQ BB) [5,1] [6,2] 1=.tuple #[.agg #[(1:Int),(4:Int)],true]:=by unfold Zb4;rw[Zn0,Zn1];kernel_rfl
section
variable {B:Blk} {bs':List Frame} {l w:World}
theorem Zvv{sh:Nat->Prop} {A j BB a g:Option Addr} {lc uc:Nat} {fa:Frame} {cs cb:List Frame} (hB:BookAt l A 2 Z5 j 1 (ZQ BB))(hL:At 1 Zc l a [5,1])(I:At 1 Zc l g [6,2])(h:Rel ZR sh bs' B (Frame.enter ZR.P 49 #[.agg #[.slice A 2 2,.slice j 1 1],.slice a 2 lc,.slice g 2 uc,.int .i64 1] .normal) cs l fa cb w):ZdA Tryz.prog fa w fun v=>v=.tuple #[.agg #[(1:Int),(4:Int)],true]:=by
 have s:=h.st.head.tmps;have R:=ZjF (.agg #[.slice A 2 2,.slice j 1 1]) (.slice a 2 lc) (.slice g 2 uc) (.int .i64 1);have L:(Frame.enter ZR.P 49 #[.agg #[.slice A 2 2,.slice j 1 1],.slice a 2 lc,.slice g 2 uc,.int .i64 1] .normal).tmps=#[.agg #[.slice A 2 2,.slice j 1 1],.slice a 2 lc,.slice g 2 uc,.int .i64 1]++Array.replicate 52 undef:=by show (Frame.enter Tryz.prog _ _ _).tmps=_;rw[R];rfl
 rw[L]at s;have F:=s.getD 0 (undefR (G:=ZR) (B:=B));have J:=s.getD 1 (undefR (G:=ZR) (B:=B));have K:=s.getD 2 (undefR (G:=ZR) (B:=B));have M:((#[.agg #[.slice A 2 2,.slice j 1 1],.slice a 2 lc,.slice g 2 uc,.int .i64 1]++Array.replicate 52 undef:Array Value).getD 0 undef)=.agg #[.slice A 2 2,.slice j 1 1]:=by simp[Array.getD]
 have N:((#[.agg #[.slice A 2 2,.slice j 1 1],.slice a 2 lc,.slice g 2 uc,.int .i64 1]++Array.replicate 52 undef:Array Value).getD 1 undef)=.slice a 2 lc:=by simp[Array.getD]
 have O:((#[.agg #[.slice A 2 2,.slice j 1 1],.slice a 2 lc,.slice g 2 uc,.int .i64 1]++Array.replicate 52 undef:Array Value).getD 2 undef)=.slice g 2 uc:=by simp[Array.getD]
 rw[M]at F;rw[N]at J;rw[O]at K;obtain⟨u1,C⟩:=Zn F (i:=0) rfl;obtain⟨u2,D⟩:=Zn F (i:=1) rfl;have V:=Zer (l:=l) (n:=2) (c:=2) (Zj C) (Zep hB.P rfl rfl);have X:=Zer (l:=l) (n:=1) (c:=1) (Zj D) (Zep hB.E.1 rfl rfl);have Y:=Zer (l:=l) (n:=2) (c:=lc) (Zj J) (Zep hL rfl rfl);have Z:=Zer (l:=l) (n:=2) (c:=uc) (Zj K) (Zep I rfl rfl);intro H c ca gs sl t q Q u y U;refine Znz (E1:=ZR) (lows:=[5,1]) (ups:=[6,2]) rfl (fun _=>rfl) rfl (ZdQ BB).right hB.E rfl Qc Qc (fun x T=>by obtain rfl:=ZA9.1 T;simp) ⟨hL,rfl,ZdS Qc Qc,fun m d p z=>?_⟩ I rfl (ZdS Qc Qc) (fun m d p z=>?_) ?_ ?_ V X Y Z h Q u y (fun S=>U (S.trans (show Zb4 Z5.length (ZQ BB) [5,1] [6,2] 1=_ from Zvu BB)));·have e:=Zvs BB;have r:solvedL 2 (exs (ZQ BB)) [5,1]=some (m,d,p):=z;rw[r]at e;cases e;exact⟨rfl,ZdS Qc Qc⟩
 ·have e:=Zvt BB;have r:solvedL 2 (exs (ZQ BB)) (Zar [6,2])=some (m,d,p):=z;rw[r]at e;cases e;exact⟨rfl,ZdS Qc Qc⟩
 ·unfold Zdl;have e:ZaE Z5.length (ZQ BB) [5,1]=_:=Zn0 BB;rw[e];intro _;exact⟨Qc,Qc⟩
 ·unfold Zdl;have e:ZaE Z5.length (ZQ BB) (Zar [6,2])=_:=Zn1 BB;rw[e];intro _;exact⟨Qc,Qc⟩
end
end Go.Proofs
namespace Go.Proofs
open Tryz
open Go.RowKit Go.Twin Go.Conc
variable {es2:List En} {BB:Option Addr}
attribute [local go_sem] Oper.semAt_some Zdv Zdw Zdx ZcR Zdy Zdz
def Zhz(A c:Option Addr)(i j:Nat)(d:Option Addr)(c1:Nat)(e:Option Addr)(c2 r:Nat)(g:Option Addr)(m:Nat)(h:Option Addr)(n:Nat)(u11 u33 u34 u35 u36 u37 u38 u39 u40 u41 u42 u43 u44 u45 u46 u47 u48:Value)(a:Nat):Array Value:=#[.agg #[.slice A 2 2,.slice c 1 1],.agg #[(4:Int),(5:Int)],.pointer (some i),.pointer (some j),.int .i64 0,.int .i64 0,.pointer (some r),.int .i64 0,.slice g 2 m,.slice h 2 n,undef,u11,.pointer (some a),.bool true,.tuple #[.agg #[.slice d 2 c1,.slice e 3 c2],(0:Int)],.agg #[.slice A 2 2,.slice c 1 1],.agg #[(4:Int),(5:Int)],.tuple #[.agg #[.slice d 2 c1,.slice e 3 c2],(0:Int)],.agg #[.slice d 2 c1,.slice e 3 c2],.int .i64 0,.int .i64 0,.bool false,undef,.agg #[.slice A 2 2,.slice c 1 1],.bool false,.bool false,.agg #[.slice d 2 c1,.slice e 3 c2],.bool false,.bool false,.pointer (some i),.slice A 2 2,.int .i64 2,.int .i64 2,u33,u34,u35,u36,u37,u38,u39,u40,u41,u42,u43,u44,u45,u46,u47,u48,.tuple #[.agg #[(1:Int),(4:Int)],true],.agg #[.slice A 2 2,.slice c 1 1],.slice g 2 m,.slice h 2 n,.tuple #[.agg #[(1:Int),(4:Int)],true],.agg #[(1:Int),(4:Int)],.bool true,.bool true,.bool true,.pointer (some a),.int .i64 1,.pointer (some j),.int .i64 4,.bool false,.bool false,.bool false,zu,zu,zu,zu,zu,.bool false]
theorem Zvw(A g:Option Addr)(r d:Nat)(h:Option Addr)(c1:Nat)(i:Option Addr)(c2 s:Nat)(j:Option Addr)(u:Nat)(m:Option Addr)(y:Nat)(u11 u33 u34 u35 u36 u37 u38 u39 u40 u41 u42 u43 u44 u45 u46 u47 u48:Value)(a:Nat)(w:World)(C:w.heap[d]?=some (.cells #[(4:Int),(5:Int)] 63))(c:w.heap[a]?=some (.cells #[(1:Int),(4:Int)] 63)):agY.wp prog (fun e n w'=>e=.normal/\n.defers=[]/\n.tmps=Zhz A g r d h c1 i c2 s j u m y u11 u33 u34 u35 u36 u37 u38 u39 u40 u41 u42 u43 u44 u45 u46 u47 u48 a/\QB w w') ⟨Znl A g 2 2 1 1 4 5 r d h c1 i c2 s j u m y u11 u33 u34 u35 u36 u37 u38 u39 u40 u41 u42 u43 u44 u45 u46 u47 u48 1 4 a,[]⟩ w:=by simp only[agY,agX,cHd,cTl,ag6,ag5,ag4,ag3,ag2,ag1,agBody,Tryz.f23,ZB5,Znl];have D:=bk2 C;have z:=bk2 c;go_wp2;exact⟨rfl,ZyU _ _⟩
theorem Zvx(A c:Option Addr)(j m:Nat)(d:Option Addr)(c1:Nat)(g:Option Addr)(c2 n:Nat)(h:Option Addr)(r:Nat)(i:Option Addr)(s:Nat)(u11 u33 u34 u35 u36 u37 u38 u39 u40 u41 u42 u43 u44 u45 u46 u47 u48:Value)(a:Nat)(w:World):ag7.wp prog (bodyPost prog Tryz.f23 (Qt w (.tuple #[(1:Int),(0:Int)]))) ⟨Zhz A c j m d c1 g c2 n h r i s u11 u33 u34 u35 u36 u37 u38 u39 u40 u41 u42 u43 u44 u45 u46 u47 u48 a,[]⟩ w:=by simp only[cHd,cTl,ag7,ag6,ag5,ag4,ag3,ag2,ag1,agBody,Tryz.f23,ZB5,Zhz];go_wp2;go_ret2;exact⟨rfl,ZyU _ _⟩
theorem Zn2(h:es2.map En.sig=(ZQ BB).map En.sig++wcL Z5 4 5):exs es2=[([0,-2],-1),([5,1],5),([-6,-2],-4)]:=by
 have e:exs es2=(es2.map En.sig).map fun s=>(s.2.1,s.2.2):=by simp only[exs,ZAP];rfl
 rw[e,h];rfl
theorem Zvy(h:es2.map En.sig=(ZQ BB).map En.sig++wcL Z5 4 5):RightE es2 2/\es2.length=3:=by
 have g:es2.length=3:=by have:=congrArg List.length h;simpa [ZQ,wcL] using this
 refine⟨⟨Qa,fun x i=>?_⟩,g⟩;have d:x.ex∈exs es2:=List.mem_map_of_mem i;rw[Zn2 h]at d;have e:x.co.length=2/\(∀n∈x.co,n.natAbs<=20)/\x.mo.natAbs<=20:=by simp only[ZAX,ZBe,or_false,En.ex,Prod.mk.injEq]at d;rcases d with⟨a,c⟩|⟨a,c⟩|⟨a,c⟩<;>rw[a,c]<;>exact⟨rfl,Qc,Qc⟩
 exact e
theorem Zvz(BB:Option Addr):wcE Z5 (ZQ BB) 4 5=0:=by
 unfold wcE;rw[Zb3];intro e a;simp only[ZAX,ZBe,or_false]at a;rcases a with rfl|rfl|rfl|rfl;·exact ZcC.2 (ZdQ BB)
 ·decide
 ·have c:Zc2 (ZQ BB) mostS=false:=by have:Zc2 (ZQ BB) mostS=Zc2 (ZQ none) mostS:=rfl;rw[this];decide+kernel
  have d:Zc2 (ZQ BB) leastS=false:=by have:Zc2 (ZQ BB) leastS=Zc2 (ZQ none) leastS:=rfl;rw[this];decide+kernel
  rw[c,d];rfl
 ·rfl
theorem ZvA(BB:Option Addr):Zek 2 (exs (ZQ BB))=false:=by rw[Zeq];kernel_rfl
theorem ZvB(h:es2.map En.sig=(ZQ BB).map En.sig++wcL Z5 4 5):Zek 2 (exs es2)=false:=by rw[Zn2 h];kernel_rfl
theorem ZvC{sz:Nat} {α:Type} {cs:α->List Value} {l:World} {A:Option Addr} {xs:List α} (h:At sz cs l A xs) {x:α} (hx:xs[0]?=some x):A≠none:=by rintro rfl;obtain⟨b,o,a,_⟩:=h 0 x hx;cases a
end Go.Proofs
namespace Go.Proofs
open Tryz
open Go.RowKit Go.Twin Go.Conc
attribute [local go_sem] Oper.semAt_some Zdv Zdw Zdx ZcR Zdy Zdz
theorem ZvD (A a:Option Addr):Frame.enter prog 23 #[.agg #[.slice A 2 2,.slice a 1 1],.agg #[(4:Int),(5:Int)]] .normal=(Go.Conc.base 23).at ⟨Zf3 A a 2 2 1 1 4 5,[]⟩ [.code agBody]:=by rw[enter_at (fn:=Tryz.f23) (c:=Tryz.f23.body.getD .skip) _ func23 rfl];kernel_rfl
theorem BookAt.re{w:World} {e a:Option Addr} {g c:Nat} {ps:List Pa} {es:List En} (h:BookAt w e g ps a c es)(t:Nat->Question->Nat)(d:Nat):BookAt (w.re t d) e g ps a c es:=h.old ((Old.refl w).re t d)
theorem ZvE{Post:Value->World->Prop} {W l0:World} {I:Blk} {bs':List Frame} (aX:∀b x,I b x->(fun _:Nat=>False) b∨(b=x/\x<l0.heap.size/\l0.heap[x]?=W.heap[x]?/\ZR.sh=false/\ZR.junk=false)) {A u BB:Option Addr} {c:Frame} {cs:List Frame} {l:World} {B:Blk} (hs:Self ZO (fun _=>False) B l)(ha:AR ZO B #[.agg #[.slice A 2 2,.slice u 1 1],.agg #[(4:Int),(5:Int)]] #[.agg #[.slice A 2 2,.slice u 1 1],.agg #[(4:Int),(5:Int)]])(hB:BookAt l A 2 Z5 u 1 (ZQ BB))(ho:Old l0 l)(k:∀l' T,Old l l'->B.le T->Self ZO (fun _=>False) T l'->LG ZR (StopG ZR Post W l0 I (fun _=>False) bs') (c.finish (.tuple #[(1:Int),(0:Int)])) cs l'):LG ZR (StopG ZR Post W l0 I (fun _=>False) bs') (Frame.enter prog 23 #[.agg #[.slice A 2 2,.slice u 1 1],.agg #[(4:Int),(5:Int)]] .normal) (c::cs) l:=by
 have z:Halts (StopG ZR Post W l0 I (fun _=>False) bs'):=Zd7;rw[ZvD];have aG:AR ZO B (Zf3 A u 2 2 1 1 4 5) (Zf3 A u 2 2 1 1 4 5):=Zb (ha.append (AR.replicate 69 undefR)) Qb;rw[show agBody=.seq (cHd agBody) ag1 from Qb];refine Zal z ?_;refine Zb1 (R:=fun y w'=>(∃G H,y.tmps=Zhh A u 2 2 1 1 4 5 G H/\w'.heap[G]?=some (.cells #[.slice A 2 2,.slice u 1 1] 25)/\w'.heap[H]?=some (.cells #[(4:Int),(5:Int)] 63))/\Old l w') ZX Zbq Zbv ZZ hs aG rfl Qb (fun v w t d h=>⟨h.1,h.2.size,h.2.get⟩) (fun t d=>Code.wp_mono (fun e y w' h=>⟨h.1,h.2.1,h.2.2.1,(Ze h.2.2.2).size,(Ze h.2.2.2).get⟩) (Zt8 A u 2 2 1 1 4 5 _)) ?_;rintro⟨tm,df⟩ l1 B1 ⟨⟨G,H,Q,m2,m3⟩,aT⟩ S aM aY aH;cases Q;cases S;have aB:=hB.old aT;rw[show ag1=.seq (cHd ag1) ag2 from Qb];refine Zal z ?_;refine Zb1 (R:=fun y w'=>Znm A u 2 2 1 1 4 5 Z5 (ZQ BB) G H y.tmps w'/\Old l1 w') ZX Zbq Zbv ZZ aY aH rfl Qb (fun v w t d h=>⟨by obtain⟨J,N,L,O,M,es2,g1,g2,g3,g4⟩:=h.1;exact⟨J,N,L,O,M,es2,g1,g2,g3,g4.re t d⟩,h.2.size,h.2.get⟩) (fun t d=>Code.wp_mono (fun e y w' h=>⟨h.1,h.2.1,h.2.2.1,(Ze h.2.2.2).size,(Ze h.2.2.2).get⟩) (Zt9 A u 2 2 1 1 4 5 Z5 (ZQ BB) G H (l1.re t d) (aB.re t d) (Zf9 BB) rfl rfl (fun h=>absurd h (ZvC aB.P rfl)) (Zvz BB) m2 m3)) ?_;rintro⟨tm,df⟩ l2 B2 ⟨⟨J,N,L,O,M,es2,Q,m6,bE,bG⟩,Y⟩ S aN bA aI;cases Q;cases S;obtain⟨bK,bM⟩:=Zvy bE;have aA:=aB.old Y;have aE:=Y.at m2;have bT:=Y.at m3;rw[show ag2=.seq (cHd ag2) ag3 from Qb];refine Zal z ?_;refine Zb1 (R:=fun y w'=>(y.tmps=Zhi A u 2 2 1 1 4 5 G H J N L O M)/\Old l2 w') ZX Zbq Zbv ZZ bA aI rfl Qb (fun v w t d h=>⟨h.1,h.2.size,h.2.get⟩) (fun t d=>Code.wp_mono (fun e y w' h=>⟨h.1,h.2.1,h.2.2.1,(Ze h.2.2.2).size,(Ze h.2.2.2).get⟩) (Zua A u 2 2 1 1 4 5 G H J N L O M _)) ?_;rintro⟨tm,df⟩ l3 B3 ⟨Q,U⟩ S aO bB aJ;cases Q;cases S;rw[show ag3=.seq (cHd ag3) ag4 from Qb];refine Zal z ?_;refine Zb1 (R:=fun y w'=>(y.tmps=Zhj A u 2 2 1 1 4 5 G H J N L O M)/\Old l3 w') ZX Zbq Zbv ZZ bB aJ rfl Qb (fun v w t d h=>⟨h.1,h.2.size,h.2.get⟩) (fun t d=>Code.wp_mono (fun e y w' h=>⟨h.1,h.2.1,h.2.2.1,(Ze h.2.2.2).size,(Ze h.2.2.2).get⟩) (Zub A u 2 2 1 1 4 5 (ZQ BB) es2 G H J N L O M (l3.re t d) (ZdQ BB).right ((aA.old U).re t d).E rfl Qc Qc bK ((bG.old U).re t d).E bM (ZvA BB) (ZvB bE) (U.at aE) (U.at m6))) ?_;rintro⟨tm,df⟩ l4 B4 ⟨Q,bO⟩ S aP bC aK;cases Q;cases S;rw[show ag4=.seq (cHd ag4) ag5 from Qb];refine Zal z ?_;refine Zb1 (R:=fun y w'=>(y.tmps=Zhk A u 2 2 1 1 4 5 G H J N L O M)/\Old l4 w') ZX Zbq Zbv ZZ bC aK rfl Qb (fun v w t d h=>⟨h.1,h.2.size,h.2.get⟩) (fun t d=>Code.wp_mono (fun e y w' h=>⟨h.1,h.2.1,h.2.2.1,(Ze h.2.2.2).size,(Ze h.2.2.2).get⟩) (Zuc A u 2 2 1 1 4 5 G H J N L O M _)) ?_;rintro⟨tm,df⟩ l5 B5 ⟨Q,bP⟩ S aQ bD aL;cases Q;cases S;have D:=(U.trans bO).trans bP;have aF:=aA.old D;rw[show ag5=.seq (cHd ag5) ag6 from Qb];refine Zal z ?_;refine Zb1 (R:=fun y w'=>Znn A u 2 2 1 1 4 5 Z5 G H J N L O M l5.heap.size y.tmps w'/\Old l5 w') ZX Zbq Zbv ZZ bD aL rfl Qb (fun v w t d h=>⟨h.1,h.2.size,h.2.get⟩) (fun t d=>Code.wp_mono (fun e y w' h=>⟨h.1,h.2.1,h.2.2.1,(Ze h.2.2.2).size,(Ze h.2.2.2).get⟩) (Zud A u 2 2 1 1 4 5 Z5 G H J N L O M (l5.re t d) (aF.re t d).P rfl Qc Qc (D.at aE))) ?_;rintro⟨tm,df⟩ l6 B6 ⟨⟨L1,r,L2,s,u11,u33,u34,u35,u36,u37,u38,u39,u40,u41,u42,u43,u44,u45,u46,u47,u48,Q,o1,o2⟩,Z⟩ S aR hs ha;cases Q;cases S;have m:=Blk.le_trans (Blk.le_trans (Blk.le_trans (Blk.le_trans (Blk.le_trans aM aN) aO) aP) aQ) aR;have bH:=aF.old Z;have n2:=Z.at (D.at aE);have n3:=Z.at (D.at bT);have aW:Old l l6:=aT.trans (Y.trans (D.trans Z));have bI:At 1 Zc l6 L1 [5,1]:=Zc1 o1 rfl;have bJ:At 1 Zc l6 L2 [6,2]:=Zc1 o2 rfl;have D2:=bk2 n2;clear aY bA bB bC bD aH aI aJ aK aL aG;rw[show ag6=.seq agX ag7 from Qb];refine Zal z ?_;rw[show agX=.seq (cHd agX) agY from Qb];refine Zal z ?_;simp only[cHd,cTl,agX,ag6,ag5,ag4,ag3,ag2,ag1,agBody,Tryz.f23,ZB5,Znk];refine Zbo z ?_;simp only[ZBl,ZAB,ZAE,Nat.reduceAdd,ZB1,List.range,List.range.loop];refine Zap z ZZ ZX hs (Zb ha Qb) rfl rfl Qc Qb (fun F C K r s=>?_);simp only[show ZO.P=prog from rfl];go_simp;first|refine r _ _ ?_|refine s _ ?_
 clear r s K F C;intro T a j i;replace m:=Blk.le_trans m a;clear hs ha a;have hs:=j;have ha:=i;clear j i;walk_nrm;refine Zap z ZZ ZX hs (Zb ha Qb) rfl rfl Qc Qb (fun F C K r s=>?_);simp only[show ZO.P=prog from rfl];go_simp;first|refine r _ _ ?_|refine s _ ?_
 clear r s K F C;intro T a j i;replace m:=Blk.le_trans m a;clear hs ha a;have hs:=j;have ha:=i;clear j i;walk_nrm;refine Zap z ZZ ZX hs (Zb ha Qb) rfl rfl Qc Qb (fun F C K r s=>?_);simp only[show ZO.P=prog from rfl];go_simp;first|refine r _ _ ?_|refine s _ ?_
 clear r s K F C;intro T a j i;replace m:=Blk.le_trans m a;clear hs ha a;have hs:=j;have ha:=i;clear j i;walk_nrm;refine ZcQ (g:=49) (args:=#[.agg #[.slice A 2 2,.slice u 1 1],.slice L1 2 r,.slice L2 2 s,.int .i64 1]) z rfl rfl Qc Qb (fun w'=>by simp only[show ZR.P=prog from rfl];kernel_rfl) ?_;refine .stop _ _ _ (Zli (R:=fun v=>v=.tuple #[.agg #[(1:Int),(4:Int)],true]) Zix aX Qd (fun c h=>by cases h) (ho.trans aW).get (fun h hO=>Zvv bH bI bJ h) (fun v hv=>by subst hv;kernel_rfl) fun v n hv=>?_);subst hv;rw[Frame.finish_at];have hs:=hs.pad n;have ha:=ha.set 53 (VR.closed 8 (.tuple #[.agg #[(1:Int),(4:Int)],true]) Qb);have aD:Old l6 (pad l6 n):=⟨by rw[Zcv];omega,fun b hb=>Zcw l6 n hb⟩;obtain⟨V,bN⟩:=Qu (pad l6 n);rw[bN]at hs aD |-;walk_nrm;refine Zap z ZZ ZX hs (Zb ha Qb) rfl rfl Qc Qb (fun F C K r s=>?_);simp only[show ZO.P=prog from rfl];go_simp;first|refine r _ _ ?_|refine s _ ?_
 clear r s K F C;intro T a j i;replace m:=Blk.le_trans m a;clear hs ha a;have hs:=j;have ha:=i;clear j i;walk_nrm;refine Zap z ZZ ZX hs (Zb ha Qb) rfl rfl Qc Qb (fun F C K r s=>?_);simp only[show ZO.P=prog from rfl];go_simp;first|refine r _ _ ?_|refine s _ ?_
 clear r s K F C;intro T a j i;replace m:=Blk.le_trans m a;clear hs ha a;have hs:=j;have ha:=i;clear j i;walk_nrm;refine Zap z ZZ ZX hs (Zb ha Qb) rfl rfl Qc Qb (fun F C K r s=>?_);simp only[show ZO.P=prog from rfl];go_simp;first|refine r _ _ ?_|refine s _ ?_
 clear r s K F C;intro T a j i;replace m:=Blk.le_trans m a;clear hs ha a;have hs:=j;have ha:=i;clear j i;walk_nrm;refine Zap z ZZ ZX hs (Zb ha Qb) rfl rfl Qc Qb (fun F C K r s=>?_);simp only[show ZO.P=prog from rfl];go_simp;first|refine r _ _ ?_|refine s _ ?_
 clear r s K F C;intro T a j i;replace m:=Blk.le_trans m a;clear hs ha a;have hs:=j;have ha:=i;clear j i;walk_nrm;refine Zap z ZZ ZX hs (Zb ha Qb) rfl rfl Qc Qb (fun F C K r s=>?_);simp only[show ZO.P=prog from rfl];go_simp;first|refine r _ _ ?_|refine s _ ?_
 clear r s K F C;intro T a j i;replace m:=Blk.le_trans m a;clear hs ha a;have hs:=j;have ha:=i;clear j i;walk_nrm;refine Zap z ZZ ZX hs (Zb ha Qb) rfl rfl Qc Qb (fun F C K r s=>?_);simp only[show ZO.P=prog from rfl];go_simp;first|refine r _ _ ?_|refine s _ ?_
 clear r s K F C;intro T a j i;replace m:=Blk.le_trans m a;clear hs ha a;have hs:=j;have ha:=i;clear j i;walk_nrm;refine Zbp z ?_;obtain⟨l8,X⟩:=Qu (V.alloc (.cells #[(1:Int),(4:Int)] 63));have bU:l8.heap[V.heap.size]?=some (.cells #[(1:Int),(4:Int)] 63):=by rw[<-X];exact Qs
 have aV:Old V l8:=by rw[<-X];exact Zp (by go_grown:QB V _)
 rw[X]at hs |-;clear X;have bV:=aV.at (aD.at n3);refine Zb1 (x:=agY) (R:=fun y w'=>y.tmps=Zhz A u G H J N L O M L1 r L2 s u11 u33 u34 u35 u36 u37 u38 u39 u40 u41 u42 u43 u44 u45 u46 u47 u48 V.heap.size/\Old l8 w') ZX Zbq Zbv ZZ hs (Zb ha Qb) rfl Qb (fun v w t d h=>⟨h.1,h.2.size,h.2.get⟩) (fun t d=>Code.wp_mono (fun e y w' h=>⟨h.1,h.2.1,h.2.2.1,(Ze h.2.2.2).size,(Ze h.2.2.2).get⟩) (Zvw A u G H J N L O M L1 r L2 s u11 u33 u34 u35 u36 u37 u38 u39 u40 u41 u42 u43 u44 u45 u46 u47 u48 V.heap.size (l8.re t d) bV bU)) ?_;rintro⟨tm,df⟩ l9 B9 ⟨Q,bQ⟩ S aS bR bL;cases Q;cases S;refine Zlp (fn:=Tryz.f23) (x:=ag7) (R:=fun v w=>v=.tuple #[(1:Int),(0:Int)]/\Old l9 w) ZX Zbq Zbv ZZ bR bL rfl Qb func23 (fun v w t d h=>⟨h.1,h.2.size,h.2.get⟩) (fun t d=>Zhy (Zvx A u G H J N L O M L1 r L2 s u11 u33 u34 u35 u36 u37 u38 u39 u40 u41 u42 u43 u44 u45 u46 u47 u48 V.heap.size (l9.re t d)) fun e w h=>⟨_,h.1,rfl,Ze h.2⟩) ?_;rintro v bS bF ⟨rfl,aU⟩ aC aZ hv;exact k bS bF (aW.trans (aD.trans (aV.trans (bQ.trans aU)))) (Blk.le_trans m (Blk.le_trans aS aC)) aZ
theorem ZvF:Aw4:=by
 intro G W Z E bs' M A A2 T p1 C C2 X x Y y p3 D D2 p5 cs l B U i h V k;have r:Halts (StopG ZR G W Z E (fun _=>False) bs'):=Zd7;have e:B.le B:=Blk.le_refl _;rw[show aw4=.seq (codeHd aw4) aw5 from Qb];refine Zal r ?_;simp only[codeHd,codeTl,aw4,aw3,aw2,aw1,awBody,Tryz.f4,ZB5,tmps3,Zb7];refine Zbo r ?_;simp only[ZBl,ZAB,ZAE,Nat.reduceAdd,ZB1,List.range,List.range.loop];refine Zlo (g:=21) (args:=#[]) r ZX Zbq Zbv ZZ i (Zb h Qb) rfl rfl Qc Qb (fun w'=>by simp only[show ZO.P=prog from rfl];kernel_rfl) Qb (AR.empty) (ZnY l) (ZnX l) ?_;rintro v l1 B1 ⟨⟨F,Q,BB,rfl,R⟩,L⟩ J N H;clear i h;walk_nrm;replace e:=J;have i:=N;have h:=H;clear N H;refine Zap r ZZ ZX i (Zb h Qb) rfl rfl Qc Qb (fun s n K j m=>?_);simp only[show ZO.P=prog from rfl];go_simp;first|refine j _ _ ?_|refine m _ ?_
 clear j m K s n;intro z a d c;replace e:=Blk.le_trans e a;clear i h a;have i:=d;have h:=c;clear d c;walk_nrm;refine ZcQ (g:=23) (args:=#[.agg #[.slice F 2 2,.slice Q 1 1],.agg #[(4:Int),(5:Int)]]) r rfl rfl Qc Qb (fun w'=>by simp only[show ZR.P=prog from rfl];kernel_rfl) ?_;refine ZvE M i (Zb (((AR.replicate 2 undefR).set 0 (Zq h 31 (v:=.agg #[.slice F 2 2,.slice Q 1 1]) Qb)).set 1 (Zq h 32 (v:=.agg #[(4:Int),(5:Int)]) Qb)) Qb) R (V.trans L) fun l2 B2 S u O=>?_;have I:=(h.mono u).set 33 (VR.closed 8 (.tuple #[(1:Int),(0:Int)]) Qb);replace e:=Blk.le_trans e u;rw[Frame.finish_at];clear h i;have i:=O;have h:=I;clear I O;walk_nrm;refine Zap r ZZ ZX i (Zb h Qb) rfl rfl Qc Qb (fun s n K j m=>?_);simp only[show ZO.P=prog from rfl];go_simp;first|refine j _ _ ?_|refine m _ ?_
 clear j m K s n;intro z a d c;replace e:=Blk.le_trans e a;clear i h a;have i:=d;have h:=c;clear d c;walk_nrm;refine Zap r ZZ ZX i (Zb h Qb) rfl rfl Qc Qb (fun s n K j m=>?_);simp only[show ZO.P=prog from rfl];go_simp;first|refine j _ _ ?_|refine m _ ?_
 clear j m K s n;intro z a d c;replace e:=Blk.le_trans e a;clear i h a;have i:=d;have h:=c;clear d c;walk_nrm;refine Zap r ZZ ZX i (Zb h Qb) rfl rfl Qc Qb (fun s n K j m=>?_);simp only[show ZO.P=prog from rfl];go_simp;first|refine j _ _ ?_|refine m _ ?_
 clear j m K s n;intro z a d c;replace e:=Blk.le_trans e a;clear i h a;have i:=d;have h:=c;clear d c;walk_nrm;refine Zap r ZZ ZX i (Zb h Qb) rfl rfl Qc Qb (fun s n K j m=>?_);simp only[show ZO.P=prog from rfl];go_simp;first|refine j _ _ ?_|refine m _ ?_
 clear j m K s n;intro z a d c;replace e:=Blk.le_trans e a;clear i h a;have i:=d;have h:=c;clear d c;walk_nrm;refine Zap r ZZ ZX i (Zb h Qb) rfl rfl Qc Qb (fun s n K j m=>?_);simp only[show ZO.P=prog from rfl];go_simp;first|refine j _ _ ?_|refine m _ ?_
 clear j m K s n;intro z a d c;replace e:=Blk.le_trans e a;clear i h a;have i:=d;have h:=c;clear d c;walk_nrm;refine Zbp r ?_;exact k F Q l2 _ e i (Zb h Qb) (L.trans S)
theorem ZvG{w:World} (a:GlobOk w)(c:Tabs (Zac w)):ZdA prog (Frame.enter prog 4 #[] .normal) w fun v=>v=true:=awake_of ZvF a c
end Go.Proofs
namespace Go.Proofs
open Tryz
open Go.RowKit Go.Twin Go.Conc
variable {W w:World} {p:Nat}
noncomputable def rA(n p q:Nat)(s:String):Code:=.region n #[{dst:=some p,op:=.call {callee:=.value (.func 4),args:=#[],argTypes:=#[]},type:=4,pos:=s,after:=#[],guard:=none},{dst:=some q,op:=.unOp .not 4 (.tmp p),type:=4,pos:=s,after:=#[{on:=0,ground:=.data}],guard:=none}] false
theorem ZvH(hk:Kept1 W w):Old (Zac W) (Zac w):=by
 refine⟨by rw[Zdm,Zdm];exact hk.size,fun b a=>?_⟩;rw[Zdm]at a;have c:b<w.heap.size:=ZBJ a hk.size;unfold Zac;simp only[ZyF,Array.size_setIfInBounds];by_cases e:4=b;·subst e;simp[a,c]
 ·by_cases d:3=b;·subst d;simp[a,c]
  ·simp[d,e,hk.heap b a]
theorem Tabs.kept(h:Tabs (Zac W))(hk:Kept1 W w):Tabs (Zac w):=h.old (ZvH hk)
theorem Old.pad(l:World)(n:Nat):Old l (Twin.pad l n):=⟨by rw[Zcv];omega,fun b a=>Zcw l n a⟩
theorem ZvI(p:Nat):Za5.op (.unOp .not 4 (.tmp p))=true:=by simp[Env.op,Env.op0,Env.darkOp,Op.operands,Env.operand]
theorem ZvJ{ρ:Operand->Value} {o:Oper} (h:ρ (.tmp p)=.bool true)(a:o.op=.unOp .not 4 (.tmp p))(w:World):(execOp ρ o).run prog w=.ok (.value (.bool false)) w:=by unfold execOp;rw[a];go_simp
noncomputable def Zfc(W:World):World:=Zcd Za5 (fun _=>False) W
theorem ZvK{F:Nat} {fn:Func} {c0 x rest:Code} {n q:Nat} {s:String} {args:Array Value} {Post:Value->World->Prop} {T:Array Value->World->Prop} (hf:prog.funcs[F]?=some fn) (hb:fn.body=some (.seq c0 (.seq (.seq (rA n p q s) (.cond (.tmp q) x .skip)) rest))) (hm:Zat (.seq c0 (.seq (.seq (rA n p q s) (.cond (.tmp q) x .skip)) rest))=true)(Z:Za5.code c0=true)(aA:Za5.code rest=true)(hi:prog.inits.idxOf? F=none)(i:GlobOk W)(ht:Tabs (Zac W))(ha:AR Za5 (idX (ZaT (fun _=>False) W)) args args)(aJ:p≠q)(O:∀c w w',T c w->Old w w'->T c w')(U:∀c w,T c w->p<c.size/\q<c.size)(h0:∀l,Old (Zfc W) l->c0.wp prog (fun e a w'=>e=.normal/\a.defers=[]/\T a.tmps w'/\QB l w') ⟨args++Array.replicate (fn.ntmps-args.size) undef,[]⟩ l)(hr:∀c w,T c w->rest.wp prog (bodyPost prog fn (Qt w true)) ⟨(c.setIfInBounds p (.bool true)).setIfInBounds q (.bool false),[]⟩ w)(hk:∀w',Kept1 W w'->Post (.bool true) w'):Fin prog Post #[G (Frame.enter prog F args .normal) []] W none #[]:=by
 have M:prog.globals.size<=W.heap.size:=i.size;refine Zru (S:=Za5) (E:=Zcx) (D:=fun _=>False) ZlK ZgR rfl rfl rfl (fn:=fn) hf hb hm (fun g i=>by cases i) (fun g i=>by cases i) M ha ?_;have r:Halts (StopG Zcx Post W (Zcd Za5 (fun _=>False) W) (idX (ZaT (fun _=>False) W)) (ZaT (fun _=>False) W) []):=Zd7;have e0:Frame.enter Zcx.P F args .normal=(Go.Conc.base F).at ⟨args++Array.replicate (fn.ntmps-args.size) undef,[]⟩ [.code (.seq c0 (.seq (.seq (rA n p q s) (.cond (.tmp q) x .skip)) rest))]:=enter_at _ hf hb;rw[e0];have hs:=Zrr (S:=Za5) (D:=fun _=>False) (w:=W) rfl (fun g i=>by cases i) (fun g i=>by cases i) M;refine Zal r ?_;refine Zb1 (E0:=Za5) (E:=Zcx) (R:=fun a' w'=>T a'.tmps w'/\Old (Zfc W) w') Ziy ZlJ ZrG ZgR hs (ha.append (AR.replicate _ undefR)) rfl Z (fun v w t d h=>⟨O _ _ _ h.1 ((Old.refl w).re t d),h.2.size,h.2.get⟩) (fun t d=>Code.wp_mono (fun e a' w' h=>⟨h.1,h.2.1,h.2.2.1,Ze h.2.2.2⟩) (h0 _ ((Old.refl (Zfc W)).re t d))) ?_;rintro⟨c,df⟩ N B1 ⟨Q,J⟩ e2 aH j V;cases e2;refine Zal r (Zal r ?_);simp only[rA];refine Zbo r ?_;simp only[ZBl,ZAB,ZAE,Nat.reduceAdd,ZB1,List.range,List.range.loop];refine .stop _ _ _ (Zrs (E:=Zcx) (g:=4) (R:=fun v=>v=.bool true) ZlK (fun b x hb=>.inl hb.2) Qd rfl rfl (fun a w=>?_) (fun a w=>?_) J.get (fun I=>ZvG (i.kept I) (ht.kept I)) (fun v h=>by subst h;rfl) fun v m hv=>?_);·simp only[show Zcx.P=prog from rfl];kernel_rfl
 ·simp only[show Zcx.P=prog from rfl];kernel_rfl
 subst hv;have z:Old N (Twin.pad N m):=Old.pad N m;replace j:=j.pad m;obtain⟨A,aC⟩:=Qu (Twin.pad N m);rw[aC]at z j |-;have C:=O _ _ _ Q z;have X:AR Za5 B1 (c.setIfInBounds p (.bool true)) (c.setIfInBounds p (.bool true)):=V.set p (.bool true);obtain⟨aE,aF⟩:=U _ _ C;have H:(c.setIfInBounds p (.bool true)).getD p undef=true:=by rw[Zyt,ZyH aE];rfl
 have y:((c.setIfInBounds p (.bool true)).setIfInBounds q (.bool false)).getD q undef=false:=by rw[Zyt,ZyH (by simpa using aF)];rfl
 refine Zap (E0:=Za5) (a:=⟨c.setIfInBounds p (.bool true),[]⟩) r ZgR Ziy j X rfl rfl (fun h=>by cases h) (ZvI p) (fun tt dd K k1 k2=>?_);have ev:(⟨c.setIfInBounds p (.bool true),[]⟩:Act).eval (.tmp p)=true:=H;simp only[show Za5.P=prog from rfl];rw[show (execOp (⟨c.setIfInBounds p (.bool true),[]⟩:Act).eval (#[{dst:=some p,op:=Op.call {callee:=Callee.value (Operand.func 4),args:=#[],argTypes:=#[]},type:=4,pos:=s,after:=#[],guard:=none},{dst:=some q,op:=Op.unOp UnOp.not 4 (Operand.tmp p),type:=4,pos:=s,after:=#[{on:=0,ground:=Ground.data}],guard:=none}][1])).run prog (A.re tt dd)=.ok (.value (.bool false)) (A.re tt dd)from ZvJ ev rfl _];refine k1 _ _ ?_;clear k1 k2 K;intro B2 aI aG Y;refine Zbp r ?_;refine Zim r (t:=false) rfl y ?_;simp only[Zy0,if_false];refine Zk8 r ?_;refine Zir (E0:=Za5) (E:=Zcx) (fn:=fn) (R:=fun v w=>v=.bool true/\Old A w) Ziy ZlJ ZgR aG Y rfl aA hf (fun t d=>Zhy (hr _ _ (O _ _ _ C ((Old.refl A).re t d))) fun e w h=>⟨_,h.1,rfl,Ze h.2⟩) fun f l' L aB=>.stop _ _ _ ?_;obtain⟨hc,v,t,d,hl,rfl,ho⟩:=L;refine Zrt (u:=.bool true) (R:=fun v _=>v=.bool true) Qe (by rw[aB];exact hi) ⟨hc,_,t,d,hl,rfl⟩ (fun v t d h=>h) rfl ?_ hk;have aD:Old A l':=⟨ho.size,ho.get⟩;exact(J.trans (z.trans aD)).get
end Go.Proofs
