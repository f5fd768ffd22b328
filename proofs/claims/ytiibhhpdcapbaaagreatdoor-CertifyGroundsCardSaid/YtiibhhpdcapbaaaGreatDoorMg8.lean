import Derived.Shelf.Utf8.RuneCount
import Derived.Shelf.Strconv.Atoi
import Derived.Shelf.Strconv.Itoa3
import Derived.Shelf.Strings.Shaped
import Derived.Shelf.Strings.Prefix
import Derived.Shelf.Strings.SplitShaped
import Derived.Shelf.Strings.Explode
import Derived.Shelf.Unicode.DecodeAny
import Derived.Shelf.Slices.Clone
import Derived.Shelf.SlicesE.Clone
import Derived.Test.YtiibhhpdcapbaaaGreatDoorMg7
import Derived.Lib.AppendIntMem
set_option linter.all false
set_option maxRecDepth 100000
set_option maxHeartbeats 16000000
namespace Go
def F1:=@Code.wp_mono
def jR:=@List.mem_map_of_mem
def vL:=@World.block_lt_of_cell?
end Go
namespace Go.Proofs
open Tryz
open Go.Shelf
def Tryz.lays172_ren:Go.Shelf.Ren:=⟨fun|172=>90|244=>104|245=>105|247=>119|279=>120|280=>121|281=>122|282=>123|287=>130|316=>131|171=>91|205=>132|321=>137|322=>138|243=>106|246=>124|283=>133|284=>134|285=>135|286=>136|129=>140|317=>139|318=>141|319=>142|320=>143|337=>144|338=>145|n=>n,fun|9=>9|3=>3|75=>153|76=>154|4=>4|5=>5|167=>175|37=>134|0=>0|85=>176|2=>2|168=>178|53=>186|175=>193|46=>171|210=>197|127=>204|145=>207|143=>205|21=>21|171=>199|173=>201|212=>209|51=>184|20=>20|213=>210|232=>211|233=>212|80=>213|n=>n,fun|15=>3|16=>4|17=>5|18=>6|19=>7|n=>n⟩
def Tryz.lays172:Go.Proofs.Lays.n172 prog Tryz.lays172_ren:={
 mixed:=Qb
 f129:=func140.trans (w6 some Qb)
 f171:=func91.trans (w6 some Qb)
 f172:=func90.trans (w6 some Qb)
 f205:=func132.trans (w6 some Qb)
 f243:=func106.trans (w6 some Qb)
 f244:=func104.trans (w6 some Qb)
 f245:=func105.trans (w6 some Qb)
 f246:=func124.trans (w6 some Qb)
 f247:=func119.trans (w6 some Qb)
 f279:=func120.trans (w6 some Qb)
 f280:=func121.trans (w6 some Qb)
 f281:=func122.trans (w6 some Qb)
 f282:=func123.trans (w6 some Qb)
 f283:=func133.trans (w6 some Qb)
 f284:=func134.trans (w6 some Qb)
 f285:=func135.trans (w6 some Qb)
 f286:=func136.trans (w6 some Qb)
 f287:=func130.trans (w6 some Qb)
 f316:=func131.trans (w6 some Qb)
 f317:=func139.trans (w6 some Qb)
 f318:=func141.trans (w6 some Qb)
 f319:=func142.trans (w6 some Qb)
 f320:=func143.trans (w6 some Qb)
 f321:=func137.trans (w6 some Qb)
 f322:=func138.trans (w6 some Qb)
 f337:=func144.trans (w6 some Qb)
 f338:=func145.trans (w6 some Qb)
 t0:=underlying0
 a0:=isAgg0
 z0:=sizeOf0
 v0:=zeroValue0
 t2:=underlying2
 a2:=isAgg2
 z2:=sizeOf2
 v2:=zeroValue2
 t3:=underlying3
 a3:=isAgg3
 z3:=sizeOf3
 v3:=zeroValue3
 t4:=underlying4
 a4:=isAgg4
 z4:=sizeOf4
 v4:=zeroValue4
 t5:=underlying5
 a5:=isAgg5
 z5:=sizeOf5
 v5:=zeroValue5
 t9:=underlying9
 a9:=isAgg9
 z9:=sizeOf9
 v9:=zeroValue9
 t20:=underlying20
 a20:=isAgg20
 z20:=sizeOf20
 v20:=zeroValue20
 t21:=underlying21
 a21:=isAgg21
 z21:=sizeOf21
 v21:=zeroValue21
 t37:=underlying134
 a37:=isAgg134
 z37:=sizeOf134
 v37:=zeroValue134
 t46:=underlying171
 a46:=isAgg171
 z46:=sizeOf171
 v46:=zeroValue171
 t51:=underlying184
 a51:=isAgg184
 z51:=sizeOf184
 v51:=zeroValue184
 t53:=underlying186
 a53:=isAgg186
 z53:=sizeOf186
 v53:=zeroValue186
 t75:=underlying153
 a75:=isAgg153
 z75:=sizeOf153
 v75:=zeroValue153
 t76:=underlying154
 a76:=isAgg154
 z76:=sizeOf154
 v76:=zeroValue154
 t85:=underlying176
 a85:=isAgg176
 z85:=sizeOf176
 v85:=zeroValue176
 t127:=underlying204
 a127:=isAgg204
 z127:=sizeOf204
 v127:=zeroValue204
 t143:=underlying205
 a143:=isAgg205
 z143:=sizeOf205
 v143:=zeroValue205
 t145:=underlying207
 a145:=isAgg207
 z145:=sizeOf207
 v145:=zeroValue207
 t167:=underlying175
 a167:=isAgg175
 z167:=sizeOf175
 v167:=zeroValue175
 t168:=underlying178
 a168:=isAgg178
 z168:=sizeOf178
 v168:=zeroValue178
 t171:=underlying199
 a171:=isAgg199
 z171:=sizeOf199
 v171:=zeroValue199
 t173:=underlying201
 a173:=isAgg201
 z173:=sizeOf201
 v173:=zeroValue201
 t175:=underlying193
 a175:=isAgg193
 z175:=sizeOf193
 v175:=zeroValue193
 t210:=underlying197
 a210:=isAgg197
 z210:=sizeOf197
 v210:=zeroValue197
 t212:=underlying209
 a212:=isAgg209
 z212:=sizeOf209
 v212:=zeroValue209
 t213:=underlying210
 a213:=isAgg210
 z213:=sizeOf210
 t232:=underlying211
 a232:=isAgg211
 z232:=sizeOf211
 v232:=zeroValue211
 t233:=underlying212
 a233:=isAgg212
 z233:=sizeOf212
 v233:=zeroValue212
 g15:=Qb
 g16:=Qb
 g17:=Qb
 g18:=Qb
 g19:=by kernel_rfl}
open Go.RowKit in def Tryz.strconv_Atoi(s:ByteArray)(n:Int)(a:s.size<=18)(h:Lib.atoi s.data.toList=some n)(w:World):Calls prog 90 #[.string s] w fun e b=>e=.returned (.tuple #[n,.nilIface])/\∃t,b=Lib.bytesWorld w 5 t:=Any.strconv_Atoi Tryz.lays172 s n a h w
def Tryz.laysM171_ren:Go.Shelf.Ren:=⟨fun|171=>91|243=>106|246=>124|283=>133|284=>134|285=>135|286=>136|129=>140|317=>139|318=>141|319=>142|320=>143|337=>144|338=>145|n=>n,fun|3=>3|9=>9|2=>2|4=>4|171=>199|0=>0|53=>186|37=>134|5=>5|173=>201|212=>209|51=>184|20=>20|213=>210|46=>171|232=>211|233=>212|n=>n,fun|17=>5|18=>6|19=>7|n=>n⟩
def Tryz.laysM171:Go.Proofs.LaysM.n171 prog Tryz.laysM171_ren:={
 mixed:=Qb
 f129:=func140.trans (w6 some Qb)
 f171:=func91.trans (w6 some Qb)
 f243:=func106.trans (w6 some Qb)
 f246:=func124.trans (w6 some Qb)
 f283:=func133.trans (w6 some Qb)
 f284:=func134.trans (w6 some Qb)
 f285:=func135.trans (w6 some Qb)
 f286:=func136.trans (w6 some Qb)
 f317:=func139.trans (w6 some Qb)
 f318:=func141.trans (w6 some Qb)
 f319:=func142.trans (w6 some Qb)
 f320:=func143.trans (w6 some Qb)
 f337:=func144.trans (w6 some Qb)
 f338:=func145.trans (w6 some Qb)
 t0:=underlying0
 a0:=isAgg0
 z0:=sizeOf0
 v0:=zeroValue0
 t2:=underlying2
 a2:=isAgg2
 z2:=sizeOf2
 v2:=zeroValue2
 t3:=underlying3
 a3:=isAgg3
 z3:=sizeOf3
 v3:=zeroValue3
 t4:=underlying4
 a4:=isAgg4
 z4:=sizeOf4
 v4:=zeroValue4
 t5:=underlying5
 a5:=isAgg5
 z5:=sizeOf5
 v5:=zeroValue5
 t9:=underlying9
 a9:=isAgg9
 z9:=sizeOf9
 v9:=zeroValue9
 t20:=underlying20
 a20:=isAgg20
 z20:=sizeOf20
 v20:=zeroValue20
 t37:=underlying134
 a37:=isAgg134
 z37:=sizeOf134
 v37:=zeroValue134
 t46:=underlying171
 a46:=isAgg171
 z46:=sizeOf171
 v46:=zeroValue171
 t51:=underlying184
 a51:=isAgg184
 z51:=sizeOf184
 v51:=zeroValue184
 t53:=underlying186
 a53:=isAgg186
 z53:=sizeOf186
 v53:=zeroValue186
 t171:=underlying199
 a171:=isAgg199
 z171:=sizeOf199
 v171:=zeroValue199
 t173:=underlying201
 a173:=isAgg201
 z173:=sizeOf201
 v173:=zeroValue201
 t212:=underlying209
 a212:=isAgg209
 z212:=sizeOf209
 v212:=zeroValue209
 t213:=underlying210
 a213:=isAgg210
 z213:=sizeOf210
 t232:=underlying211
 a232:=isAgg211
 z232:=sizeOf211
 v232:=zeroValue211
 t233:=underlying212
 a233:=isAgg212
 z233:=sizeOf212
 v233:=zeroValue212
 g17:=Qb
 g18:=Qb
 g19:=Qb
 i0:=Qb
 i2:=Qb
 i3:=Qb
 i4:=Qb
 i5:=Qb
 i9:=Qb
 i20:=Qb
 i37:=Qb
 i46:=Qb
 i51:=Qb
 i53:=Qb
 i171:=Qb
 i173:=Qb
 i212:=Qb
 i232:=Qb
 i233:=Qb
 m17:=Qb
 m18:=Qb
 m19:=by kernel_rfl}
open Go.RowKit Go.Sort Go.Lib in def Tryz.strconv_Itoa(n:Int)(b:-9223372036854775808<=n)(c:n<=9223372036854775807)(w:World)(a:Lib.TabIs prog w "internal/strconv.uint64pow10" .u64 Lib.pow10Tab):Calls prog 91 #[n] w fun e f=>e=.returned (.string ⟨(Lib.itoa n).toArray⟩)/\∃k d,f=grow (w.drewN k) d:=Any.strconv_Itoa Tryz.laysM171 n b c w a
def Tryz.lays101_ren:Go.Shelf.Ren:=⟨fun|101=>92|208=>107|206=>125|n=>n,fun|9=>9|4=>4|3=>3|n=>n,fun|n=>n⟩
def Tryz.lays101:Go.Proofs.Lays.n101 prog Tryz.lays101_ren:={
 mixed:=Qb
 f101:=func92.trans (w6 some Qb)
 f206:=func125.trans (w6 some Qb)
 f208:=func107.trans (w6 some Qb)
 t3:=underlying3
 a3:=isAgg3
 z3:=sizeOf3
 v3:=zeroValue3
 t4:=underlying4
 a4:=isAgg4
 z4:=sizeOf4
 v4:=zeroValue4
 t9:=underlying9
 a9:=isAgg9
 z9:=sizeOf9
 v9:=zeroValue9}
open Go.RowKit Go.Lib in def Tryz.strings_TrimPrefix(s p:ByteArray)(w:World):Calls prog 92 #[.string s,.string p] w fun e a=>e=.returned (.string ⟨(Lib.trimPrefix s.data.toList p.data.toList).toArray⟩)/\a=w:=Any.strings_TrimPrefix Tryz.lays101 s p w
def Tryz.lays146_ren:Go.Shelf.Ren:=⟨fun|146=>42|221=>70|268=>87|138=>88|143=>89|195=>100|197=>101|218=>102|219=>103|260=>114|217=>115|225=>116|224=>117|267=>118|266=>128|314=>129|n=>n,fun|9=>9|31=>92|3=>3|4=>4|0=>0|105=>166|21=>21|5=>5|46=>171|119=>187|139=>190|138=>189|146=>191|51=>184|n=>n,fun|1=>0|3=>1|4=>2|n=>n⟩
def Tryz.lays146:Go.Proofs.Lays.n146 prog Tryz.lays146_ren:={
 mixed:=Qb
 f138:=func88.trans (w6 some Qb)
 f143:=func89.trans (w6 some Qb)
 f146:=func42.trans (w6 some Qb)
 f195:=func100.trans (w6 some Qb)
 f197:=func101.trans (w6 some Qb)
 f217:=func115.trans (w6 some Qb)
 f218:=func102.trans (w6 some Qb)
 f219:=func103.trans (w6 some Qb)
 f221:=func70.trans (w6 some Qb)
 f224:=func117.trans (w6 some Qb)
 f225:=func116.trans (w6 some Qb)
 f260:=func114.trans (w6 some Qb)
 f266:=func128.trans (w6 some Qb)
 f267:=func118.trans (w6 some Qb)
 f268:=func87.trans (w6 some Qb)
 f314:=func129.trans (w6 some Qb)
 t0:=underlying0
 a0:=isAgg0
 z0:=sizeOf0
 v0:=zeroValue0
 t3:=underlying3
 a3:=isAgg3
 z3:=sizeOf3
 v3:=zeroValue3
 t4:=underlying4
 a4:=isAgg4
 z4:=sizeOf4
 v4:=zeroValue4
 t5:=underlying5
 a5:=isAgg5
 z5:=sizeOf5
 v5:=zeroValue5
 t9:=underlying9
 a9:=isAgg9
 z9:=sizeOf9
 v9:=zeroValue9
 t21:=underlying21
 a21:=isAgg21
 z21:=sizeOf21
 v21:=zeroValue21
 t31:=underlying92
 a31:=isAgg92
 z31:=sizeOf92
 v31:=zeroValue92
 t46:=underlying171
 a46:=isAgg171
 z46:=sizeOf171
 v46:=zeroValue171
 t51:=underlying184
 a51:=isAgg184
 z51:=sizeOf184
 v51:=zeroValue184
 t105:=underlying166
 a105:=isAgg166
 z105:=sizeOf166
 v105:=zeroValue166
 t119:=underlying187
 a119:=isAgg187
 z119:=sizeOf187
 t138:=underlying189
 a138:=isAgg189
 z138:=sizeOf189
 v138:=zeroValue189
 t139:=underlying190
 a139:=isAgg190
 z139:=sizeOf190
 v139:=zeroValue190
 t146:=underlying191
 a146:=isAgg191
 z146:=sizeOf191
 v146:=zeroValue191
 g1:=Qb
 g3:=Qb
 g4:=by kernel_rfl}
open Go.RowKit Go.Lib in def Tryz.strings_Split(s a:ByteArray)(m:Int)(w:World)(d:s.size<4294967281)(c:w.cell? ⟨0,0,none⟩=some (.int .i64 m))(b:1<=a.size):Calls prog 42 #[.string s,.string a] w fun e f=>e=.returned (.slice (some w.heap.size) (Lib.countB s a+1) (Lib.countB s a+1))/\f=w.alloc (.cells ((Lib.splitB a 0 (Lib.countB s a) s).map Value.string).toArray 9):=Any.strings_Split Tryz.lays146 Qb s a m w d c b
end Go.Proofs
namespace Go.Proofs
open Tryz
open Go.RowKit
variable {w w':World}
def bs(l:List UInt8):ByteArray:=⟨l.toArray⟩
def Sc(l:List UInt8):List Value:=[.string (bs l)]
def R6(l:List UInt8):(bs l).data.toList=l:=by simp[bs]
def XI(s:ByteArray):bs s.data.toList=s:=by cases s;simp[bs]
def nU(l:List UInt8):(bs l).size=l.length:=by simp[bs,ByteArray.size]
structure Tabs (w:World):Prop where
 tab:Lib.TabIs prog w "internal/strconv.uint64pow10" .u64 Lib.pow10Tab
 mx:∃m,w.cell? ⟨0,0,none⟩=some (.int .i64 m)
def rL{p:Addr} {v:Value} (h:w.cell? p=some v)(hb:QB w w'):w'.cell? p=some v:=(hb.cell (vL _ _ h)).trans h
def Tabs.below(h:Tabs w)(hb:QB w w'):Tabs w':=by obtain⟨a,⟨m,c⟩⟩:=h;exact⟨Lib.tabBelow_of_tabIs a w' hb,⟨m,rL c hb⟩⟩
def XJ(n:Int)(w:World)(h:n.natAbs<=9000000000000000000)(c:Tabs w):Calls prog 91 #[n] w (Qt w (.string (bs (Lib.itoa n)))):=(Tryz.strconv_Itoa n Qa Qa w c.tab).mono fun e w' ⟨a,k,g,d⟩=>⟨a,d▸Lib.below_grow w.heap.size w (h' _) k g⟩
def XK(a:ByteArray)(e:1<=a.size):∀(n:Nat)(s:ByteArray),s.size<=n->(Lib.splitB a 0 (Lib.countB s a) s).length=Lib.countB s a+1:=by intro n;induction n with
 |zero=>
  intro s m;rcases Lib.index_spec s.data.toList a.data.toList with⟨h,-⟩|⟨i,h,g,-,-⟩;·rw[Lib.countB_miss s a h];rfl
  .have j:=Lib.index_room s.data.toList a.data.toList Qa;have c:s.data.toList.length=s.size:=Qd
   have d:a.data.toList.length=a.size:=Qd
   omega|succ n ih=>
  intro s m;rcases Lib.index_spec s.data.toList a.data.toList with⟨h,-⟩|⟨i,h,g,-,-⟩;·rw[Lib.countB_miss s a h];rfl
  .have j:=Lib.index_room s.data.toList a.data.toList Qa;have c:s.data.toList.length=s.size:=Qd
   have d:a.data.toList.length=a.size:=Qd
   rw[Lib.countB_hit s a i e h,aD 1,Lib.splitB_hit a 0 _ s i h,r3,ih _ (by rw[ByteArray.size_extract];omega)]
def XL{l:List ByteArray} {m:List (List UInt8)} (h:l.map (·.data.toList)=m):l=m.map bs:=by subst h;rw[dN,show (bs ∘ fun x:ByteArray=>x.data.toList)=id from funext fun x=>XI x,pH]
def JU(s:ByteArray):Lib.splitB ⟨#[32]⟩ 0 (Lib.countB s ⟨#[32]⟩) s=(cutL s.data.toList).map bs:=by refine XL ?_;rw[Lib.splitB_data];exact XD _ _ (h' _)
def XM(s:ByteArray)(w:World)(b:s.size<=100000)(g:Tabs w):Calls prog 42 #[.string s,.string ⟨#[32]⟩] w fun e w'=>(∃A c,e=.returned (.slice A (cutL s.data.toList).length c)/\At 1 Sc w' A (cutL s.data.toList)/\(cutL s.data.toList).length<=c)/\QB w w':=by obtain⟨m,d⟩:=g.mx;refine(Tryz.strings_Split s ⟨#[32]⟩ m w Qa d Qc).mono ?_;rintro e w' ⟨rfl,rfl⟩;have a:=XK ⟨#[32]⟩ Qc s.size s (h' _);rw[JU,R']at a;rw[JU,<-a];refine⟨⟨_,_,rfl,?_,h' _⟩,ZB _ _⟩;intro k x i;refine⟨w.heap.size,0,rfl,Qd,?_⟩;intro j v h;match j,h with|0,rfl=>rw[pE _ _ _ _ rfl];simp[i]
def XN(n:Int)(w:World)(c:n.natAbs<10^16):Calls prog 90 #[.string (bs (Lib.itoa n))] w (Qt w (.tuple #[n,.nilIface])):=by refine(Tryz.strconv_Atoi (bs (Lib.itoa n)) n (by rw[nU];have:=(qO 15 n c).1;omega) (by rw[R6];exact XG n) w).mono ?_;rintro e w' ⟨rfl,t,rfl⟩;exact⟨rfl,rfl,rfl,rfl,by rw[yK];omega,fun k a=>yL w 5 t k a⟩
def XO(b:List UInt8)(w:World):Calls prog 92 #[.string (bs b),.string ⟨#[45]⟩] w fun e w'=>e=.returned (.string (bs (U2 b)))/\w=w':=by refine(Tryz.strings_TrimPrefix (bs b) ⟨#[45]⟩ w).mono ?_;rintro e w' ⟨rfl,rfl⟩;refine⟨?_,rfl⟩;rw[R6];show _=Ending.returned (.string (bs (U2 b)));rw[<-XF];rfl
def At.tail1{α:Type} {f:Nat} {cs:α->List Value} {w:World} {b o:Nat} {l:List α} (h:At f cs w (some ⟨b,o,none⟩) l) (n:Nat):At f cs w (some ⟨b,o+n*f,none⟩) (l.drop n):=fun k x a=>by rw[iM]at a;obtain⟨i,m,c,d,e⟩:=h (n+k) x a;cases c;refine⟨b,o+n*f,rfl,d,fun j u g=>?_⟩;rw[<-e j u g,w5];congr 2;omega
def XP(n:Int)(k:Nat)(w:World)(E:k<=14)(z:n.natAbs<10^(k+1))(A:Tabs w):Calls prog 71 #[.string (bs (Lib.itoa n)),((k+1:Nat):Int)] w (Qt w (.tuple #[n,true])):=by
 have i:(10:Nat)^(k+1)<=10^15:=Ok Qc Qa;have c:=XN n w Qa;have d:=i' fun W (D:QB w W)=>XJ n W Qa (A.below D);have a:=i' fun W=>XO (Lib.itoa n) W;have y:=(qO k n z).2;obtain⟨S,u⟩:=Qu (bs (Lib.itoa n));obtain⟨M,j⟩:=Qu (bs (U2 (Lib.itoa n)));have C:M.size<=k+1:=by rw[<-j,nU];exact y
 have m:decide ((M.size:Int)<=((k+1:Nat):Int))=true:=Qk
 have g:(M.size:Int)<=((k+1:Nat):Int):=Qa
 rw[u]at c d a |-;rw[j]at a;obtain⟨K,s⟩:∃K:Int,((k+1:Nat):Int)=K:=⟨_,rfl⟩;rw[s]at m g |-;have G:(S.toList==S.toList)=true:=Qd
 have F:∀W,(binOp .eql 153 .nilIface .nilIface).run prog W=.ok (.bool true) W:=fun W=>Qb
 clear z A i y u j s E;go_enter func71,ntmps71;go_wp2_with (first|(go_at_call 90;refine c.mono ?_;rintro e H ⟨rfl,h⟩)|(go_at_call 91;refine(d.out _ h).mono ?_;rintro e b ⟨rfl,r⟩)|(go_at_call 92;refine(a.out _).mono ?_;rintro e I ⟨rfl,rfl⟩));go_ret2;exact⟨rfl,via h r⟩
def XQ(A:Option Addr)(l:List Int)(k n c:Nat)(w:World)(T:k<=14)(U:∀x∈l,x.natAbs<10^(k+1))(Q:At 1 Sc w A (l.map Lib.itoa))(V:l.length=n)(h9:n<=900)(X:Tabs w):Calls prog 43 #[.slice A n c,((k+1:Nat):Int)] w fun e w'=>(∃O c2,e=.returned (.tuple #[.slice O n c2,true])/\w'.ownsRow w.heap.size 3 1 (.slice O n c2) n (l.map (Value.int .i64)))/\QB w w':=by
 have y:=i' fun x (s:x∈l) W (q:QB w W)=>XP x k W T (U x s) (X.below q);have G:=i' Q;have F:=i' V;obtain⟨K,R⟩:∃K:Int,((k+1:Nat):Int)=K:=⟨_,rfl⟩;rw[R]at y |-;obtain⟨B,t,L,M,N⟩:=x0 info3;clear T U Q V X R;go_enter func43,ntmps43;go_wp2;go_loopw [6,13] (fun v i wr=>∃j:Nat,j<=n/\i=.int .i64 j/\Hid (wr.ownsRow w.heap.size 3 1 v j ((l.take j).map (Value.int .i64)))/\QB w wr)(fun _ i _=>n-(intOf i).toNat);case atStart=>exact⟨0,e6 _,rfl,i' (hM _ _ _ _),q' _ _⟩
 case round=>
  obtain⟨j,hj,rfl,a,g⟩:=hrel;obtain⟨f,c5,rfl⟩:=Z2 a.out;by_cases I:j<n
  .have aB:(j:Int)<(n:Int):=Qa
   obtain⟨x,s⟩:∃x,l[j]?=some x:=⟨_,k2 (by rw[F.out];exact I)⟩;obtain⟨b,o,rfl,aA,S⟩:=G.out.below g j (Lib.itoa x) (by rw[k3,s];rfl);have y0:=S 0 _ rfl;simp only[sW,w8]at y0;have H:=i' (y.out x (n2 s) wr g);have J:=i' (show (l.take (j+1)).map (Value.int .i64)=(l.take j).map (Value.int .i64)++[.int .i64 x]by rw[w9,s];simp);clear S s;go_wp2_with (first
    |(go_at_call 71;refine H.out.mono ?_;rintro e w2 ⟨rfl,m⟩;have z:=i' (ZL a.out m);have h:=via g m;clear m)|(at_builtin;refine C0 _ rfl _ _ 30 rfl w.heap.size 3 B (.int .i64 0) 1 8 underlying30 t L M N rfl Qc _ _ _ rfl (z.out.alloc _) ⟨w2.heap.size,0,none⟩ 1 1 [.int .i64 x] rfl rfl ?c1 ?c2 ?c3 ?c4 ?c5 ?_));try (case c1=>exact P2 _ [.int .i64 x] _ Qd)
   case c2=>first|rfl|(intro u Y;simp at Y;subst Y;rfl)
   case c3=>first|omega|(unfold maxLen;omega)
   case c4=>omega
   case c5=>have:=h.size;first|omega|(simp;omega)
   intro P Z d E _;have r:=i' (show Z.ownsRow w.heap.size 3 1 P (j+1) ((l.take (j+1)).map (Value.int .i64))from by rw[J.out,List.map_take];exact d);have D:QB w Z:=ZW (via h (ZB _ _)) E fun b e=>by have:=(z.out.lt b e).1;omega
   clear d E;go_wp2;go_roundw;case rel=>exact⟨j+1,Qa,Qj,r.out,D⟩
   case measure=>exact Qv
  .obtain rfl:n=j:=Qa
   have C:=i' (show l.take n=l by rw[<-F.out,x1]);go_wp2;go_ret2;exact⟨⟨f,c5,rfl,by have:=a.out;rwa [C.out]at this⟩,g⟩
end Go.Proofs
namespace Go.Proofs
open Go.RowKit
def s9{w:World} {base:Nat} {e:TypeId} {a n c:Nat} {A:Option Addr} {b:List Value} (h:w.ownsRow base e a (.slice A n c) n b):n<=c:=by
 rcases h.2 with⟨h,r⟩|⟨g,d,i,j,s,u,m,-⟩;·omega
 .cases j;exact m
open Tryz
def qP{P:Program} {α:Type} {sz:Nat} {cs:α->List Value} (C:∀y,(cs y).length=sz)(W:0<sz) {x:World} {t ty e:TypeId} {i:TypeInfo} {z:Value} {d:Nat} (J:P.underlying t=some (.slice e))(f:P.info? e=some i)(B:i.zero=some z)(q:i.size=sz)(K:z.cells.size=sz)(G:i.bytes=d)(E:d<=1000)(b base:Nat)(s:base<=b)(u:x.heap[b]?=some (.cells #[] e))(F:base<=x.heap.size) {l:List α} {A:Option Addr} (c n:Nat)(S:l.length=n)(j:At sz cs x A l)(O:l.length<=1000):∃M N L,(Builtin.append_ #[t,t] ty #[.slice (some b) 0 0,.slice A n c]).run P x=.ok (.slice M n N) L/\QB x L/\L.ownsRow base e sz (.slice M n N) n (l.flatMap cs):=by subst S;cases l with
 |nil=>refine⟨some ⟨b,0,none⟩,0,x,?_,q' _ _,Qd,.inr ⟨b,0,#[],rfl,s,u,h' _,e6 _,Qd,Qd⟩⟩;cases A with
  |none=>simp[Builtin.append_,run_underlying J,sizeOf,typeInfo,f,Builtin.lenOf,Builtin.firstCells,loadCells,loadCellsFrom,storeCells]|some a=>simp[Builtin.append_,run_underlying J,sizeOf,typeInfo,f,Builtin.lenOf,Builtin.firstCells,loadCells,loadCellsFrom,storeCells]
 |cons y l'=>
  obtain⟨l,m⟩:∃l,y::l'=l:=⟨_,rfl⟩;have T:0<l.length:=by rw[<-m];simp
  rw[m]at j O |-;obtain⟨a,rfl⟩:∃a,A=some a:=by obtain⟨U,V,h,-⟩:=j 0 y (by rw[<-m];rfl);exact⟨_,h⟩
  have g:=nN cs sz C l;have r:=jP C j;have R:l.length*d<=1000*1000:=dB O E;subst q;subst G;have Q:=run_append_grow (P:=P) (w:=x) t ty e i z J f B ⟨b,0,none⟩ 0 0 [] Qd Qd a l.length c (l.flatMap cs) g r Qa Qa (growslice_fits Qa (by rw[w0];omega));simp only[w0]at Q;have I:=grownCap_ge x l.length 0 e;have H:grownCap x l.length 0 e<=maxLen:=grownCap_le_maxLen x l.length 0 e Qq;have D:QB x (x.drew.alloc (.cells (([]:List Value).toArray++(l.flatMap cs).toArray++Builtin.zeroCells z.cells (grownCap x l.length 0 e-l.length)) e)):=((q' _ x).drew).alloc Qd _;refine⟨_,_,_,Q,D,g,.inr ⟨x.heap.size,_,_,rfl,F,Bt x.drew _,I,H,?_,?_⟩⟩;·simp only[Array.size_append,M0,size_zeroCells,K,g,hG,w0,<-w5];congr 1;omega
  .simp only[zU,s0];rw[<-g];exact List.take_left
section
variable {P:Program} {ops:Array Oper}
def qQ{b:List Oper} {o:Oper} {a:Act} {x e:World} {f l d:Value} {Q:Exit->Act->World->Prop} (c:o.guard=none)(s y:Operand)(t:TypeId)(i:o.op=.call {callee:=.builtin .append,args:=#[s,y],argTypes:=#[t,t]})(n:a.eval s=f)(m:a.eval y=l)(j:(Builtin.append_ #[t,t] o.type #[f,l]).run P x=.ok d e)(h:wpList P ops Q b (a.put o.dst d) e):wpList P ops Q (o::b) a x:=by refine k8 c fun K g=>?_;unfold Oper.wp execOp;simp only[i,resolve,invoke,builtin,aC,aB,aA,dW,p1,N1,n,m,j];exact g _ _ h
end
def qR(A:Option Addr)(l:List Int)(c n:Nat)(w:World)(g:At 1 Zc w A l)(D:l.length=n)(E:n<=1000):Calls prog 29 #[.slice A n c] w fun e f=>(∃m r,e=.returned (.slice m n r)/\f.ownsRow w.heap.size 3 1 (.slice m n r) n (l.flatMap Zc))/\QB w f:=by obtain⟨F,y,h,i,j⟩:=x0 info3;obtain⟨m,r,G,z,C,a⟩:=qP (P:=prog) (sz:=1) (cs:=Zc) (x:=w.alloc (.cells #[] 3)) (t:=30) (ty:=30) (e:=3) (fun _=>rfl) Qc underlying30 y h i rfl j Qc w.heap.size w.heap.size (h' _) (ZA _ _ rfl) Qd c n D (g.below (ZB _ _)) Qa;have u:=i' z;have d:=i' a;have s:=via (ZB _ _) C;clear z a y h i j g;go_enter func29,ntmps29;go_wp2_with (at_builtin;refine qQ rfl _ _ 30 rfl rfl rfl u.out ?_);go_ret;exact⟨⟨m,r,rfl,d.out⟩,s⟩
def CH(pA Z:Option Addr)(Y Q D f:Nat)(ps:List Pa)(l:List En)(w:World)(hB:BookAt w pA Y ps Z Q l)(hF:FewB ps l)(aM:ps.length=D)(U:l.length=f)(bH:f<=900):Calls prog 7 #[.agg #[.slice pA D Y,.slice Z f Q]] w fun e w'=>(∃A c A2 c2 B,e=.returned (.agg #[.slice A D c,.slice A2 f c2])/\B.length=f/\B.map En.sig=l.map En.sig/\w'.ownsRow w.heap.size 65 5 (.slice A D c) D (ps.flatMap Pa.cs)/\EnsOwn w' w.heap.size (.slice A2 f c2) B)/\QB w w':=by
 obtain⟨j0,ji,aP,aQ,aR⟩:=x0 qI;obtain⟨Ap,cp,q,hr,S,R⟩:=qP (P:=prog) (sz:=5) (cs:=Pa.cs) (x:=((w.alloc (.cells #[.slice pA D Y,.slice Z f Q] 25)).alloc (.cells #[.slice none 0 0,.slice none 0 0] 25)).alloc (.cells #[] 65)) (t:=22) (ty:=22) (e:=65) (fun _=>rfl) Qc (by first|exact underlying22|kernel_rfl) ji aP aQ rfl aR Qc (w.heap.size+2) (w.heap.size+2) (h' _) (ZA _ _ Qd) Qd Y D aM (hB.P.below Qi) (by have:=hF.p;omega);have aV:=i' hr;have M0:=Zx S (Qs:(((w.alloc (.cells #[.slice pA D Y,.slice Z f Q] 25)).alloc (.cells #[.slice none 0 0,.slice none 0 0] 25)).alloc (.cells #[] 65)).heap[w.heap.size]?=some (.cells #[.slice pA D Y,.slice Z f Q] 25));have M1:=Zx S (Qs:(((w.alloc (.cells #[.slice pA D Y,.slice Z f Q] 25)).alloc (.cells #[.slice none 0 0,.slice none 0 0] 25)).alloc (.cells #[] 65)).heap[w.heap.size+1]?=some (.cells #[.slice none 0 0,.slice none 0 0] 25));have aG:QB w q:=via Qi S;have bE:=ZE M1;have bF:=S.size;clear hr ji aP aQ aR S;have bI:f<=Q:=by rw[<-U];exact hB.ec'
 have aA:=i' hB.E;have bD:=i' hB.nil;have M:=i' U;have aI:=i' hF.co;obtain⟨i0,hi,bA,bB,bC⟩:=x0 r9;have aW:∀x,(sizeOf 25).run prog x=.ok 2 x:=fun x=>Qb
 have aT:∀x,(isAgg 25).run prog x=.ok true x:=fun x=>Qb
 clear hB hF aM U;go_enter func7,ntmps7;have R:=i' R;have D0:=bk2 M0;go_wp2_with (at_builtin;refine qQ rfl _ _ 22 rfl rfl rfl aV.out ?_);go_loopw [4] (fun i wr=>∃j:Nat,∃v:Value,∃G:List En,j<=f/\i=.int .i64 j/\wr.heap[q.heap.size]?=some (.cells #[.slice Ap D cp,v] 25)/\Hid (G.length=j)/\Hid (G.map En.sig=(l.take j).map En.sig)/\Hid (EnsOwn wr (q.heap.size+1) v G)/\QB q wr)(fun i _=>f-(intOf i).toNat);case atStart=>exact⟨0,.slice none 0 0,[],e6 _,rfl,Qs,i' rfl,i' rfl,i' (EnsOwn.nil _ _),Qi⟩
 case round=>
  obtain⟨j,v,G,hj,rfl,M3,C,aO,y,z⟩:=hrel;have n:=y.out.own;rw[C.out]at n;obtain⟨A5,c5,rfl⟩:=Z2 n;clear n;have aF:QB w wr:=via aG z;have D0:=bk2 (Zx z M0);have D1:=bk2 (Zx z M1);have D3:=bk2 M3;have bK:=ZE M3;by_cases aU:j<f
  .have bJ:(j:Int)<(f:Int):=Qa
   obtain⟨x,hx⟩:∃x,l[j]?=some x:=⟨_,k2 (by rw[M.out];exact aU)⟩;have X:=n2 hx;obtain⟨b,o,rfl,bG,hc⟩:=(aA.out.below aF).1 j x hx;have y0:=hc 0 _ rfl;have y1:=hc 1 _ rfl;have y2:=hc 2 _ rfl;simp only[sW]at y0;obtain⟨L,hL⟩:=Qu x.co.length;have aS:=i' fun W (S:QB wr W)=>qR x.A x.co x.c L W (((aA.out.below aF).2 x X).below S) hL (by rw[<-hL];exact aI.out x X);have K:=i' (show (l.take (j+1)).map En.sig=(l.take j).map En.sig++[x.sig]by rw[w9,hx];simp);have aD:=i' hL;have bL:wr.cell? ⟨b,o+j*3+1,none⟩=some (.slice x.A L x.c):=by rw[<-hL];exact y1
   clear hc hx X y1 hL;go_wp2_with (first
    |(go_at_call 29;refine(aS.out _ (ZB _ _)).mono ?_;rintro e F ⟨⟨d,m,rfl,aE⟩,I⟩;have Q3:=Zx I (Zz M3 (.cells #[.string x.nm,.slice x.A L x.c,.int .i64 x.mo] 67 (0,0)));have Q5:=Zx I (ZA wr (.cells #[.string x.nm,.slice x.A L x.c,.int .i64 x.mo] 67 (0,0)) rfl);have E3:=bk2 Q3;have E5:=bk3 Q5;have O:=via (ZB wr (.cells #[.string x.nm,.slice x.A L x.c,.int .i64 x.mo] 67 (0,0))) I;(have H:QB wr ((F.setCell ⟨wr.heap.size,1,none⟩ (.slice d L m))):=O.trans (((OnlyB.refl wr.heap.size F).set 1 _).below _ (h' _)));(have a:=i' (y.out.below (via H (ZB ((F.setCell ⟨wr.heap.size,1,none⟩ (.slice d L m))) (.cells #[.string x.nm,.slice d L m,.int .i64 x.mo] 67 (0,0))))));have s:=i' aE;clear aE I)|(at_builtin;refine BP rfl (.tmp 28) (.tmp 30) 23 67 i0 _ (.slice A5 j c5) 48 (q.heap.size+1) j F.heap.size 3 (G.flatMap En.cs) [.string x.nm,.slice d L m,.int .i64 x.mo] 67 rfl rfl rfl Qb hi bA bB bC rfl Qc Qc rfl ?c1 ?c2 ?c3 ?c4 ?c5 ?_));case c1=>have:=a.out.own;rwa [C.out]at this
   case c2=>exact ZA _ _ Qd
   case c3=>simp[Value.oneCell']
   case c4=>omega
   case c5=>have:=a.out;have:=H.size;simp at this |-;omega
   intro v' w8 V J aJ;obtain⟨A8,c8,rfl⟩:=Z2 V;have aX:((F.setCell ⟨wr.heap.size,1,none⟩ (.slice d L m))).heap.size=F.heap.size:=kP _ _ _;have aK:∀g,d=some g->wr.heap.size+1<=g.block/\g.block<F.heap.size:=fun g e=>by have:=s.out.lt g.block (by rw[e];rfl);simp only[hU]at this;exact this
   have o7:=ZL (A9 s.out fun r e=>((OnlyB.refl wr.heap.size F).set 1 (.slice d L m)).other r (by have:=(s.out.lt r e).1;simp at this;omega)) (ZB ((F.setCell ⟨wr.heap.size,1,none⟩ (.slice d L m))) (.cells #[.string x.nm,.slice d L m,x.mo] 67));have o5:=a.out.own;rw[C.out]at o5;have N:=fun r e=>(y.out.own.lt r e).2;have aB:EnsOwn w8 (q.heap.size+1) (.slice A8 (j+1) c8) (G++[⟨x.nm,d,m,x.co,x.mo⟩]):=by
    refine EnsOwn.push a.out (x:=⟨x.nm,d,m,x.co,x.mo⟩) (K2 o7 aD.out) (iF o7) (fun g e=>?_) J ?_ ?_
    .have h1:=aK g e;refine⟨Qa,?_,fun h=>?_⟩;·simp;omega
     .have:=N _ h.symm;omega
    .have:=V;simp only[C.out,En.cs,aD.out];exact this
    .rcases aJ with h|h;·exact .inl h
     .exact .inr (by rw[h];simp)
   have R3:=G1 J (Zz (MB (i:=1) (u:=.slice d L m) Q3 (show q.heap.size≠wr.heap.size by omega)) (.cells #[.string x.nm,.slice d L m,x.mo] 67)) (v8 o5 (sZ _));have aH:QB q w8:=ZW ((z.trans (H.mono Qa)).trans ((ZB ((F.setCell ⟨wr.heap.size,1,none⟩ (.slice d L m))) (.cells #[.string x.nm,.slice d L m,x.mo] 67)).mono Qa)) J fun b e=>by have:=(o5.lt b e).1;omega
   have aC:=i' aB;clear aB o7 o5 N aK aX V J aJ a s H O;have F8:=bk2 R3;obtain⟨aY,aZ⟩:Hid ((G++[(⟨x.nm,d,m,x.co,x.mo⟩:En)]).length=j+1)/\Hid ((G++[(⟨x.nm,d,m,x.co,x.mo⟩:En)]).map En.sig=(l.take (j+1)).map En.sig):=⟨i' (by simp[C.out]),i' (by rw[K.out,b3,aO.out];rfl)⟩;go_wp2;go_roundw;case rel=>exact⟨j+1,_,_,Qa,Qj,ZJ (o:=1) R3 (.slice A8 (j+1) c8) rfl,aY,aZ,i' (aC.out.other (sZ _) ((OnlyB.refl _ _).set _ _) Qd),aH.trans (((OnlyB.refl q.heap.size w8).set 1 _).below _ (h' _))⟩
   case measure=>exact Qv
  .obtain rfl:f=j:=Qa
   have K:G.map En.sig=l.map En.sig:=by rw[aO.out,<-M.out,x1]
   have aN:=i' K;have aL:=i' (ZL R.out z);clear K;go_wp2;refine x3 (v:=.agg #[.slice Ap D cp,.slice A5 f c5]) ?_ rfl ⟨⟨Ap,cp,A5,c5,G,rfl,C.out,aN.out,?_,?_⟩,?_⟩;·exact fK (p:=2) (ad:=⟨w.heap.size+1,0,none⟩) rfl Qe (y5 (T:=25) (cs:=[.slice Ap D cp,.slice A5 f c5]) (aT _) (aW _) (ZJ (ZJ (Zx z M1) _ rfl) _ rfl))
   .exact b2 (A9 aL.out fun r e=>(((OnlyB.refl (w.heap.size+1) wr).set _ _).set _ _).other r (by have:=(aL.out.lt r e).1;omega)) Qa
   .exact(y.out.other (k:=w.heap.size+1) Qa (((OnlyB.refl _ _).set _ _).set _ _) Qd).base Qa
   .go_grown
end Go.Proofs
namespace Go.Proofs
open Go.RowKit
section
variable {P:Program}
def EN(b w:World)(a:Nat)(x:World):Prop:=QB b x/\w.heap.size<=x.heap.size/\∀k,k<w.heap.size->k≠a->x.heap[k]?=w.heap[k]?
def qS{Q:Exit->Act->World->Prop} {W:Act} {w:World} {l:List Oper} (f:World)(p:Nat)(a:Nat)(H I:Obj)(s:Act)(hB:bK l.toArray=true) (hB':bK (mixL [p] (fun _ _=>undef) (fun _=>Gh.zero) 0 l).toArray=true) (hS:Region.noSelect l.toArray=true) (hN:spB l.toArray [p]=true)(hkd:(match l[p]? with|some o=>o.dst.isNone|_=>false)=true)(hw:QB f w)(hb:f.heap.size<=a)(h4:w.heap[a]?=some H)(hs4:∀o,l[p]?=some o->∀x,EN f w a x->x.heap[a]?=some H->∃d,(execOp s.eval o).run P x=.ok .skip d/\OnlyB a x d/\d.heap[a]?=some I)(hq:∀u,EN f w a u->(∀(x:Grew u)(b o:Nat),b<u.heap.size->x.val.cell? ⟨b,o,none⟩=u.cell? ⟨b,o,none⟩)->wpQuiet P (mixL [p] (fun _ _=>undef) (fun _=>Gh.zero) 0 l).toArray (fun X=>∃x:Grew u,X=x.val) (fun K=>K=s) (mixL [p] (fun _ _=>undef) (fun _=>Gh.zero) 0 l) W)(t:∀x,EN f w a x->x.heap[a]?=some I->Q .normal s x):wpAny P .any l.toArray Q l.toArray.size (Array.replicate l.toArray.size false) W {w with drawn:=w.drawn+1}:=by
 have n:∀j∈[p],∀o,l[j]?=some o->o.dst=none:=by cases C:l[p]? with
  |none=>rw[C]at hkd;simp at hkd|some o1=>rw[C]at hkd;simp only[zV]at hkd;intro j m o i;rw[y2]at m;subst m;rw[C]at i;cases i;exact hkd
 have G:∀{x d:World},EN f w a x->OnlyB a x d->EN f w a d:=fun {x d} h i=>⟨h.1.trans (i.below _ hb),w7 h.2.1 (i.below 0 (e6 _)).size,fun k A c=>(i.other k c).trans (h.2.2 k A c)⟩;have F:∀{x d:World},EN f w a x->QB x d->EN f w a d:=fun {x d} h e=>⟨via h.1 e,w7 h.2.1 e.size,fun k A c=>(e.block k (h8 A h.2.1)).trans (h.2.2 k A c)⟩;have r:∀g B,mixL [p] (fun _ _=>undef) g 0 l=mixL [p] (fun _ _=>undef) B 0 l:=fun g B=>by apply aL;intro j;have c:=F4 [p] (fun _ _=>undef) g l 0 j;have R:=F4 [p] (fun _ _=>undef) B l 0 j;rw[c,R]
 refine A6 f (EN f w a) [p] (fun _ _=>undef) (fun L g x=>x.heap[a]?=some (if L p then I else H)) (fun _=>s) hB (fun g=>by rw[r g (fun _=>Gh.zero)];exact hB') hS hN
  ⟨hw,h' _,fun _ _ _=>rfl⟩ (fun x d h hb=>F h hb) (fun x h=>h.1) ?_ ?_ (fun g u O E _ _=>by rw[r g (fun _=>Gh.zero)];exact hq u O E) (fun _ _ _ _=>rfl) ?_ ?_;·intro L h;rw[h p Qd];exact h4
 .rintro L V g x d h c e;rw[h p Qd];exact Zx e c
 .intro j m o i L g x c y D M z J;have N:=n j m o i;rw[y2]at m;subst m;rw[M]at c;obtain⟨d,S,T,U⟩:=hs4 o i x y c;refine gN S ⟨G y T,.inl ⟨N,?_⟩⟩;rw[A8];exact U
 .rintro g x c y D;simp only[Zyl]at c;exact t x y c
def CI{Q:Exit->Act->World->Prop} {C:Act} {w:World} {l:List Oper} (D:World)(c:Act)(hB:bK l.toArray=true) (hB':bK (mixL [] (fun _ _=>undef) (fun _=>Gh.zero) 0 l).toArray=true) (hS:Region.noSelect l.toArray=true) (hN:spB l.toArray []=true) (hw:QB D w)(hq:∀u,QB w u->(∀(x:Grew u)(b o:Nat),b<u.heap.size->x.val.cell? ⟨b,o,none⟩=u.cell? ⟨b,o,none⟩)->wpQuiet P (mixL [] (fun _ _=>undef) (fun _=>Gh.zero) 0 l).toArray (fun E=>∃x:Grew u,E=x.val) (fun i=>i=c) (mixL [] (fun _ _=>undef) (fun _=>Gh.zero) 0 l) C)(f:∀x,QB w x->Q .normal c x):wpAny P .any l.toArray Q l.toArray.size (Array.replicate l.toArray.size false) C {w with drawn:=w.drawn+1}:=by
 have a:∀g t,mixL [] (fun _ _=>undef) g 0 l=mixL [] (fun _ _=>undef) t 0 l:=fun g t=>by apply aL;intro j;have s:=F4 [] (fun _ _=>undef) g l 0 j;have y:=F4 [] (fun _ _=>undef) t l 0 j;rw[s,y]
 exact A6 D (fun x=>QB w x) [] (fun _ _=>undef) (fun _ _ _=>True) (fun _=>c) hB (fun g=>by rw[a g (fun _=>Gh.zero)];exact hB') hS hN (q' _ _) (fun x z h m=>h.trans (m.mono h.size)) (fun x h=>via hw h) (fun _ _=>trivial) (fun _ _ _ _ _ _ _ _=>trivial) (fun g u n d _ _=>by rw[a g (fun _=>Gh.zero)];exact hq u n d) (fun j e=>by cases e) (fun j e=>by cases e) (fun g x _ r _=>f x r)
end
open Tryz
def JV(A D:Option Addr)(l:List Int)(c e n:Nat)(w:World)(E:At 1 Zc w A l)(F:At 1 Zc w D l)(I:l.length=n)(R:n<=1000):Calls prog 11 #[.slice A n c,.slice D n e] w (Qt w true):=by
 have y:=i' I;have h:=i' E;have j:=i' F;clear I E F;go_enter func11,ntmps11;go_wp2;go_loopw [5] (fun i wr=>∃k:Nat,k<=n/\i=.int .i64 k/\QB w wr)(fun i _=>n-(intOf i).toNat);case atStart=>exact⟨0,e6 _,rfl,Qi⟩
 case round=>
  obtain⟨k,Q,rfl,d⟩:=hrel;by_cases u:k<n
  .have L:(k:Int)<(n:Int):=Qa
   have K:(0:Int)<=(k:Int):=Qa
   obtain⟨x,C⟩:∃x,l[k]?=some x:=⟨_,k2 (by rw[y.out];exact u)⟩;obtain⟨b,o,rfl,J,H⟩:=(h.out.below d) k x C;obtain⟨O,o2,rfl,G,g⟩:=(j.out.below d) k x C;have M:=H 0 _ rfl;have N:=g 0 _ rfl;simp only[sW,w8]at M N;clear H g C;go_wp2;refine c8 w Qb Qb Qi ?_;intro s r;repeat (go_big_quiet_step (fail))
   refine Zyi ?_;intro S m a z;clear s r;go_wp2;go_roundw;case rel=>exact⟨k+1,Qa,Qj,a⟩
   case measure=>exact Qv
  .obtain rfl:n=k:=Qa
   go_wp2;go_ret;exact⟨rfl,Qi⟩
end Go.Proofs
namespace Go.Proofs
open Go.RowKit
variable {nm:List UInt8} {k ag v den lev:Int} {W:List Int}
def nV:List UInt8:=[109,101,97,110]
def nW:List UInt8:=[115,104,97,114,101]
def gG(nm:List UInt8)(k ag v den lev:Int)(W:List Int):List (List UInt8):=nm::((if k=1 then [nW,Lib.itoa ag]else [nV])++(Lib.itoa v::Lib.itoa den::Lib.itoa lev::W.map Lib.itoa))
structure NumsR (ag v den lev:Int)(W:List Int):Prop where
 ag:0<=ag/\ag<=400
 v:0<=v/\v<=1000
 den:1<=den/\den<=1000000000000
 lev:lev.natAbs<=1000000000000
 wt:∀x∈W,0<=x/\x<=1000000000000
 n:W.length<=8
def ET(n:Int)(h:n.natAbs<=1000000000000):(Lib.itoa n).length<=14:=(qO 12 n Qa).1
def CJ(d:nm.length<=20)(b:NumsR ag v den lev W):(gG nm k ag v den lev W).length<=14/\5<=(gG nm k ag v den lev W).length/\∀x∈gG nm k ag v den lev W,x.length<=20:=by
 have c:=b.n;unfold gG;refine⟨?_,?_,fun x a=>?_⟩;·split<;>simp<;>omega
 .split<;>simp
 .rcases ZA1.1 a with rfl|a;·exact d
  rcases C1.1 a with a|a
  .split at a
   .simp only[ZA1,ZBj,Zyj]at a;rcases a with rfl|rfl;·decide
    .have:=ET ag (by have:=b.ag;omega);omega
   .simp only[ZA1,ZBj,Zyj]at a;subst a;decide
  .simp only[ZA1,L']at a;rcases a with rfl|rfl|rfl|⟨y,e,rfl⟩;·have:=ET v (by have:=b.v;omega);omega
   .have:=ET den (by have:=b.den;omega);omega
   .have:=ET lev b.lev;omega
   .have:=ET y (by have:=b.wt y e;omega);omega
def XR(c:nm.length<=20)(b:NumsR ag v den lev W):(Lib.join (gG nm k ag v den lev W) [32]).length<=1000:=by obtain⟨d,-,a⟩:=CJ (k:=k) c b;have:=JS 20 _ a;omega
structure EnTy (w:World)(base:Nat)(v:Value)(xs:List En):Prop where
 own:w.ownsRow base 67 3 v xs.length (xs.flatMap En.cs)
 row:∀x∈xs,At 1 Zc w x.A x.co/\(x.A=none->x.c=0)/\∀g,x.A=some g->∃cur fr,w.heap[g.block]?=some (.cells cur 3 fr)
end Go.Proofs
namespace Go.Proofs
open Tryz
open Go.RowKit
def kB(e:List Pa)(c:List En)(k d a b:Int)(W:List Int):Int:=if bP e c k d≠0 then bP e c k d else if eF c.length a b W≠0 then eF c.length a b W else if hQ (ZM e k d) c a b W then 0 else 20
def rF(e:List Pa)(c:List En)(k d a b:Int)(W:List Int):Int×Int:=if kB e c k d a b W=0 then ((b-spentL (exs c) W) / fM (b-spentL (exs c) W) a,a / fM (b-spentL (exs c) W) a)else (0,0)
def XS(pA Z A:Option Addr)(pc P pn B c wn:Nat)(t:List Pa)(o:List En)(k q f l:Int)(W:List Int)(w:World)(hB:BookAt w pA pc t Z P o)(hF:FewB t o)(K:t.length=pn)(r:o.length=B)(hW:At 1 Zc w A W)(L:W.length=wn)(hl:wn<=1000000):Calls prog 12 #[.agg #[.slice pA pn pc,.slice Z B P],.agg #[k,q],.agg #[f,l,.slice A wn c]] w (Qt w (.tuple #[.agg #[(rF t o k q f l W).1,(rF t o k q f l W).2],(kB t o k q f l W)])):=by
 have I:=i' fun W (M:QB w W)=>pZ pA Z pc P pn B t o k q W (hB.below M) hF K r;have J:=i' fun x (M:QB w x)=>by have h:=BH pA Z A pc P pn B c f l W x (hW.below M) Qa (by rw[<-r];exact hF.e);rw[L]at h;exact h
 have y:∀x,(sizeOf 41).run prog x=.ok 2 x:=fun x=>Qb
 have aD:∀x,(isAgg 41).run prog x=.ok true x:=fun x=>Qb
 have aB:=i' fun(x:World)(M:Below (((((w.alloc (.cells #[.slice pA pn pc,.slice Z B P] 25)).alloc (.cells #[k,q] 27)).alloc (.cells #[f,l,.slice A wn c] 46)).alloc (.cells #[(0:Int),(0:Int)] 41))).heap.size (((((w.alloc (.cells #[.slice pA pn pc,.slice Z B P] 25)).alloc (.cells #[k,q] 27)).alloc (.cells #[f,l,.slice A wn c] 46)).alloc (.cells #[(0:Int),(0:Int)] 41))) x)=>(⟨Zx M (Qs),Zx M (Qs),Zx M (Qs),Zx M (Qs),via Qi M⟩:x.heap[w.heap.size]?=some (.cells #[.slice pA pn pc,.slice Z B P] 25)/\x.heap[w.heap.size+1]?=some (.cells #[k,q] 27)/\x.heap[w.heap.size+1+1]?=some (.cells #[f,l,.slice A wn c] 46)/\x.heap[w.heap.size+1+1+1]?=some (.cells #[(0:Int),(0:Int)] 41)/\QB w x);by_cases O:bP t o k q=0;case neg=>
  have e1:kB t o k q f l W=bP t o k q:=by unfold kB;rw[r4 O]
  have N:rF t o k q f l W=(0,0):=by unfold rF;rw[e1,Zc9 O]
  rw[e1,N];obtain⟨E1,Q⟩:=Qu (bP t o k q);rw[Q]at O I |-;clear hB hF K r hW L e1 N Q J;have aK:decide (E1=0)=false:=by simpa using O
  go_enter func12,ntmps12;go_wp2_with (first|(go_at_call 20;refine(I.out _ Qi).mono ?_;rintro e w2 ⟨rfl,j⟩;(obtain⟨F,G,H,N3,d⟩:=aB.out _ j);clear j;have C0:=bk2 F;have C1:=bk2 G;(have C2:=bk3 H))|(refine N0 Qh (.tmp 6) (.tmp 21) 41 Qh (w.heap.size+1+1+1) [.int .i64 0,.int .i64 0] [.int .i64 0,.int .i64 0] 41 rfl rfl (y _) N3 rfl Qc ?_;intro w5 g s U;(have n:QB w w5:=ZW d s fun b e=>(by have:=D3 e;omega));clear s));refine x3 (v:=.tuple #[.agg #[(0:Int),(0:Int)],E1]) ?_ rfl ⟨rfl,n⟩;exact b4 (p:=6) (u:=7) (ad:=⟨w.heap.size+1+1+1,0,none⟩) (v:=.agg #[(0:Int),(0:Int)]) rfl Qe (y5 (T:=41) (cs:=[.int .i64 0,.int .i64 0]) (aD _) (y _) g)
 case pos=>
  have h2:=O;unfold bP at h2;have hR:BookR t o:=hI.1 (aS.1 h2 _ Qd);clear h2;rw[O]at I;by_cases h3:eF B f l W=0;case neg=>
   have e1:kB t o k q f l W=eF B f l W:=by unfold kB;rw[Zc9 (by simp[O]),r,r4 h3]
   have N:rF t o k q f l W=(0,0):=by unfold rF;rw[e1,Zc9 h3]
   rw[e1,N];obtain⟨E1,Q⟩:=Qu (eF B f l W);rw[Q]at h3 J |-;clear hB hF K r hW L e1 N Q hR O;have aK:decide (E1=0)=false:=by simpa using h3
   go_enter func12,ntmps12;go_wp2_with (first|(go_at_call 20;refine(I.out _ Qi).mono ?_;rintro e w2 ⟨rfl,j⟩;(obtain⟨F,G,H,N3,d⟩:=aB.out _ j);clear j;have C0:=bk2 F;have C1:=bk2 G;(have C2:=bk3 H))|(go_at_call 35;refine(J.out _ d).mono ?_;rintro e w3 ⟨rfl,a⟩;have M0:=Zx a F;have M1:=Zx a G;have M2:=Zx a H;have M3:=Zx a N3;have m:=via d a;clear a C0 C1 C2 F G H;have D0:=bk2 M0;have D1:=bk2 M1;(have D2:=bk3 M2))|(refine N0 Qh (.tmp 6) (.tmp 21) 41 Qh (w.heap.size+1+1+1) [.int .i64 0,.int .i64 0] [.int .i64 0,.int .i64 0] 41 rfl rfl (y _) M3 rfl Qc ?_;intro w5 g s U;(have n:QB w w5:=ZW m s fun b e=>(by have:=D3 e;omega));clear s));refine x3 (v:=.tuple #[.agg #[(0:Int),(0:Int)],E1]) ?_ rfl ⟨rfl,n⟩;exact b4 (p:=6) (u:=7) (ad:=⟨w.heap.size+1+1+1,0,none⟩) (v:=.agg #[(0:Int),(0:Int)]) rfl Qe (y5 (T:=41) (cs:=[.int .i64 0,.int .i64 0]) (aD _) (y _) g)
  case pos=>
   have i:=jO.1 h3;rw[h3]at J;have sW:ZN 1000000000000 W:=fun x hx=>by have:=i.w x hx;omega
   have C:=i' (show ∀x,QB w x->Calls prog 36 #[.agg #[.slice pA pn pc,.slice Z B P],.agg #[k,q],.agg #[f,l,.slice A B c]] x (Qt x (.tuple #[.agg (if hQ (ZM t k q) o f l W then #[.int .i64 (l-spentL (exs o) W),.int .i64 f]else #[.int .i64 0,.int .i64 0]),(hQ (ZM t k q) o f l W)])) from fun x M=>(BI pA Z A pc P pn B c t o k q f l W x (hB.below M) hF hR K r (hW.below M) (by rw[i.len,r]) sW (by have:=i.d1;have:=i.dK;omega) i.lK).mono fun e w' h=>⟨BJ h.1,h.2⟩);have aI:(spentL (exs o) W).natAbs<=8*(1000000000000*20):=by have hs:=U9 (X:=20) (Y:=1000000000000) (exs o) W 8 hR.right.exs_mo sW;rw[g' (by rw[A5];exact hR.right.n8),g' (by rw[i.len,<-r];exact hR.right.n8)]at hs;exact hs
   have aC:=i' fun x=>zO (l-spentL (exs o) W) f x (by have:=i.d1;omega) (by have:=i.lK;omega) (by have:=i.d1;have:=i.dK;omega);have aL:wn=B:=by rw[<-L];exact i.len
   subst aL;obtain⟨BD,aA⟩:=Qu (l-spentL (exs o) W);have V:kB t o k q f l W=if hQ (ZM t k q) o f l W then 0 else 20:=by unfold kB;rw[Zc9 (by simp[O]),r,Zc9 (by simp[h3])]
   cases hH:hQ (ZM t k q) o f l W with
   |false=>
    rw[hH]at V C;simp only[l3,Zyk]at V C;have N:rF t o k q f l W=(0,0):=by unfold rF;rw[V,Zc9 Qc]
    rw[V,N];clear hB hF K r hW L V N hR O h3 i sW aI aC hH aA;go_enter func12,ntmps12;go_wp2_with (first|(go_at_call 20;refine(I.out _ Qi).mono ?_;rintro e w2 ⟨rfl,j⟩;(obtain⟨F,G,H,N3,d⟩:=aB.out _ j);clear j;have C0:=bk2 F;have C1:=bk2 G;(have C2:=bk3 H))|(go_at_call 35;refine(J.out _ d).mono ?_;rintro e w3 ⟨rfl,a⟩;have M0:=Zx a F;have M1:=Zx a G;have M2:=Zx a H;have M3:=Zx a N3;have m:=via d a;clear a C0 C1 C2 F G H;have D0:=bk2 M0;have D1:=bk2 M1;(have D2:=bk3 M2))|(go_at_call 36;refine(C.out _ m).mono ?_;rintro e w4 ⟨rfl,D⟩;have P3:=Zx D M3;have z:=via m D;clear D)|(refine N0 Qh (.tmp 9) (.tmp 28) 41 Qh w4.heap.size [.int .i64 0,.int .i64 0] [.int .i64 0,.int .i64 0] 41 rfl rfl (y _) (ZA _ _ rfl) rfl Qc ?_;intro w6 R E aJ;(have Q3:=G1 E (Zx (ZB _ _) P3) (by have:=ZE P3;simp;omega));(have S:QB w w6:=ZW (via z (ZB _ _)) E fun b e=>(by have:=D3 e;have:=z.size;omega));clear E)|(refine N0 Qh (.tmp 6) (.tmp 32) 41 Qh (w.heap.size+1+1+1) [.int .i64 0,.int .i64 0] [.int .i64 0,.int .i64 0] 41 rfl rfl (y _) Q3 rfl Qc ?_;intro w5 g s U;(have n:QB w w5:=ZW S s fun b e=>(by have:=D3 e;omega));clear s));refine x3 (v:=.tuple #[.agg #[(0:Int),(0:Int)],(20:Int)]) ?_ rfl ⟨rfl,n⟩;exact b4 (p:=6) (u:=7) (ad:=⟨w.heap.size+1+1+1,0,none⟩) (v:=.agg #[(0:Int),(0:Int)]) rfl Qe (y5 (T:=41) (cs:=[.int .i64 0,.int .i64 0]) (aD _) (y _) g)|true=>
    rw[hH]at V C;simp only[Zyl]at V C;have N:rF t o k q f l W=(BD / fM BD f,f / fM BD f):=by unfold rF;rw[V,r4 rfl,aA]
    rw[V,N];rw[aA]at C aC;obtain⟨U1,aF⟩:=Qu (BD / fM BD f);obtain⟨U2,aG⟩:=Qu (f / fM BD f);rw[aF,aG]at aC |-;clear hB hF K r hW L V N hR O h3 i sW aI hH aA aF aG;go_enter func12,ntmps12;go_wp2_with (first|(go_at_call 20;refine(I.out _ Qi).mono ?_;rintro e w2 ⟨rfl,j⟩;(obtain⟨F,G,H,N3,d⟩:=aB.out _ j);clear j;have C0:=bk2 F;have C1:=bk2 G;(have C2:=bk3 H))|(go_at_call 35;refine(J.out _ d).mono ?_;rintro e w3 ⟨rfl,a⟩;have M0:=Zx a F;have M1:=Zx a G;have M2:=Zx a H;have M3:=Zx a N3;have m:=via d a;clear a C0 C1 C2 F G H;have D0:=bk2 M0;have D1:=bk2 M1;(have D2:=bk3 M2))|(go_at_call 36;refine(C.out _ m).mono ?_;rintro e w4 ⟨rfl,D⟩;have P3:=Zx D M3;have z:=via m D;clear D)|(refine N0 Qh (.tmp 9) (.tmp 28) 41 Qh w4.heap.size [.int .i64 BD,.int .i64 f] [.int .i64 0,.int .i64 0] 41 rfl rfl (y _) (ZA _ _ rfl) rfl (by simp[Value.oneCell']) ?_;intro w6 R E aJ;(have Q3:=G1 E (Zx (ZB _ _) P3) (by have:=ZE P3;simp;omega));(have S:QB w w6:=ZW (via z (ZB _ _)) E fun b e=>(by have:=D3 e;have:=z.size;omega));have C6:=bk2 R;clear E)|(go_at_call 37;refine(aC.out _).mono ?_;rintro e w7 ⟨rfl,aE⟩;have S3:=Zx aE Q3;have aH:=via S aE;clear aE)|(refine N0 Qh (.tmp 6) (.tmp 37) 41 Qh (w.heap.size+1+1+1) [.int .i64 U1,.int .i64 U2] [.int .i64 0,.int .i64 0] 41 rfl rfl (y _) S3 rfl (by simp[Value.oneCell']) ?_;intro w5 g s U;(have n:QB w w5:=ZW aH s fun b e=>(by have:=D3 e;omega));clear s));refine x3 (v:=.tuple #[.agg #[U1,U2],(0:Int)]) ?_ rfl ⟨rfl,n⟩;exact b4 (p:=6) (u:=7) (ad:=⟨w.heap.size+1+1+1,0,none⟩) (v:=.agg #[U1,U2]) rfl Qe (y5 (T:=41) (cs:=[.int .i64 U1,.int .i64 U2]) (aD _) (y _) g)
def XT{w:World} {base m c k n:Nat} {A j:Option Addr} {b:List Pa} {f:List En} (h:w.ownsRow base 65 5 (.slice A m c) m (b.flatMap Pa.cs))(a:EnTy w base (.slice j n k) f)(l:b.length=m)(y:f.length=n):BookAt w A c b j k f:=by
 subst l;subst y;have u:=s9 h;have g:=s9 a.own;refine⟨?_,⟨?_,fun x i=>(a.row x i).1⟩,u,g,fun x i=>(a.row x i).2.1⟩;·obtain⟨r,s,d,e⟩:=gE (cs:=Pa.cs) (sz:=5) (fun _=>rfl) h;cases d;exact e
 .obtain⟨r,s,d,e⟩:=gE (cs:=En.cs) (sz:=3) (fun _=>rfl) a.own;cases d;exact e
def Z7:List Pa:=[⟨bs [97],10,12,5,6⟩,⟨bs [98],50,60,1,2⟩]
def ZQ(B:Option Addr):List En:=[⟨bs [104,97,108,102],B,2,[0,-2],-1⟩]
def dY(B:Option Addr):BookR Z7 (ZQ B):=by have h:BookR Z7 (ZQ none):=hI.1 Qm;exact h.sig rfl
def jS(w:World):Calls prog 13 #[] w fun e b=>(∃A i B,e=.returned (.agg #[.slice A 2 2,.slice i 1 1])/\BookAt b A 2 Z7 i 1 (ZQ B)/\∀g,A=some g->w.heap.size<=g.block)/\QB w b:=by
 go_enter func13,ntmps13;go_wp2;obtain⟨W,a⟩:=Qu ((((w.alloc (.cells #[.slice (some ⟨(w.heap.size+1),0,none⟩) 2 2,.slice (some ⟨(w.heap.size+1+1+1),0,none⟩) 1 1] 25)).alloc (.cells #[.string (bs [97]),(10:Int),(12:Int),(5:Int),(6:Int),.string (bs [98]),(50:Int),(60:Int),(1:Int),(2:Int)] 65)).alloc (.cells #[(0:Int),.int .i64 (-2)] 3)).alloc (.cells #[.string (bs [104,97,108,102]),.slice (some ⟨(w.heap.size+1+1),0,none⟩) 2 2,.int .i64 (-1)] 67));have j:W.heap[w.heap.size]?=some (.cells #[.slice (some ⟨(w.heap.size+1),0,none⟩) 2 2,.slice (some ⟨(w.heap.size+1+1+1),0,none⟩) 1 1] 25):=by rw[<-a];exact Qs
 have r:W.heap[(w.heap.size+1)]?=some (.cells #[.string (bs [97]),(10:Int),(12:Int),(5:Int),(6:Int),.string (bs [98]),(50:Int),(60:Int),(1:Int),(2:Int)] 65):=by rw[<-a];exact Qs
 have m:W.heap[(w.heap.size+1+1)]?=some (.cells #[(0:Int),.int .i64 (-2)] 3):=by rw[<-a];exact Qs
 have s:W.heap[(w.heap.size+1+1+1)]?=some (.cells #[.string (bs [104,97,108,102]),.slice (some ⟨(w.heap.size+1+1),0,none⟩) 2 2,.int .i64 (-1)] 67):=by rw[<-a];exact Qs
 have c:QB w W:=by rw[<-a];go_grown
 have o1:W.ownsRow w.heap.size 65 5 (.slice (some ⟨(w.heap.size+1),0,none⟩) 2 2) 2 (Z7.flatMap Pa.cs):=⟨rfl,.inr ⟨(w.heap.size+1),2,_,rfl,Qa,r,Qa,Qq,rfl,rfl⟩⟩;have o2:W.ownsRow w.heap.size 3 1 (.slice (some ⟨(w.heap.size+1+1),0,none⟩) 2 2) 2 (([0,-2]:List Int).flatMap Zc):=⟨rfl,.inr ⟨(w.heap.size+1+1),2,_,rfl,Qa,m,Qa,Qq,rfl,rfl⟩⟩;have o3:W.ownsRow w.heap.size 67 3 (.slice (some ⟨(w.heap.size+1+1+1),0,none⟩) 1 1) 1 ((ZQ (some ⟨(w.heap.size+1+1),0,none⟩)).flatMap En.cs):=⟨rfl,.inr ⟨(w.heap.size+1+1+1),1,_,rfl,Qa,s,Qa,Qq,rfl,rfl⟩⟩;have n:BookAt W (some ⟨(w.heap.size+1),0,none⟩) 2 Z7 (some ⟨(w.heap.size+1+1+1),0,none⟩) 1 (ZQ (some ⟨(w.heap.size+1+1),0,none⟩)):=XT o1 ⟨o3,fun x u=>by obtain rfl:=y2.1 u;exact⟨K2 o2 rfl,iF o2,fun g e=>by cases e;exact⟨_,_,m⟩⟩⟩ rfl rfl;have h:∀x,(sizeOf 25).run prog x=.ok 2 x:=fun x=>Qb
 have d:∀x,(isAgg 25).run prog x=.ok true x:=fun x=>Qb
 refine x3 (v:=.agg #[.slice (some ⟨(w.heap.size+1),0,none⟩) 2 2,.slice (some ⟨(w.heap.size+1+1+1),0,none⟩) 1 1]) ?_ rfl ⟨⟨some ⟨(w.heap.size+1),0,none⟩,some ⟨(w.heap.size+1+1+1),0,none⟩,some ⟨(w.heap.size+1+1),0,none⟩,rfl,by rw[<-a]at n;exact n,fun g e=>by cases e;dsimp only;omega⟩,by rw[<-a]at c;exact c⟩;rw[<-a]at j;exact fK (p:=0) (ad:=⟨w.heap.size,0,none⟩) rfl Qe (y5 (T:=25) (cs:=[.slice (some ⟨(w.heap.size+1),0,none⟩) 2 2,.slice (some ⟨(w.heap.size+1+1+1),0,none⟩) 1 1]) (d _) (h _) j)
def u'(B:Option Addr):FewB Z7 (ZQ B):=⟨Qc,by show 1<=1000;decide,fun p a=>by
 rcases ZA1.1 a with rfl|a;·decide
 .obtain rfl:=y2.1 a;decide,fun x c=>by obtain rfl:=y2.1 c;show (bs [104,97,108,102]).size<=1000;decide,fun x c=>by obtain rfl:=y2.1 c;show 2<=1000;decide⟩
def XU(B:Option Addr):bP Z7 (ZQ B) 0 0=0:=by unfold bP;rw[hI.2 (dY B)];rfl
def JW(B:Option Addr):kB Z7 (ZQ B) 0 0 1 10 [20]=0/\rF Z7 (ZQ B) 0 0 1 10 [20]=(30,1):=by
 have h:kB Z7 (ZQ B) 0 0 1 10 [20]=0:=by unfold kB;rw[Zc9 (by rw[XU];simp)];rfl
 refine⟨h,?_⟩;unfold rF;rw[r4 h];kernel_rfl
end Go.Proofs
namespace Go.Proofs
open Tryz
open Go.RowKit Go.Twin Go.Conc
variable {w' W w:World}
def codeHd:Code->Code|.seq x _=>x|c=>c
def codeTl:Code->Code|.seq _ y=>y|c=>c
noncomputable def awBody:Code:=Tryz.f4.body.getD .skip
noncomputable def aw1:Code:=codeTl awBody
noncomputable def aw2:Code:=codeTl aw1
noncomputable def aw3:Code:=codeTl aw2
noncomputable def aw4:Code:=codeTl aw3
noncomputable def aw5:Code:=codeTl aw4
def nX(A c:Option Addr)(a b:Nat):Array Value:=#[.bool false,.pointer (some b),.int .i64 0,zu,zu,zu,zu,zu,zu,zu,zu,.tuple #[.agg #[(30:Int),(1:Int)],(0:Int)],.agg #[.slice A 2 2,.slice c 1 1],.agg #[(0:Int),(0:Int)],.slice (some a) 1 1,.agg #[(1:Int),(10:Int),.slice (some a) 1 1],.tuple #[.agg #[(30:Int),(1:Int)],(0:Int)],.agg #[(30:Int),(1:Int)],.int .i64 0,zu,zu,zu,zu,zu,zu,zu,zu,zu,zu,zu,zu,zu,zu,zu,zu,zu,zu,zu,zu,zu,zu,zu,zu,zu,zu,zu,zu,zu,zu,zu,zu,zu,zu,zu,zu,zu,zu,zu,zu,zu,zu,zu,zu,zu,zu,zu,zu,zu,zu,zu,zu,zu,zu,zu,zu,zu,zu,zu,zu,zu,zu,zu,zu,zu]
def XV(w:World):(codeHd aw1).wp prog (fun e y w'=>e=.normal/\y.defers=[]/\(∃A m n C,y.tmps=nX A m n C/\w'.heap[C]?=some (.cells #[(30:Int),(1:Int)] 41))/\QB w w') ⟨#[.bool false,zu,zu,zu,zu,zu,zu,zu,zu,zu,zu,zu,zu,zu,zu,zu,zu,zu,zu,zu,zu,zu,zu,zu,zu,zu,zu,zu,zu,zu,zu,zu,zu,zu,zu,zu,zu,zu,zu,zu,zu,zu,zu,zu,zu,zu,zu,zu,zu,zu,zu,zu,zu,zu,zu,zu,zu,zu,zu,zu,zu,zu,zu,zu,zu,zu,zu,zu,zu,zu,zu,zu,zu,zu,zu,zu,zu,zu,zu,zu,zu,zu,zu,zu],[]⟩ w:=by simp only[aw1,codeHd,codeTl,awBody,Tryz.f4,hW];have d:=i' fun x=>jS x;go_wp2_with (first|(go_at_call 13;refine(d.out _).mono ?_;rintro e b ⟨⟨A,m,B,rfl,z,D⟩,g⟩;have r:=i' z;have i:=i' g;clear D z g)|(go_at_call 12;(obtain⟨u,a⟩:=Qu (b.alloc (.cells #[(20:Int)] 3)));(have o2:u.ownsRow b.heap.size 3 1 (.slice (some b.heap.size) 1 1) 1 (([20]:List Int).flatMap Zc):=⟨rfl,.inr ⟨b.heap.size,1,_,rfl,Qa,(by rw[<-a];exact Qs),Qa,Qq,rfl,rfl⟩⟩);(have c:QB b u:=by rw[<-a];go_grown);rw[a];clear a;have s:=XS A m (some ⟨b.heap.size,0,none⟩) 2 1 2 1 1 1 Z7 (ZQ B) 0 0 1 10 [20] u (r.out.below c) (u' B) rfl rfl (K2 o2 rfl) rfl Qa;rw[(JW B).1,(JW B).2]at s;refine s.mono ?_;rintro e E ⟨rfl,h⟩;have j:=via (via i.out c) h;clear s o2 h c));exact⟨⟨A,m,_,_,rfl,Qs⟩,via j Qi⟩
def CK(B:Option Addr):solvedL Z7.length (exs (ZQ B)) (ZM Z7 1 50)=some ([1,1],2,⟨2,0,[1]⟩):=by show solvedL 2 [([0,-2],-1)] [0,1]=some ([1,1],2,⟨2,0,[1]⟩);kernel_rfl
def XW(B:Option Addr):bP Z7 (ZQ B) 1 50=0:=by unfold bP;rw[hI.2 (dY B)];rfl
def dD(X:Option Addr)(x:Nat)(Y:Option Addr)(y:Nat):Value:=.agg #[(1:Int),(2:Int),(2:Int),.slice X 2 x,(2:Int),(0:Int),.slice Y 1 y]
def XX{B:Option Addr} {a:Nat} {e:Ending} (h:rI Z7 (ZQ B) 1 50 a e w'):∃X x Y y,e=.returned (.tuple #[dD X x Y y,(0:Int)]):=by unfold rI at h;rw[Zc9 (by rw[XW];simp),CK]at h;obtain⟨X,x,Y,y,h,_⟩:=h;exact⟨X,x,Y,y,h⟩
def tmps2(A c:Option Addr)(a b:Nat)(C d X:Option Addr)(x:Nat)(Y:Option Addr)(y e:Nat):Array Value:=#[.bool false,.pointer (some b),.int .i64 0,.pointer (some e),.int .i64 0,zu,zu,zu,zu,zu,zu,.tuple #[.agg #[(30:Int),(1:Int)],(0:Int)],.agg #[.slice A 2 2,.slice c 1 1],.agg #[(0:Int),(0:Int)],.slice (some a) 1 1,.agg #[(1:Int),(10:Int),.slice (some a) 1 1],.tuple #[.agg #[(30:Int),(1:Int)],(0:Int)],.agg #[(30:Int),(1:Int)],.int .i64 0,.tuple #[dD X x Y y,(0:Int)],.agg #[.slice C 2 2,.slice d 1 1],.agg #[(1:Int),(50:Int)],.tuple #[dD X x Y y,(0:Int)],dD X x Y y,.int .i64 0,zu,zu,zu,zu,zu,zu,zu,zu,zu,zu,zu,zu,zu,zu,zu,zu,zu,zu,zu,zu,zu,zu,zu,zu,zu,zu,zu,zu,zu,zu,zu,zu,zu,zu,zu,zu,zu,zu,zu,zu,zu,zu,zu,zu,zu,zu,zu,zu,zu,zu,zu,zu,zu,zu,zu,zu,zu,zu,zu]
def XY(X:Option Addr)(x:Nat)(Y:Option Addr)(y:Nat):Obj:=.cells #[(1:Int),(2:Int),(2:Int),.slice X 2 x,(2:Int),(0:Int),.slice Y 1 y] 50
def XZ(A r:Option Addr)(c b:Nat)(w:World):(codeHd aw2).wp prog (fun e s w'=>e=.normal/\s.defers=[]/\(∃C m X x Y y D,s.tmps=tmps2 A r c b C m X x Y y D/\w'.heap[D]?=some (XY X x Y y))/\QB w w') ⟨nX A r c b,[]⟩ w:=by
 simp only[aw2,aw1,codeHd,codeTl,awBody,Tryz.f4,hW,nX];have d:=i' fun x=>jS x;have F:∀x,(sizeOf 50).run prog x=.ok 7 x:=fun x=>Qb
 go_wp2_with (first|(go_at_call 13;refine(d.out _).mono ?_;rintro e f ⟨⟨C,m,B,rfl,u,E⟩,g⟩;have n:=i' u;have i:=i' g;clear E u g)|(go_at_call 14;have z:=VM C m 2 1 2 1 Z7 (ZQ B) 1 50 f n.out (u' B) rfl rfl;refine z.mono ?_;rintro e G ⟨a,h⟩;(obtain⟨X,x,Y,y,rfl⟩:=XX a);have j:=via i.out h;clear z a h;simp only[dD]));exact⟨⟨C,m,X,x,Y,y,_,rfl,Qs⟩,via j Qi⟩
structure Old (W w':World):Prop where
 size:W.heap.size<=w'.heap.size
 get:∀b,b<W.heap.size->w'.heap[b]?=W.heap[b]?
def Old.refl(W:World):Old W W:=⟨h' _,fun _ _=>rfl⟩
def Old.trans(h:Old W w)(a:Old w w'):Old W w':=⟨w7 h.size a.size,fun b c=>(a.get b (h8 c h.size)).trans (h.get b c)⟩
def Zp(h:QB w w'):Old w w':=⟨h.size,h.block⟩
def Ze{t:Nat->Question->Nat} {d:Nat} (h:Below (w.re t d).heap.size (w.re t d) w'):Old w w':=⟨h.size,h.block⟩
def Old.at{b:Nat} {o:Obj} (h:Old W w')(hb:W.heap[b]?=some o):w'.heap[b]?=some o:=(h.get b (bO.1 hb).1).trans hb
def X4:ZP.code (codeHd aw1)=true:=Qb
def X8:ZP.code (codeHd aw2)=true:=Qb
def Zb{E:Env} {B:Blk} {a b:Array Value} (h:AR E B a a)(e:a=b):AR E B b b:=e▸h
def X'{b:Frame->List Frame->World->Prop} {cs:List Frame} (o:Halts b)(V:GlobOk w)(k:∀A c a f C i X x Y y l p D,awB.le D->Self ZP (fun _=>False) D p->AR ZP D (tmps2 A c a f C i X x Y y l) (tmps2 A c a f C i X x Y y l)->p.heap[f]?=some (.cells #[(30:Int),(1:Int)] 41)->p.heap[l]?=some (XY X x Y y)->Old (aK w) p->LG ZR b ((Go.Conc.base 4).at ⟨tmps2 A c a f C i X x Y y l,[]⟩ [.code aw3]) cs p):LG ZR b ((Go.Conc.base 4).at ⟨Array.replicate 84 undef,[]⟩ [.code awBody]) cs (aK w):=by
 have F:=W4 V;have j:awB.le awB:=Blk.le_refl _;have E:AR ZP awB (Array.replicate 84 undef) (Array.replicate 84 undef):=AR.replicate _ undefR;rw[show awBody=.seq (codeHd awBody) aw1 from Qb];refine cO o ?_;simp only[awBody,codeHd,Tryz.f4,hW];refine cT o ?_;simp only[M0,r3,hG,Nat.reduceAdd,w0,List.range,List.range.loop];refine fY o ZZ ZY F (Zb E Qb) rfl rfl Qc Qb (fun tt T K O Q=>?_);simp only[show ZP.P=prog from rfl];go_simp;first|refine O _ _ ?_|refine Q _ ?_
 clear O Q K tt T;intro D g z n;replace j:=Blk.le_trans j g;clear F E g;have F:=z;have E:=n;clear z n;walk_nrm;refine cU o ?_;rw[show aw1=.seq (codeHd aw1) aw2 from Qb];refine cO o ?_;refine z7 (R:=fun m w'=>(∃A c a f,m.tmps=nX A c a f/\w'.heap[f]?=some (.cells #[(30:Int),(1:Int)] 41))/\Old (aK w) w') ZY fU D4 ZZ F (Zb E Qb) rfl X4 (fun v w t d h=>⟨h.1,h.2.size,h.2.get⟩) (fun t d=>F1 (fun e m w' h=>⟨h.1,h.2.1,h.2.2.1,(Ze h.2.2.2).size,(Ze h.2.2.2).get⟩) (XV _)) ?_;rintro⟨tm,U⟩ Z B1 ⟨⟨A,c,a,f,G,B⟩,L⟩ H r M I;cases G;cases H;rw[show aw2=.seq (codeHd aw2) aw3 from Qb];refine cO o ?_;refine z7 (R:=fun m w'=>(∃C i X x Y y l,m.tmps=tmps2 A c a f C i X x Y y l/\w'.heap[l]?=some (XY X x Y y))/\Old Z w') ZY fU D4 ZZ M I rfl X8 (fun v w t d h=>⟨h.1,h.2.size,h.2.get⟩) (fun t d=>F1 (fun e m w' h=>⟨h.1,h.2.1,h.2.2.1,(Ze h.2.2.2).size,(Ze h.2.2.2).get⟩) (XZ A c a f _)) ?_;rintro⟨tm,U⟩ q S ⟨⟨C,i,X,x,Y,y,l,G,n3⟩,u⟩ H s N J;cases G;cases H;exact k A c a f C i X x Y y l q S (Blk.le_trans (Blk.le_trans j r) s) N J (u.at B) n3 (L.trans u)
variable {w w':World} {b o:Nat} {v:Value}
def At.old{d:Nat} {α:Type} {cs:α->List Value} {A:Option Addr} {e:List α} (h:At d cs w A e)(a:Old w w'):At d cs w' A e:=(h.below (⟨rfl,rfl,rfl,a.size,a.get⟩:QB w {w' with os:=w.os,tape:=w.tape,output:=w.output}):At d cs {w' with os:=w.os,tape:=w.tape,output:=w.output} A e)
def BookAt.old{d a:Option Addr} {e c:Nat} {m:List Pa} {l:List En} (f:BookAt w d e m a c l)(h:Old w w'):BookAt w' d e m a c l:=⟨f.P.old h,⟨f.E.1.old h,fun x g=>(f.E.2 x g).old h⟩,f.pc',f.ec',f.nil⟩
noncomputable def shBody:Code:=Tryz.f15.body.getD .skip
noncomputable def shA:Code:=codeTl shBody
noncomputable def shB:Code:=codeTl shA
noncomputable def shC:Code:=codeTl shB
noncomputable def shD:Code:=codeTl shC
noncomputable def shE:Code:=codeTl shD
def mC(A a:Option Addr):Array Value:=#[.agg #[.slice A 2 2,.slice a 1 1],.int .i64 1,zu,zu,zu,zu,zu,zu,zu,zu,zu,zu,zu,zu,zu,zu,zu,zu,zu,zu,zu,zu,zu,zu,zu,zu,zu,zu,zu,zu,zu,zu,zu,zu,zu,zu,zu,zu,zu,zu,zu,zu]
def nY(A a:Option Addr)(c d:Nat):Array Value:=#[.agg #[.slice A 2 2,.slice a 1 1],.int .i64 1,.pointer (some c),undef,.pointer (some d),.int .i64 0,zu,zu,zu,zu,zu,zu,zu,zu,zu,zu,zu,zu,zu,zu,zu,zu,zu,zu,zu,zu,zu,zu,zu,zu,zu,zu,zu,zu,zu,zu,zu,zu,zu,zu,zu,zu]
def nZ(A c:Option Addr)(d e a:Nat):Array Value:=#[.agg #[.slice A 2 2,.slice c 1 1],.int .i64 1,.pointer (some d),undef,.pointer (some e),.int .i64 0,.int .i64 0,undef,undef,undef,.agg #[.slice A 2 2,.slice c 1 1],.int .i64 0,.int .i64 1,.pointer (some d),.slice A 2 2,.int .i64 2,.int .i64 1,.bool true,.int .i64 0,.slice (some a) 2 2,.int .i64 0,.int .i64 0,.bool false,zu,zu,zu,zu,zu,zu,zu,zu,zu,zu,zu,zu,zu,zu,zu,zu,zu,zu,zu]
def oA(A d:Option Addr)(c g a e:Nat):Array Value:=#[.agg #[.slice A 2 2,.slice d 1 1],.int .i64 1,.pointer (some c),undef,.pointer (some g),.int .i64 0,.int .i64 0,.slice (some e) 2 2,undef,undef,.agg #[.slice A 2 2,.slice d 1 1],.int .i64 0,.int .i64 1,.pointer (some c),.slice A 2 2,.int .i64 2,.int .i64 1,.bool true,.int .i64 0,.slice (some a) 2 2,.int .i64 0,.int .i64 0,.bool false,undef,undef,.pointer (some c),.slice A 2 2,.int .i64 2,.slice (some e) 2 2,zu,zu,zu,zu,zu,zu,zu,zu,zu,zu,zu,zu,zu]
def CN(A e:Option Addr)(d g c a:Nat):Array Value:=#[.agg #[.slice A 2 2,.slice e 1 1],.int .i64 1,.pointer (some d),undef,.pointer (some g),.int .i64 0,.int .i64 0,.slice (some a) 2 2,undef,undef,.agg #[.slice A 2 2,.slice e 1 1],.int .i64 0,.int .i64 1,.pointer (some d),.slice A 2 2,.int .i64 2,.int .i64 1,.bool true,.int .i64 0,.slice (some c) 2 2,.int .i64 0,.int .i64 0,.bool false,undef,undef,.pointer (some d),.slice A 2 2,.int .i64 2,.slice (some a) 2 2,.slice (some a) 2 2,.int .i64 1,.pointer (some ⟨a,1,none⟩),zu,zu,zu,zu,zu,zu,zu,zu,zu,zu]
def YA(A a:Option Addr)(w:World):(codeHd shBody).wp prog (fun e d w'=>e=.normal/\d.defers=[]/\(∃g c,d.tmps=nY A a g c/\w'.heap[g]?=some (.cells #[.slice A 2 2,.slice a 1 1] 25)/\w'.heap[c]?=some (.cells #[(0:Int),(0:Int)] 54)/\w.heap.size<=c)/\QB w w') ⟨mC A a,[]⟩ w:=by simp only[codeHd,codeTl,shBody,Tryz.f15,hW,mC];go_wp2;exact⟨⟨_,_,rfl,Qs,Qs,by first|omega|simp⟩,Qi⟩
def YB(A c B:Option Addr)(i u:Nat)(w:World)(f:BookAt w A 2 Z7 c 1 (ZQ B))(y:w.heap[i]?=some (.cells #[.slice A 2 2,.slice c 1 1] 25)):(codeHd shA).wp prog (fun e s w'=>e=.normal/\s.defers=[]/\(∃h,s.tmps=nZ A c i u h)/\QB w w') ⟨nY A c i u,[]⟩ w:=by
 simp only[codeHd,codeTl,shA,shBody,Tryz.f15,hW,nY];have z:=i' fun W (C:QB w W)=>(hI.2 (dY B))▸a8 A c 2 1 2 1 Z7 (ZQ B) W (f.below C) (u' B) rfl rfl;have d:=i' fun W=>dA 1 0 1 W;rw[show Z6 1 0 1=true from Qc]at d;have D:=bk2 y;have j:QB w w:=q' _ _;clear f y;refine wp_seq ?_;refine B9 w 9 Qb Qb j ?_;intro m g;simp only[m',sT,e5,sA];repeat (go_big_quiet_step (first
  |(go_at_call 38;with_reducible exact Grew.call (z.out _ (g.out _)))|(go_at_call 22;with_reducible exact Zd (d.out _))|(go_at_call 21;with_reducible exact Zd (hJ _ _ _))))
 refine Zyi ?_;intro E a r n;clear m g;simp only[show unl true 6=0 from rfl];go_wp2_with (go_at_call 19;refine(eP _ _ _).mono ?_;rintro e w' ⟨rfl,rfl⟩;simp only[show Z4 [0,0]=0 from rfl]);exact⟨⟨_,rfl⟩,via a Qi⟩
def YC(A c:Option Addr)(d i a:Nat)(w:World)(j:w.heap[d]?=some (.cells #[.slice A 2 2,.slice c 1 1] 25)):(codeHd shB).wp prog (fun e h w'=>e=.normal/\h.defers=[]/\(∃g,h.tmps=oA A c d i a g/\w'.heap[g]?=some (.cells #[(0:Int),(0:Int)] 3)/\w.heap.size<=g)/\QB w w') ⟨nZ A c d i a,[]⟩ w:=by simp only[codeHd,codeTl,shB,shA,shBody,Tryz.f15,hW,nZ];have D:=bk2 j;clear j;have m:∀W,(Instr.makeSlice 30 (.int .i64 2) (.int .i64 2)).run prog W=.ok (.slice (some W.heap.size) 2 2) (W.alloc (.cells #[(0:Int),(0:Int)] 3)):=fun W=>W9 2 Qa W;go_wp2;exact⟨⟨_,rfl,Qs,h' _⟩,Qi⟩
def YD{c:Array Value} {T:TypeId} {f:Nat×Nat} (h:w.heap[b]?=some (.cells c T f)):(w.setCell ⟨b,o,none⟩ v).heap[b]?=some (.cells (c.setIfInBounds o v) T f):=by simp[World.setCell,iT,h]
def YE{k:Nat} (a:k≠b):(w.setCell ⟨b,o,none⟩ v).heap[k]?=w.heap[k]?:=by simp[World.setCell,iT,hV a]
def YF(A h:Option Addr)(j m a c:Nat)(w:World)(d:w.heap[c]?=some (.cells #[(0:Int),(0:Int)] 3)):(codeHd shC).wp prog (fun e i w'=>e=.normal/\i.defers=[]/\i.tmps=CN A h j m a c/\w'.heap[c]?=some (.cells #[(0:Int),(1:Int)] 3)/\w'.heap.size=w.heap.size/\∀b,b≠c->w'.heap[b]?=w.heap[b]?) ⟨oA A h j m a c,[]⟩ w:=by simp only[codeHd,codeTl,shC,shB,shA,shBody,Tryz.f15,hW,oA];have D:=bk2 d;have g:=i' (YD (o:=1) (v:=.int .i64 1) d);clear d;go_wp2;exact⟨rfl,(bO.1 g.out).2,fun b n=>YE n⟩
def JX(A c:Option Addr)(e g d a h:Nat):Array Value:=#[.agg #[.slice A 2 2,.slice c 1 1],.int .i64 1,.pointer (some e),undef,.pointer (some g),.int .i64 0,.int .i64 0,.slice (some a) 2 2,.pointer (some h),.bool true,.agg #[.slice A 2 2,.slice c 1 1],.int .i64 0,.int .i64 1,.pointer (some e),.slice A 2 2,.int .i64 2,.int .i64 1,.bool true,.int .i64 0,.slice (some d) 2 2,.int .i64 0,.int .i64 0,.bool false,undef,undef,.pointer (some e),.slice A 2 2,.int .i64 2,.slice (some a) 2 2,.slice (some a) 2 2,.int .i64 1,.pointer (some ⟨a,1,none⟩),.tuple #[.agg #[(500:Int),(1000:Int)],true],.agg #[.slice A 2 2,.slice c 1 1],.slice (some a) 2 2,.slice (some a) 2 2,.tuple #[.agg #[(500:Int),(1000:Int)],true],.agg #[(500:Int),(1000:Int)],.bool true,undef,undef,undef]
def YG(A I:Option Addr)(M g j N G:Nat)(w:World)(f:w.heap[g]?=some (.cells #[(0:Int),(0:Int)] 54))(m:w.heap[G]?=some (.cells #[(500:Int),(1000:Int)] 54)):shE.wp prog (bodyPost prog Tryz.f15 fun e w'=>e=.returned (.tuple #[.agg #[(500:Int),(1000:Int)],(0:Int)])/\w.heap.size<=w'.heap.size/\∀b,b<w.heap.size->b≠g->w'.heap[b]?=w.heap[b]?) ⟨JX A I M g j N G,[]⟩ w:=by
 simp only[codeHd,codeTl,shE,shD,shC,shB,shA,shBody,Tryz.f15,hW,JX];have J:=bk2 f;have K:=bk2 m;have r:QB w w:=q' _ _;have h:∀x,(sizeOf 54).run prog x=.ok 2 x:=fun x=>Qb
 have n:∀x,(isAgg 54).run prog x=.ok true x:=fun x=>Qb
 refine wp_seq ?_;refine B9 w 3 Qb Qb r ?_;intro z s;simp only[m',sT,e5,sA];repeat (go_big_quiet_step (first|(go_at_call 21;with_reducible exact Zd (hJ _ _ _))))
 refine Zyi ?_;intro O a E c;clear z s;simp only[show unl true 12=0 from rfl];have L:=i' (Zx a f);have F:=Zx a m;have Q:=bk2 F;clear f m F J K;go_wp2_with (first|(go_at_call 21;refine(hJ _ _ _).mono ?_;rintro e w' ⟨rfl,rfl⟩)|(refine N0 Qh (.tmp 4) (.tmp 39) 54 Qh g [.int .i64 500,.int .i64 1000] [.int .i64 0,.int .i64 0] 54 rfl rfl (h _) L.out rfl Qc ?_;intro R d y i));refine x3 (v:=.tuple #[.agg #[(500:Int),(1000:Int)],(0:Int)]) ?_ rfl ⟨rfl,by rw[i];exact c,fun b H D=>?_⟩;·exact b4 (p:=4) (u:=5) (ad:=⟨g,0,none⟩) (v:=.agg #[(500:Int),(1000:Int)]) rfl Qe (y5 (T:=54) (cs:=[.int .i64 500,.int .i64 1000]) (n _) (h _) d)
 .have C:b<O.heap.size:=h8 H c;exact(y.block b C (fun e=>D (D3 e))).trans (a.block b H)
end Go.Proofs
namespace Go.Proofs
open Go.RowKit Go.Twin Go.Conc
section
variable {B:Blk} {bs':List Frame} {l w:World}
def ST.head{E:Env} {bs:List Frame} {f c:Frame} {cs a:List Frame} (h:ST E B bs bs' (f::cs) (c::a)):FR E B f c:=by cases h with|last _ _ h _=>exact h|cons _ _ _ _ h _ _=>exact h
def Zn{E:Env} {d:Array Value} {v:Value} (h:VR E B (.agg d) v) {i:Nat} {u:Value} (b:d[i]?=some u):∃a,VR E B u a:=by cases h with|agg _ xs' hx hxs=>have c:=(bO.1 b).1;exact⟨_,hxs i u (xs'[i]'Qa) b (y1 Qa)⟩
def Zj{E:Env} {A:Option Addr} {n c:Nat} {v:Value} (h:VR E B (.slice A n c) v)(d:E.z0=false:=by rfl):∀b o s,A=some ⟨b,o,s⟩->∃a,B b a:=by rintro b o s rfl;cases h with
 |slice _ _ _ _ ha=>cases ha with|mk _ a _ _ hb=>exact⟨a,hb⟩
 |slice0 _ h=>rw[d]at h;cases h
def rR{p:Nat} {α:Type} {cs:α->List Value} {A:Option Addr} {j:List α} (h:At p cs l A j) {x:α} (m:j[0]?=some x) {v:Value} (k:(cs x)[0]?=some v):∀b o s,A=some ⟨b,o,s⟩->∃c T f,l.heap[b]?=some (.cells c T f):=by rintro b o s rfl;obtain⟨e,g,a,_,d⟩:=h 0 x m;cases a;exact CA (d 0 v k)
def YH(a:Option Addr):(solvedL 2 (exs (ZQ a)) (cL [0,1])).map (fun q=>(q.1,q.2.1))=some ([0,1],1):=by show (solvedL 2 [([0,-2],-1)] [0,-1]).map (fun q=>(q.1,q.2.1))=some ([0,1],1);kernel_rfl
def fL(a:Option Addr):exs (ZQ a)=[([0,-2],-1)]:=rfl
def CO(a:Option Addr):cN 2 (ZQ a) [0,1]=(1,2,true):=by unfold cN;rw[fL];kernel_rfl
def CP(a:Option Addr):cN 2 (ZQ a) (cL [0,1])=(-1,1,true):=by unfold cN;rw[fL];kernel_rfl
def YI(a:Option Addr):gD 2 (ZQ a) [0,1] [0,1] 1000=.tuple #[.agg #[(500:Int),(1000:Int)],true]:=by unfold gD;rw[CO,CP];kernel_rfl
def rM{a b:Int} {K:Nat} (d:a.natAbs<=K)(e:b.natAbs<=K):ZN K [a,b]:=fun x c=>by
 simp only[ZA1,ZBj,Zyj]at c;rcases c with rfl|rfl;·exact d
 .exact e
def rS{A:Option Addr} {n c:Nat} (d:∀b o s,A=some ⟨b,o,s⟩->∃a,B b a) (g:∀b o s,A=some ⟨b,o,s⟩->∃c T f,l.heap[b]?=some (.cells c T f)):VR EnvS (idX (Z8 B l)) (.slice A n c) (.slice A n c):=qL fun b o s e=>⟨d b o s e,g b o s e⟩
def YJ{W:Nat->Prop} {A g b:Option Addr} {a:Nat} {k:Frame} {cs o:List Frame} (f:BookAt l A 2 Z7 g 1 (ZQ b))(O:l.heap[a]?=some (.cells #[(0:Int),(1:Int)] 3))(h:Rel ZR W bs' B (Frame.enter ZR.P 39 #[.agg #[.slice A 2 2,.slice g 1 1],.slice (some a) 2 2,.slice (some a) 2 2,.int .i64 1000] .normal) cs l k o w):dX Tryz.prog k w fun v=>v=.tuple #[.agg #[(500:Int),(1000:Int)],true]:=by
 have u:At 1 Zc l (some ⟨a,0,none⟩) [0,1]:=K2 (⟨rfl,.inr ⟨a,2,_,rfl,e6 _,O,Qa,Qq,rfl,rfl⟩⟩:l.ownsRow 0 3 1 (.slice (some a) 2 2) 2 (([0,1]:List Int).flatMap Zc)) rfl;have z:=h.st.head.tmps;have Q:=qM (.agg #[.slice A 2 2,.slice g 1 1]) (.slice (some a) 2 2) (.slice (some a) 2 2) (.int .i64 1000);have K:(Frame.enter ZR.P 39 #[.agg #[.slice A 2 2,.slice g 1 1],.slice (some a) 2 2,.slice (some a) 2 2,.int .i64 1000] .normal).tmps=#[.agg #[.slice A 2 2,.slice g 1 1],.slice (some a) 2 2,.slice (some a) 2 2,.int .i64 1000]++Array.replicate 52 undef:=by show (Frame.enter Tryz.prog _ _ _).tmps=_;rw[Q];rfl
 rw[K]at z;have F:=z.getD 0 (undefR (G:=ZR) (B:=B));have J:=z.getD 1 (undefR (G:=ZR) (B:=B));have L:((#[.agg #[.slice A 2 2,.slice g 1 1],.slice (some a) 2 2,.slice (some a) 2 2,.int .i64 1000]++Array.replicate 52 undef:Array Value).getD 0 undef)=.agg #[.slice A 2 2,.slice g 1 1]:=by simp[Array.getD]
 have M:((#[.agg #[.slice A 2 2,.slice g 1 1],.slice (some a) 2 2,.slice (some a) 2 2,.int .i64 1000]++Array.replicate 52 undef:Array Value).getD 1 undef)=.slice (some a) 2 2:=by simp[Array.getD]
 rw[L]at F;rw[M]at J;obtain⟨u1,C⟩:=Zn F (i:=0) rfl;obtain⟨u2,D⟩:=Zn F (i:=1) rfl;have U:=rS (l:=l) (n:=2) (c:=2) (Zj C) (rR f.P rfl rfl);have V:=rS (l:=l) (n:=1) (c:=1) (Zj D) (rR f.E.1 rfl rfl);have I:=rS (l:=l) (n:=2) (c:=2) (Zj J) (rR u rfl rfl);intro H c X Y Z t q N r s T;refine CC (E1:=ZR) (lows:=[0,1]) (ups:=[0,1]) rfl (fun _=>rfl) rfl (dY b).right f.E rfl Qc Qc (fun x S=>by obtain rfl:=y2.1 S;simp) ⟨u,rfl,rM Qc Qc,fun m d p j=>?_⟩ u rfl (rM Qc Qc) (fun m d p j=>?_) ?_ ?_ U V I I h N r s (fun R=>T (R.trans (show gD Z7.length (ZQ b) [0,1] [0,1] 1000=_ from YI b)));·have e:solvedL Z7.length (exs (ZQ b)) [0,1]=_:=CK b;rw[e]at j;cases j;exact⟨rfl,rM Qc Qc⟩
 .have e:=YH b;have y:solvedL 2 (exs (ZQ b)) (cL [0,1])=some (m,d,p):=j;rw[y]at e;cases e;exact⟨rfl,rM Qc Qc⟩
 .unfold D8;have e:cN Z7.length (ZQ b) [0,1]=_:=CO b;rw[e];intro _;exact⟨Qc,Qc⟩
 .unfold D8;have e:cN Z7.length (ZQ b) (cL [0,1])=_:=CP b;rw[e];intro _;exact⟨Qc,Qc⟩
end
open Tryz
variable {w:World}
attribute [local go_sem] Oper.semAt_some fE fP fT dP fD fF
def jT{P:Program} {fn:Func} {x:Code} {R:Value->World->Prop} {a:Act} {d:Ending->World->Prop} (h:x.wp P (bodyPost P fn d) a w)(b:∀e w,d e w->∃v,e=.returned v/\R v w):x.wp P (fun e j f=>(e=.ret∨e=.normal)/\j.defers=[]/\∃v,(results fn j.tmps).run P f=.ok v f/\R v f) a w:=wp_mono h fun e j f g=>by cases e with|normal=>obtain⟨m,v,n,r⟩:=g;obtain⟨s,e,i⟩:=b _ _ r;cases e;exact⟨.inr rfl,m,_,n,i⟩|ret=>obtain⟨m,v,n,r⟩:=g;obtain⟨s,e,i⟩:=b _ _ r;cases e;exact⟨.inl rfl,m,_,n,i⟩|panic c=>obtain⟨s,e,i⟩:=b _ _ g.2;cases e|outgrown=>obtain⟨s,e,i⟩:=b _ _ g;cases e|exit id=>exact g.elim|goto id=>exact g.elim
def YK (A a:Option Addr):Frame.enter prog 15 #[.agg #[.slice A 2 2,.slice a 1 1],.int .i64 1] .normal=(Go.Conc.base 15).at ⟨mC A a,[]⟩ [.code shBody]:=by rw[CL (fn:=Tryz.f15) (c:=Tryz.f15.body.getD .skip) _ func15 rfl];kernel_rfl
def Old.re{b:World} (h:Old w b)(t:Nat->Question->Nat)(d:Nat):Old w (b.re t d):=⟨h.size,h.get⟩
def YL{q:Value->World->Prop} {W l0:World} {E:Blk} {bs':List Frame} (aH:∀b x,E b x->(fun _:Nat=>False) b∨(b=x/\x<l0.heap.size/\l0.heap[x]?=W.heap[x]?/\ZR.sh=false/\ZR.junk=false)) {A u BB:Option Addr} {c:Frame} {cs:List Frame} {l:World} {B:Blk} (f:Self ZP (fun _=>False) B l)(o:AR ZP B #[.agg #[.slice A 2 2,.slice u 1 1],.int .i64 1] #[.agg #[.slice A 2 2,.slice u 1 1],.int .i64 1])(hB:BookAt l A 2 Z7 u 1 (ZQ BB))(ho:Old l0 l)(k:∀l' G,Old l l'->B.le G->Self ZP (fun _=>False) G l'->LG ZR (StopG ZR q W l0 E (fun _=>False) bs') (c.finish (.tuple #[.agg #[(500:Int),(1000:Int)],(0:Int)])) cs l'):LG ZR (StopG ZR q W l0 E (fun _=>False) bs') (Frame.enter prog 15 #[.agg #[.slice A 2 2,.slice u 1 1],.int .i64 1] .normal) (c::cs) l:=by
 have z:Halts (StopG ZR q W l0 E (fun _=>False) bs'):=fG;rw[YK];have aL:AR ZP B (mC A u) (mC A u):=Zb (o.append (AR.replicate 40 undefR)) Qb;rw[show shBody=.seq (codeHd shBody) shA from Qb];refine cO z ?_;refine z7 (R:=fun H p=>(∃J F,H.tmps=nY A u J F/\p.heap[J]?=some (.cells #[.slice A 2 2,.slice u 1 1] 25)/\p.heap[F]?=some (.cells #[(0:Int),(0:Int)] 54)/\l.heap.size<=F)/\Old l p) ZY fU D4 ZZ f aL rfl Qb (fun v w t d h=>⟨h.1,h.2.size,h.2.get⟩) (fun t d=>F1 (fun e H p h=>⟨h.1,h.2.1,h.2.2.1,(Ze h.2.2.2).size,(Ze h.2.2.2).get⟩) (YA A u _)) ?_;rintro⟨tm,df⟩ l1 B1 ⟨⟨J,F,T,n2,n4,aX⟩,aF⟩ U aA aR aM;cases T;cases U;have Z:=hB.old aF;rw[show shA=.seq (codeHd shA) shB from Qb];refine cO z ?_;refine z7 (R:=fun H p=>(∃D,H.tmps=nZ A u J F D)/\Old l1 p) ZY fU D4 ZZ aR aM rfl Qb (fun v w t d h=>⟨h.1,h.2.size,h.2.get⟩) (fun t d=>F1 (fun e H p h=>⟨h.1,h.2.1,h.2.2.1,(Ze h.2.2.2).size,(Ze h.2.2.2).get⟩) (YB A u BB J F _ (Z.old ((Old.refl l1).re t d)) n2)) ?_;rintro⟨tm,df⟩ l2 B2 ⟨⟨D,T⟩,M⟩ U aB aS aN;cases T;cases U;have m2:=M.at n2;rw[show shB=.seq (codeHd shB) shC from Qb];refine cO z ?_;refine z7 (R:=fun H p=>(∃I,H.tmps=oA A u J F D I/\p.heap[I]?=some (.cells #[(0:Int),(0:Int)] 3)/\l2.heap.size<=I)/\Old l2 p) ZY fU D4 ZZ aS aN rfl Qb (fun v w t d h=>⟨h.1,h.2.size,h.2.get⟩) (fun t d=>F1 (fun e H p h=>⟨h.1,h.2.1,h.2.2.1,(Ze h.2.2.2).size,(Ze h.2.2.2).get⟩) (YC A u J F D _ m2)) ?_;rintro⟨tm,df⟩ l3 B3 ⟨⟨I,T,n7,aY⟩,aG⟩ U aC aT aO;cases T;cases U;rw[show shC=.seq (codeHd shC) shD from Qb];refine cO z ?_;refine z7 (R:=fun H p=>(H.tmps=CN A u J F D I/\p.heap[I]?=some (.cells #[(0:Int),(1:Int)] 3)/\p.heap.size=l3.heap.size/\∀b,b≠I->p.heap[b]?=l3.heap[b]?)) ZY fU D4 ZZ aT aO rfl Qb (fun v w t d h=>h) (fun t d=>F1 (fun e H p h=>h) (YF A u J F D I (l3.re t d) n7)) ?_;rintro⟨tm,df⟩ Y B4 ⟨T,aV,aW,aI⟩ U aD f o;cases T;cases U;have N:Old l2 Y:=⟨by have:=aG.size;omega,fun b hb=>(aI b Qa).trans (aG.get b hb)⟩;have m:=Blk.le_trans (Blk.le_trans (Blk.le_trans aA aB) aC) aD;have aK:=(Z.old M).old N;have h2:=N.at m2;have h4:=N.at (M.at n4);have D2:=bk2 h2;rw[show shD=.seq (codeHd shD) shE from Qb];refine cO z ?_;simp only[codeHd,codeTl,shD,shC,shB,shA,shBody,Tryz.f15,hW];refine cT z ?_;simp only[M0,r3,hG,Nat.reduceAdd,w0,List.range,List.range.loop];refine fY z ZZ ZY f (Zb o Qb) rfl rfl Qc Qb (fun C y K r s=>?_);simp only[show ZP.P=prog from rfl];go_simp;first|refine r _ _ ?_|refine s _ ?_
 iterate 2(
  clear r s K C y;intro G a j i;replace m:=Blk.le_trans m a;clear f o a;have f:=j;have o:=i;clear j i;walk_nrm;refine fY z ZZ ZY f (Zb o Qb) rfl rfl Qc Qb (fun C y K r s=>?_);simp only[show ZP.P=prog from rfl];go_simp;first|refine r _ _ ?_|refine s _ ?_)
 clear r s K C y;intro G a j i;replace m:=Blk.le_trans m a;clear f o a;have f:=j;have o:=i;clear j i;walk_nrm;have X:Old l Y:=aF.trans (M.trans N);refine eO (g:=39) (args:=#[.agg #[.slice A 2 2,.slice u 1 1],.slice (some I) 2 2,.slice (some I) 2 2,.int .i64 1000]) z rfl rfl Qc Qb (fun p=>by simp only[show ZR.P=prog from rfl];kernel_rfl) ?_;refine .stop _ _ _ (xO (R:=fun v=>v=.tuple #[.agg #[(500:Int),(1000:Int)],true]) pD aH Qd (fun c h=>by cases h) (ho.trans X).get (fun h hO=>YJ aK aV h) (fun v hv=>by subst hv;kernel_rfl) fun v n hv=>?_);subst hv;rw[cK];have f:=f.pad n;have o:=o.set 36 (VR.closed 8 (.tuple #[.agg #[(500:Int),(1000:Int)],true]) Qb);have O:Old Y (pad Y n):=⟨by rw[eN];omega,fun b hb=>Q2 Y n hb⟩;obtain⟨Q,aP⟩:=Qu (pad Y n);rw[aP]at f O |-;walk_nrm;refine fY z ZZ ZY f (Zb o Qb) rfl rfl Qc Qb (fun C y K r s=>?_);simp only[show ZP.P=prog from rfl];go_simp;first|refine r _ _ ?_|refine s _ ?_
 iterate 5(
  clear r s K C y;intro G a j i;replace m:=Blk.le_trans m a;clear f o a;have f:=j;have o:=i;clear j i;walk_nrm;refine fY z ZZ ZY f (Zb o Qb) rfl rfl Qc Qb (fun C y K r s=>?_);simp only[show ZP.P=prog from rfl];go_simp;first|refine r _ _ ?_|refine s _ ?_)
 clear r s K C y;intro G a j i;replace m:=Blk.le_trans m a;clear f o a;have f:=j;have o:=i;clear j i;walk_nrm;refine cU z ?_;obtain⟨S,L⟩:=Qu (Q.alloc (.cells #[(500:Int),(1000:Int)] 54));have n8:S.heap[Q.heap.size]?=some (.cells #[(500:Int),(1000:Int)] 54):=by rw[<-L];exact Qs
 have V:Old Q S:=by rw[<-L];exact Zp (by go_grown:QB Q _)
 rw[L]at f |-;clear L;have aJ:=V.at (O.at h4);refine xW (fn:=Tryz.f15) (x:=shE) (R:=fun v w=>v=.tuple #[.agg #[(500:Int),(1000:Int)],(0:Int)]/\S.heap.size<=w.heap.size/\∀b,b<S.heap.size->b≠F->w.heap[b]?=S.heap[b]?) ZY fU D4 ZZ f (Zb o Qb) rfl Qb func15 (fun v w t d h=>h) (fun t d=>jT (YG A u J F D I Q.heap.size (S.re t d) aJ n8) fun e w h=>⟨_,h.1,rfl,h.2⟩) ?_;rintro v l7 B7 ⟨rfl,aZ,aQ⟩ aE aU hv;have z1:=X.size;have z2:=O.size;have z3:=V.size;refine k l7 B7 ⟨Qa,fun b hb=>?_⟩ (Blk.le_trans m aE) aU;exact(aQ b Qa Qa).trans ((V.get b Qa).trans ((O.get b Qa).trans (X.get b hb)))
variable {B:Blk}
attribute [local go_sem] Oper.semAt_some fE fP fT dP fD fF
def tmps3(A c:Option Addr)(a b:Nat)(C d X:Option Addr)(x:Nat)(Y:Option Addr)(y f:Nat)(D e:Option Addr)(g:Nat):Array Value:=#[.bool false,.pointer (some b),.int .i64 0,.pointer (some f),.int .i64 0,.pointer (some g),.int .i64 0,undef,undef,undef,undef,.tuple #[.agg #[(30:Int),(1:Int)],(0:Int)],.agg #[.slice A 2 2,.slice c 1 1],.agg #[(0:Int),(0:Int)],.slice (some a) 1 1,.agg #[(1:Int),(10:Int),.slice (some a) 1 1],.tuple #[.agg #[(30:Int),(1:Int)],(0:Int)],.agg #[(30:Int),(1:Int)],.int .i64 0,.tuple #[dD X x Y y,(0:Int)],.agg #[.slice C 2 2,.slice d 1 1],.agg #[(1:Int),(50:Int)],.tuple #[dD X x Y y,(0:Int)],dD X x Y y,.int .i64 0,.tuple #[.agg #[(500:Int),(1000:Int)],(0:Int)],.agg #[.slice D 2 2,.slice e 1 1],.tuple #[.agg #[(500:Int),(1000:Int)],(0:Int)],.agg #[(500:Int),(1000:Int)],.int .i64 0,zu,zu,zu,zu,zu,zu,zu,zu,zu,zu,zu,zu,zu,zu,zu,zu,zu,zu,zu,zu,zu,zu,zu,zu,zu,zu,zu,zu,zu,zu,zu,zu,zu,zu,zu,zu,zu,zu,zu,zu,zu,zu,zu,zu,zu,zu,zu,zu,zu,zu,zu,zu,zu,zu]
def Zq{E:Env} {a:Array Value} (h:AR E B a a)(i:Nat) {v:Value} (e:a.getD i undef=v):VR E B v v:=e▸h.getD i undefR
def CQ(l:World)(t:Nat->Question->Nat)(d:Nat):Calls ZP.P 13 #[] (l.re t d) fun e w=>∃v,e=.returned v/\((∃A a B,v=.agg #[.slice A 2 2,.slice a 1 1]/\BookAt w A 2 Z7 a 1 (ZQ B))/\Old l w):=(jS (l.re t d)).mono fun e w h=>by obtain⟨⟨A,a,B,rfl,c,_⟩,g⟩:=h;exact⟨_,rfl,⟨A,a,B,rfl,c⟩,Ze g⟩
def CR(l:World)(v:Value)(w:World)(t:Nat->Question->Nat)(d:Nat)(h:(∃A a B,v=.agg #[.slice A 2 2,.slice a 1 1]/\BookAt w A 2 Z7 a 1 (ZQ B))/\Old l w):(∃A a B,v=.agg #[.slice A 2 2,.slice a 1 1]/\BookAt (w.re t d) A 2 Z7 a 1 (ZQ B))/\Old l (w.re t d):=by obtain⟨⟨A,a,B,e,c⟩,g⟩:=h;exact⟨⟨A,a,B,e,c.old ((Old.refl w).re t d)⟩,g.re t d⟩
def YM{p:Value->World->Prop} {W t:World} {j:Blk} {q:List Frame} (L:∀b x,j b x->(fun _:Nat=>False) b∨(b=x/\x<t.heap.size/\t.heap[x]?=W.heap[x]?/\ZR.sh=false/\ZR.junk=false)) {A G:Option Addr} {m p1:Nat} {C H X:Option Addr} {x:Nat} {Y:Option Addr} {y p3:Nat} {cs:List Frame} (T:cs≠[]) {l:World} (o:Self ZP (fun _=>False) B l) (f:AR ZP B (tmps2 A G m p1 C H X x Y y p3) (tmps2 A G m p1 C H X x Y y p3)) (U:Old t l)(k:∀D E N l' u,B.le u->Self ZP (fun _=>False) u l'->AR ZP u (tmps3 A G m p1 C H X x Y y p3 D E N) (tmps3 A G m p1 C H X x Y y p3 D E N)->l'.heap[N]?=some (.cells #[(500:Int),(1000:Int)] 54)->Old l l'->LG ZR (StopG ZR p W t j (fun _=>False) q) ((Go.Conc.base 4).at ⟨tmps3 A G m p1 C H X x Y y p3 D E N,[]⟩ [.code aw4]) cs l'):LG ZR (StopG ZR p W t j (fun _=>False) q) ((Go.Conc.base 4).at ⟨tmps2 A G m p1 C H X x Y y p3,[]⟩ [.code aw3]) cs l:=by
 have r:Halts (StopG ZR p W t j (fun _=>False) q):=fG;have e:B.le B:=Blk.le_refl _;rw[show aw3=.seq (codeHd aw3) aw4 from Qb];refine cO r ?_;simp only[codeHd,codeTl,aw3,aw2,aw1,awBody,Tryz.f4,hW,tmps2,dD];refine cT r ?_;simp only[M0,r3,hG,Nat.reduceAdd,w0,List.range,List.range.loop];refine xV (g:=13) (args:=#[]) r ZY fU D4 ZZ o (Zb f Qb) rfl rfl Qc Qb (fun w'=>by simp only[show ZP.P=prog from rfl];kernel_rfl) Qb (AR.empty) (CR l) (CQ l) ?_;rintro v l1 V ⟨⟨D,E,BB,rfl,O⟩,J⟩ I S F;clear o f;walk_nrm;refine eO (g:=15) (args:=#[.agg #[.slice D 2 2,.slice E 1 1],.int .i64 1]) r rfl rfl Qc Qb (fun w'=>by simp only[show ZR.P=prog from rfl];kernel_rfl) ?_;refine YL L S (Zb (((AR.replicate 2 undefR).set 0 (Zq F 26 (v:=.agg #[.slice D 2 2,.slice E 1 1]) Qb)).set 1 (.int .i64 1)) Qb) O (U.trans J) fun M Z Q z o=>?_;have f:=(F.mono z).set 27 (VR.closed 8 (.tuple #[.agg #[(500:Int),(1000:Int)],(0:Int)]) Qb);replace e:=Blk.le_trans I z;rw[cK];clear F;walk_nrm;refine fY r ZZ ZY o (Zb f Qb) rfl rfl Qc Qb (fun s n K h i=>?_);simp only[show ZP.P=prog from rfl];go_simp;first|refine h _ _ ?_|refine i _ ?_
 iterate 5(
  clear h i K s n;intro u a d c;replace e:=Blk.le_trans e a;clear o f a;have o:=d;have f:=c;clear d c;walk_nrm;refine fY r ZZ ZY o (Zb f Qb) rfl rfl Qc Qb (fun s n K h i=>?_);simp only[show ZP.P=prog from rfl];go_simp;first|refine h _ _ ?_|refine i _ ?_)
 clear h i K s n;intro u a d c;replace e:=Blk.le_trans e a;clear o f a;have o:=d;have f:=c;clear d c;walk_nrm;refine cU r ?_;have R:Old M (M.alloc (.cells #[(500:Int),(1000:Int)] 54)):=Zp (by go_grown:QB M _);refine k D E M.heap.size _ _ e o (Zb f Qb) (Qs) (J.trans (Q.trans R))
end Go.Proofs
namespace Go.Proofs
open Go.RowKit Go.Twin Go.Conc
variable {w:World}
def CS(d:GlobOk w):∀b x,awB b x->(fun _:Nat=>False) b∨(b=x/\x<(aK w).heap.size/\(aK w).heap[x]?=w.heap[x]?/\ZR.sh=false/\ZR.junk=false):=fun b x a=>by obtain⟨rfl,a⟩:=a;obtain⟨e,T,f,c,_⟩:=d.ints b a;refine .inr ⟨rfl,?_,R5 w (lE a).1 (lE a).2,rfl,rfl⟩;rw[E8];exact(bO.1 c).1
def YN{b:Value->World->Prop} {cs:List Frame} {p:List Frame} (u:cs≠[])(F:GlobOk w)(k:∀A e a l C g X x Y y o D h d f n,awB.le n->Self ZP (fun _=>False) n f->AR ZP n (tmps3 A e a l C g X x Y y o D h d) (tmps3 A e a l C g X x Y y o D h d)->f.heap[l]?=some (.cells #[(30:Int),(1:Int)] 41)->f.heap[o]?=some (XY X x Y y)->f.heap[d]?=some (.cells #[(500:Int),(1000:Int)] 54)->Old (aK w) f->LG ZR (StopG ZR b w (aK w) awB (fun _=>False) p) ((Go.Conc.base 4).at ⟨tmps3 A e a l C g X x Y y o D h d,[]⟩ [.code aw4]) cs f):LG ZR (StopG ZR b w (aK w) awB (fun _=>False) p) (Frame.enter Tryz.prog 4 #[] .normal) cs (aK w):=by rw[CE];refine X' fG F fun A e a l C g X x Y y o M L i z r I J m=>?_;exact YM (CS F) u z r m fun D h d H G j E s K c=>k A e a l C g X x Y y o D h d H G (Blk.le_trans i j) E s (c.at I) (c.at J) K (m.trans c)
end Go.Proofs
namespace Go.Proofs
open Tryz
open Go.RowKit
def YO{l:List UInt8} (h:c6 l=true):∀c∈l,c≠32/\c≠10:=fun c e=>by
 unfold c6 eR at h;simp only[aY,bJ,y0]at h;obtain⟨i,d⟩:=gR e;have a:=h.2 i (y'.1 d).1;rw[h6,d]at a;simp only[hW]at a;constructor;·rintro rfl;revert a;simp[bB,U0]
 .rintro rfl;revert a;simp[bB,U0]
def kC(k d v b c:Int)(W:List Int):List Int:=if k=1 then d::v::b::c::W else v::b::c::W
def vM(e:List UInt8)(k d v b c:Int)(W:List Int):gG e k d v b c W=e::(if k=1 then nW else nV)::(kC k d v b c W).map Lib.itoa:=by unfold gG kC;split<;>simp
def YP:((bs nV).toList==[109,101,97,110])=true/\((bs nV).toList==[115,104,97,114,101])=false/\((bs nW).toList==[109,101,97,110])=false/\((bs nW).toList==[115,104,97,114,101])=true:=by rw[ByteArray.toList_eq,ByteArray.toList_eq,R6,R6];decide
def YQ(k d v b c:Int)(W:List Int):3<=(kC k d v b c W).length/\(kC k d v b c W).length=W.length+(if k=1 then 4 else 3):=by unfold kC;split<;>simp
def YR{g:List UInt8} {k h v b f:Int} {W:List Int} (e:c6 g=true):cutL (Lib.join (gG g k h v b f W) [32])=gG g k h v b f W:=by
 refine JR _ (by rw[vM];simp) fun x a=>?_;rw[vM]at a;rcases ZA1.1 a with rfl|a;·exact fun c d=>(YO e c d).1
 rcases ZA1.1 a with rfl|a;·split<;>decide
 .obtain⟨n,-,rfl⟩:=L'.1 a;exact fun c d=>((XH n).2 c d).1
section
variable {P:Program} {f:Operand->Value} {o:Oper} {t ty:TypeId} {p q:Operand} {b:Nat} {v0 v1 v2 u0 u1 u2 u3 u4 u5 u6:Value} {x:World}
def YS(g:o.op=.store t p q)(h:v0.oneCell'=true)(d:v1.oneCell'=true)(e:v2.oneCell'=true)(a:Sem.run P (sizeOf t) x=.ok 3 x)(i:f p=.pointer (some ⟨b,4,none⟩))(hq:f q=.agg #[v0,v1,v2])(j:x.heap[b]?=some (.cells #[u0,u1,u2,u3,u4,u5,u6] ty)):(execOp f o).run P x=.ok .skip (((x.setCell ⟨b,4,none⟩ v0).setCell ⟨b,5,none⟩ v1).setCell ⟨b,6,none⟩ v2):=by have c:=bk7 j;unfold execOp;rw[g];simp[go_sem,i,hq,c,a,kG _ _ _ v0 _ h,kG _ _ _ v1 _ d,kG _ _ _ v2 _ e]
def YT{n:Int} (d:o.op=.store t p q)(a:Sem.run P (sizeOf t) x=.ok 1 x)(e:f p=.pointer (some ⟨b,3,none⟩))(hq:f q=.int .i64 n)(g:x.heap[b]?=some (.cells #[u0,u1,u2,u3,u4,u5,u6] ty)):(execOp f o).run P x=.ok .skip (x.setCell ⟨b,3,none⟩ (.int .i64 n)):=by have c:=bk7 g;unfold execOp;rw[d];simp[go_sem,e,hq,c,a]
end
def YU(q:List UInt8)(v l f:Int)(W:List Int)(C:Nat)(w:World)(bC:q.length<=20)(Z:c6 q=true)(t:NumsR 0 v l f W)(bI:W.length=C)(ht:Tabs w):Calls prog 17 #[.string (bs (Lib.join (gG q 0 0 v l f W) [32]))] w fun e P=>(∃A c,e=.returned (.tuple #[.agg #[.string (bs q),(0:Int),(0:Int),v,l,f,.slice A C c],(0:Int)])/\At 1 Zc P A W)/\QB w P:=by
 have bA:=XR (k:=0) bC t;have D:=i' fun X (hb:QB w X)=>XM (bs (Lib.join (gG q 0 0 v l f W) [32])) X (by rw[nU];omega) (ht.below hb);simp only[R6,YR Z]at D;obtain⟨bX,bY,-⟩:=CJ (k:=0) bC t;have bB:∀x∈kC 0 0 v l f W,x.natAbs<10^(12+1):=fun x z=>by
  have h1:=t.ag;have h2:=t.v;have h3:=t.den;have h4:=t.lev;unfold kC at z;split at z
  .simp only[ZA1]at z;rcases z with rfl|rfl|rfl|rfl|z;·omega
   .omega
   .omega
   .omega
   .have:=t.wt x z;omega
  .simp only[ZA1]at z;rcases z with rfl|rfl|rfl|z;·omega
   .omega
   .omega
   .have:=t.wt x z;omega
 have Y:=i' fun(A:Option Addr)(m c:Nat)(X:World)(hb:QB w X)(hA:At 1 Sc X A ((kC 0 0 v l f W).map Lib.itoa))(hm:(kC 0 0 v l f W).length=m)(h9:m<=900)=>XQ A (kC 0 0 v l f W) 12 m c X Qc bB hA hm h9 (ht.below hb);obtain⟨S,hS⟩:=Qu (bs (Lib.join (gG q 0 0 v l f W) [32]));rw[hS]at D |-;rw[vM]at D;have aI:((12+1:Nat):Int)=13:=rfl;simp only[aI]at Y;have aD:=i' t;have cL:=i' Z;have aA:∀x,(sizeOf 60).run prog x=.ok 7 x:=fun x=>Qb
 have aR:∀x,(isAgg 60).run prog x=.ok true x:=fun x=>Qb
 have bE:=i' fun W=>dA v 0 1000 W;have bF:=i' fun W=>dA l 1 1000000000000 W;have bG:=i' fun W=>pX f 1000000000000 W Qc;rw[r2.2 t.v]at bE;rw[r2.2 t.den]at bF;rw[show hT f 1000000000000=true from r2.2 (by have:=t.lev;omega)]at bG;have aO:=i' fun W=>lS (bs q) W (by rw[nU];omega);rw[R6,Z]at aO;have aJ:=i' fun W=>pY 0 0 W;rw[nE.2 ⟨.inl rfl,t.ag.1,t.ag.2⟩]at aJ;clear bA bX bY bB hS ht t Z;obtain⟨q1,q2,q3,q4⟩:=YP;obtain⟨l1,l2⟩:=YQ 0 0 v l f W;have aQ:=aD.out.n;obtain⟨N,hN⟩:=Qu (kC 0 0 v l f W);have bN:=i' hN;rw[hN]at D Y l1 l2;obtain⟨m,hm⟩:=Qu N.length;have bU:=i' hm;obtain⟨n,hn⟩:=Qu (m+1+1);simp only[r3,R',hm,hn]at D Y;have cZ:=i' l2;have cP:3<=m:=Qa
 have cG:m<=12:=by split at l2<;>omega
 have cV:¬(n:Int)<2:=Qa
 have cS:(0:Int)<(n:Int):=Qa
 have cT:(1:Int)<(n:Int):=Qa
 have cU:(2:Int)<=(n:Int):=Qa
 have cR:n-2=m:=Qa
 have cQ:¬(m:Int)<3:=Qa
 have cH:(0:Int)<(m:Int):=Qa
 have cI:(1:Int)<(m:Int):=Qa
 have cJ:(2:Int)<(m:Int):=Qa
 clear hN hm hn l1 l2 aQ aI;simp only[show ¬((0:Int)=1)by decide,Zyk]at D;go_enter func17,ntmps17;go_wp2_with (first|(go_at_call 42;refine(D.out _ Qi).mono ?_;rintro e w2 ⟨⟨A,c,rfl,V,cW⟩,aF⟩;(obtain⟨b,o,rfl,bR,aV⟩:=V 0 _ rfl);(obtain⟨b',o',e1,-,aW⟩:=V 1 _ rfl);cases e1;have y0:=aV 0 _ rfl;have y1:=aW 0 _ rfl;have aK:=i' (V.tail1 2);simp only[sW,eV,pK]at y0 y1;have M0:=Zx aF (ZA w (.cells #[.string (ByteArray.mk #[]),(0:Int),(0:Int),(0:Int),(0:Int),(0:Int),.slice none 0 0] 60) rfl);have cX:=ZE M0;have O:=via (ZB w (.cells #[.string (ByteArray.mk #[]),(0:Int),(0:Int),(0:Int),(0:Int),(0:Int),.slice none 0 0] 60)) aF;clear V aV aW aF)|(go_at_call 43;refine(Y.out _ m _ _ O (by have:=aK.out;simpa using this) rfl Qa).mono ?_;rintro e I ⟨⟨A2,R,rfl,aP⟩,H⟩;have z0:=rL y0 H;have z1:=rL y1 H;have M1:=Zx H M0;have Q:=via O H;have G:=i' aP;have cF:=h8 bR H.size;clear aP H y0 y1 M0)|(refine N0 Qh (.tmp 7) (.tmp 40) 60 Qh I.heap.size [.string (bs q),.int .i64 0,.int .i64 0,.int .i64 0,.int .i64 0,.int .i64 0,.slice none 0 0] [.string (ByteArray.mk #[]),.int .i64 0,.int .i64 0,.int .i64 0,.int .i64 0,.int .i64 0,.slice none 0 0] 60 ?sp ?sq (aA _) ?sb rfl (by simp[Value.oneCell']) ?_));case sp=>rfl
 case sq=>rfl
 case sb=>exact ZA _ _ rfl
 intro w4 E aX bD;have cM:=ZE M1;have d:QB I w4:=ZW (ZB _ _) aX fun b e=>by cases e;exact h' _
 have x0:=rL z0 d;have x1:=rL z1 d;have M2:=Zx d M1;have aS:=via Q d;have hL:=i' (e7 G.out);have aM:=i' ((e7 G.out).below d);have bO:N=v::l::f::W:=by rw[<-bN.out];rfl
 subst bO;have cK:m<=R:=kQ G.out;have bV:m-3=C:=by have:=bU.out;simp at this;omega
 obtain⟨J,o2,rfl,bK,c0⟩:=e' hL.out (k:=0) Qd;obtain⟨_,_,ee,-,c1⟩:=e' hL.out (k:=1) Qd;cases ee;obtain⟨_,_,ee,-,aB⟩:=e' hL.out (k:=2) Qd;cases ee;simp only[hE,hR,sW]at c0 c1 aB;have e0:=rL c0 d;have e1:=rL c1 d;have e2:=rL aB d;have K:=h8 bK d.size;have F:J≠I.heap.size:=Qa
 have aL:J≠w.heap.size:=by have:=(G.out.lt J rfl).1;omega
 clear c0 c1 aB;have F0:=bk7 M2;have F4:=bk7 E;clear aX bD d M1 z0 z1 O;have bP:=aS;have M:=E;have aE:=i' (aM.out.tail1 3);simp only[w8]at aE;clear aS E aM hL;go_wp2;refine hK Qb ?_;refine H2 15 _ rfl rfl Qb Qb Qb Qb ?_;simp only[m',sT];apply qS w 13 I.heap.size (.cells #[.string (bs q),(0:Int),(0:Int),(0:Int),(0:Int),(0:Int),.slice none 0 0] 60) (.cells #[.string (bs q),(0:Int),(0:Int),v,(0:Int),(0:Int),.slice none 0 0] 60);case hB=>kernel_rfl
 case hB'|hS|hN|hkd=>kernel_rfl
 case hw=>exact bP
 case hb=>exact Q.size
 case h4=>exact M
 case hq=>
  intro u hu aZ;have cE:=h8 K hu.2.1;have G0:=(P0 (a:=⟨J,o2,none⟩) (hu.2.2 J K F)).trans e0;have G1:=(P0 (a:=⟨J,o2+1,none⟩) (hu.2.2 J K F)).trans e1;have G2:=(P0 (a:=⟨J,o2+2,none⟩) (hu.2.2 J K F)).trans e2;simp only[mixL,yieldsC,B4,S',Nat.reduceAdd,Nat.reduceBEq,w0,k4,l5,p0,p',l3,Zyl,Zyk,k7,Nat.reduceEqDiff];repeat (go_big_quiet_step (fail))
  exact Zyi rfl
 case hs4=>intro o ho x z hz;simp only[nK,n9,B3]at ho;subst ho;exact⟨_,YT rfl Qb rfl rfl hz,(OnlyB.refl _ _).set _ _,ZJ hz _ rfl⟩
 intro x z hz;refine W2 (YS rfl rfl rfl rfl Qb rfl rfl hz) ?_;obtain⟨U,hA9⟩:∃A:Option Addr,(if R=3 then some ⟨J,o2,none⟩else some ⟨J,o2+3,none⟩)=A:=⟨_,rfl⟩;obtain⟨B,L⟩:=Qu (((x.setCell ⟨I.heap.size,4,none⟩ (.int .i64 l)).setCell ⟨I.heap.size,5,none⟩ (.int .i64 f)).setCell ⟨I.heap.size,6,none⟩ (.slice U C (R-3)));have aC:OnlyB I.heap.size x B:=by rw[<-L];exact(((OnlyB.refl _ _).set _ _).set _ _).set _ _
 have Z9:B.heap[I.heap.size]?=some (.cells #[.string (bs q),(0:Int),(0:Int),v,l,f,.slice U C (R-3)] 60):=by rw[<-L];exact ZJ (ZJ (ZJ hz _ rfl) _ rfl) _ rfl
 have cD:x.heap.size=B.heap.size:=by rw[<-L];simp
 simp only[bV,hA9];rw[L];have aH:∀k,k<w4.heap.size->k≠I.heap.size->B.heap[k]?=w4.heap[k]?:=fun k h1 h2=>(aC.other k h2).trans (z.2.2 k h1 h2);have aT:QB w B:=z.1.trans (aC.below _ Q.size);have M9:=(aH w.heap.size (ZE M2) Qa).trans M2;have aN:=i' (show At 1 Zc B U W from by
  rw[<-hA9];split
  .have h0:C=0:=Qa
   rw[dR (bI.trans h0)];exact fun k x z=>by simp at z
  .exact qJ (aE.out) (by have:=z.2.1;omega) fun g e=>by cases e;exact aH _ K F);have F9:=bk7 Z9;have J0:=bk7 M9;clear L aH aC cD z hz aE e0 e1 e2 M M2;go_wp2_with (first
  |(go_at_call 22;first|(refine Calls.mono (by with_reducible exact bE.out _) ?_;rintro e P ⟨rfl,rfl⟩)|(refine Calls.mono (by with_reducible exact bF.out _) ?_;rintro e P ⟨rfl,rfl⟩))|(go_at_call 44;refine(bG.out _).mono ?_;rintro e P ⟨rfl,rfl⟩));go_loopw [8,105] (fun r i wr=>∃j:Nat,j<=C/\r=.bool true/\i=.int .i64 j/\wr=B)(fun _ i _=>C-(intOf i).toNat);case atStart=>exact⟨0,e6 _,rfl,rfl,rfl⟩
 case round=>
  obtain⟨j,hj,rfl,rfl,rfl⟩:=hrel;by_cases bT:j<C
  .have cO:(j:Int)<(C:Int):=Qa
   obtain⟨b3,o3,rfl,cY,c4⟩:=e' aN.out (k:=j) (by rw[bI];exact bT);obtain⟨y,hy⟩:=Qu (W.getD j 0);have cC:0<=y/\y<=1000000000000:=by rw[<-hy,h6,k2 Qa];exact aD.out.wt _ (D1 _)
   rw[hy]at c4;have bH:=i' fun W=>dA y 0 1000000000000 W;rw[r2.2 cC]at bH;go_wp2_with (go_at_call 22;refine(bH.out _).mono ?_;rintro e P ⟨rfl,rfl⟩);go_roundw;case rel=>exact⟨j+1,Qa,by first|rfl|trivial,Qj,by first|rfl|trivial⟩
   case measure=>exact Qv
  .obtain rfl:C=j:=Qa
   have aQ:=aD.out.n;have bJ:(C:Int)<=8:=Qa
   have cA:decide ((C:Int)<=8)=true:=by simpa using bJ
   go_wp2;refine B9 w 15 Qb Qb aT ?_;intro aZ bS;simp only[m',sT,e5,sA];repeat (go_big_quiet_step (first|(go_at_call 45;with_reducible exact Grew.call (aO.out _))|(go_at_call 46;with_reducible exact Grew.call (aJ.out _))|(go_at_call 21;with_reducible exact Zd (hJ _ _ _))))
   refine Zyi ?_;intro wb s bZ bW;clear aZ bS;have Q9:=Zx s Z9;have P9:=Zx s M9;have bL:=i' (aN.out.below s);have bQ:=via aT s;clear Z9 M9 F9 J0;go_wp2_with (first
    |(go_at_call 19;refine(B0 _ _ _ _ _).mono ?_;rintro e P ⟨rfl,rfl⟩)|(refine kY Qh (.tmp 7) 60 Qh I.heap.size [.string (bs q),.int .i64 0,.int .i64 0,.int .i64 v,.int .i64 l,.int .i64 f,.slice U C (R-3)] 60 ?lp (aR _) (aA _) ?lb ?_)|(refine N0 Qh (.tmp 2) (.tmp 136) 60 Qh w.heap.size [.string (bs q),.int .i64 0,.int .i64 0,.int .i64 v,.int .i64 l,.int .i64 f,.slice U C (R-3)] [.string (ByteArray.mk #[]),.int .i64 0,.int .i64 0,.int .i64 0,.int .i64 0,.int .i64 0,.slice none 0 0] 60 ?sp2 ?sq2 (aA _) ?sb2 rfl (by simp[Value.oneCell']) ?_));case lp=>rfl
   case lb=>exact Zz Q9 _
   all_goals try (case sp2=>rfl)
   all_goals try (case sq2=>rfl)
   case sb2=>exact Zz P9 _
   intro w9 aG aY cN;have aU:QB w w9:=ZW (via bQ (ZB _ _)) aY fun b e=>by have:=D3 e;omega
   have bM:=i' (sM (bL.out.below (ZB _ _)) aY fun g e=>by rw[<-hA9]at e;split at e<;>(cases e;intro h;exact aL (D3 h)));go_wp2;refine x3 (v:=.tuple #[.agg #[.string (bs q),(0:Int),(0:Int),v,l,f,.slice U C (R-3)],(0:Int)]) ?_ rfl ⟨⟨U,R-3,rfl,bM.out⟩,aU⟩;exact b4 (p:=2) (u:=3) (ad:=⟨w.heap.size,0,none⟩) (v:=.agg #[.string (bs q),(0:Int),(0:Int),v,l,f,.slice U C (R-3)]) rfl Qe (y5 (T:=60) (cs:=[.string (bs q),.int .i64 0,.int .i64 0,.int .i64 v,.int .i64 l,.int .i64 f,.slice U C (R-3)]) (aR _) (aA _) aG)
end Go.Proofs
namespace Go.Proofs
open Tryz
open Go.RowKit Go.Twin Go.Conc
def lF:List UInt8:=[111,108,100,49]
def YV:NumsR 0 30 1 10 [20]:=⟨Qc,Qc,Qc,Qc,Qc,Qc⟩
def YW(B:Option Addr):lD Z7 (ZQ B) (bs lF) 0 0 30 1 10 [20]=0:=by
 have a:exs (ZQ B)=exs (ZQ none):=rfl;refine V5 (dY B) Qm (nE.2 Qc) Qc ?_ ?_ ?_;·exact jO.1 (show eF 1 1 10 [20]=0 by decide+kernel)
 .rw[a];decide+kernel
 .rw[a];decide+kernel
def YX:bs (Lib.join (gG lF 0 0 30 1 10 [20]) [32])=ByteArray.mk #[111,108,100,49,32,109,101,97,110,32,51,48,32,49,32,49,48,32,50,48]:=by
 have h:Lib.join (gG lF 0 0 30 1 10 [20]) [32]=[111,108,100,49,32,109,101,97,110,32,51,48,32,49,32,49,48,32,50,48]:=Qm
 rw[h];rfl
def tmps4(A c:Option Addr)(a b:Nat)(C d X:Option Addr)(x:Nat)(Y:Option Addr)(y f:Nat)(D e:Option Addr)(h:Nat)(F g:Option Addr):Array Value:=#[.bool false,.pointer (some b),.int .i64 0,.pointer (some f),.int .i64 0,.pointer (some h),.int .i64 0,.int .i64 1,.int .i64 0,undef,undef,.tuple #[.agg #[(30:Int),(1:Int)],(0:Int)],.agg #[.slice A 2 2,.slice c 1 1],.agg #[(0:Int),(0:Int)],.slice (some a) 1 1,.agg #[(1:Int),(10:Int),.slice (some a) 1 1],.tuple #[.agg #[(30:Int),(1:Int)],(0:Int)],.agg #[(30:Int),(1:Int)],.int .i64 0,.tuple #[dD X x Y y,(0:Int)],.agg #[.slice C 2 2,.slice d 1 1],.agg #[(1:Int),(50:Int)],.tuple #[dD X x Y y,(0:Int)],dD X x Y y,.int .i64 0,.tuple #[.agg #[(500:Int),(1000:Int)],(0:Int)],.agg #[.slice D 2 2,.slice e 1 1],.tuple #[.agg #[(500:Int),(1000:Int)],(0:Int)],.agg #[(500:Int),(1000:Int)],.int .i64 0,.tuple #[(1:Int),(0:Int)],.agg #[.slice F 2 2,.slice g 1 1],.agg #[(4:Int),(5:Int)],.tuple #[(1:Int),(0:Int)],.int .i64 1,.int .i64 0,zu,zu,zu,zu,zu,zu,zu,zu,zu,zu,zu,zu,zu,zu,zu,zu,zu,zu,zu,zu,zu,zu,zu,zu,zu,zu,zu,zu,zu,zu,zu,zu,zu,zu,zu,zu,zu,zu,zu,zu,zu,zu,zu,zu,zu,zu,zu,zu]
def YY(A O:Option Addr)(S b:Nat)(C C2 X:Option Addr)(x:Nat)(Y:Option Addr)(y f:Nat)(D D2:Option Addr)(Z:Nat)(F F2:Option Addr)(w:World)(v:Tabs w)(P:w.heap[b]?=some (.cells #[(30:Int),(1:Int)] 41))(n3:w.heap[f]?=some (XY X x Y y))(n5:w.heap[Z]?=some (.cells #[(500:Int),(1000:Int)] 54)):aw5.wp prog (bodyPost prog Tryz.f4 (Qt w true)) ⟨tmps4 A O S b C C2 X x Y y f D D2 Z F F2,[]⟩ w:=by
 simp only[codeHd,codeTl,aw5,aw4,aw3,aw2,aw1,awBody,Tryz.f4,hW,tmps4,dD];have J:=i' fun W (m:QB w W)=>YU lF 30 1 10 [20] 1 W Qc Qm YV rfl (v.below m);rw[YX]at J;have V:=i' fun W=>jS W;have T:=i' fun W A O B C c (hB:BookAt W A 2 Z7 O 1 (ZQ B)) (i:At 1 Zc W C [20])=>VQ A O C 2 1 2 1 c 1 Z7 (ZQ B) (bs lF) 0 0 30 1 10 [20] W hB (u' B) rfl rfl Qm i rfl Qc;have aG:∀x,(sizeOf 60).run prog x=.ok 7 x:=fun x=>Qb
 have l:=i' P;have p:=i' n3;have q:=i' n5;clear v P n3 n5;go_wp2_with (first|(go_at_call 17;refine(J.out _ (q' _ _)).mono ?_;rintro e w3 ⟨⟨G,c,rfl,i⟩,M⟩;have H:=i' i;clear i));have a:=M;refine e9 ?_;intro u0 E;have X1:u0.heap[b]?=some (.cells #[(30:Int),(1:Int)] 41):=by rw[E];exact Zz (Zx a l.out) _
 have t:u0.heap[f]?=some (XY X x Y y):=by rw[E];exact Zz (Zx a p.out) _
 have X5:u0.heap[Z]?=some (.cells #[(500:Int),(1000:Int)] 54):=by rw[E];exact Zz (Zx a q.out) _
 have X9:u0.heap[w3.heap.size]?=some (.cells #[.string (bs lF),(0:Int),(0:Int),(30:Int),(1:Int),(10:Int),.slice G 1 c] 60):=by rw[E];exact ZA w3 _ rfl
 have N:QB w u0:=by rw[E];exact via a (ZB _ _)
 have U:=i' (show At 1 Zc u0 G [20]by rw[E];exact H.out.below (ZB _ _));clear E H M a l p q;unfold XY at t;refine hK Qb ?_;apply AF w (fun y=>QB u0 y) [39,41] (fun j g=>if j=39 then .agg #[.slice g.a1 2 2,.slice g.a2 1 1]else .int .i64 0)
  (fun L g y=>L 39=true->∃B,BookAt y (g 39).a1 2 Z7 (g 39).a2 1 (ZQ B));case hB=>kernel_rfl
 case hB'=>intro g;kernel_rfl
 case hS|hN=>kernel_rfl
 case hC0=>exact q' _ _
 case hCs=>exact fun y k h m=>h.trans (m.mono h.size)
 case hCw=>exact fun y h=>via N h
 case h0=>intro L h d;rw[h 39 Qd]at d;cases d
 case hst=>intro L L' g y k h I m d;obtain⟨B,hB⟩:=I (by rw[<-h 39 Qd];exact d);exact⟨B,hB.below m⟩
 case hq=>
  have aD:∀W,(binOp .eql 41 (.agg #[(30:Int),(1:Int)]) (.agg #[(30:Int),(1:Int)])).run prog W=.ok (.bool true) W:=fun W=>Qb
  have aA:∀W,(binOp .eql 41 (.agg #[(1:Int),(2:Int)]) (.agg #[(1:Int),(2:Int)])).run prog W=.ok (.bool true) W:=fun W=>Qb
  have aB:∀W,(binOp .eql 54 (.agg #[(500:Int),(1000:Int)]) (.agg #[(500:Int),(1000:Int)])).run prog W=.ok (.bool true) W:=fun W=>Qb
  intro g u R aF N aE;have D1:=bk2 (Zx R X1);have D3:=bk7 (Zx R t);have D5:=bk2 (Zx R X5);have D9:=bk7 (Zx R X9);simp only[mixL,yieldsC,B4,S',Nat.reduceAdd,Nat.reduceBEq,w0,k4,l5,p0,p',l3,Zyl,Zyk,k7,Nat.reduceEqDiff];repeat (go_big_quiet_step (fail))
  exact Zyi rfl
 case hind=>exact Qz
 case hwa=>intro g j s;simp only[ZA1,ZBj,Zyj]at s;rcases s with rfl|rfl<;>(intro o z;simp only[List.getElem?_toArray,nK,n9,B3]at z;subst z;kernel_rfl)
 case hsp=>
  intro j s o z L g y I i K hL r aC;simp only[ZA1,ZBj,Zyj]at s;rcases s with rfl|rfl;·simp only[nK,n9,B3]at z;subst z;refine Q0 Qb ((V.out y).mono ?_);rintro e k ⟨⟨A5,A6,Q,rfl,n,-⟩,m⟩;refine⟨_,rfl,i.trans (m.mono i.size),.inr ⟨{Gh.zero with a1:=A5,a2:=A6},rfl,fun _=>?_⟩⟩;rw[e0];exact⟨Q,n⟩
  .simp only[nK,n9,B3]at z;subst z;have d:L 39=true:=r ⟨39,.data⟩ Qd rfl;obtain⟨Q,n⟩:=I d;refine Q0 Qb ((T.out y _ _ Q G c n (U.out.below i)).mono ?_);rw[YW];rintro e k ⟨rfl,m⟩;refine⟨_,rfl,i.trans (m.mono i.size),.inr ⟨Gh.zero,rfl,fun _=>?_⟩⟩;rw[upd_ne Qc];exact⟨Q,n.below m⟩
 intro g y I i K;clear I;go_wp2;go_ret;exact⟨rfl,K⟩
def Tabs.old{w w':World} (h:Tabs w)(a:Old w w'):Tabs w':=by have:=h.below (⟨rfl,rfl,rfl,a.size,a.get⟩:QB w {w' with os:=w.os,tape:=w.tape,output:=w.output});obtain⟨⟩:=this;constructor<;>assumption
def YZ{b:Frame->List Frame->World->Prop} {A i:Option Addr} {a p:Nat} {C j X:Option Addr} {x:Nat} {Y:Option Addr} {y q:Nat} {D m:Option Addr} {g:Nat} {F n:Option Addr} {l:World} {B:Blk} (L:Self ZP (fun _=>False) B l) (K:AR ZP B (tmps4 A i a p C j X x Y y q D m g F n) (tmps4 A i a p C j X x Y y q D m g F n)) (G:Tabs l) (H:l.heap[p]?=some (.cells #[(30:Int),(1:Int)] 41)) (I:l.heap[q]?=some (XY X x Y y)) (J:l.heap[g]?=some (.cells #[(500:Int),(1000:Int)] 54))(k:∀f o,Ret prog (fun v _=>v=.bool true) f [ZG prog] o->f.fn=4->Old l o->b f [ZG prog] o):LG ZR b ((Go.Conc.base 4).at ⟨tmps4 A i a p C j X x Y y q D m g F n,[]⟩ [.code aw5]) [ZG prog] l:=by refine oZ (E0:=ZP) (E:=ZR) (fn:=Tryz.f4) (R:=fun v w=>v=.bool true/\Old l w) ZY fU ZZ L K rfl Qb func4 (fun t d=>jT (YY A i a p C j X x Y y q D m g F n (l.re t d) (G.old ((Old.refl l).re t d)) H I J) fun e w h=>⟨_,h.1,rfl,Ze h.2⟩) fun f o c r=>.stop _ _ _ ?_;obtain⟨u,v,t,d,z,rfl,s⟩:=c;exact k f o ⟨u,_,t,d,z,rfl⟩ r ⟨s.size,s.get⟩
end Go.Proofs
namespace Go.Proofs
open Go.RowKit Go.Twin Go.Conc
def Aw4:Prop:=∀(f:Value->World->Prop)(W o:World)(c:Blk)(n:List Frame),(∀b x,c b x->(fun _:Nat=>False) b∨(b=x/\x<o.heap.size/\o.heap[x]?=W.heap[x]?/\ZR.sh=false/\ZR.junk=false))->∀(A d:Option Addr) (a k:Nat) (C e X:Option Addr) (x:Nat) (Y:Option Addr) (y m:Nat) (D g:Option Addr) (h:Nat) (cs:List Frame) (l:World) (B:Blk),cs≠[]->Self ZP (fun _=>False) B l->AR ZP B (tmps3 A d a k C e X x Y y m D g h) (tmps3 A d a k C e X x Y y m D g h)->Old o l->(∀F j p i,B.le i->Self ZP (fun _=>False) i p->AR ZP i (tmps4 A d a k C e X x Y y m D g h F j) (tmps4 A d a k C e X x Y y m D g h F j)->Old l p->LG ZR (StopG ZR f W o c (fun _=>False) n) ((Go.Conc.base 4).at ⟨tmps4 A d a k C e X x Y y m D g h F j,[]⟩ [.code aw5]) cs p)->LG ZR (StopG ZR f W o c (fun _=>False) n) ((Go.Conc.base 4).at ⟨tmps3 A d a k C e X x Y y m D g h,[]⟩ [.code aw4]) cs l
def awake_of(b:Aw4) {w:World} (r:GlobOk w)(M:Tabs (aK w)):dX Tryz.prog (Frame.enter Tryz.prog 4 #[] .normal) w fun v=>v=true:=by refine XB r (fun e c L g=>?_) rfl;refine YN Qd r fun A H i T C J X x Y y U D K V O I E u j Q R S d=>?_;refine b e w (aK w) awB (c::L) (CS r) A H i T C J X x Y y U D K V _ O I Qd u j d fun F k l Z G z m a=>?_;exact YZ z m (M.old (d.trans a)) (a.at Q) (a.at R) (a.at S) fun f N h n s=>g f N h n (d.trans (a.trans s)).get
def Y0(a:Option Addr):(solvedL 2 (exs (ZQ a)) [5,1]).map (fun q=>(q.1,q.2.1))=some ([0,1],1):=by rw[fL];kernel_rfl
def Y1(a:Option Addr):(solvedL 2 (exs (ZQ a)) (cL [6,2])).map (fun q=>(q.1,q.2.1))=some ([1,1],2):=by rw[fL];kernel_rfl
def CU(a:Option Addr):cN 2 (ZQ a) [5,1]=(1,1,true):=by unfold cN;rw[fL];kernel_rfl
def CV(a:Option Addr):cN 2 (ZQ a) (cL [6,2])=(-8,2,true):=by unfold cN;rw[fL];kernel_rfl
def Y3(a:Option Addr):gD 2 (ZQ a) [5,1] [6,2] 1=.tuple #[.agg #[(1:Int),(4:Int)],true]:=by unfold gD;rw[CU,CV];kernel_rfl
section
variable {B:Blk} {bs':List Frame} {l w:World}
def Y4{sh:Nat->Prop} {A j b a g:Option Addr} {f k:Nat} {W:Frame} {cs cb:List Frame} (o:BookAt l A 2 Z7 j 1 (ZQ b))(hL:At 1 Zc l a [5,1])(I:At 1 Zc l g [6,2])(h:Rel ZR sh bs' B (Frame.enter ZR.P 39 #[.agg #[.slice A 2 2,.slice j 1 1],.slice a 2 f,.slice g 2 k,.int .i64 1] .normal) cs l W cb w):dX Tryz.prog W w fun v=>v=.tuple #[.agg #[(1:Int),(4:Int)],true]:=by
 have s:=h.st.head.tmps;have R:=qM (.agg #[.slice A 2 2,.slice j 1 1]) (.slice a 2 f) (.slice g 2 k) (.int .i64 1);have L:(Frame.enter ZR.P 39 #[.agg #[.slice A 2 2,.slice j 1 1],.slice a 2 f,.slice g 2 k,.int .i64 1] .normal).tmps=#[.agg #[.slice A 2 2,.slice j 1 1],.slice a 2 f,.slice g 2 k,.int .i64 1]++Array.replicate 52 undef:=by show (Frame.enter Tryz.prog _ _ _).tmps=_;rw[R];rfl
 rw[L]at s;have F:=s.getD 0 (undefR (G:=ZR) (B:=B));have J:=s.getD 1 (undefR (G:=ZR) (B:=B));have K:=s.getD 2 (undefR (G:=ZR) (B:=B));have M:((#[.agg #[.slice A 2 2,.slice j 1 1],.slice a 2 f,.slice g 2 k,.int .i64 1]++Array.replicate 52 undef:Array Value).getD 0 undef)=.agg #[.slice A 2 2,.slice j 1 1]:=by simp[Array.getD]
 have N:((#[.agg #[.slice A 2 2,.slice j 1 1],.slice a 2 f,.slice g 2 k,.int .i64 1]++Array.replicate 52 undef:Array Value).getD 1 undef)=.slice a 2 f:=by simp[Array.getD]
 have O:((#[.agg #[.slice A 2 2,.slice j 1 1],.slice a 2 f,.slice g 2 k,.int .i64 1]++Array.replicate 52 undef:Array Value).getD 2 undef)=.slice g 2 k:=by simp[Array.getD]
 rw[M]at F;rw[N]at J;rw[O]at K;obtain⟨u1,C⟩:=Zn F (i:=0) rfl;obtain⟨u2,D⟩:=Zn F (i:=1) rfl;have V:=rS (l:=l) (n:=2) (c:=2) (Zj C) (rR o.P rfl rfl);have X:=rS (l:=l) (n:=1) (c:=1) (Zj D) (rR o.E.1 rfl rfl);have Y:=rS (l:=l) (n:=2) (c:=f) (Zj J) (rR hL rfl rfl);have Z:=rS (l:=l) (n:=2) (c:=k) (Zj K) (rR I rfl rfl);intro H c ca gs sl t q Q u y U;refine CC (E1:=ZR) (lows:=[5,1]) (ups:=[6,2]) rfl (fun _=>rfl) rfl (dY b).right o.E rfl Qc Qc (fun x T=>by obtain rfl:=y2.1 T;simp) ⟨hL,rfl,rM Qc Qc,fun m d p z=>?_⟩ I rfl (rM Qc Qc) (fun m d p z=>?_) ?_ ?_ V X Y Z h Q u y (fun S=>U (S.trans (show gD Z7.length (ZQ b) [5,1] [6,2] 1=_ from Y3 b)));·have e:=Y0 b;have r:solvedL 2 (exs (ZQ b)) [5,1]=some (m,d,p):=z;rw[r]at e;cases e;exact⟨rfl,rM Qc Qc⟩
 .have e:=Y1 b;have r:solvedL 2 (exs (ZQ b)) (cL [6,2])=some (m,d,p):=z;rw[r]at e;cases e;exact⟨rfl,rM Qc Qc⟩
 .unfold D8;have e:cN Z7.length (ZQ b) [5,1]=_:=CU b;rw[e];intro _;exact⟨Qc,Qc⟩
 .unfold D8;have e:cN Z7.length (ZQ b) (cL [6,2])=_:=CV b;rw[e];intro _;exact⟨Qc,Qc⟩
end
open Tryz
variable {es2:List En} {BB:Option Addr}
attribute [local go_sem] Oper.semAt_some fE fP fT dP fD fF
def oB(A c:Option Addr)(i j:Nat)(d:Option Addr)(b:Nat)(e:Option Addr)(f r:Nat)(g:Option Addr)(m:Nat)(h:Option Addr)(n:Nat)(u11 u33 u34 u35 u36 u37 u38 u39 u40 u41 u42 u43 u44 u45 u46 u47 u48:Value)(a:Nat):Array Value:=#[.agg #[.slice A 2 2,.slice c 1 1],.agg #[(4:Int),(5:Int)],.pointer (some i),.pointer (some j),.int .i64 0,.int .i64 0,.pointer (some r),.int .i64 0,.slice g 2 m,.slice h 2 n,undef,u11,.pointer (some a),.bool true,.tuple #[.agg #[.slice d 2 b,.slice e 3 f],(0:Int)],.agg #[.slice A 2 2,.slice c 1 1],.agg #[(4:Int),(5:Int)],.tuple #[.agg #[.slice d 2 b,.slice e 3 f],(0:Int)],.agg #[.slice d 2 b,.slice e 3 f],.int .i64 0,.int .i64 0,.bool false,undef,.agg #[.slice A 2 2,.slice c 1 1],.bool false,.bool false,.agg #[.slice d 2 b,.slice e 3 f],.bool false,.bool false,.pointer (some i),.slice A 2 2,.int .i64 2,.int .i64 2,u33,u34,u35,u36,u37,u38,u39,u40,u41,u42,u43,u44,u45,u46,u47,u48,.tuple #[.agg #[(1:Int),(4:Int)],true],.agg #[.slice A 2 2,.slice c 1 1],.slice g 2 m,.slice h 2 n,.tuple #[.agg #[(1:Int),(4:Int)],true],.agg #[(1:Int),(4:Int)],.bool true,.bool true,.bool true,.pointer (some a),.int .i64 1,.pointer (some j),.int .i64 4,.bool false,.bool false,.bool false,zu,zu,zu,zu,zu,.bool false]
def Y5(A g:Option Addr)(r d:Nat)(h:Option Addr)(b:Nat)(i:Option Addr)(f s:Nat)(j:Option Addr)(u:Nat)(m:Option Addr)(y:Nat)(u11 u33 u34 u35 u36 u37 u38 u39 u40 u41 u42 u43 u44 u45 u46 u47 u48:Value)(a:Nat)(w:World)(C:w.heap[d]?=some (.cells #[(4:Int),(5:Int)] 54))(c:w.heap[a]?=some (.cells #[(1:Int),(4:Int)] 54)):agY.wp prog (fun e n k=>e=.normal/\n.defers=[]/\n.tmps=oB A g r d h b i f s j u m y u11 u33 u34 u35 u36 u37 u38 u39 u40 u41 u42 u43 u44 u45 u46 u47 u48 a/\QB w k) ⟨JB A g 2 2 1 1 4 5 r d h b i f s j u m y u11 u33 u34 u35 u36 u37 u38 u39 u40 u41 u42 u43 u44 u45 u46 u47 u48 1 4 a,[]⟩ w:=by simp only[agY,agX,cHd,cTl,ag6,ag5,ag4,ag3,ag2,ag1,agBody,Tryz.f16,hW,JB];have D:=bk2 C;have z:=bk2 c;go_wp2;exact⟨rfl,q' _ _⟩
def Y6(A c:Option Addr)(j m:Nat)(d:Option Addr)(b:Nat)(g:Option Addr)(e n:Nat)(h:Option Addr)(r:Nat)(i:Option Addr)(s:Nat)(u11 u33 u34 u35 u36 u37 u38 u39 u40 u41 u42 u43 u44 u45 u46 u47 u48:Value)(a:Nat)(w:World):ag7.wp prog (bodyPost prog Tryz.f16 (Qt w (.tuple #[(1:Int),(0:Int)]))) ⟨oB A c j m d b g e n h r i s u11 u33 u34 u35 u36 u37 u38 u39 u40 u41 u42 u43 u44 u45 u46 u47 u48 a,[]⟩ w:=by simp only[cHd,cTl,ag7,ag6,ag5,ag4,ag3,ag2,ag1,agBody,Tryz.f16,hW,oB];go_wp2;go_ret2;exact⟨rfl,q' _ _⟩
def CW(h:es2.map En.sig=(ZQ BB).map En.sig++wcL Z7 4 5):exs es2=[([0,-2],-1),([5,1],5),([-6,-2],-4)]:=by
 have e:exs es2=(es2.map En.sig).map fun s=>(s.2.1,s.2.2):=by simp only[exs,dN];rfl
 rw[e,h];rfl
def Y7(h:es2.map En.sig=(ZQ BB).map En.sig++wcL Z7 4 5):RightE es2 2/\es2.length=3:=by
 have g:es2.length=3:=by have:=w6 List.length h;simpa [ZQ,wcL] using this
 refine⟨⟨Qa,fun x i=>?_⟩,g⟩;have d:x.ex∈exs es2:=jR i;rw[CW h]at d;have e:x.co.length=2/\(∀n∈x.co,n.natAbs<=20)/\x.mo.natAbs<=20:=by simp only[ZA1,ZBj,Zyj,En.ex,oO]at d;rcases d with⟨a,c⟩|⟨a,c⟩|⟨a,c⟩<;>rw[a,c]<;>exact⟨rfl,Qc,Qc⟩
 exact e
def Y8(BB:Option Addr):wcE Z7 (ZQ BB) 4 5=0:=by
 unfold wcE;rw[aS];intro e a;simp only[ZA1,ZBj,Zyj]at a;rcases a with rfl|rfl|rfl|rfl;·exact hI.2 (dY BB)
 .decide
 .have c:z' (ZQ BB) mostS=false:=by have:z' (ZQ BB) mostS=z' (ZQ none) mostS:=rfl;rw[this];decide+kernel
  have d:z' (ZQ BB) leastS=false:=by have:z' (ZQ BB) leastS=z' (ZQ none) leastS:=rfl;rw[this];decide+kernel
  rw[c,d];rfl
 .rfl
def Y9(BB:Option Addr):F7 2 (exs (ZQ BB))=false:=by rw[fL];kernel_rfl
def Y'(h:es2.map En.sig=(ZQ BB).map En.sig++wcL Z7 4 5):F7 2 (exs es2)=false:=by rw[CW h];kernel_rfl
def Z'{e:Nat} {α:Type} {cs:α->List Value} {l:World} {A:Option Addr} {c:List α} (h:At e cs l A c) {x:α} (d:c[0]?=some x):A≠none:=by rintro rfl;obtain⟨b,o,a,_⟩:=h 0 x d;cases a
end Go.Proofs
namespace Go.Proofs
open Tryz
open Go.RowKit Go.Twin Go.Conc
attribute [local go_sem] Oper.semAt_some fE fP fT dP fD fF
def Aa (A a:Option Addr):Frame.enter prog 16 #[.agg #[.slice A 2 2,.slice a 1 1],.agg #[(4:Int),(5:Int)]] .normal=(Go.Conc.base 16).at ⟨lY A a 2 2 1 1 4 5,[]⟩ [.code agBody]:=by rw[CL (fn:=Tryz.f16) (c:=Tryz.f16.body.getD .skip) _ func16 rfl];kernel_rfl
def BookAt.re{w:World} {e a:Option Addr} {g c:Nat} {b:List Pa} {es:List En} (h:BookAt w e g b a c es)(t:Nat->Question->Nat)(d:Nat):BookAt (w.re t d) e g b a c es:=h.old ((Old.refl w).re t d)
def Ab{q:Value->World->Prop} {W l0:World} {I:Blk} {bs':List Frame} (aX:∀b x,I b x->(fun _:Nat=>False) b∨(b=x/\x<l0.heap.size/\l0.heap[x]?=W.heap[x]?/\ZR.sh=false/\ZR.junk=false)) {A u BB:Option Addr} {c:Frame} {cs:List Frame} {l:World} {B:Blk} (f:Self ZP (fun _=>False) B l)(o:AR ZP B #[.agg #[.slice A 2 2,.slice u 1 1],.agg #[(4:Int),(5:Int)]] #[.agg #[.slice A 2 2,.slice u 1 1],.agg #[(4:Int),(5:Int)]])(hB:BookAt l A 2 Z7 u 1 (ZQ BB))(ho:Old l0 l)(k:∀l' T,Old l l'->B.le T->Self ZP (fun _=>False) T l'->LG ZR (StopG ZR q W l0 I (fun _=>False) bs') (c.finish (.tuple #[(1:Int),(0:Int)])) cs l'):LG ZR (StopG ZR q W l0 I (fun _=>False) bs') (Frame.enter prog 16 #[.agg #[.slice A 2 2,.slice u 1 1],.agg #[(4:Int),(5:Int)]] .normal) (c::cs) l:=by
 have z:Halts (StopG ZR q W l0 I (fun _=>False) bs'):=fG;rw[Aa];have aG:AR ZP B (lY A u 2 2 1 1 4 5) (lY A u 2 2 1 1 4 5):=Zb (o.append (AR.replicate 69 undefR)) Qb;rw[show agBody=.seq (cHd agBody) ag1 from Qb];refine cO z ?_;refine z7 (R:=fun y p=>(∃G H,y.tmps=nP A u 2 2 1 1 4 5 G H/\p.heap[G]?=some (.cells #[.slice A 2 2,.slice u 1 1] 25)/\p.heap[H]?=some (.cells #[(4:Int),(5:Int)] 54))/\Old l p) ZY fU D4 ZZ f aG rfl Qb (fun v w t d h=>⟨h.1,h.2.size,h.2.get⟩) (fun t d=>F1 (fun e y p h=>⟨h.1,h.2.1,h.2.2.1,(Ze h.2.2.2).size,(Ze h.2.2.2).get⟩) (WA A u 2 2 1 1 4 5 _)) ?_;rintro⟨tm,df⟩ l1 B1 ⟨⟨G,H,Q,m2,m3⟩,aT⟩ S aM aY aH;cases Q;cases S;have aB:=hB.old aT;rw[show ag1=.seq (cHd ag1) ag2 from Qb];refine cO z ?_;refine z7 (R:=fun y p=>BU A u 2 2 1 1 4 5 Z7 (ZQ BB) G H y.tmps p/\Old l1 p) ZY fU D4 ZZ aY aH rfl Qb (fun v w t d h=>⟨by obtain⟨J,N,L,O,M,es2,g1,g2,g3,g4⟩:=h.1;exact⟨J,N,L,O,M,es2,g1,g2,g3,g4.re t d⟩,h.2.size,h.2.get⟩) (fun t d=>F1 (fun e y p h=>⟨h.1,h.2.1,h.2.2.1,(Ze h.2.2.2).size,(Ze h.2.2.2).get⟩) (WB A u 2 2 1 1 4 5 Z7 (ZQ BB) G H (l1.re t d) (aB.re t d) (u' BB) rfl rfl (fun h=>absurd h (Z' aB.P rfl)) (Y8 BB) m2 m3)) ?_;rintro⟨tm,df⟩ l2 B2 ⟨⟨J,N,L,O,M,es2,Q,m6,bE,bG⟩,Y⟩ S aN bA aI;cases Q;cases S;obtain⟨bK,bM⟩:=Y7 bE;have aA:=aB.old Y;have aE:=Y.at m2;have bT:=Y.at m3;rw[show ag2=.seq (cHd ag2) ag3 from Qb];refine cO z ?_;refine z7 (R:=fun y p=>(y.tmps=nQ A u 2 2 1 1 4 5 G H J N L O M)/\Old l2 p) ZY fU D4 ZZ bA aI rfl Qb (fun v w t d h=>⟨h.1,h.2.size,h.2.get⟩) (fun t d=>F1 (fun e y p h=>⟨h.1,h.2.1,h.2.2.1,(Ze h.2.2.2).size,(Ze h.2.2.2).get⟩) (WC A u 2 2 1 1 4 5 G H J N L O M _)) ?_;rintro⟨tm,df⟩ l3 B3 ⟨Q,U⟩ S aO bB aJ;cases Q;cases S;rw[show ag3=.seq (cHd ag3) ag4 from Qb];refine cO z ?_;refine z7 (R:=fun y p=>(y.tmps=nR A u 2 2 1 1 4 5 G H J N L O M)/\Old l3 p) ZY fU D4 ZZ bB aJ rfl Qb (fun v w t d h=>⟨h.1,h.2.size,h.2.get⟩) (fun t d=>F1 (fun e y p h=>⟨h.1,h.2.1,h.2.2.1,(Ze h.2.2.2).size,(Ze h.2.2.2).get⟩) (WD A u 2 2 1 1 4 5 (ZQ BB) es2 G H J N L O M (l3.re t d) (dY BB).right ((aA.old U).re t d).E rfl Qc Qc bK ((bG.old U).re t d).E bM (Y9 BB) (Y' bE) (U.at aE) (U.at m6))) ?_;rintro⟨tm,df⟩ l4 B4 ⟨Q,bO⟩ S aP bC aK;cases Q;cases S;rw[show ag4=.seq (cHd ag4) ag5 from Qb];refine cO z ?_;refine z7 (R:=fun y p=>(y.tmps=nS A u 2 2 1 1 4 5 G H J N L O M)/\Old l4 p) ZY fU D4 ZZ bC aK rfl Qb (fun v w t d h=>⟨h.1,h.2.size,h.2.get⟩) (fun t d=>F1 (fun e y p h=>⟨h.1,h.2.1,h.2.2.1,(Ze h.2.2.2).size,(Ze h.2.2.2).get⟩) (WE A u 2 2 1 1 4 5 G H J N L O M _)) ?_;rintro⟨tm,df⟩ l5 B5 ⟨Q,bP⟩ S aQ bD aL;cases Q;cases S;have D:=(U.trans bO).trans bP;have aF:=aA.old D;rw[show ag5=.seq (cHd ag5) ag6 from Qb];refine cO z ?_;refine z7 (R:=fun y p=>BV A u 2 2 1 1 4 5 Z7 G H J N L O M l5.heap.size y.tmps p/\Old l5 p) ZY fU D4 ZZ bD aL rfl Qb (fun v w t d h=>⟨h.1,h.2.size,h.2.get⟩) (fun t d=>F1 (fun e y p h=>⟨h.1,h.2.1,h.2.2.1,(Ze h.2.2.2).size,(Ze h.2.2.2).get⟩) (WG A u 2 2 1 1 4 5 Z7 G H J N L O M (l5.re t d) (aF.re t d).P rfl Qc Qc (D.at aE))) ?_;rintro⟨tm,df⟩ l6 B6 ⟨⟨L1,r,L2,s,u11,u33,u34,u35,u36,u37,u38,u39,u40,u41,u42,u43,u44,u45,u46,u47,u48,Q,o1,o2⟩,Z⟩ S aR f o;cases Q;cases S;have m:=Blk.le_trans (Blk.le_trans (Blk.le_trans (Blk.le_trans (Blk.le_trans aM aN) aO) aP) aQ) aR;have bH:=aF.old Z;have n2:=Z.at (D.at aE);have n3:=Z.at (D.at bT);have aW:Old l l6:=aT.trans (Y.trans (D.trans Z));have bI:At 1 Zc l6 L1 [5,1]:=K2 o1 rfl;have bJ:At 1 Zc l6 L2 [6,2]:=K2 o2 rfl;have D2:=bk2 n2;clear aY bA bB bC bD aH aI aJ aK aL aG;rw[show ag6=.seq agX ag7 from Qb];refine cO z ?_;rw[show agX=.seq (cHd agX) agY from Qb];refine cO z ?_;simp only[cHd,cTl,agX,ag6,ag5,ag4,ag3,ag2,ag1,agBody,Tryz.f16,hW,BS];refine cT z ?_;simp only[M0,r3,hG,Nat.reduceAdd,w0,List.range,List.range.loop];refine fY z ZZ ZY f (Zb o Qb) rfl rfl Qc Qb (fun F C K r s=>?_);simp only[show ZP.P=prog from rfl];go_simp;first|refine r _ _ ?_|refine s _ ?_
 iterate 2(
  clear r s K F C;intro T a j i;replace m:=Blk.le_trans m a;clear f o a;have f:=j;have o:=i;clear j i;walk_nrm;refine fY z ZZ ZY f (Zb o Qb) rfl rfl Qc Qb (fun F C K r s=>?_);simp only[show ZP.P=prog from rfl];go_simp;first|refine r _ _ ?_|refine s _ ?_)
 clear r s K F C;intro T a j i;replace m:=Blk.le_trans m a;clear f o a;have f:=j;have o:=i;clear j i;walk_nrm;refine eO (g:=39) (args:=#[.agg #[.slice A 2 2,.slice u 1 1],.slice L1 2 r,.slice L2 2 s,.int .i64 1]) z rfl rfl Qc Qb (fun p=>by simp only[show ZR.P=prog from rfl];kernel_rfl) ?_;refine .stop _ _ _ (xO (R:=fun v=>v=.tuple #[.agg #[(1:Int),(4:Int)],true]) pD aX Qd (fun c h=>by cases h) (ho.trans aW).get (fun h hO=>Y4 bH bI bJ h) (fun v hv=>by subst hv;kernel_rfl) fun v n hv=>?_);subst hv;rw[cK];have f:=f.pad n;have o:=o.set 53 (VR.closed 8 (.tuple #[.agg #[(1:Int),(4:Int)],true]) Qb);have aD:Old l6 (pad l6 n):=⟨by rw[eN];omega,fun b hb=>Q2 l6 n hb⟩;obtain⟨V,bN⟩:=Qu (pad l6 n);rw[bN]at f aD |-;walk_nrm;refine fY z ZZ ZY f (Zb o Qb) rfl rfl Qc Qb (fun F C K r s=>?_);simp only[show ZP.P=prog from rfl];go_simp;first|refine r _ _ ?_|refine s _ ?_
 iterate 5(
  clear r s K F C;intro T a j i;replace m:=Blk.le_trans m a;clear f o a;have f:=j;have o:=i;clear j i;walk_nrm;refine fY z ZZ ZY f (Zb o Qb) rfl rfl Qc Qb (fun F C K r s=>?_);simp only[show ZP.P=prog from rfl];go_simp;first|refine r _ _ ?_|refine s _ ?_)
 clear r s K F C;intro T a j i;replace m:=Blk.le_trans m a;clear f o a;have f:=j;have o:=i;clear j i;walk_nrm;refine cU z ?_;obtain⟨l8,X⟩:=Qu (V.alloc (.cells #[(1:Int),(4:Int)] 54));have bU:l8.heap[V.heap.size]?=some (.cells #[(1:Int),(4:Int)] 54):=by rw[<-X];exact Qs
 have aV:Old V l8:=by rw[<-X];exact Zp (by go_grown:QB V _)
 rw[X]at f |-;clear X;have bV:=aV.at (aD.at n3);refine z7 (x:=agY) (R:=fun y p=>y.tmps=oB A u G H J N L O M L1 r L2 s u11 u33 u34 u35 u36 u37 u38 u39 u40 u41 u42 u43 u44 u45 u46 u47 u48 V.heap.size/\Old l8 p) ZY fU D4 ZZ f (Zb o Qb) rfl Qb (fun v w t d h=>⟨h.1,h.2.size,h.2.get⟩) (fun t d=>F1 (fun e y p h=>⟨h.1,h.2.1,h.2.2.1,(Ze h.2.2.2).size,(Ze h.2.2.2).get⟩) (Y5 A u G H J N L O M L1 r L2 s u11 u33 u34 u35 u36 u37 u38 u39 u40 u41 u42 u43 u44 u45 u46 u47 u48 V.heap.size (l8.re t d) bV bU)) ?_;rintro⟨tm,df⟩ l9 B9 ⟨Q,bQ⟩ S aS bR bL;cases Q;cases S;refine xW (fn:=Tryz.f16) (x:=ag7) (R:=fun v w=>v=.tuple #[(1:Int),(0:Int)]/\Old l9 w) ZY fU D4 ZZ bR bL rfl Qb func16 (fun v w t d h=>⟨h.1,h.2.size,h.2.get⟩) (fun t d=>jT (Y6 A u G H J N L O M L1 r L2 s u11 u33 u34 u35 u36 u37 u38 u39 u40 u41 u42 u43 u44 u45 u46 u47 u48 V.heap.size (l9.re t d)) fun e w h=>⟨_,h.1,rfl,Ze h.2⟩) ?_;rintro v bS bF ⟨rfl,aU⟩ aC aZ hv;exact k bS bF (aW.trans (aD.trans (aV.trans (bQ.trans aU)))) (Blk.le_trans m (Blk.le_trans aS aC)) aZ
def Ac:Aw4:=by
 intro G W Z E b M A p T p1 C C2 X x Y y p3 D D2 p5 cs l B U i h V k;have r:Halts (StopG ZR G W Z E (fun _=>False) b):=fG;have e:B.le B:=Blk.le_refl _;rw[show aw4=.seq (codeHd aw4) aw5 from Qb];refine cO r ?_;simp only[codeHd,codeTl,aw4,aw3,aw2,aw1,awBody,Tryz.f4,hW,tmps3,dD];refine cT r ?_;simp only[M0,r3,hG,Nat.reduceAdd,w0,List.range,List.range.loop];refine xV (g:=13) (args:=#[]) r ZY fU D4 ZZ i (Zb h Qb) rfl rfl Qc Qb (fun o=>by simp only[show ZP.P=prog from rfl];kernel_rfl) Qb (AR.empty) (CR l) (CQ l) ?_;rintro v l1 q ⟨⟨F,Q,w,rfl,R⟩,L⟩ J N H;clear i h;walk_nrm;replace e:=J;have i:=N;have h:=H;clear N H;refine fY r ZZ ZY i (Zb h Qb) rfl rfl Qc Qb (fun s n K j m=>?_);simp only[show ZP.P=prog from rfl];go_simp;first|refine j _ _ ?_|refine m _ ?_
 clear j m K s n;intro z a d c;replace e:=Blk.le_trans e a;clear i h a;have i:=d;have h:=c;clear d c;walk_nrm;refine eO (g:=16) (args:=#[.agg #[.slice F 2 2,.slice Q 1 1],.agg #[(4:Int),(5:Int)]]) r rfl rfl Qc Qb (fun o=>by simp only[show ZR.P=prog from rfl];kernel_rfl) ?_;refine Ab M i (Zb (((AR.replicate 2 undefR).set 0 (Zq h 31 (v:=.agg #[.slice F 2 2,.slice Q 1 1]) Qb)).set 1 (Zq h 32 (v:=.agg #[(4:Int),(5:Int)]) Qb)) Qb) R (V.trans L) fun f t S u O=>?_;have I:=(h.mono u).set 33 (VR.closed 8 (.tuple #[(1:Int),(0:Int)]) Qb);replace e:=Blk.le_trans e u;rw[cK];clear h i;have i:=O;have h:=I;clear I O;walk_nrm;refine fY r ZZ ZY i (Zb h Qb) rfl rfl Qc Qb (fun s n K j m=>?_);simp only[show ZP.P=prog from rfl];go_simp;first|refine j _ _ ?_|refine m _ ?_
 iterate 4(
  clear j m K s n;intro z a d c;replace e:=Blk.le_trans e a;clear i h a;have i:=d;have h:=c;clear d c;walk_nrm;refine fY r ZZ ZY i (Zb h Qb) rfl rfl Qc Qb (fun s n K j m=>?_);simp only[show ZP.P=prog from rfl];go_simp;first|refine j _ _ ?_|refine m _ ?_)
 clear j m K s n;intro z a d c;replace e:=Blk.le_trans e a;clear i h a;have i:=d;have h:=c;clear d c;walk_nrm;refine cU r ?_;exact k F Q f _ e i (Zb h Qb) (L.trans S)
def Ad{w:World} (a:GlobOk w)(c:Tabs (aK w)):dX prog (Frame.enter prog 4 #[] .normal) w fun v=>v=true:=awake_of Ac a c
end Go.Proofs
namespace Go.Proofs
open Tryz
open Go.RowKit Go.Twin Go.Conc
variable {W w:World} {p:Nat}
noncomputable def rA(n p q:Nat)(s:String):Code:=.region n #[{dst:=some p,op:=.call {callee:=.value (.func 4),args:=#[],argTypes:=#[]},type:=4,pos:=s,after:=#[],guard:=none},{dst:=some q,op:=.unOp .not 4 (.tmp p),type:=4,pos:=s,after:=#[{on:=0,ground:=.data}],guard:=none}] false
def Ae(d:Kept1 W w):Old (aK W) (aK w):=by
 refine⟨by rw[E8,E8];exact d.size,fun b a=>?_⟩;rw[E8]at a;have c:b<w.heap.size:=h8 a d.size;unfold aK;simp only[bD,zW];by_cases g:4=b;·subst g;simp[a,c]
 .by_cases e:3=b;·subst e;simp[a,c]
  .simp[e,g,d.heap b a]
def Tabs.kept(h:Tabs (aK W))(a:Kept1 W w):Tabs (aK w):=h.old (Ae a)
def Old.pad(l:World)(n:Nat):Old l (Twin.pad l n):=⟨by rw[eN];omega,fun b a=>Q2 l n a⟩
def Af(p:Nat):bI.op (.unOp .not 4 (.tmp p))=true:=by simp[Env.op,Env.op0,Env.darkOp,Op.operands,Env.operand]
def Ag{ρ:Operand->Value} {o:Oper} (h:ρ (.tmp p)=.bool true)(a:o.op=.unOp .not 4 (.tmp p))(w:World):(execOp ρ o).run prog w=.ok (.value (.bool false)) w:=by unfold execOp;rw[a];go_simp
noncomputable def lG(W:World):World:=cC bI (fun _=>False) W
def Ah{F:Nat} {fn:Func} {c0 x rest:Code} {n q:Nat} {s:String} {args:Array Value} {o:Value->World->Prop} {T:Array Value->World->Prop} (hf:prog.funcs[F]?=some fn) (B:fn.body=some (.seq c0 (.seq (.seq (rA n p q s) (.cond (.tmp q) x .skip)) rest))) (hm:aV (.seq c0 (.seq (.seq (rA n p q s) (.cond (.tmp q) x .skip)) rest))=true)(Z:bI.code c0=true)(aA:bI.code rest=true)(hi:prog.inits.idxOf? F=none)(i:GlobOk W)(ht:Tabs (aK W))(ha:AR bI (idX (aW (fun _=>False) W)) args args)(aJ:p≠q)(O:∀c w k,T c w->Old w k->T c k)(U:∀c w,T c w->p<c.size/\q<c.size)(h0:∀l,Old (lG W) l->c0.wp prog (fun e a k=>e=.normal/\a.defers=[]/\T a.tmps k/\QB l k) ⟨args++Array.replicate (fn.ntmps-args.size) undef,[]⟩ l)(hr:∀c w,T c w->rest.wp prog (bodyPost prog fn (Qt w true)) ⟨(c.setIfInBounds p (.bool true)).setIfInBounds q (.bool false),[]⟩ w)(hk:∀k,Kept1 W k->o (.bool true) k):Fin prog o #[G (Frame.enter prog F args .normal) []] W none #[]:=by
 have M:prog.globals.size<=W.heap.size:=i.size;refine QL (S:=bI) (E:=j9) (D:=fun _=>False) HQ E4 rfl rfl rfl (fn:=fn) hf B hm (fun g i=>by cases i) (fun g i=>by cases i) M ha ?_;have r:Halts (StopG j9 o W (cC bI (fun _=>False) W) (idX (aW (fun _=>False) W)) (aW (fun _=>False) W) []):=fG;have e0:Frame.enter j9.P F args .normal=(Go.Conc.base F).at ⟨args++Array.replicate (fn.ntmps-args.size) undef,[]⟩ [.code (.seq c0 (.seq (.seq (rA n p q s) (.cond (.tmp q) x .skip)) rest))]:=CL _ hf B;rw[e0];have hs:=QI (S:=bI) (D:=fun _=>False) (w:=W) rfl (fun g i=>by cases i) (fun g i=>by cases i) M;refine cO r ?_;refine z7 (E0:=bI) (E:=j9) (R:=fun a' k=>T a'.tmps k/\Old (lG W) k) FQ HP Q4 E4 hs (ha.append (AR.replicate _ undefR)) rfl Z (fun v w t d h=>⟨O _ _ _ h.1 ((Old.refl w).re t d),h.2.size,h.2.get⟩) (fun t d=>F1 (fun e a' k h=>⟨h.1,h.2.1,h.2.2.1,Ze h.2.2.2⟩) (h0 _ ((Old.refl (lG W)).re t d))) ?_;rintro⟨c,df⟩ N B1 ⟨Q,J⟩ e2 aH j V;cases e2;refine cO r (cO r ?_);simp only[rA];refine cT r ?_;simp only[M0,r3,hG,Nat.reduceAdd,w0,List.range,List.range.loop];refine .stop _ _ _ (QJ (E:=j9) (g:=4) (R:=fun v=>v=.bool true) HQ (fun b x B=>.inl B.2) Qd rfl rfl (fun a w=>?_) (fun a w=>?_) J.get (fun I=>Ad (i.kept I) (ht.kept I)) (fun v h=>by subst h;rfl) fun v m hv=>?_);·simp only[show j9.P=prog from rfl];kernel_rfl
 .simp only[show j9.P=prog from rfl];kernel_rfl
 subst hv;have z:Old N (Twin.pad N m):=Old.pad N m;replace j:=j.pad m;obtain⟨A,aC⟩:=Qu (Twin.pad N m);rw[aC]at z j |-;have C:=O _ _ _ Q z;have X:AR bI B1 (c.setIfInBounds p (.bool true)) (c.setIfInBounds p (.bool true)):=V.set p (.bool true);obtain⟨aE,aF⟩:=U _ _ C;have H:(c.setIfInBounds p (.bool true)).getD p undef=true:=by rw[fX,bQ aE];rfl
 have y:((c.setIfInBounds p (.bool true)).setIfInBounds q (.bool false)).getD q undef=false:=by rw[fX,bQ (by simpa using aF)];rfl
 refine fY (E0:=bI) (a:=⟨c.setIfInBounds p (.bool true),[]⟩) r E4 FQ j X rfl rfl (fun h=>by cases h) (Af p) (fun tt dd K k1 k2=>?_);have ev:(⟨c.setIfInBounds p (.bool true),[]⟩:Act).eval (.tmp p)=true:=H;simp only[show bI.P=prog from rfl];rw[show (execOp (⟨c.setIfInBounds p (.bool true),[]⟩:Act).eval (#[{dst:=some p,op:=Op.call {callee:=Callee.value (Operand.func 4),args:=#[],argTypes:=#[]},type:=4,pos:=s,after:=#[],guard:=none},{dst:=some q,op:=Op.unOp UnOp.not 4 (Operand.tmp p),type:=4,pos:=s,after:=#[{on:=0,ground:=Ground.data}],guard:=none}][1])).run prog (A.re tt dd)=.ok (.value (.bool false)) (A.re tt dd)from Ag ev rfl _];refine k1 _ _ ?_;clear k1 k2 K;intro B2 aI aG Y;refine cU r ?_;refine tU r (t:=false) rfl y ?_;simp only[l3,Zyk];refine xG r ?_;refine oZ (E0:=bI) (E:=j9) (fn:=fn) (R:=fun v w=>v=.bool true/\Old A w) FQ HP E4 aG Y rfl aA hf (fun t d=>jT (hr _ _ (O _ _ _ C ((Old.refl A).re t d))) fun e w h=>⟨_,h.1,rfl,Ze h.2⟩) fun f l' L aB=>.stop _ _ _ ?_;obtain⟨hc,v,t,d,hl,rfl,ho⟩:=L;refine QK (u:=.bool true) (R:=fun v _=>v=.bool true) Qe (by rw[aB];exact hi) ⟨hc,_,t,d,hl,rfl⟩ (fun v t d h=>h) rfl ?_ hk;have aD:Old A l':=⟨ho.size,ho.get⟩;exact(J.trans (z.trans aD)).get
end Go.Proofs
