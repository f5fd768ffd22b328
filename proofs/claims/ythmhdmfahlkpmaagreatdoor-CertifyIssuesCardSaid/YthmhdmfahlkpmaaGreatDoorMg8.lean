import Derived.Shelf.Utf8.RuneCount
import Derived.Shelf.Strconv.Atoi
import Derived.Shelf.Strconv.Itoa3
import Derived.Shelf.Strings.Shaped
import Derived.Shelf.Strings.Prefix
import Derived.Shelf.Strings.SplitShaped
import Derived.Shelf.Strings.Explode
import Derived.Shelf.Unicode.DecodeAny
import Derived.Shelf.Slices.Clone
import Derived.Shelf.SlicesE.Clone
import Derived.Test.YthmhdmfahlkpmaaGreatDoorMg7
import Derived.Lib.AppendIntMem
set_option linter.all false
set_option maxRecDepth 100000
set_option maxHeartbeats 16000000
namespace Go
def iZ:=@Code.wp_mono
def xX:=@World.block_lt_of_cell?
def sG:=@List.mem_map_of_mem
def EN:=@List.getElem?_toArray
end Go
namespace Go.Proofs
open Tryz
open Go.Shelf
def Tryz.lays172_ren:Go.Shelf.Ren:=⟨fun|172=>108|244=>118|245=>119|247=>129|279=>130|280=>131|281=>132|282=>133|287=>140|316=>141|171=>109|205=>142|321=>147|322=>148|243=>120|246=>134|283=>143|284=>144|285=>145|286=>146|129=>150|317=>149|318=>151|319=>152|320=>153|337=>154|338=>155|n=>n,fun|9=>9|3=>3|75=>167|76=>168|4=>4|5=>5|167=>181|37=>110|0=>0|85=>182|2=>2|168=>184|53=>192|175=>199|46=>180|210=>203|127=>210|145=>213|143=>211|21=>21|171=>205|173=>207|212=>215|51=>190|20=>20|213=>216|232=>217|233=>218|80=>219|n=>n,fun|15=>3|16=>4|17=>5|18=>6|19=>7|n=>n⟩
def Tryz.lays172:Go.Proofs.Lays.n172 prog Tryz.lays172_ren:={
 mixed:=Qb
 f129:=func150.trans (w6 some Qb)
 f171:=func109.trans (w6 some Qb)
 f172:=func108.trans (w6 some Qb)
 f205:=func142.trans (w6 some Qb)
 f243:=func120.trans (w6 some Qb)
 f244:=func118.trans (w6 some Qb)
 f245:=func119.trans (w6 some Qb)
 f246:=func134.trans (w6 some Qb)
 f247:=func129.trans (w6 some Qb)
 f279:=func130.trans (w6 some Qb)
 f280:=func131.trans (w6 some Qb)
 f281:=func132.trans (w6 some Qb)
 f282:=func133.trans (w6 some Qb)
 f283:=func143.trans (w6 some Qb)
 f284:=func144.trans (w6 some Qb)
 f285:=func145.trans (w6 some Qb)
 f286:=func146.trans (w6 some Qb)
 f287:=func140.trans (w6 some Qb)
 f316:=func141.trans (w6 some Qb)
 f317:=func149.trans (w6 some Qb)
 f318:=func151.trans (w6 some Qb)
 f319:=func152.trans (w6 some Qb)
 f320:=func153.trans (w6 some Qb)
 f321:=func147.trans (w6 some Qb)
 f322:=func148.trans (w6 some Qb)
 f337:=func154.trans (w6 some Qb)
 f338:=func155.trans (w6 some Qb)
 t0:=underlying0
 a0:=isAgg0
 z0:=sizeOf0
 v0:=zeroValue0
 t2:=underlying2
 a2:=isAgg2
 z2:=sizeOf2
 v2:=zeroValue2
 t3:=underlying3
 a3:=isAgg3
 z3:=sizeOf3
 v3:=zeroValue3
 t4:=underlying4
 a4:=isAgg4
 z4:=sizeOf4
 v4:=zeroValue4
 t5:=underlying5
 a5:=isAgg5
 z5:=sizeOf5
 v5:=zeroValue5
 t9:=underlying9
 a9:=isAgg9
 z9:=sizeOf9
 v9:=zeroValue9
 t20:=underlying20
 a20:=isAgg20
 z20:=sizeOf20
 v20:=zeroValue20
 t21:=underlying21
 a21:=isAgg21
 z21:=sizeOf21
 v21:=zeroValue21
 t37:=underlying110
 a37:=isAgg110
 z37:=sizeOf110
 v37:=zeroValue110
 t46:=underlying180
 a46:=isAgg180
 z46:=sizeOf180
 v46:=zeroValue180
 t51:=underlying190
 a51:=isAgg190
 z51:=sizeOf190
 v51:=zeroValue190
 t53:=underlying192
 a53:=isAgg192
 z53:=sizeOf192
 v53:=zeroValue192
 t75:=underlying167
 a75:=isAgg167
 z75:=sizeOf167
 v75:=zeroValue167
 t76:=underlying168
 a76:=isAgg168
 z76:=sizeOf168
 v76:=zeroValue168
 t85:=underlying182
 a85:=isAgg182
 z85:=sizeOf182
 v85:=zeroValue182
 t127:=underlying210
 a127:=isAgg210
 z127:=sizeOf210
 v127:=zeroValue210
 t143:=underlying211
 a143:=isAgg211
 z143:=sizeOf211
 v143:=zeroValue211
 t145:=underlying213
 a145:=isAgg213
 z145:=sizeOf213
 v145:=zeroValue213
 t167:=underlying181
 a167:=isAgg181
 z167:=sizeOf181
 v167:=zeroValue181
 t168:=underlying184
 a168:=isAgg184
 z168:=sizeOf184
 v168:=zeroValue184
 t171:=underlying205
 a171:=isAgg205
 z171:=sizeOf205
 v171:=zeroValue205
 t173:=underlying207
 a173:=isAgg207
 z173:=sizeOf207
 v173:=zeroValue207
 t175:=underlying199
 a175:=isAgg199
 z175:=sizeOf199
 v175:=zeroValue199
 t210:=underlying203
 a210:=isAgg203
 z210:=sizeOf203
 v210:=zeroValue203
 t212:=underlying215
 a212:=isAgg215
 z212:=sizeOf215
 v212:=zeroValue215
 t213:=underlying216
 a213:=isAgg216
 z213:=sizeOf216
 t232:=underlying217
 a232:=isAgg217
 z232:=sizeOf217
 v232:=zeroValue217
 t233:=underlying218
 a233:=isAgg218
 z233:=sizeOf218
 v233:=zeroValue218
 g15:=Qb
 g16:=Qb
 g17:=Qb
 g18:=Qb
 g19:=by kernel_rfl}
open Go.RowKit in def Tryz.strconv_Atoi(s:ByteArray)(n:Int)(a:s.size<=18)(h:Lib.atoi s.data.toList=some n)(w:World):Calls prog 108 #[.string s] w fun e b=>e=.returned (.tuple #[n,.nilIface])/\∃t,b=Lib.bytesWorld w 5 t:=Any.strconv_Atoi Tryz.lays172 s n a h w
def Tryz.laysM171_ren:Go.Shelf.Ren:=⟨fun|171=>109|243=>120|246=>134|283=>143|284=>144|285=>145|286=>146|129=>150|317=>149|318=>151|319=>152|320=>153|337=>154|338=>155|n=>n,fun|3=>3|9=>9|2=>2|4=>4|171=>205|0=>0|53=>192|37=>110|5=>5|173=>207|212=>215|51=>190|20=>20|213=>216|46=>180|232=>217|233=>218|n=>n,fun|17=>5|18=>6|19=>7|n=>n⟩
def Tryz.laysM171:Go.Proofs.LaysM.n171 prog Tryz.laysM171_ren:={
 mixed:=Qb
 f129:=func150.trans (w6 some Qb)
 f171:=func109.trans (w6 some Qb)
 f243:=func120.trans (w6 some Qb)
 f246:=func134.trans (w6 some Qb)
 f283:=func143.trans (w6 some Qb)
 f284:=func144.trans (w6 some Qb)
 f285:=func145.trans (w6 some Qb)
 f286:=func146.trans (w6 some Qb)
 f317:=func149.trans (w6 some Qb)
 f318:=func151.trans (w6 some Qb)
 f319:=func152.trans (w6 some Qb)
 f320:=func153.trans (w6 some Qb)
 f337:=func154.trans (w6 some Qb)
 f338:=func155.trans (w6 some Qb)
 t0:=underlying0
 a0:=isAgg0
 z0:=sizeOf0
 v0:=zeroValue0
 t2:=underlying2
 a2:=isAgg2
 z2:=sizeOf2
 v2:=zeroValue2
 t3:=underlying3
 a3:=isAgg3
 z3:=sizeOf3
 v3:=zeroValue3
 t4:=underlying4
 a4:=isAgg4
 z4:=sizeOf4
 v4:=zeroValue4
 t5:=underlying5
 a5:=isAgg5
 z5:=sizeOf5
 v5:=zeroValue5
 t9:=underlying9
 a9:=isAgg9
 z9:=sizeOf9
 v9:=zeroValue9
 t20:=underlying20
 a20:=isAgg20
 z20:=sizeOf20
 v20:=zeroValue20
 t37:=underlying110
 a37:=isAgg110
 z37:=sizeOf110
 v37:=zeroValue110
 t46:=underlying180
 a46:=isAgg180
 z46:=sizeOf180
 v46:=zeroValue180
 t51:=underlying190
 a51:=isAgg190
 z51:=sizeOf190
 v51:=zeroValue190
 t53:=underlying192
 a53:=isAgg192
 z53:=sizeOf192
 v53:=zeroValue192
 t171:=underlying205
 a171:=isAgg205
 z171:=sizeOf205
 v171:=zeroValue205
 t173:=underlying207
 a173:=isAgg207
 z173:=sizeOf207
 v173:=zeroValue207
 t212:=underlying215
 a212:=isAgg215
 z212:=sizeOf215
 v212:=zeroValue215
 t213:=underlying216
 a213:=isAgg216
 z213:=sizeOf216
 t232:=underlying217
 a232:=isAgg217
 z232:=sizeOf217
 v232:=zeroValue217
 t233:=underlying218
 a233:=isAgg218
 z233:=sizeOf218
 v233:=zeroValue218
 g17:=Qb
 g18:=Qb
 g19:=Qb
 i0:=Qb
 i2:=Qb
 i3:=Qb
 i4:=Qb
 i5:=Qb
 i9:=Qb
 i20:=Qb
 i37:=Qb
 i46:=Qb
 i51:=Qb
 i53:=Qb
 i171:=Qb
 i173:=Qb
 i212:=Qb
 i232:=Qb
 i233:=Qb
 m17:=Qb
 m18:=Qb
 m19:=by kernel_rfl}
open Go.RowKit Go.Sort Go.Lib in def Tryz.strconv_Itoa(n:Int)(b:-9223372036854775808<=n)(c:n<=9223372036854775807)(w:World)(a:Lib.TabIs prog w "internal/strconv.uint64pow10" .u64 Lib.pow10Tab):Calls prog 109 #[n] w fun e f=>e=.returned (.string ⟨(Lib.itoa n).toArray⟩)/\∃k d,f=grow (w.drewN k) d:=Any.strconv_Itoa Tryz.laysM171 n b c w a
def Tryz.lays101_ren:Go.Shelf.Ren:=⟨fun|101=>110|208=>121|206=>135|n=>n,fun|9=>9|4=>4|3=>3|n=>n,fun|n=>n⟩
def Tryz.lays101:Go.Proofs.Lays.n101 prog Tryz.lays101_ren:={
 mixed:=Qb
 f101:=func110.trans (w6 some Qb)
 f206:=func135.trans (w6 some Qb)
 f208:=func121.trans (w6 some Qb)
 t3:=underlying3
 a3:=isAgg3
 z3:=sizeOf3
 v3:=zeroValue3
 t4:=underlying4
 a4:=isAgg4
 z4:=sizeOf4
 v4:=zeroValue4
 t9:=underlying9
 a9:=isAgg9
 z9:=sizeOf9
 v9:=zeroValue9}
open Go.RowKit Go.Lib in def Tryz.strings_TrimPrefix(s p:ByteArray)(w:World):Calls prog 110 #[.string s,.string p] w fun e a=>e=.returned (.string ⟨(Lib.trimPrefix s.data.toList p.data.toList).toArray⟩)/\a=w:=Any.strings_TrimPrefix Tryz.lays101 s p w
def Tryz.lays146_ren:Go.Shelf.Ren:=⟨fun|146=>56|221=>87|268=>105|138=>106|143=>107|195=>114|197=>115|218=>116|219=>117|260=>124|217=>125|225=>126|224=>127|267=>128|266=>138|314=>139|n=>n,fun|9=>9|31=>105|3=>3|4=>4|0=>0|105=>175|21=>21|5=>5|46=>180|119=>193|139=>196|138=>195|146=>197|51=>190|n=>n,fun|1=>0|3=>1|4=>2|n=>n⟩
def Tryz.lays146:Go.Proofs.Lays.n146 prog Tryz.lays146_ren:={
 mixed:=Qb
 f138:=func106.trans (w6 some Qb)
 f143:=func107.trans (w6 some Qb)
 f146:=func56.trans (w6 some Qb)
 f195:=func114.trans (w6 some Qb)
 f197:=func115.trans (w6 some Qb)
 f217:=func125.trans (w6 some Qb)
 f218:=func116.trans (w6 some Qb)
 f219:=func117.trans (w6 some Qb)
 f221:=func87.trans (w6 some Qb)
 f224:=func127.trans (w6 some Qb)
 f225:=func126.trans (w6 some Qb)
 f260:=func124.trans (w6 some Qb)
 f266:=func138.trans (w6 some Qb)
 f267:=func128.trans (w6 some Qb)
 f268:=func105.trans (w6 some Qb)
 f314:=func139.trans (w6 some Qb)
 t0:=underlying0
 a0:=isAgg0
 z0:=sizeOf0
 v0:=zeroValue0
 t3:=underlying3
 a3:=isAgg3
 z3:=sizeOf3
 v3:=zeroValue3
 t4:=underlying4
 a4:=isAgg4
 z4:=sizeOf4
 v4:=zeroValue4
 t5:=underlying5
 a5:=isAgg5
 z5:=sizeOf5
 v5:=zeroValue5
 t9:=underlying9
 a9:=isAgg9
 z9:=sizeOf9
 v9:=zeroValue9
 t21:=underlying21
 a21:=isAgg21
 z21:=sizeOf21
 v21:=zeroValue21
 t31:=underlying105
 a31:=isAgg105
 z31:=sizeOf105
 v31:=zeroValue105
 t46:=underlying180
 a46:=isAgg180
 z46:=sizeOf180
 v46:=zeroValue180
 t51:=underlying190
 a51:=isAgg190
 z51:=sizeOf190
 v51:=zeroValue190
 t105:=underlying175
 a105:=isAgg175
 z105:=sizeOf175
 v105:=zeroValue175
 t119:=underlying193
 a119:=isAgg193
 z119:=sizeOf193
 t138:=underlying195
 a138:=isAgg195
 z138:=sizeOf195
 v138:=zeroValue195
 t139:=underlying196
 a139:=isAgg196
 z139:=sizeOf196
 v139:=zeroValue196
 t146:=underlying197
 a146:=isAgg197
 z146:=sizeOf197
 v146:=zeroValue197
 g1:=Qb
 g3:=Qb
 g4:=by kernel_rfl}
open Go.RowKit Go.Lib in def Tryz.strings_Split(s a:ByteArray)(m:Int)(w:World)(d:s.size<4294967281)(c:w.cell? ⟨0,0,none⟩=some (.int .i64 m))(b:1<=a.size):Calls prog 56 #[.string s,.string a] w fun e f=>e=.returned (.slice (some w.heap.size) (Lib.countB s a+1) (Lib.countB s a+1))/\f=w.alloc (.cells ((Lib.splitB a 0 (Lib.countB s a) s).map Value.string).toArray 9):=Any.strings_Split Tryz.lays146 Qb s a m w d c b
end Go.Proofs
namespace Go.Proofs
open Tryz
open Go.RowKit
variable {w w':World}
def bs(l:hR):ByteArray:=⟨l.toArray⟩
def Sc(l:hR):List Value:=[.string (bs l)]
def Pl(l:hR):(bs l).data.toList=l:=by simp[bs]
def Z'(s:ByteArray):bs s.data.toList=s:=by cases s;simp[bs]
def pJ(l:hR):(bs l).size=l.length:=by simp[bs,ByteArray.size]
structure Tabs (w:World):Prop where
 tab:Lib.TabIs prog w "internal/strconv.uint64pow10" .u64 Lib.pow10Tab
 mx:∃m,w.cell? ⟨0,0,none⟩=some (.int .i64 m)
def tG{p:Addr} {v:Value} (h:w.cell? p=some v)(hb:QB w w'):w'.cell? p=some v:=(hb.cell (xX _ _ h)).trans h
def Tabs.below(h:Tabs w)(hb:QB w w'):Tabs w':=by obtain⟨a,⟨m,c⟩⟩:=h;exact⟨Lib.tabBelow_of_tabIs a w' hb,⟨m,tG c hb⟩⟩
def Aa(n:Int)(w:World)(h:n.natAbs<=9000000000000000000)(c:Tabs w):Calls prog 109 #[n] w (Qt w (.string (bs (Lib.itoa n)))):=(Tryz.strconv_Itoa n Qa Qa w c.tab).mono fun e w' ⟨a,k,g,d⟩=>⟨a,d▸Lib.below_grow w.heap.size w (sW _) k g⟩
def Ab(a:ByteArray)(e:1<=a.size):∀(n:Nat)(s:ByteArray),s.size<=n->(Lib.splitB a 0 (Lib.countB s a) s).length=Lib.countB s a+1:=by intro n;induction n with
 |zero=>
  intro s m;rcases Lib.index_spec s.data.toList a.data.toList with⟨h,-⟩|⟨i,h,g,-,-⟩;·rw[Lib.countB_miss s a h];rfl
  .have j:=Lib.index_room s.data.toList a.data.toList Qa;have c:s.data.toList.length=s.size:=Qd
   have d:a.data.toList.length=a.size:=Qd
   omega|succ n ih=>
  intro s m;rcases Lib.index_spec s.data.toList a.data.toList with⟨h,-⟩|⟨i,h,g,-,-⟩;·rw[Lib.countB_miss s a h];rfl
  .have j:=Lib.index_room s.data.toList a.data.toList Qa;have c:s.data.toList.length=s.size:=Qd
   have d:a.data.toList.length=a.size:=Qd
   rw[Lib.countB_hit s a i e h,aM 1,Lib.splitB_hit a 0 _ s i h,y',ih _ (by rw[ByteArray.size_extract];omega)]
def Ac{l:List ByteArray} {m:List (List UInt8)} (h:l.map (·.data.toList)=m):l=m.map bs:=by subst h;rw[dZ,show (bs ∘ fun x:ByteArray=>x.data.toList)=id from funext fun x=>Z' x,kG]
def LI(s:ByteArray):Lib.splitB ⟨#[32]⟩ 0 (Lib.countB s ⟨#[32]⟩) s=(cutL s.data.toList).map bs:=by refine Ac ?_;rw[Lib.splitB_data];exact Y6 _ _ (sW _)
def Ad(s:ByteArray)(w:World)(b:s.size<=100000)(g:Tabs w):Calls prog 56 #[.string s,.string ⟨#[32]⟩] w fun e w'=>(∃A c,e=.returned (.slice A (cutL s.data.toList).length c)/\At 1 Sc w' A (cutL s.data.toList)/\(cutL s.data.toList).length<=c)/\QB w w':=by obtain⟨m,d⟩:=g.mx;refine(Tryz.strings_Split s ⟨#[32]⟩ m w Qa d Qc).mono ?_;rintro e w' ⟨rfl,rfl⟩;have a:=Ab ⟨#[32]⟩ Qc s.size s (sW _);rw[LI,sA]at a;rw[LI,<-a];refine⟨⟨_,_,rfl,?_,sW _⟩,ZC _ _⟩;intro k x i;refine⟨w.heap.size,0,rfl,Qd,?_⟩;intro j v h;match j,h with|0,rfl=>rw[qQ _ _ _ _ rfl];simp[i]
def Ae(n:Int)(w:World)(c:n.natAbs<10^16):Calls prog 108 #[.string (bs (Lib.itoa n))] w (Qt w (.tuple #[n,.nilIface])):=by refine(Tryz.strconv_Atoi (bs (Lib.itoa n)) n (by rw[pJ];have:=(sF 15 n c).1;omega) (by rw[Pl];exact Y9 n) w).mono ?_;rintro e w' ⟨rfl,t,rfl⟩;exact⟨rfl,rfl,rfl,rfl,by rw[AV];omega,fun k a=>AW w 5 t k a⟩
def Af(b:hR)(w:World):Calls prog 110 #[.string (bs b),.string ⟨#[45]⟩] w fun e w'=>e=.returned (.string (bs (q6 b)))/\w=w':=by refine(Tryz.strings_TrimPrefix (bs b) ⟨#[45]⟩ w).mono ?_;rintro e w' ⟨rfl,rfl⟩;refine⟨?_,rfl⟩;rw[Pl];show _=Ending.returned (.string (bs (q6 b)));rw[<-Y8];rfl
def At.tail1{α:Type} {f:Nat} {cs:α->List Value} {w:World} {b o:Nat} {l:List α} (h:At f cs w (some ⟨b,o,none⟩) l) (n:Nat):At f cs w (some ⟨b,o+n*f,none⟩) (l.drop n):=fun k x a=>by rw[x4]at a;obtain⟨i,m,c,d,e⟩:=h (n+k) x a;cases c;refine⟨b,o+n*f,rfl,d,fun j u g=>?_⟩;rw[<-e j u g,Q1];congr 2;omega
def Ag(n:Int)(k:Nat)(w:World)(b:k<=14)(z:n.natAbs<10^(k+1))(A:Tabs w):Calls prog 88 #[.string (bs (Lib.itoa n)),((k+1:Nat):Int)] w (Qt w (.tuple #[n,true])):=by
 have i:(10:Nat)^(k+1)<=10^15:=kL Qc Qa;have c:=Ae n w Qa;have d:=w0 fun W (D:QB w W)=>Aa n W Qa (A.below D);have a:=w0 fun W=>Af (Lib.itoa n) W;have y:=(sF k n z).2;obtain⟨S,u⟩:=Qu (bs (Lib.itoa n));obtain⟨M,j⟩:=Qu (bs (q6 (Lib.itoa n)));have C:M.size<=k+1:=by rw[<-j,pJ];exact y
 have m:decide ((M.size:Int)<=((k+1:Nat):Int))=true:=Qk
 have g:(M.size:Int)<=((k+1:Nat):Int):=Qa
 rw[u]at c d a |-;rw[j]at a;obtain⟨K,s⟩:∃K:Int,((k+1:Nat):Int)=K:=⟨_,rfl⟩;rw[s]at m g |-;have F:(S.toList==S.toList)=true:=Qd
 have E:∀W,(binOp .eql 167 .nilIface .nilIface).run prog W=.ok (.bool true) W:=fun W=>Qb
 clear z A i y u j s b;go_enter func88,ntmps88;go_wp2_with (first|(go_at_call 108;refine c.mono ?_;rintro e G ⟨rfl,h⟩)|(go_at_call 109;refine(d.out _ h).mono ?_;rintro e f ⟨rfl,r⟩)|(go_at_call 110;refine(a.out _).mono ?_;rintro e H ⟨rfl,rfl⟩));go_ret2;exact⟨rfl,via h r⟩
def Ah(A:i')(l:L')(k n c:Nat)(w:World)(f:k<=14)(T:∀x∈l,x.natAbs<10^(k+1))(Q:At 1 Sc w A (l.map Lib.itoa))(U:l.length=n)(h9:n<=900)(V:Tabs w):Calls prog 57 #[.slice A n c,((k+1:Nat):Int)] w fun e w'=>(∃O c2,e=.returned (.tuple #[.slice O n c2,true])/\w'.ownsRow w.heap.size 3 1 (.slice O n c2) n (l.map (Value.int .i64)))/\QB w w':=by
 have y:=w0 fun x (s:x∈l) W (q:QB w W)=>Ag x k W f (T x s) (V.below q);have G:=w0 Q;have F:=w0 U;obtain⟨K,R⟩:∃K:Int,((k+1:Nat):Int)=K:=⟨_,rfl⟩;rw[R]at y |-;obtain⟨B,t,L,M,N⟩:=n9 info3;clear f T Q U V R;go_enter func57,ntmps57;go_wp2;go_loopw [6,13] (fun v i wr=>∃j:Nat,j<=n/\i=.int .i64 j/\Hid (wr.ownsRow w.heap.size 3 1 v j ((l.take j).map (Value.int .i64)))/\QB w wr)(fun _ i _=>n-(intOf i).toNat);case atStart=>exact⟨0,k2 _,rfl,w0 (gE _ _ _ _),l3 _ _⟩
 case round=>
  obtain⟨j,hj,rfl,a,g⟩:=hrel;obtain⟨Z,c5,rfl⟩:=Z3 a.out;by_cases I:j<n
  .have aB:(j:Int)<(n:Int):=Qa
   obtain⟨x,s⟩:∃x,l[j]?=some x:=⟨_,h' (by rw[F.out];exact I)⟩;obtain⟨b,o,rfl,aA,S⟩:=G.out.below g j (Lib.itoa x) (by rw[C2,s];rfl);have y0:=S 0 _ rfl;simp only[w7,w8]at y0;have H:=w0 (y.out x (k3 s) wr g);have J:=w0 (show (l.take (j+1)).map (Value.int .i64)=(l.take j).map (Value.int .i64)++[.int .i64 x]by rw[w9,s];simp);clear S s;go_wp2_with (first
    |(go_at_call 88;refine H.out.mono ?_;rintro e w2 ⟨rfl,m⟩;have z:=w0 (ZI a.out m);have h:=via g m;clear m)|(at_builtin;refine X0 _ rfl _ _ 30 rfl w.heap.size 3 B (.int .i64 0) 1 8 underlying30 t L M N rfl Qc _ _ _ rfl (z.out.alloc _) ⟨w2.heap.size,0,none⟩ 1 1 [.int .i64 x] rfl rfl ?c1 ?c2 ?c3 ?c4 ?c5 ?_));try (case c1=>exact D7 _ [.int .i64 x] _ Qd)
   case c2=>first|rfl|(intro u X;simp at X;subst X;rfl)
   case c3=>first|omega|(unfold maxLen;omega)
   case c4=>omega
   case c5=>have:=h.size;first|omega|(simp;omega)
   intro P Y d E _;have r:=w0 (show Y.ownsRow w.heap.size 3 1 P (j+1) ((l.take (j+1)).map (Value.int .i64))from by rw[J.out,List.map_take];exact d);have D:QB w Y:=ZS (via h (ZC _ _)) E fun b e=>by have:=(z.out.lt b e).1;omega
   clear d E;go_wp2;go_roundw;case rel=>exact⟨j+1,Qa,Qj,r.out,D⟩
   case measure=>exact Qv
  .obtain rfl:n=j:=Qa
   have C:=w0 (show l.take n=l by rw[<-F.out,x1]);go_wp2;go_ret2;exact⟨⟨Z,c5,rfl,by have:=a.out;rwa [C.out]at this⟩,g⟩
end Go.Proofs
namespace Go.Proofs
open Go.RowKit
def mU{w:World} {base:Nat} {e:aN} {a n c:Nat} {A:i'} {b:hD} (h:w.ownsRow base e a (.slice A n c) n b):n<=c:=by
 rcases h.2 with⟨h,r⟩|⟨g,d,i,j,s,u,m,-⟩;·omega
 .cases j;exact m
open Tryz
def EO{P:aA} {α:Type} {sz:Nat} {cs:α->List Value} (C:∀y,(cs y).length=sz)(W:0<sz) {x:World} {t ty e:aN} {i:TypeInfo} {z:Value} {d:Nat} (J:P.underlying t=some (.slice e))(f:P.info? e=some i)(B:i.zero=some z)(q:i.size=sz)(K:z.cells.size=sz)(G:i.bytes=d)(E:d<=1000)(b base:Nat)(s:base<=b)(u:x.heap[b]?=some (.cells #[] e))(F:base<=x.heap.size) {l:List α} {A:i'} (c n:Nat)(S:l.length=n)(j:At sz cs x A l)(O:l.length<=1000):∃M N L,(Builtin.append_ #[t,t] ty #[.slice (some b) 0 0,.slice A n c]).run P x=.ok (.slice M n N) L/\QB x L/\L.ownsRow base e sz (.slice M n N) n (l.flatMap cs):=by subst S;cases l with
 |nil=>refine⟨some ⟨b,0,none⟩,0,x,?_,l3 _ _,Qd,.inr ⟨b,0,#[],rfl,s,u,sW _,k2 _,Qd,Qd⟩⟩;cases A with
  |none=>simp[Builtin.append_,run_underlying J,sizeOf,typeInfo,f,Builtin.lenOf,Builtin.firstCells,loadCells,loadCellsFrom,storeCells]|some a=>simp[Builtin.append_,run_underlying J,sizeOf,typeInfo,f,Builtin.lenOf,Builtin.firstCells,loadCells,loadCellsFrom,storeCells]
 |cons y l'=>
  obtain⟨l,m⟩:∃l,y::l'=l:=⟨_,rfl⟩;have T:0<l.length:=by rw[<-m];simp
  rw[m]at j O |-;obtain⟨a,rfl⟩:∃a,A=some a:=by obtain⟨U,V,h,-⟩:=j 0 y (by rw[<-m];rfl);exact⟨_,h⟩
  have g:=o0 cs sz C l;have r:=lC C j;have R:l.length*d<=1000*1000:=gK O E;subst q;subst G;have Q:=run_append_grow (P:=P) (w:=x) t ty e i z J f B ⟨b,0,none⟩ 0 0 [] Qd Qd a l.length c (l.flatMap cs) g r Qa Qa (growslice_fits Qa (by rw[m'];omega));simp only[m']at Q;have I:=grownCap_ge x l.length 0 e;have H:grownCap x l.length 0 e<=maxLen:=grownCap_le_maxLen x l.length 0 e Qq;have D:QB x (x.drew.alloc (.cells (([]:hD).toArray++(l.flatMap cs).toArray++Builtin.zeroCells z.cells (grownCap x l.length 0 e-l.length)) e)):=((l3 _ x).drew).alloc Qd _;refine⟨_,_,_,Q,D,g,.inr ⟨x.heap.size,_,_,rfl,F,kF x.drew _,I,H,?_,?_⟩⟩;·simp only[Array.size_append,hM,size_zeroCells,K,g,hG,m',<-Q1];congr 1;omega
  .simp only[CQ,e9];rw[<-g];exact List.take_left
section
variable {P:aA} {ops:aG}
def EP{b:bL} {o:Oper} {a:Act} {x e:World} {f l d:Value} {Q:bK} (c:o.guard=none)(s y:Operand)(t:aN)(i:o.op=.call {callee:=.builtin .append,args:=#[s,y],argTypes:=#[t,t]})(n:a.eval s=f)(m:a.eval y=l)(j:(Builtin.append_ #[t,t] o.type #[f,l]).run P x=.ok d e)(h:wpList P ops Q b (a.put o.dst d) e):wpList P ops Q (o::b) a x:=by refine D8 c fun K g=>?_;unfold Oper.wp execOp;simp only[i,resolve,invoke,builtin,aD,aP,aI,gN,M1,N1,n,m,j];exact g _ _ h
end
def lG(A:i')(l:L')(c n:Nat)(w:World)(g:At 1 Zc w A l)(D:l.length=n)(E:n<=1000):Calls prog 26 #[.slice A n c] w fun e f=>(∃m r,e=.returned (.slice m n r)/\f.ownsRow w.heap.size 3 1 (.slice m n r) n (l.flatMap Zc))/\QB w f:=by obtain⟨F,y,h,i,j⟩:=n9 info3;obtain⟨m,r,G,z,C,a⟩:=EO (P:=prog) (sz:=1) (cs:=Zc) (x:=w.alloc (.cells #[] 3)) (t:=30) (ty:=30) (e:=3) (fun _=>rfl) Qc underlying30 y h i rfl j Qc w.heap.size w.heap.size (sW _) (ZA _ _ rfl) Qd c n D (g.below (ZC _ _)) Qa;have u:=w0 z;have d:=w0 a;have s:=via (ZC _ _) C;clear z a y h i j g;go_enter func26,ntmps26;go_wp2_with (at_builtin;refine EP rfl _ _ 30 rfl rfl rfl u.out ?_);go_ret;exact⟨⟨m,r,rfl,d.out⟩,s⟩
def ER(pA B:i')(Z R F d:Nat)(ps:z1)(f:e6)(w:World)(hB:BookAt w pA Z ps B R f)(hF:FewB ps f)(aM:ps.length=F)(V:f.length=d)(bH:d<=900):Calls prog 7 #[.agg #[.slice pA F Z,.slice B d R]] w fun e w'=>(∃A c A2 c2 q,e=.returned (.agg #[.slice A F c,.slice A2 d c2])/\q.length=d/\q.map En.sig=f.map En.sig/\w'.ownsRow w.heap.size 70 5 (.slice A F c) F (ps.flatMap Pa.cs)/\EnsOwn w' w.heap.size (.slice A2 d c2) q)/\QB w w':=by
 obtain⟨j0,ji,aP,aQ,aR⟩:=n9 DX;obtain⟨Ap,cp,l,hr,U,S⟩:=EO (P:=prog) (sz:=5) (cs:=Pa.cs) (x:=((w.alloc (.cells #[.slice pA F Z,.slice B d R] 25)).alloc (.cells #[.slice none 0 0,.slice none 0 0] 25)).alloc (.cells #[] 70)) (t:=22) (ty:=22) (e:=70) (fun _=>rfl) Qc (by first|exact underlying22|kernel_rfl) ji aP aQ rfl aR Qc (w.heap.size+2) (w.heap.size+2) (sW _) (ZA _ _ Qd) Qd Z F aM (hB.P.below Qi) (by have:=hF.p;omega);have aV:=w0 hr;have M0:=Zx U (Qs:(((w.alloc (.cells #[.slice pA F Z,.slice B d R] 25)).alloc (.cells #[.slice none 0 0,.slice none 0 0] 25)).alloc (.cells #[] 70)).heap[w.heap.size]?=some (.cells #[.slice pA F Z,.slice B d R] 25));have M1:=Zx U (Qs:(((w.alloc (.cells #[.slice pA F Z,.slice B d R] 25)).alloc (.cells #[.slice none 0 0,.slice none 0 0] 25)).alloc (.cells #[] 70)).heap[w.heap.size+1]?=some (.cells #[.slice none 0 0,.slice none 0 0] 25));have aG:QB w l:=via Qi U;have bE:=ZG M1;have bF:=U.size;clear hr ji aP aQ aR U;have bI:d<=R:=by rw[<-V];exact hB.ec'
 have aA:=w0 hB.E;have bD:=w0 hB.nil;have N:=w0 V;have aI:=w0 hF.co;obtain⟨i0,hi,bA,bB,bC⟩:=n9 lD;have aW:∀x,(sizeOf 25).run prog x=.ok 2 x:=fun x=>Qb
 have aT:∀x,(isAgg 25).run prog x=.ok true x:=fun x=>Qb
 clear hB hF aM V;go_enter func7,ntmps7;have S:=w0 S;have D0:=bk2 M0;go_wp2_with (at_builtin;refine EP rfl _ _ 22 rfl rfl rfl aV.out ?_);go_loopw [4] (fun i wr=>∃j:Nat,∃v:Value,∃H:List En,j<=d/\i=.int .i64 j/\wr.heap[l.heap.size]?=some (.cells #[.slice Ap F cp,v] 25)/\Hid (H.length=j)/\Hid (H.map En.sig=(f.take j).map En.sig)/\Hid (EnsOwn wr (l.heap.size+1) v H)/\QB l wr)(fun i _=>d-(intOf i).toNat);case atStart=>exact⟨0,.slice none 0 0,[],k2 _,rfl,Qs,w0 rfl,w0 rfl,w0 (EnsOwn.nil _ _),Qi⟩
 case round=>
  obtain⟨j,v,H,hj,rfl,M3,D,aO,z,C⟩:=hrel;have s:=z.out.own;rw[D.out]at s;obtain⟨A5,c5,rfl⟩:=Z3 s;clear s;have aF:QB w wr:=via aG C;have D0:=bk2 (Zx C M0);have D1:=bk2 (Zx C M1);have D3:=bk2 M3;have bK:=ZG M3;by_cases aU:j<d
  .have bJ:(j:Int)<(d:Int):=Qa
   obtain⟨x,hx⟩:∃x,f[j]?=some x:=⟨_,h' (by rw[N.out];exact aU)⟩;have Y:=k3 hx;obtain⟨b,o,rfl,bG,hc⟩:=(aA.out.below aF).1 j x hx;have y0:=hc 0 _ rfl;have y1:=hc 1 _ rfl;have y2:=hc 2 _ rfl;simp only[w7]at y0;obtain⟨L,hL⟩:=Qu x.co.length;have aS:=w0 fun W (U:QB wr W)=>lG x.A x.co x.c L W (((aA.out.below aF).2 x Y).below U) hL (by rw[<-hL];exact aI.out x Y);have M:=w0 (show (f.take (j+1)).map En.sig=(f.take j).map En.sig++[x.sig]by rw[w9,hx];simp);have aD:=w0 hL;have bL:wr.cell? ⟨b,o+j*3+1,none⟩=some (.slice x.A L x.c):=by rw[<-hL];exact y1
   clear hc hx Y y1 hL;go_wp2_with (first
    |(go_at_call 26;refine(aS.out _ (ZC _ _)).mono ?_;rintro e G ⟨⟨m,n,rfl,aE⟩,J⟩;have Q3:=Zx J (Zz M3 (.cells #[.string x.nm,.slice x.A L x.c,.int .i64 x.mo] 49 (0,0)));have Q5:=Zx J (ZA wr (.cells #[.string x.nm,.slice x.A L x.c,.int .i64 x.mo] 49 (0,0)) rfl);have E3:=bk2 Q3;have E5:=bk3 Q5;have Q:=via (ZC wr (.cells #[.string x.nm,.slice x.A L x.c,.int .i64 x.mo] 49 (0,0))) J;(have I:QB wr ((G.setCell ⟨wr.heap.size,1,none⟩ (.slice m L n))):=Q.trans (((OnlyB.refl wr.heap.size G).set 1 _).below _ (sW _)));(have a:=w0 (z.out.below (via I (ZC ((G.setCell ⟨wr.heap.size,1,none⟩ (.slice m L n))) (.cells #[.string x.nm,.slice m L n,.int .i64 x.mo] 49 (0,0))))));have y:=w0 aE;clear aE J)|(at_builtin;refine DZ rfl (.tmp 28) (.tmp 30) 23 49 i0 _ (.slice A5 j c5) 48 (l.heap.size+1) j G.heap.size 3 (H.flatMap En.cs) [.string x.nm,.slice m L n,.int .i64 x.mo] 49 rfl rfl rfl Qb hi bA bB bC rfl Qc Qc rfl ?c1 ?c2 ?c3 ?c4 ?c5 ?_));case c1=>have:=a.out.own;rwa [D.out]at this
   case c2=>exact ZA _ _ Qd
   case c3=>simp[Value.oneCell']
   case c4=>omega
   case c5=>have:=a.out;have:=I.size;simp at this |-;omega
   intro v' w8 X K aJ;obtain⟨A8,c8,rfl⟩:=Z3 X;have aX:((G.setCell ⟨wr.heap.size,1,none⟩ (.slice m L n))).heap.size=G.heap.size:=R6 _ _ _;have aK:∀g,m=some g->wr.heap.size+1<=g.block/\g.block<G.heap.size:=fun g e=>by have:=y.out.lt g.block (by rw[e];rfl);simp only[hJ]at this;exact this
   have o7:=ZI (Z1 y.out fun r e=>((OnlyB.refl wr.heap.size G).set 1 (.slice m L n)).other r (by have:=(y.out.lt r e).1;simp at this;omega)) (ZC ((G.setCell ⟨wr.heap.size,1,none⟩ (.slice m L n))) (.cells #[.string x.nm,.slice m L n,x.mo] 49));have o5:=a.out.own;rw[D.out]at o5;have O:=fun r e=>(z.out.own.lt r e).2;have aB:EnsOwn w8 (l.heap.size+1) (.slice A8 (j+1) c8) (H++[⟨x.nm,m,n,x.co,x.mo⟩]):=by
    refine EnsOwn.push a.out (x:=⟨x.nm,m,n,x.co,x.mo⟩) (x2 o7 aD.out) (s6 o7) (fun g e=>?_) K ?_ ?_
    .have h1:=aK g e;refine⟨Qa,?_,fun h=>?_⟩;·simp;omega
     .have:=O _ h.symm;omega
    .have:=X;simp only[D.out,En.cs,aD.out];exact this
    .rcases aJ with h|h;·exact .inl h
     .exact .inr (by rw[h];simp)
   have R3:=b5 K (Zz (nO (i:=1) (u:=.slice m L n) Q3 (show l.heap.size≠wr.heap.size by omega)) (.cells #[.string x.nm,.slice m L n,x.mo] 49)) (P3 o5 (uX _));have aH:QB l w8:=ZS ((C.trans (I.mono Qa)).trans ((ZC ((G.setCell ⟨wr.heap.size,1,none⟩ (.slice m L n))) (.cells #[.string x.nm,.slice m L n,x.mo] 49)).mono Qa)) K fun b e=>by have:=(o5.lt b e).1;omega
   have aC:=w0 aB;clear aB o7 o5 O aK aX X K aJ a y I Q;have F8:=bk2 R3;obtain⟨aY,aZ⟩:Hid ((H++[(⟨x.nm,m,n,x.co,x.mo⟩:En)]).length=j+1)/\Hid ((H++[(⟨x.nm,m,n,x.co,x.mo⟩:En)]).map En.sig=(f.take (j+1)).map En.sig):=⟨w0 (by simp[D.out]),w0 (by rw[M.out,x0,aO.out];rfl)⟩;go_wp2;go_roundw;case rel=>exact⟨j+1,_,_,Qa,Qj,ZH (o:=1) R3 (.slice A8 (j+1) c8) rfl,aY,aZ,w0 (aC.out.other (uX _) ((OnlyB.refl _ _).set _ _) Qd),aH.trans (((OnlyB.refl l.heap.size w8).set 1 _).below _ (sW _))⟩
   case measure=>exact Qv
  .obtain rfl:d=j:=Qa
   have M:H.map En.sig=f.map En.sig:=by rw[aO.out,<-N.out,x1]
   have aN:=w0 M;have aL:=w0 (ZI S.out C);clear M;go_wp2;refine r3 (v:=.agg #[.slice Ap F cp,.slice A5 d c5]) ?_ rfl ⟨⟨Ap,cp,A5,c5,H,rfl,D.out,aN.out,?_,?_⟩,?_⟩;·exact fT (p:=2) (ad:=⟨w.heap.size+1,0,none⟩) rfl Qe (x3 (T:=25) (cs:=[.slice Ap F cp,.slice A5 d c5]) (aT _) (aW _) (ZH (ZH (Zx C M1) _ rfl) _ rfl))
   .exact b2 (Z1 aL.out fun r e=>(((OnlyB.refl (w.heap.size+1) wr).set _ _).set _ _).other r (by have:=(aL.out.lt r e).1;omega)) Qa
   .exact(z.out.other (k:=w.heap.size+1) Qa (((OnlyB.refl _ _).set _ _).set _ _) Qd).base Qa
   .go_grown
end Go.Proofs
namespace Go.Proofs
open Go.RowKit
section
variable {P:aA}
def Ai {Q : Exit -> Act -> World -> Prop} {a0 : Act} {w : World} {l : List Oper} (n : Nat) (K : Oper) (hn : l.length = n + 1) (hz : l[n]? = some K)
    (hB : bU (l.take n).toArray = true) (hG : l.all (fun o => o.guard.isNone) = true) (hA : (List.range n).all (fun i => (jV l l.length (iE K)).contains i) = true) (hE : K.after.all (fun e => !Region.binds .any e || decide (e.on < n)) = true)
    (h : wpAny P .any (l.take n).toArray (fun e a x => match e with | .normal => K.wp P a x (fun a' C => Q .normal a' C) Q | e => Q e a x) (l.take n).toArray.size (Array.replicate (l.take n).toArray.size false) a0 { w with drawn := w.drawn + 1 }) :
    wpAny P .any l.toArray Q l.toArray.size (Array.replicate l.toArray.size false) a0 { w with drawn := w.drawn + 1 } := by
  have H := wV hB
  have aX : (l.take n).length = n := Qo
  have aC : ∀ (i : Nat) (o : Oper), l[i]? = some o -> o.guard = none := fun i o A => by
    have := bP.1 hG o (k3 A)
    simpa using this
  have J : ∀ i, i < n -> (l.take n).toArray[i]? = l.toArray[i]? := fun i E => by simp [jT E]
  have V : ∀ i, n <= i -> (l.take n).toArray[i]? = none := fun i E => by simp [cN (show (l.take n).length <= i by omega)]
  have g : ∀ (c : Array Bool) (b d : Bool) (i : Nat), c.size = n -> i < n -> (c.push b).getD i d = c.getD i d := fun c b d i m E => by
    rw [fG, fG, dP Qa]
    simp [e3 (show i < c.size by omega)]
  have O : ∀ (c : Array Bool) (b d : Bool), c.size = n -> (c.push b).getD n d = b := fun c b d m => by
    rw [fG, <- m]
    simp
  have aL : ∀ (c : Array Bool) (b : Bool) (i : Nat), c.size = n -> i < n -> (i ∈ Region.ready .any l.toArray (c.push b) ↔ i ∈ Region.ready .any (l.take n).toArray c) := fun c b i m E => by
    rw [fF, fF, g _ _ _ _ m E, J i E]
    constructor
    . rintro ⟨D, o, A, t⟩
      refine ⟨D, o, A, fun e z G => ?_⟩
      have := H.after i o e ((J i E).trans A) z G
      rw [<- g c b false e.on m Qa]
      exact t e z G
    . rintro ⟨D, o, A, t⟩
      refine ⟨D, o, A, fun e z G => ?_⟩
      have := H.after i o e ((J i E).trans A) z G
      rw [g c b false e.on m Qa]
      exact t e z G
  have aM : ∀ (f : Nat) (c : Array Bool) (a : Act) (x : World), c.size = n -> (∀ (i : Nat) (o : Oper), (l.take n).toArray[i]? = some o -> c.getD i false = true -> ∀ e ∈ o.after, Region.binds .any e = true -> c.getD e.on false = true) -> wpAny P .any (l.take n).toArray (fun e a x => match e with | .normal => K.wp P a x (fun a' C => Q .normal a' C) Q | e => Q e a x) f c a x -> wpAny P .any l.toArray Q (f + 1) (c.push false) a x := by
    have aA : ∀ (f : Nat) (c : Array Bool) (a : Act) (x : World), c.size = n -> (∀ i, i < n -> c.getD i true = true) -> K.wp P a x (fun a' C => Q .normal a' C) Q -> wpAny P .any l.toArray Q (f + 1) (c.push false) a x := by
      intro f c a x m hu hw
      have aI : n ∈ Region.ready .any l.toArray (c.push false) := by
        rw [fF]
        refine ⟨O _ _ _ m, K, by simpa using hz, fun e z G => ?_⟩
        have D := oV.1 hE e z
        rw [G] at D
        simp only [oD, p', h6] at D
        rw [g _ _ _ _ m D]
        have := hu e.on D
        rw [fG, e3 Qa] at this |-
        exact this
      refine ⟨fun h0 => (by rw [h0] at aI; cases aI), fun i E => ?_⟩
      have u : i = n := by
        obtain ⟨D, o, A, -⟩ := fF.1 E
        have aG : i < l.length := by simpa using D6 A
        rcases D4 i n with h | h
        . rw [g _ _ _ _ m h, hu i h] at D
          cases D
        . omega
      subst u
      have N : (c.push false).setIfInBounds i true = c.push true := by
        apply dD
        intro j
        rw [bF, eS, eS]
        simp only [uT, m]
        by_cases h : i = j
        . subst h; simp [m]
        . simp [h, m, s0 h]
      have aR : wpAny P .any l.toArray Q f (c.push true) = fun a' C => wpAny P .any l.toArray Q f (c.push true) a' C := rfl
      have I : Region.ready .any l.toArray (c.push true) = [] := by
        rw [rM]
        intro j T
        obtain ⟨D, o, A, -⟩ := fF.1 T
        have aG : j < l.length := by simpa using D6 A
        rcases D4 j i with h | h
        . rw [g _ _ _ _ m h, hu j h] at D
          cases D
        . have : j = i := Qa
          subst this
          rw [O _ _ _ m] at D
          cases D
      have hK : ∀ a' C, Q .normal a' C -> wpAny P .any l.toArray Q f (c.push true) a' C := fun a' C h => by
        cases f with
        | zero => exact ⟨I, h⟩
        | succ f => exact ⟨fun _ => h, fun j T => by rw [I] at T; cases T⟩
      unfold wpOp
      have aV : l.toArray[i]? = some K := by simpa using hz
      simp only [aV]
      have aU : Region.wanted K (yielded l.toArray a.tmps) = true := by unfold Region.wanted; rw [aC i K hz]
      rw [Zde aU, N]
      exact .inl (nL hK hw)
    intro f
    induction f with
    | zero =>
      rintro c a x m X ⟨hr, hq⟩
      exact aA 0 c a x m (fun i E => wW H (by simp [m]; omega) hr i Qo) hq
    | succ f ih =>
      rintro c a x m X ⟨hr, hq⟩
      by_cases I : Region.ready .any (l.take n).toArray c = []
      . exact aA (f + 1) c a x m (fun i E => wW H (by simp [m]; omega) I i Qo) (hr I)
      . have aS : ∀ i, i ∈ Region.ready .any l.toArray (c.push false) -> i < n := by
          intro i E
          obtain ⟨D, o, A, t⟩ := fF.1 E
          have aG : i < l.length := by simpa using D6 A
          rcases D4 i n with h | h
          . exact h
          . have u : i = n := Qa
            subst u
            exfalso
            obtain ⟨j, T⟩ := uU _ I
            obtain ⟨h3, o3, F, -⟩ := fF.1 T
            have U : j < i := by
              rcases D4 j i with h | h
              . exact h
              . rw [V j h] at F; cases F
            have aW : o = K := by
              rw [show l.toArray[i]? = l[i]? by simp, hz] at A
              exact (R' A).symm
            subst aW
            have h4 := bP.1 hA j (w5.2 U)
            have B := oY (l := l) (L := fun i => (c.push false).getD i false) (fun k R W s e z G => by
              have aF : k < i := by
                rcases D4 k i with h | h
                . exact h
                . exfalso
                  rw [fG] at s
                  rcases D4 i k with h' | h'
                  . rw [dQ Qo] at s
                    cases s
                  . have aQ : k = i := Qa
                    rw [aQ, <- m] at s
                    simp at s
              have aD : (l.take i).toArray[k]? = some R := by simp [jT aF, W]
              rw [g _ _ _ _ m aF] at s
              have h7 := X k R aD s e z G
              have h8 := H.after k R e aD z G
              rw [g _ _ _ _ m Qa]
              exact h7) l.length (S := iE o) (kY fun e z G => t e z G) j (by simpa using h4)
            rw [g _ _ _ _ m U] at B
            rw [fG, e3 Qa] at h3 B
            simp only [M0] at h3 B
            rw [h3] at B
            cases B
        refine ⟨fun h0 => ?_, fun i E => ?_⟩
        . exfalso
          obtain ⟨j, T⟩ := uU _ I
          have U : j < n := by
            obtain ⟨h3, o3, F, -⟩ := fF.1 T
            rcases D4 j n with h | h
            . exact h
            . rw [V j h] at F; cases F
          have := (aL c false j m U).2 T
          rw [h0] at this
          cases this
        . have u := aS i E
          have Y := (aL c false i m u).1 E
          have M := hq i Y
          obtain ⟨-, o, A, -⟩ := fF.1 Y
          have aH : l.toArray[i]? = some o := (J i u).symm.trans A
          have hg := aC i o (by simpa using aH)
          unfold wpOp at M |-
          simp only [A] at M
          simp only [aH]
          have aK : ∀ y, Region.wanted o y = true := fun y => by unfold Region.wanted; rw [hg]
          rw [Zde (aK _)] at M
          rw [Zde (aK _)]
          have aB : ∀ (k : Nat) (R : Oper), (l.take n).toArray[k]? = some R -> (c.setIfInBounds i true).getD k false = true -> ∀ e ∈ R.after, Region.binds .any e = true -> (c.setIfInBounds i true).getD e.on false = true := by
            intro k R W s e z G
            have aJ : ∀ q, c.getD q false = true -> (c.setIfInBounds i true).getD q false = true := fun q hq => by
              rw [fG, bF]
              split
              . rename_i aP
                subst aP
                have aO : i < c.size := Qa
                simp [aO]
              . rwa [fG] at hq
            by_cases aE : k = i
            . subst aE
              obtain ⟨-, o3, F, aN⟩ := fF.1 Y
              rw [W] at F
              cases F
              exact aJ _ (aN e z G)
            . refine aJ _ (X k R W ?_ e z G)
              rw [fG, bF, q' (s0 aE)] at s
              rw [fG]
              exact s
          have N : (c.push false).setIfInBounds i true = (c.setIfInBounds i true).push false := by
            apply dD
            intro j
            rw [bF, eS, eS, bF]
            simp only [uT, rN, m]
            by_cases h : i = j
            . subst h; simp [m, u, Nat.lt_succ_of_lt u, Nat.ne_of_lt u]
            . simp [h]
          rw [N]
          have Z : ∀ a' C, wpAny P .any (l.take n).toArray (fun e a x => match e with | .normal => K.wp P a x (fun a' C => Q .normal a' C) Q | e => Q e a x) f (c.setIfInBounds i true) a' C -> wpAny P .any l.toArray Q (f + 1) ((c.setIfInBounds i true).push false) a' C := fun a' C h => ih _ a' C (by simp [m]) aB h
          rcases M with M | ⟨M, h7⟩
          . left
            refine nL Z ?_
            unfold Oper.wp at M |-
            generalize (execOp a.eval o).run P x = r at *
            cases r with
            | ok nx w' =>
              cases nx with
              | enter f' args => exact (show Calls P f' args w' _ from M).mono fun e aY z => by cases e <;> exact z
              | _ => exact M
            | halt v w' => cases v <;> exact M
          . right
            exact ⟨M, h7⟩
  have aT : (Array.replicate (l.take n).toArray.size false).push false = Array.replicate l.toArray.size false := by
    rw [<- kX]
    congr 1
    simp
    omega
  have := aM _ _ _ _ Qo (fun k R W s e z G => by rw [fG, pV] at s; split at s <;> cases s) h
  rw [aT] at this
  have e : (l.take n).toArray.size + 1 = l.toArray.size := Qo
  rwa [e] at this
end
section
variable {P:aA}
def GO(b w:World)(a:Nat)(x:World):Prop:=QB b x/\w.heap.size<=x.heap.size/\∀k,k<w.heap.size->k≠a->x.heap[k]?=w.heap[k]?
def sH{Q:bK} {B:Act} {w:World} {l:bL} (f:World)(p:Nat)(a:Nat)(H I:Obj)(s:Act)(hB:bU l.toArray=true) (hB':bU (mixL [p] (fun _ _=>undef) (fun _=>Gh.zero) 0 l).toArray=true) (hS:Region.noSelect l.toArray=true) (hN:spB l.toArray [p]=true)(hkd:(match l[p]? with|some o=>o.dst.isNone|_=>false)=true)(hw:QB f w)(hb:f.heap.size<=a)(h4:w.heap[a]?=some H)(hs4:∀o,l[p]?=some o->∀x,GO f w a x->x.heap[a]?=some H->∃d,(execOp s.eval o).run P x=.ok .skip d/\OnlyB a x d/\d.heap[a]?=some I)(hq:∀u,GO f w a u->(∀(x:Grew u)(b o:Nat),b<u.heap.size->x.val.cell? ⟨b,o,none⟩=u.cell? ⟨b,o,none⟩)->wpQuiet P (mixL [p] (fun _ _=>undef) (fun _=>Gh.zero) 0 l).toArray (fun W=>∃x:Grew u,W=x.val) (fun K=>K=s) (mixL [p] (fun _ _=>undef) (fun _=>Gh.zero) 0 l) B)(t:∀x,GO f w a x->x.heap[a]?=some I->Q .normal s x):wpAny P .any l.toArray Q l.toArray.size (Array.replicate l.toArray.size false) B {w with drawn:=w.drawn+1}:=by
 have n:∀j∈[p],∀o,l[j]?=some o->o.dst=none:=by cases C:l[p]? with
  |none=>rw[C]at hkd;simp at hkd|some o1=>rw[C]at hkd;simp only[CR]at hkd;intro j m o i;rw[y2]at m;subst m;rw[C]at i;cases i;exact hkd
 have G:∀{x d:World},GO f w a x->OnlyB a x d->GO f w a d:=fun {x d} h i=>⟨h.1.trans (i.below _ hb),h9 h.2.1 (i.below 0 (k2 _)).size,fun k A c=>(i.other k c).trans (h.2.2 k A c)⟩;have F:∀{x d:World},GO f w a x->QB x d->GO f w a d:=fun {x d} h e=>⟨via h.1 e,h9 h.2.1 e.size,fun k A c=>(e.block k (h8 A h.2.1)).trans (h.2.2 k A c)⟩;have r:∀g g',mixL [p] (fun _ _=>undef) g 0 l=mixL [p] (fun _ _=>undef) g' 0 l:=fun g g'=>by apply aX;intro j;have c:=S8 [p] (fun _ _=>undef) g l 0 j;have R:=S8 [p] (fun _ _=>undef) g' l 0 j;rw[c,R]
 refine dM f (GO f w a) [p] (fun _ _=>undef) (fun L g x=>x.heap[a]?=some (if L p then I else H)) (fun _=>s) hB (fun g=>by rw[r g (fun _=>Gh.zero)];exact hB') hS hN
  ⟨hw,sW _,fun _ _ _=>rfl⟩ (fun x d h hb=>F h hb) (fun x h=>h.1) ?_ ?_ (fun g u O E _ _=>by rw[r g (fun _=>Gh.zero)];exact hq u O E) (fun _ _ _ _=>rfl) ?_ ?_;·intro L h;rw[h p Qd];exact h4
 .rintro L V g x d h c e;rw[h p Qd];exact Zx e c
 .intro j m o i L g x c y D M z J;have N:=n j m o i;rw[y2]at m;subst m;rw[M]at c;obtain⟨d,S,T,U⟩:=hs4 o i x y c;refine fU S ⟨G y T,.inl ⟨N,?_⟩⟩;rw[dN];exact U
 .rintro g x c y D;simp only[ZyJ]at c;exact t x y c
def ES{Q:bK} {t:Act} {w:World} {l:bL} (C:World)(c:Act)(hB:bU l.toArray=true) (hB':bU (mixL [] (fun _ _=>undef) (fun _=>Gh.zero) 0 l).toArray=true) (hS:Region.noSelect l.toArray=true) (hN:spB l.toArray []=true) (hw:QB C w)(hq:∀u,QB w u->(∀(x:Grew u)(b o:Nat),b<u.heap.size->x.val.cell? ⟨b,o,none⟩=u.cell? ⟨b,o,none⟩)->wpQuiet P (mixL [] (fun _ _=>undef) (fun _=>Gh.zero) 0 l).toArray (fun D=>∃x:Grew u,D=x.val) (fun i=>i=c) (mixL [] (fun _ _=>undef) (fun _=>Gh.zero) 0 l) t)(f:∀x,QB w x->Q .normal c x):wpAny P .any l.toArray Q l.toArray.size (Array.replicate l.toArray.size false) t {w with drawn:=w.drawn+1}:=by
 have a:∀g g',mixL [] (fun _ _=>undef) g 0 l=mixL [] (fun _ _=>undef) g' 0 l:=fun g g'=>by apply aX;intro j;have s:=S8 [] (fun _ _=>undef) g l 0 j;have y:=S8 [] (fun _ _=>undef) g' l 0 j;rw[s,y]
 exact dM C (fun x=>QB w x) [] (fun _ _=>undef) (fun _ _ _=>True) (fun _=>c) hB (fun g=>by rw[a g (fun _=>Gh.zero)];exact hB') hS hN (l3 _ _) (fun x z h m=>h.trans (m.mono h.size)) (fun x h=>via hw h) (fun _ _=>trivial) (fun _ _ _ _ _ _ _ _=>trivial) (fun g u n d _ _=>by rw[a g (fun _=>Gh.zero)];exact hq u n d) (fun j e=>by cases e) (fun j e=>by cases e) (fun g x _ r _=>f x r)
end
open Tryz
def Aj(q t:Int)(A:i')(l:L')(c n:Nat)(w:World)(H:At 1 Zc w A l)(K:l.length=n)(hl:n<=1000):Calls prog 46 #[.agg #[q,t,.slice A n c]] w fun e w'=>(∃N O,e=.returned (.agg #[q,t,.slice N n O])/\w'.ownsRow w.heap.size 3 1 (.slice N n O) n (l.flatMap Zc))/\QB w w':=by
 have S:=w0 fun W (m:QB w W)=>lG A l c n W (H.below m) K hl;have L:∀x,(sizeOf 32).run prog x=.ok 3 x:=fun x=>Qb
 have V:∀x,(isAgg 32).run prog x=.ok true x:=fun x=>Qb
 clear H K hl;go_enter func46,ntmps46;go_wp2;refine k4 ?_;intro x M;have X0:x.heap[w.heap.size]?=some (.cells #[q,t,.slice A n c] 32):=by rw[M];exact Qs
 have P:x.heap[w.heap.size+1]?=some (.cells #[(0:Int),(0:Int),.slice none 0 0] 32):=by rw[M];exact Qs
 have s:QB w x:=by rw[M];go_grown
 have aF:x.heap.size=w.heap.size+2:=by rw[M];simp
 clear M;refine p5 Qb ?_;refine Ai 8 _ rfl rfl Qb Qb Qb Qb ?_;simp only[sT,j0];apply u' w (fun y=>QB x y) [6] [] (fun j=>j) (fun j=>[])
  (fun j g=>.slice g.a1 n g.c1)
  (fun j f g y=>if j=6 then y.ownsRow x.heap.size 3 1 (.slice (g 6).a1 n (g 6).c1) n (l.flatMap Zc)else True)
  (fun j h b=>if j=6 then ∃a,h.a1=some a/\b=a.block else False);case hB=>kernel_rfl
 case hB'=>intro g;kernel_rfl
 case hS|hN=>kernel_rfl
 case hnd=>decide
 case htg=>decide
 case hinj=>decide
 case hD|hkd=>kernel_rfl
 case hC0=>exact l3 _ _
 case hCs=>exact fun y Q h m=>h.trans (m.mono h.size)
 case hCw=>exact fun y h=>via s h
 case hCz=>exact fun y h=>h.size
 case hCo=>exact fun y Q b h F m=>h.trans (F.below _ m)
 case hq=>
  intro g u hu aD s aC;have D0:=bk3 (Zx hu X0);have D1:=bk3 (Zx hu P);simp only[hP,e9,mixL,yieldsC,l5,n7,Nat.reduceAdd,Nat.reduceBEq,m',o7,sS,p',k7,nK,ZyJ,ZyI,r5,Nat.reduceEqDiff];repeat (go_big_quiet_step (fail))
  exact ZyG rfl
 case hRb=>
  intro j f g y Q h m;by_cases d:j=6;·rw[Zde d]at h |-;exact ZI h m
  rw[q' d];trivial
 case hRg=>
  intro i f g j h y Z hd aE G;by_cases d:i=6;·rw[Zde d]at G |-;subst d;rw[upd_ne (s0 Z)];exact G
  rw[q' d];trivial
 case hRo=>
  intro i f g b y Q R G F m K;by_cases d:i=6;·rw[Zde d]at G |-;rw[Zde d]at K;subst d;exact Z1 G fun r e=>F.other r (tV K e)
  rw[q' d];trivial
 case hmake=>intro j J o F g y R aA;simp only[ZBq,ZBH,ZyH]at J;subst J;simp only[p0,B4,M3]at F;subst F;refine zA Qb ((S.out y (via s R)).mono ?_);rintro e Q ⟨⟨N,O,rfl,E⟩,m⟩;refine⟨_,rfl,{Gh.zero with a1:=N,c1:=O},rfl,?_,m,fun b I=>tW E (by rw[Zde rfl]at I;exact I)⟩;rw[Zde rfl,ZX];exact b2 E R.size
 case hstore=>intro k hk;cases hk
 case hind=>intro j J;simp only[q5,ZBq,ZBH,ZyH]at J;subst J;intro g h;kernel_rfl
 intro g y hy z;have E:=(z 6 Qd).1;rw[Zde rfl]at E;clear z;have Y1:=Zx hy P;have Y:QB w y:=via s hy;have B:=fun r e=>E.lt r e;refine C' (.tmp 2) (.tmp 10) 32 Qh (w.heap.size+1) [.int .i64 q,.int .i64 t,.slice (g 6).a1 n (g 6).c1] [.int .i64 0,.int .i64 0,.slice none 0 0] 32 rfl rfl (L _) Y1 rfl (by simp[Value.oneCell']) ?_;intro w9 C D aB;have X:QB w w9:=ZS Y D fun b e=>by have:=R' e;omega
 have U:=w0 (Z1 E fun r e=>D.5 r (B r e).2 (by have:=(B r e).1;simp;omega));clear B D;go_wp2;refine r3 (v:=.agg #[q,t,.slice (g 6).a1 n (g 6).c1]) ?_ rfl ⟨⟨(g 6).a1,(g 6).c1,rfl,b2 U.out Qa⟩,X⟩;exact fT (p:=2) (ad:=⟨w.heap.size+1,0,none⟩) rfl Qe (x3 (T:=32) (cs:=[.int .i64 q,.int .i64 t,.slice (g 6).a1 n (g 6).c1]) (V _) (L _) C)
def Ak(s:ByteArray)(k q v b f:Int)(A:i')(l:L')(c n:Nat)(w:World)(y:At 1 Zc w A l)(N:l.length=n)(M:n<=1000):Calls prog 16 #[.agg #[.string s,k,q,v,b,f,.slice A n c]] w fun e B=>(∃a d,e=.returned (.agg #[.string s,k,q,v,b,f,.slice a n d])/\B.ownsRow w.heap.size 3 1 (.slice a n d) n (l.flatMap Zc))/\QB w B:=by
 have D:=w0 fun W (S:QB w W)=>Aj b f A l c n W (y.below S) N M;have J:∀x,(sizeOf 34).run prog x=.ok 7 x:=fun x=>Qb
 have G:∀x,(isAgg 34).run prog x=.ok true x:=fun x=>Qb
 clear y N M;go_enter func16,ntmps16;go_wp2_with (go_at_call 46;refine(D.out _ Qi).mono ?_;rintro e t ⟨⟨a,d,rfl,L⟩,g⟩;(have O:=Zx g (Qs:((w.alloc (.cells #[.string s,k,q,v,b,f,.slice A n c] 34)).alloc (.cells #[.string (ByteArray.mk #[]),(0:Int),(0:Int),(0:Int),(0:Int),(0:Int),.slice none 0 0] 34)).heap[w.heap.size]?=some (.cells #[.string s,k,q,v,b,f,.slice A n c] 34)));(have K:=Zx g (Qs:((w.alloc (.cells #[.string s,k,q,v,b,f,.slice A n c] 34)).alloc (.cells #[.string (ByteArray.mk #[]),(0:Int),(0:Int),(0:Int),(0:Int),(0:Int),.slice none 0 0] 34)).heap[w.heap.size+1]?=some (.cells #[.string (ByteArray.mk #[]),(0:Int),(0:Int),(0:Int),(0:Int),(0:Int),.slice none 0 0] 34)));(have z:QB w t:=via Qi g);have V:=bk7 O;have X:=bk7 K;have u:=w0 L;clear L g);obtain⟨m,h⟩:=Qu (((t.setCell ⟨w.heap.size,4,none⟩ (.int .i64 b)).setCell ⟨w.heap.size,5,none⟩ (.int .i64 f)).setCell ⟨w.heap.size,6,none⟩ (.slice a n d));have Q:m.heap[(w.heap.size+1)]?=some (.cells #[.string (ByteArray.mk #[]),(0:Int),(0:Int),(0:Int),(0:Int),(0:Int),.slice none 0 0] 34):=by rw[<-h];exact ZB (ZB (ZB K Qg _) Qg _) Qg _
 have E:OnlyB w.heap.size t m:=by rw[<-h];exact(((OnlyB.refl _ _).set _ _).set _ _).set _ _
 have H:QB w m:=by rw[<-h];exact((z.setCell Qg _).setCell Qg _).setCell Qg _
 rw[h];obtain⟨C,i⟩:=Qu (((((((m.setCell ⟨(w.heap.size+1),0,none⟩ (.string s)).setCell ⟨(w.heap.size+1),1,none⟩ (.int .i64 k)).setCell ⟨(w.heap.size+1),2,none⟩ (.int .i64 q)).setCell ⟨(w.heap.size+1),3,none⟩ (.int .i64 v)).setCell ⟨(w.heap.size+1),4,none⟩ (.int .i64 b)).setCell ⟨(w.heap.size+1),5,none⟩ (.int .i64 f)).setCell ⟨(w.heap.size+1),6,none⟩ (.slice a n d));have R:C.heap[(w.heap.size+1)]?=some (.cells #[.string s,k,q,v,b,f,.slice a n d] 34):=by rw[<-i];exact ZH (ZH (ZH (ZH (ZH (ZH (ZH Q _ rfl) _ rfl) _ rfl) _ rfl) _ rfl) _ rfl) _ rfl
 have F:OnlyB (w.heap.size+1) m C:=by rw[<-i];exact(((((((OnlyB.refl _ _).set _ _).set _ _).set _ _).set _ _).set _ _).set _ _).set _ _
 have I:QB w C:=by rw[<-i];exact((((((H.setCell Qg _).setCell Qg _).setCell Qg _).setCell Qg _).setCell Qg _).setCell Qg _).setCell Qg _
 rw[i];have j:=fun r e=>(u.out.lt r e).1;simp only[hJ]at j;have U:=w0 (Z1 (Z1 u.out fun r e=>E.other r (by have:=j r e;omega)) fun r e=>F.other r (by have:=j r e;omega));refine r3 (v:=.agg #[.string s,k,q,v,b,f,.slice a n d]) ?_ rfl ⟨⟨a,d,rfl,b2 U.out Qk⟩,I⟩;exact fT (p:=2) (ad:=⟨(w.heap.size+1),0,none⟩) rfl Qe (x3 (T:=34) (cs:=[.string s,.int .i64 k,.int .i64 q,.int .i64 v,.int .i64 b,.int .i64 f,.slice a n d]) (G _) (J _) R)
def Al(A D:i')(l:L')(c e n:Nat)(w:World)(E:At 1 Zc w A l)(F:At 1 Zc w D l)(I:l.length=n)(R:n<=1000):Calls prog 63 #[.slice A n c,.slice D n e] w (Qt w true):=by
 have y:=w0 I;have h:=w0 E;have j:=w0 F;clear I E F;go_enter func63,ntmps63;go_wp2;go_loopw [5] (fun i wr=>∃k:Nat,k<=n/\i=.int .i64 k/\QB w wr)(fun i _=>n-(intOf i).toNat);case atStart=>exact⟨0,k2 _,rfl,Qi⟩
 case round=>
  obtain⟨k,Q,rfl,d⟩:=hrel;by_cases u:k<n
  .have L:(k:Int)<(n:Int):=Qa
   have K:(0:Int)<=(k:Int):=Qa
   obtain⟨x,C⟩:∃x,l[k]?=some x:=⟨_,h' (by rw[y.out];exact u)⟩;obtain⟨b,o,rfl,J,H⟩:=(h.out.below d) k x C;obtain⟨O,o2,rfl,G,g⟩:=(j.out.below d) k x C;have M:=H 0 _ rfl;have N:=g 0 _ rfl;simp only[w7,w8]at M N;clear H g C;go_wp2;refine c8 w Qb Qb Qi ?_;intro s r;repeat (go_big_quiet_step (fail))
   refine ZyG ?_;intro S m a z;clear s r;go_wp2;go_roundw;case rel=>exact⟨k+1,Qa,Qj,a⟩
   case measure=>exact Qv
  .obtain rfl:n=k:=Qa
   go_wp2;go_ret;exact⟨rfl,Qi⟩
def Am(b f:Int)(A d:i')(l:L')(c k n:Nat)(w:World)(h:At 1 Zc w A l)(i:At 1 Zc w d l)(r:l.length=n)(m:n<=1000):Calls prog 29 #[.agg #[b,f,.slice A n c],.agg #[b,f,.slice d n k]] w (Qt w true):=by have s:=w0 fun W (j:QB w W)=>Al A d l c k n W (h.below j) (i.below j) r m;clear h i r m;go_enter func29,ntmps29;go_wp2_with (go_at_call 63;refine(s.out _ Qi).mono ?_;rintro e o ⟨rfl,g⟩;(have a:QB w o:=via Qi g));go_ret;exact⟨rfl,a⟩
def An(s:ByteArray)(k p v b f:Int)(A d:i')(l:L')(c c2 n:Nat)(w:World)(h:At 1 Zc w A l)(i:At 1 Zc w d l)(r:l.length=n)(m:n<=1000):Calls prog 11 #[.agg #[.string s,k,p,v,b,f,.slice A n c],.agg #[.string s,k,p,v,b,f,.slice d n c2]] w (Qt w true):=by have u:=w0 fun W (j:QB w W)=>Am b f A d l c c2 n W (h.below j) (i.below j) r m;clear h i r m;go_enter func11,ntmps11;go_wp2_with (go_at_call 29;refine(u.out _ Qi).mono ?_;rintro e q ⟨rfl,g⟩;(have a:QB w q:=via Qi g));go_ret;exact⟨rfl,a⟩
end Go.Proofs
namespace Go.Proofs
open Go.RowKit
variable {nm:hR} {k ag v den lev:Int} {W:L'}
def pK:List UInt8:=[109,101,97,110]
def pL:List UInt8:=[115,104,97,114,101]
def Q5(nm:hR)(k ag v den lev:Int)(W:L'):List (List UInt8):=nm::((if k=1 then [pL,Lib.itoa ag]else [pK])++(Lib.itoa v::Lib.itoa den::Lib.itoa lev::W.map Lib.itoa))
structure NumsR (ag v den lev:Int)(W:L'):Prop where
 ag:0<=ag/\ag<=400
 v:0<=v/\v<=1000
 den:1<=den/\den<=1000000000000
 lev:lev.natAbs<=1000000000000
 wt:∀x∈W,0<=x/\x<=1000000000000
 n:W.length<=8
def GW(n:Int)(h:n.natAbs<=1000000000000):(Lib.itoa n).length<=14:=(sF 12 n Qa).1
def ET(d:nm.length<=20)(b:NumsR ag v den lev W):(Q5 nm k ag v den lev W).length<=14/\5<=(Q5 nm k ag v den lev W).length/\∀x∈Q5 nm k ag v den lev W,x.length<=20:=by
 have c:=b.n;unfold Q5;refine⟨?_,?_,fun x a=>?_⟩;·split<;>simp<;>omega
 .split<;>simp
 .rcases ZBq.1 a with rfl|a;·exact d
  rcases C1.1 a with a|a
  .split at a
   .simp only[ZBq,ZBH,ZyH]at a;rcases a with rfl|rfl;·decide
    .have:=GW ag (by have:=b.ag;omega);omega
   .simp only[ZBq,ZBH,ZyH]at a;subst a;decide
  .simp only[ZBq,b3]at a;rcases a with rfl|rfl|rfl|⟨y,e,rfl⟩;·have:=GW v (by have:=b.v;omega);omega
   .have:=GW den (by have:=b.den;omega);omega
   .have:=GW lev b.lev;omega
   .have:=GW y (by have:=b.wt y e;omega);omega
def Aq(c:nm.length<=20)(b:NumsR ag v den lev W):(Lib.join (Q5 nm k ag v den lev W) [32]).length<=1000:=by obtain⟨d,-,a⟩:=ET (k:=k) c b;have:=LH 20 _ a;omega
structure EnTy (w:World)(base:Nat)(v:Value)(xs:e6):Prop where
 own:w.ownsRow base 49 3 v xs.length (xs.flatMap En.cs)
 row:∀x∈xs,At 1 Zc w x.A x.co/\(x.A=none->x.c=0)/\∀g,x.A=some g->∃cur fr,w.heap[g.block]?=some (.cells cur 3 fr)
end Go.Proofs
namespace Go.Proofs
open Tryz
open Go.RowKit
def lX(e:z1)(c:e6)(k d a b:Int)(W:L'):Int:=if N0 e c k d≠0 then N0 e c k d else if cG c.length a b W≠0 then cG c.length a b W else if bZ (ZE e k d) c a b W then 0 else 20
def tB(e:z1)(c:e6)(k d a b:Int)(W:L'):Int×Int:=if lX e c k d a b W=0 then ((b-spentL (exs c) W) / lowG (b-spentL (exs c) W) a,a / lowG (b-spentL (exs c) W) a)else (0,0)
def Ar(pA B A:i')(pc P pn F c wn:Nat)(t:z1)(o:e6)(k q f l:Int)(W:L')(w:World)(hB:BookAt w pA pc t B P o)(hF:FewB t o)(L:t.length=pn)(r:o.length=F)(hW:At 1 Zc w A W)(M:W.length=wn)(hl:wn<=1000000):Calls prog 18 #[.agg #[.slice pA pn pc,.slice B F P],.agg #[k,q],.agg #[f,l,.slice A wn c]] w (Qt w (.tuple #[.agg #[(tB t o k q f l W).1,(tB t o k q f l W).2],(lX t o k q f l W)])):=by
 have J:=w0 fun W (N:QB w W)=>CJ pA B pc P pn F t o k q W (hB.below N) hF L r;have K:=w0 fun x (N:QB w x)=>by have h:=DO pA B A pc P pn F c f l W x (hW.below N) Qa (by rw[<-r];exact hF.e);rw[M]at h;exact h
 have y:∀x,(sizeOf 52).run prog x=.ok 2 x:=fun x=>Qb
 have aD:∀x,(isAgg 52).run prog x=.ok true x:=fun x=>Qb
 have aB:=w0 fun(x:World)(N:Below (((((w.alloc (.cells #[.slice pA pn pc,.slice B F P] 25)).alloc (.cells #[k,q] 27)).alloc (.cells #[f,l,.slice A wn c] 32)).alloc (.cells #[(0:Int),(0:Int)] 52))).heap.size (((((w.alloc (.cells #[.slice pA pn pc,.slice B F P] 25)).alloc (.cells #[k,q] 27)).alloc (.cells #[f,l,.slice A wn c] 32)).alloc (.cells #[(0:Int),(0:Int)] 52))) x)=>(⟨Zx N (Qs),Zx N (Qs),Zx N (Qs),Zx N (Qs),via Qi N⟩:x.heap[w.heap.size]?=some (.cells #[.slice pA pn pc,.slice B F P] 25)/\x.heap[w.heap.size+1]?=some (.cells #[k,q] 27)/\x.heap[w.heap.size+1+1]?=some (.cells #[f,l,.slice A wn c] 32)/\x.heap[w.heap.size+1+1+1]?=some (.cells #[(0:Int),(0:Int)] 52)/\QB w x);by_cases Q:N0 t o k q=0;case neg=>
  have e1:lX t o k q f l W=N0 t o k q:=by unfold lX;rw[Zde Q]
  have O:tB t o k q f l W=(0,0):=by unfold tB;rw[e1,q' Q]
  rw[e1,O];obtain⟨E1,R⟩:=Qu (N0 t o k q);rw[R]at Q J |-;clear hB hF L r hW M e1 O R K;have aK:decide (E1=0)=false:=by simpa using Q
  go_enter func18,ntmps18;go_wp2_with (first|(go_at_call 48;refine(J.out _ Qi).mono ?_;rintro e w2 ⟨rfl,j⟩;(obtain⟨G,H,I,N3,d⟩:=aB.out _ j);clear j;have C0:=bk2 G;have C1:=bk2 H;(have C2:=bk3 I))|(refine P0 Qh (.tmp 6) (.tmp 21) 52 Qh (w.heap.size+1+1+1) [.int .i64 0,.int .i64 0] [.int .i64 0,.int .i64 0] 52 rfl rfl (y _) N3 rfl Qc ?_;intro w5 g s V;(have n:QB w w5:=ZS d s fun b e=>(by have:=R' e;omega));clear s));refine r3 (v:=.tuple #[.agg #[(0:Int),(0:Int)],E1]) ?_ rfl ⟨rfl,n⟩;exact b4 (p:=6) (u:=7) (ad:=⟨w.heap.size+1+1+1,0,none⟩) (v:=.agg #[(0:Int),(0:Int)]) rfl Qe (x3 (T:=52) (cs:=[.int .i64 0,.int .i64 0]) (aD _) (y _) g)
 case pos=>
  have h2:=Q;unfold N0 at h2;have hR:BookR t o:=hY.1 (bB.1 h2 _ Qd);clear h2;rw[Q]at J;by_cases h3:cG F f l W=0;case neg=>
   have e1:lX t o k q f l W=cG F f l W:=by unfold lX;rw[q' (by simp[Q]),r,Zde h3]
   have O:tB t o k q f l W=(0,0):=by unfold tB;rw[e1,q' h3]
   rw[e1,O];obtain⟨E1,R⟩:=Qu (cG F f l W);rw[R]at h3 K |-;clear hB hF L r hW M e1 O R hR Q;have aK:decide (E1=0)=false:=by simpa using h3
   go_enter func18,ntmps18;go_wp2_with (first|(go_at_call 48;refine(J.out _ Qi).mono ?_;rintro e w2 ⟨rfl,j⟩;(obtain⟨G,H,I,N3,d⟩:=aB.out _ j);clear j;have C0:=bk2 G;have C1:=bk2 H;(have C2:=bk3 I))|(go_at_call 43;refine(K.out _ d).mono ?_;rintro e w3 ⟨rfl,a⟩;have M0:=Zx a G;have M1:=Zx a H;have M2:=Zx a I;have M3:=Zx a N3;have m:=via d a;clear a C0 C1 C2 G H I;have D0:=bk2 M0;have D1:=bk2 M1;(have D2:=bk3 M2))|(refine P0 Qh (.tmp 6) (.tmp 21) 52 Qh (w.heap.size+1+1+1) [.int .i64 0,.int .i64 0] [.int .i64 0,.int .i64 0] 52 rfl rfl (y _) M3 rfl Qc ?_;intro w5 g s V;(have n:QB w w5:=ZS m s fun b e=>(by have:=R' e;omega));clear s));refine r3 (v:=.tuple #[.agg #[(0:Int),(0:Int)],E1]) ?_ rfl ⟨rfl,n⟩;exact b4 (p:=6) (u:=7) (ad:=⟨w.heap.size+1+1+1,0,none⟩) (v:=.agg #[(0:Int),(0:Int)]) rfl Qe (x3 (T:=52) (cs:=[.int .i64 0,.int .i64 0]) (aD _) (y _) g)
  case pos=>
   have i:=iT.1 h3;rw[h3]at K;have sW:ZK 1000000000000 W:=fun x hx=>by have:=i.w x hx;omega
   have C:=w0 (show ∀x,QB w x->Calls prog 44 #[.agg #[.slice pA pn pc,.slice B F P],.agg #[k,q],.agg #[f,l,.slice A F c]] x (Qt x (.tuple #[.agg (if bZ (ZE t k q) o f l W then #[.int .i64 (l-spentL (exs o) W),.int .i64 f]else #[.int .i64 0,.int .i64 0]),(bZ (ZE t k q) o f l W)])) from fun x N=>(DT pA B A pc P pn F c t o k q f l W x (hB.below N) hF hR L r (hW.below N) (by rw[i.len,r]) sW (by have:=i.d1;have:=i.dK;omega) i.lK).mono fun e w' h=>⟨DU h.1,h.2⟩);have aI:(spentL (exs o) W).natAbs<=8*(1000000000000*20):=by have hs:=iC (X:=20) (Y:=1000000000000) (exs o) W 8 hR.right.exs_mo sW;rw[e0 (by rw[Z7];exact hR.right.n8),e0 (by rw[i.len,<-r];exact hR.right.n8)]at hs;exact hs
   have aC:=w0 fun x=>CH (l-spentL (exs o) W) f x (by have:=i.d1;omega) (by have:=i.lK;omega) (by have:=i.d1;have:=i.dK;omega);have aL:wn=F:=by rw[<-M];exact i.len
   subst aL;obtain⟨BD,aA⟩:=Qu (l-spentL (exs o) W);have Z:lX t o k q f l W=if bZ (ZE t k q) o f l W then 0 else 20:=by unfold lX;rw[q' (by simp[Q]),r,q' (by simp[h3])]
   cases hH:bZ (ZE t k q) o f l W with
   |false=>
    rw[hH]at Z C;simp only[nK,ZyI]at Z C;have O:tB t o k q f l W=(0,0):=by unfold tB;rw[Z,q' Qc]
    rw[Z,O];clear hB hF L r hW M Z O hR Q h3 i sW aI aC hH aA;go_enter func18,ntmps18;go_wp2_with (first|(go_at_call 48;refine(J.out _ Qi).mono ?_;rintro e w2 ⟨rfl,j⟩;(obtain⟨G,H,I,N3,d⟩:=aB.out _ j);clear j;have C0:=bk2 G;have C1:=bk2 H;(have C2:=bk3 I))|(go_at_call 43;refine(K.out _ d).mono ?_;rintro e w3 ⟨rfl,a⟩;have M0:=Zx a G;have M1:=Zx a H;have M2:=Zx a I;have M3:=Zx a N3;have m:=via d a;clear a C0 C1 C2 G H I;have D0:=bk2 M0;have D1:=bk2 M1;(have D2:=bk3 M2))|(go_at_call 44;refine(C.out _ m).mono ?_;rintro e w4 ⟨rfl,D⟩;have P3:=Zx D M3;have z:=via m D;clear D)|(refine P0 Qh (.tmp 9) (.tmp 28) 52 Qh w4.heap.size [.int .i64 0,.int .i64 0] [.int .i64 0,.int .i64 0] 52 rfl rfl (y _) (ZA _ _ rfl) rfl Qc ?_;intro w6 S E aJ;(have Q3:=b5 E (Zx (ZC _ _) P3) (by have:=ZG P3;simp;omega));(have U:QB w w6:=ZS (via z (ZC _ _)) E fun b e=>(by have:=R' e;have:=z.size;omega));clear E)|(refine P0 Qh (.tmp 6) (.tmp 32) 52 Qh (w.heap.size+1+1+1) [.int .i64 0,.int .i64 0] [.int .i64 0,.int .i64 0] 52 rfl rfl (y _) Q3 rfl Qc ?_;intro w5 g s V;(have n:QB w w5:=ZS U s fun b e=>(by have:=R' e;omega));clear s));refine r3 (v:=.tuple #[.agg #[(0:Int),(0:Int)],(20:Int)]) ?_ rfl ⟨rfl,n⟩;exact b4 (p:=6) (u:=7) (ad:=⟨w.heap.size+1+1+1,0,none⟩) (v:=.agg #[(0:Int),(0:Int)]) rfl Qe (x3 (T:=52) (cs:=[.int .i64 0,.int .i64 0]) (aD _) (y _) g)|true=>
    rw[hH]at Z C;simp only[ZyJ]at Z C;have O:tB t o k q f l W=(BD / lowG BD f,f / lowG BD f):=by unfold tB;rw[Z,Zde rfl,aA]
    rw[Z,O];rw[aA]at C aC;obtain⟨U1,aF⟩:=Qu (BD / lowG BD f);obtain⟨U2,aG⟩:=Qu (f / lowG BD f);rw[aF,aG]at aC |-;clear hB hF L r hW M Z O hR Q h3 i sW aI hH aA aF aG;go_enter func18,ntmps18;go_wp2_with (first|(go_at_call 48;refine(J.out _ Qi).mono ?_;rintro e w2 ⟨rfl,j⟩;(obtain⟨G,H,I,N3,d⟩:=aB.out _ j);clear j;have C0:=bk2 G;have C1:=bk2 H;(have C2:=bk3 I))|(go_at_call 43;refine(K.out _ d).mono ?_;rintro e w3 ⟨rfl,a⟩;have M0:=Zx a G;have M1:=Zx a H;have M2:=Zx a I;have M3:=Zx a N3;have m:=via d a;clear a C0 C1 C2 G H I;have D0:=bk2 M0;have D1:=bk2 M1;(have D2:=bk3 M2))|(go_at_call 44;refine(C.out _ m).mono ?_;rintro e w4 ⟨rfl,D⟩;have P3:=Zx D M3;have z:=via m D;clear D)|(refine P0 Qh (.tmp 9) (.tmp 28) 52 Qh w4.heap.size [.int .i64 BD,.int .i64 f] [.int .i64 0,.int .i64 0] 52 rfl rfl (y _) (ZA _ _ rfl) rfl (by simp[Value.oneCell']) ?_;intro w6 S E aJ;(have Q3:=b5 E (Zx (ZC _ _) P3) (by have:=ZG P3;simp;omega));(have U:QB w w6:=ZS (via z (ZC _ _)) E fun b e=>(by have:=R' e;have:=z.size;omega));have C6:=bk2 S;clear E)|(go_at_call 49;refine(aC.out _).mono ?_;rintro e w7 ⟨rfl,aE⟩;have S3:=Zx aE Q3;have aH:=via U aE;clear aE)|(refine P0 Qh (.tmp 6) (.tmp 37) 52 Qh (w.heap.size+1+1+1) [.int .i64 U1,.int .i64 U2] [.int .i64 0,.int .i64 0] 52 rfl rfl (y _) S3 rfl (by simp[Value.oneCell']) ?_;intro w5 g s V;(have n:QB w w5:=ZS aH s fun b e=>(by have:=R' e;omega));clear s));refine r3 (v:=.tuple #[.agg #[U1,U2],(0:Int)]) ?_ rfl ⟨rfl,n⟩;exact b4 (p:=6) (u:=7) (ad:=⟨w.heap.size+1+1+1,0,none⟩) (v:=.agg #[U1,U2]) rfl Qe (x3 (T:=52) (cs:=[.int .i64 U1,.int .i64 U2]) (aD _) (y _) g)
def As{w:World} {base m c k n:Nat} {A j:i'} {b:z1} {f:e6} (h:w.ownsRow base 70 5 (.slice A m c) m (b.flatMap Pa.cs))(a:EnTy w base (.slice j n k) f)(l:b.length=m)(y:f.length=n):BookAt w A c b j k f:=by
 subst l;subst y;have u:=mU h;have g:=mU a.own;refine⟨?_,⟨?_,fun x i=>(a.row x i).1⟩,u,g,fun x i=>(a.row x i).2.1⟩;·obtain⟨r,s,d,e⟩:=y5 (cs:=Pa.cs) (sz:=5) (fun _=>rfl) h;cases d;exact e
 .obtain⟨r,s,d,e⟩:=y5 (cs:=En.cs) (sz:=3) (fun _=>rfl) a.own;cases d;exact e
def Z8:List Pa:=[⟨bs [97],10,12,5,6⟩,⟨bs [98],50,60,1,2⟩]
def ZQ(B:i'):List En:=[⟨bs [104,97,108,102],B,2,[0,-2],-1⟩]
def fD(B:i'):BookR Z8 (ZQ B):=by have h:BookR Z8 (ZQ none):=hY.1 Qm;exact h.sig rfl
def lH(w:World):Calls prog 19 #[] w fun e b=>(∃A i B,e=.returned (.agg #[.slice A 2 2,.slice i 1 1])/\BookAt b A 2 Z8 i 1 (ZQ B)/\∀g,A=some g->w.heap.size<=g.block)/\QB w b:=by
 go_enter func19,ntmps19;go_wp2;obtain⟨W,a⟩:=Qu ((((w.alloc (.cells #[.slice (some ⟨(w.heap.size+1),0,none⟩) 2 2,.slice (some ⟨(w.heap.size+1+1+1),0,none⟩) 1 1] 25)).alloc (.cells #[.string (bs [97]),(10:Int),(12:Int),(5:Int),(6:Int),.string (bs [98]),(50:Int),(60:Int),(1:Int),(2:Int)] 70)).alloc (.cells #[(0:Int),.int .i64 (-2)] 3)).alloc (.cells #[.string (bs [104,97,108,102]),.slice (some ⟨(w.heap.size+1+1),0,none⟩) 2 2,.int .i64 (-1)] 49));have j:W.heap[w.heap.size]?=some (.cells #[.slice (some ⟨(w.heap.size+1),0,none⟩) 2 2,.slice (some ⟨(w.heap.size+1+1+1),0,none⟩) 1 1] 25):=by rw[<-a];exact Qs
 have r:W.heap[(w.heap.size+1)]?=some (.cells #[.string (bs [97]),(10:Int),(12:Int),(5:Int),(6:Int),.string (bs [98]),(50:Int),(60:Int),(1:Int),(2:Int)] 70):=by rw[<-a];exact Qs
 have m:W.heap[(w.heap.size+1+1)]?=some (.cells #[(0:Int),.int .i64 (-2)] 3):=by rw[<-a];exact Qs
 have s:W.heap[(w.heap.size+1+1+1)]?=some (.cells #[.string (bs [104,97,108,102]),.slice (some ⟨(w.heap.size+1+1),0,none⟩) 2 2,.int .i64 (-1)] 49):=by rw[<-a];exact Qs
 have c:QB w W:=by rw[<-a];go_grown
 have o1:W.ownsRow w.heap.size 70 5 (.slice (some ⟨(w.heap.size+1),0,none⟩) 2 2) 2 (Z8.flatMap Pa.cs):=⟨rfl,.inr ⟨(w.heap.size+1),2,_,rfl,Qa,r,Qa,Qq,rfl,rfl⟩⟩;have o2:W.ownsRow w.heap.size 3 1 (.slice (some ⟨(w.heap.size+1+1),0,none⟩) 2 2) 2 (([0,-2]:L').flatMap Zc):=⟨rfl,.inr ⟨(w.heap.size+1+1),2,_,rfl,Qa,m,Qa,Qq,rfl,rfl⟩⟩;have o3:W.ownsRow w.heap.size 49 3 (.slice (some ⟨(w.heap.size+1+1+1),0,none⟩) 1 1) 1 ((ZQ (some ⟨(w.heap.size+1+1),0,none⟩)).flatMap En.cs):=⟨rfl,.inr ⟨(w.heap.size+1+1+1),1,_,rfl,Qa,s,Qa,Qq,rfl,rfl⟩⟩;have n:BookAt W (some ⟨(w.heap.size+1),0,none⟩) 2 Z8 (some ⟨(w.heap.size+1+1+1),0,none⟩) 1 (ZQ (some ⟨(w.heap.size+1+1),0,none⟩)):=As o1 ⟨o3,fun x u=>by obtain rfl:=y2.1 u;exact⟨x2 o2 rfl,s6 o2,fun g e=>by cases e;exact⟨_,_,m⟩⟩⟩ rfl rfl;have h:∀x,(sizeOf 25).run prog x=.ok 2 x:=fun x=>Qb
 have d:∀x,(isAgg 25).run prog x=.ok true x:=fun x=>Qb
 refine r3 (v:=.agg #[.slice (some ⟨(w.heap.size+1),0,none⟩) 2 2,.slice (some ⟨(w.heap.size+1+1+1),0,none⟩) 1 1]) ?_ rfl ⟨⟨some ⟨(w.heap.size+1),0,none⟩,some ⟨(w.heap.size+1+1+1),0,none⟩,some ⟨(w.heap.size+1+1),0,none⟩,rfl,by rw[<-a]at n;exact n,fun g e=>by cases e;dsimp only;omega⟩,by rw[<-a]at c;exact c⟩;rw[<-a]at j;exact fT (p:=0) (ad:=⟨w.heap.size,0,none⟩) rfl Qe (x3 (T:=25) (cs:=[.slice (some ⟨(w.heap.size+1),0,none⟩) 2 2,.slice (some ⟨(w.heap.size+1+1+1),0,none⟩) 1 1]) (d _) (h _) j)
def J0(B:i'):FewB Z8 (ZQ B):=⟨Qc,by show 1<=1000;decide,fun p a=>by
 rcases ZBq.1 a with rfl|a;·decide
 .obtain rfl:=y2.1 a;decide,fun x c=>by obtain rfl:=y2.1 c;show (bs [104,97,108,102]).size<=1000;decide,fun x c=>by obtain rfl:=y2.1 c;show 2<=1000;decide⟩
def Au(B:i'):N0 Z8 (ZQ B) 0 0=0:=by unfold N0;rw[hY.2 (fD B)];rfl
def LJ(B:i'):lX Z8 (ZQ B) 0 0 1 10 [20]=0/\tB Z8 (ZQ B) 0 0 1 10 [20]=(30,1):=by
 have h:lX Z8 (ZQ B) 0 0 1 10 [20]=0:=by unfold lX;rw[q' (by rw[Au];simp)];rfl
 refine⟨h,?_⟩;unfold tB;rw[Zde h];kernel_rfl
end Go.Proofs
namespace Go.Proofs
open Tryz
open Go.RowKit Go.Twin Go.Conc
variable {w' W w:World}
def codeHd:Code->Code|.seq x _=>x|c=>c
def codeTl:Code->Code|.seq _ y=>y|c=>c
noncomputable def awBody:Code:=Tryz.f4.body.getD .skip
noncomputable def aw1:Code:=codeTl awBody
noncomputable def aw2:Code:=codeTl aw1
noncomputable def aw3:Code:=codeTl aw2
noncomputable def aw4:Code:=codeTl aw3
noncomputable def aw5:Code:=codeTl aw4
def pM(A c:i')(a b:Nat):Array Value:=#[.bool false,.pointer (some b),.int .i64 0,zu,zu,zu,zu,zu,zu,zu,zu,.tuple #[.agg #[(30:Int),(1:Int)],(0:Int)],.agg #[.slice A 2 2,.slice c 1 1],.agg #[(0:Int),(0:Int)],.slice (some a) 1 1,.agg #[(1:Int),(10:Int),.slice (some a) 1 1],.tuple #[.agg #[(30:Int),(1:Int)],(0:Int)],.agg #[(30:Int),(1:Int)],.int .i64 0,zu,zu,zu,zu,zu,zu,zu,zu,zu,zu,zu,zu,zu,zu,zu,zu,zu,zu,zu,zu,zu,zu,zu,zu,zu,zu,zu,zu,zu,zu,zu,zu,zu,zu,zu,zu,zu,zu,zu,zu,zu,zu,zu,zu,zu,zu,zu,zu,zu,zu,zu,zu,zu,zu,zu,zu,zu,zu,zu,zu,zu,zu,zu,zu,zu]
def Av(w:World):(codeHd aw1).wp prog (fun e y w'=>e=.normal/\y.defers=[]/\(∃A m n C,y.tmps=pM A m n C/\w'.heap[C]?=some (.cells #[(30:Int),(1:Int)] 52))/\QB w w') ⟨#[.bool false,zu,zu,zu,zu,zu,zu,zu,zu,zu,zu,zu,zu,zu,zu,zu,zu,zu,zu,zu,zu,zu,zu,zu,zu,zu,zu,zu,zu,zu,zu,zu,zu,zu,zu,zu,zu,zu,zu,zu,zu,zu,zu,zu,zu,zu,zu,zu,zu,zu,zu,zu,zu,zu,zu,zu,zu,zu,zu,zu,zu,zu,zu,zu,zu,zu,zu,zu,zu,zu,zu,zu,zu,zu,zu,zu,zu,zu,zu,zu,zu,zu,zu,zu],[]⟩ w:=by simp only[aw1,codeHd,codeTl,awBody,Tryz.f4,M0];have d:=w0 fun x=>lH x;go_wp2_with (first|(go_at_call 19;refine(d.out _).mono ?_;rintro e b ⟨⟨A,m,B,rfl,z,D⟩,g⟩;have r:=w0 z;have i:=w0 g;clear D z g)|(go_at_call 18;(obtain⟨u,a⟩:=Qu (b.alloc (.cells #[(20:Int)] 3)));(have o2:u.ownsRow b.heap.size 3 1 (.slice (some b.heap.size) 1 1) 1 (([20]:L').flatMap Zc):=⟨rfl,.inr ⟨b.heap.size,1,_,rfl,Qa,(by rw[<-a];exact Qs),Qa,Qq,rfl,rfl⟩⟩);(have c:QB b u:=by rw[<-a];go_grown);rw[a];clear a;have s:=Ar A m (some ⟨b.heap.size,0,none⟩) 2 1 2 1 1 1 Z8 (ZQ B) 0 0 1 10 [20] u (r.out.below c) (J0 B) rfl rfl (x2 o2 rfl) rfl Qa;rw[(LJ B).1,(LJ B).2]at s;refine s.mono ?_;rintro e E ⟨rfl,h⟩;have j:=via (via i.out c) h;clear s o2 h c));exact⟨⟨A,m,_,_,rfl,Qs⟩,via j Qi⟩
def EU(B:i'):solvedL Z8.length (exs (ZQ B)) (ZE Z8 1 50)=some ([1,1],2,⟨2,0,[1]⟩):=by show solvedL 2 [([0,-2],-1)] [0,1]=some ([1,1],2,⟨2,0,[1]⟩);kernel_rfl
def Aw(B:i'):N0 Z8 (ZQ B) 1 50=0:=by unfold N0;rw[hY.2 (fD B)];rfl
def eG(X:i')(x:Nat)(Y:i')(y:Nat):Value:=.agg #[(1:Int),(2:Int),(2:Int),.slice X 2 x,(2:Int),(0:Int),.slice Y 1 y]
def Ay{B:i'} {a:Nat} {e:Ending} (h:O0 Z8 (ZQ B) 1 50 a e w'):∃X x Y y,e=.returned (.tuple #[eG X x Y y,(0:Int)]):=by unfold O0 at h;rw[q' (by rw[Aw];simp),EU]at h;obtain⟨X,x,Y,y,h,_⟩:=h;exact⟨X,x,Y,y,h⟩
def tmps2(A c:i')(a b:Nat)(C d X:i')(x:Nat)(Y:i')(y e:Nat):Array Value:=#[.bool false,.pointer (some b),.int .i64 0,.pointer (some e),.int .i64 0,zu,zu,zu,zu,zu,zu,.tuple #[.agg #[(30:Int),(1:Int)],(0:Int)],.agg #[.slice A 2 2,.slice c 1 1],.agg #[(0:Int),(0:Int)],.slice (some a) 1 1,.agg #[(1:Int),(10:Int),.slice (some a) 1 1],.tuple #[.agg #[(30:Int),(1:Int)],(0:Int)],.agg #[(30:Int),(1:Int)],.int .i64 0,.tuple #[eG X x Y y,(0:Int)],.agg #[.slice C 2 2,.slice d 1 1],.agg #[(1:Int),(50:Int)],.tuple #[eG X x Y y,(0:Int)],eG X x Y y,.int .i64 0,zu,zu,zu,zu,zu,zu,zu,zu,zu,zu,zu,zu,zu,zu,zu,zu,zu,zu,zu,zu,zu,zu,zu,zu,zu,zu,zu,zu,zu,zu,zu,zu,zu,zu,zu,zu,zu,zu,zu,zu,zu,zu,zu,zu,zu,zu,zu,zu,zu,zu,zu,zu,zu,zu,zu,zu,zu,zu,zu]
def q7(X:i')(x:Nat)(Y:i')(y:Nat):Obj:=.cells #[(1:Int),(2:Int),(2:Int),.slice X 2 x,(2:Int),(0:Int),.slice Y 1 y] 59
def Az(A r:i')(c b:Nat)(w:World):(codeHd aw2).wp prog (fun e s w'=>e=.normal/\s.defers=[]/\(∃C m X x Y y D,s.tmps=tmps2 A r c b C m X x Y y D/\w'.heap[D]?=some (q7 X x Y y))/\QB w w') ⟨pM A r c b,[]⟩ w:=by
 simp only[aw2,aw1,codeHd,codeTl,awBody,Tryz.f4,M0,pM];have d:=w0 fun x=>lH x;have F:∀x,(sizeOf 59).run prog x=.ok 7 x:=fun x=>Qb
 go_wp2_with (first|(go_at_call 19;refine(d.out _).mono ?_;rintro e f ⟨⟨C,m,B,rfl,u,E⟩,g⟩;have n:=w0 u;have i:=w0 g;clear E u g)|(go_at_call 20;have z:=DN C m 2 1 2 1 Z8 (ZQ B) 1 50 f n.out (J0 B) rfl rfl;refine z.mono ?_;rintro e G ⟨a,h⟩;(obtain⟨X,x,Y,y,rfl⟩:=Ay a);have j:=via i.out h;clear z a h;simp only[eG]));exact⟨⟨C,m,X,x,Y,y,_,rfl,Qs⟩,via j Qi⟩
structure Old (W w':World):Prop where
 size:W.heap.size<=w'.heap.size
 get:∀b,b<W.heap.size->w'.heap[b]?=W.heap[b]?
def Old.refl(W:World):Old W W:=⟨sW _,fun _ _=>rfl⟩
def Old.trans(h:Old W w)(a:Old w w'):Old W w':=⟨h9 h.size a.size,fun b c=>(a.get b (h8 c h.size)).trans (h.get b c)⟩
def Zp(h:QB w w'):Old w w':=⟨h.size,h.block⟩
def Ze{t:aJ} {d:Nat} (h:Below (w.re t d).heap.size (w.re t d) w'):Old w w':=⟨h.size,h.block⟩
def Old.at{b:Nat} {o:Obj} (h:Old W w')(hb:W.heap[b]?=some o):w'.heap[b]?=some o:=(h.get b (bO.1 hb).1).trans hb
def Ba:ZP.code (codeHd aw1)=true:=Qb
def Bb:ZP.code (codeHd aw2)=true:=Qb
def Zb{E:Env} {B:Blk} {a b:bJ} (h:AR E B a a)(e:a=b):AR E B b b:=e▸h
def Bc{b:aH} {cs:hA} (f:Halts b)(V:GlobOk w)(k:∀A c a p1 C i X x Y y p3 l' D,awB.le D->Self ZP (fun _=>False) D l'->AR ZP D (tmps2 A c a p1 C i X x Y y p3) (tmps2 A c a p1 C i X x Y y p3)->l'.heap[p1]?=some (.cells #[(30:Int),(1:Int)] 52)->l'.heap[p3]?=some (q7 X x Y y)->Old (aK w) l'->LG ZR b ((Go.Conc.base 4).at ⟨tmps2 A c a p1 C i X x Y y p3,[]⟩ [.code aw3]) cs l'):LG ZR b ((Go.Conc.base 4).at ⟨Array.replicate 84 undef,[]⟩ [.code awBody]) cs (aK w):=by
 have F:=Y3 V;have j:awB.le awB:=Blk.le_refl _;have E:AR ZP awB (Array.replicate 84 undef) (Array.replicate 84 undef):=AR.replicate _ undefR;rw[show awBody=.seq (codeHd awBody) aw1 from Qb];refine dG f ?_;simp only[awBody,codeHd,Tryz.f4,M0];refine dO f ?_;simp only[hM,y',hG,Nat.reduceAdd,m',List.range,List.range.loop];refine F8 f Z2 ZZ F (Zb E Qb) rfl rfl Qc Qb (fun B T K O Q=>?_);simp only[show ZP.P=prog from rfl];go_simp;first|refine O _ _ ?_|refine Q _ ?_
 clear O Q K B T;intro D g z n;replace j:=Blk.le_trans j g;clear F E g;have F:=z;have E:=n;clear z n;walk_nrm;refine A9 f ?_;rw[show aw1=.seq (codeHd aw1) aw2 from Qb];refine dG f ?_;refine N6 (R:=fun m w'=>(∃A c a p1,m.tmps=pM A c a p1/\w'.heap[p1]?=some (.cells #[(30:Int),(1:Int)] 52))/\Old (aK w) w') ZZ CL iX Z2 F (Zb E Qb) rfl Ba (fun v w t d h=>⟨h.1,h.2.size,h.2.get⟩) (fun t d=>iZ (fun e m w' h=>⟨h.1,h.2.1,h.2.2.1,(Ze h.2.2.2).size,(Ze h.2.2.2).get⟩) (Av _)) ?_;rintro⟨q,U⟩ Z B1 ⟨⟨A,c,a,p1,G,o⟩,L⟩ H r M I;cases G;cases H;rw[show aw2=.seq (codeHd aw2) aw3 from Qb];refine dG f ?_;refine N6 (R:=fun m w'=>(∃C i X x Y y p3,m.tmps=tmps2 A c a p1 C i X x Y y p3/\w'.heap[p3]?=some (q7 X x Y y))/\Old Z w') ZZ CL iX Z2 M I rfl Bb (fun v w t d h=>⟨h.1,h.2.size,h.2.get⟩) (fun t d=>iZ (fun e m w' h=>⟨h.1,h.2.1,h.2.2.1,(Ze h.2.2.2).size,(Ze h.2.2.2).get⟩) (Az A c a p1 _)) ?_;rintro⟨q,U⟩ l S ⟨⟨C,i,X,x,Y,y,p3,G,p⟩,u⟩ H s N J;cases G;cases H;exact k A c a p1 C i X x Y y p3 l S (Blk.le_trans (Blk.le_trans j r) s) N J (u.at o) p (L.trans u)
variable {w w':World} {b o:Nat} {v:Value}
def At.old{d:Nat} {α:Type} {cs:α->List Value} {A:i'} {e:List α} (h:At d cs w A e)(a:Old w w'):At d cs w' A e:=(h.below (⟨rfl,rfl,rfl,a.size,a.get⟩:QB w {w' with os:=w.os,tape:=w.tape,output:=w.output}):At d cs {w' with os:=w.os,tape:=w.tape,output:=w.output} A e)
def BookAt.old{d a:i'} {e c:Nat} {m:z1} {l:e6} (f:BookAt w d e m a c l)(h:Old w w'):BookAt w' d e m a c l:=⟨f.P.old h,⟨f.E.1.old h,fun x g=>(f.E.2 x g).old h⟩,f.pc',f.ec',f.nil⟩
noncomputable def shBody:Code:=Tryz.f21.body.getD .skip
noncomputable def shA:Code:=codeTl shBody
noncomputable def shB:Code:=codeTl shA
noncomputable def shC:Code:=codeTl shB
noncomputable def shD:Code:=codeTl shC
noncomputable def shE:Code:=codeTl shD
def nT(A a:i'):Array Value:=#[.agg #[.slice A 2 2,.slice a 1 1],.int .i64 1,zu,zu,zu,zu,zu,zu,zu,zu,zu,zu,zu,zu,zu,zu,zu,zu,zu,zu,zu,zu,zu,zu,zu,zu,zu,zu,zu,zu,zu,zu,zu,zu,zu,zu,zu,zu,zu,zu,zu,zu]
def pN(A a:i')(c d:Nat):Array Value:=#[.agg #[.slice A 2 2,.slice a 1 1],.int .i64 1,.pointer (some c),undef,.pointer (some d),.int .i64 0,zu,zu,zu,zu,zu,zu,zu,zu,zu,zu,zu,zu,zu,zu,zu,zu,zu,zu,zu,zu,zu,zu,zu,zu,zu,zu,zu,zu,zu,zu,zu,zu,zu,zu,zu,zu]
def pO(A c:i')(d e a:Nat):Array Value:=#[.agg #[.slice A 2 2,.slice c 1 1],.int .i64 1,.pointer (some d),undef,.pointer (some e),.int .i64 0,.int .i64 0,undef,undef,undef,.agg #[.slice A 2 2,.slice c 1 1],.int .i64 0,.int .i64 1,.pointer (some d),.slice A 2 2,.int .i64 2,.int .i64 1,.bool true,.int .i64 0,.slice (some a) 2 2,.int .i64 0,.int .i64 0,.bool false,zu,zu,zu,zu,zu,zu,zu,zu,zu,zu,zu,zu,zu,zu,zu,zu,zu,zu,zu]
def pP(A d:i')(c g a e:Nat):Array Value:=#[.agg #[.slice A 2 2,.slice d 1 1],.int .i64 1,.pointer (some c),undef,.pointer (some g),.int .i64 0,.int .i64 0,.slice (some e) 2 2,undef,undef,.agg #[.slice A 2 2,.slice d 1 1],.int .i64 0,.int .i64 1,.pointer (some c),.slice A 2 2,.int .i64 2,.int .i64 1,.bool true,.int .i64 0,.slice (some a) 2 2,.int .i64 0,.int .i64 0,.bool false,undef,undef,.pointer (some c),.slice A 2 2,.int .i64 2,.slice (some e) 2 2,zu,zu,zu,zu,zu,zu,zu,zu,zu,zu,zu,zu,zu]
def EV(A e:i')(d g c a:Nat):Array Value:=#[.agg #[.slice A 2 2,.slice e 1 1],.int .i64 1,.pointer (some d),undef,.pointer (some g),.int .i64 0,.int .i64 0,.slice (some a) 2 2,undef,undef,.agg #[.slice A 2 2,.slice e 1 1],.int .i64 0,.int .i64 1,.pointer (some d),.slice A 2 2,.int .i64 2,.int .i64 1,.bool true,.int .i64 0,.slice (some c) 2 2,.int .i64 0,.int .i64 0,.bool false,undef,undef,.pointer (some d),.slice A 2 2,.int .i64 2,.slice (some a) 2 2,.slice (some a) 2 2,.int .i64 1,.pointer (some ⟨a,1,none⟩),zu,zu,zu,zu,zu,zu,zu,zu,zu,zu]
def Bd(A a:i')(w:World):(codeHd shBody).wp prog (fun e d w'=>e=.normal/\d.defers=[]/\(∃g c,d.tmps=pN A a g c/\w'.heap[g]?=some (.cells #[.slice A 2 2,.slice a 1 1] 25)/\w'.heap[c]?=some (.cells #[(0:Int),(0:Int)] 63)/\w.heap.size<=c)/\QB w w') ⟨nT A a,[]⟩ w:=by simp only[codeHd,codeTl,shBody,Tryz.f21,M0,nT];go_wp2;exact⟨⟨_,_,rfl,Qs,Qs,by first|omega|simp⟩,Qi⟩
def Be(A c B:i')(i u:Nat)(w:World)(f:BookAt w A 2 Z8 c 1 (ZQ B))(y:w.heap[i]?=some (.cells #[.slice A 2 2,.slice c 1 1] 25)):(codeHd shA).wp prog (fun e s w'=>e=.normal/\s.defers=[]/\(∃h,s.tmps=pO A c i u h)/\QB w w') ⟨pN A c i u,[]⟩ w:=by
 simp only[codeHd,codeTl,shA,shBody,Tryz.f21,M0,pN];have z:=w0 fun W (C:QB w W)=>(hY.2 (fD B))▸kR A c 2 1 2 1 Z8 (ZQ B) W (f.below C) (J0 B) rfl rfl;have d:=w0 fun W=>eL 1 0 1 W;rw[show ZY 1 0 1=true from Qc]at d;have D:=bk2 y;have j:QB w w:=l3 _ _;clear f y;refine wp_seq ?_;refine B9 w 9 Qb Qb j ?_;intro m g;simp only[sT,j0,r4,e5];repeat (go_big_quiet_step (first
  |(go_at_call 39;with_reducible exact Grew.call (z.out _ (g.out _)))|(go_at_call 42;with_reducible exact Zd (d.out _))|(go_at_call 40;with_reducible exact Zd (c9 _ _ _))))
 refine ZyG ?_;intro E a r n;clear m g;simp only[show unl true 6=0 from rfl];go_wp2_with (go_at_call 38;refine(iB _ _ _).mono ?_;rintro e w' ⟨rfl,rfl⟩;simp only[show Z6 [0,0]=0 from rfl]);exact⟨⟨_,rfl⟩,via a Qi⟩
def Bf(A c:i')(d i a:Nat)(w:World)(j:w.heap[d]?=some (.cells #[.slice A 2 2,.slice c 1 1] 25)):(codeHd shB).wp prog (fun e h w'=>e=.normal/\h.defers=[]/\(∃g,h.tmps=pP A c d i a g/\w'.heap[g]?=some (.cells #[(0:Int),(0:Int)] 3)/\w.heap.size<=g)/\QB w w') ⟨pO A c d i a,[]⟩ w:=by simp only[codeHd,codeTl,shB,shA,shBody,Tryz.f21,M0,pO];have D:=bk2 j;clear j;have m:∀W,(Instr.makeSlice 30 (.int .i64 2) (.int .i64 2)).run prog W=.ok (.slice (some W.heap.size) 2 2) (W.alloc (.cells #[(0:Int),(0:Int)] 3)):=fun W=>BD 2 Qa W;go_wp2;exact⟨⟨_,rfl,Qs,sW _⟩,Qi⟩
def Bg{c:bJ} {T:aN} {f:Nat×Nat} (h:w.heap[b]?=some (.cells c T f)):(w.setCell ⟨b,o,none⟩ v).heap[b]?=some (.cells (c.setIfInBounds o v) T f):=by simp[World.setCell,B0,h]
def Bh{k:Nat} (a:k≠b):(w.setCell ⟨b,o,none⟩ v).heap[k]?=w.heap[k]?:=by simp[World.setCell,B0,s0 a]
def Bi(A h:i')(j m a c:Nat)(w:World)(d:w.heap[c]?=some (.cells #[(0:Int),(0:Int)] 3)):(codeHd shC).wp prog (fun e i w'=>e=.normal/\i.defers=[]/\i.tmps=EV A h j m a c/\w'.heap[c]?=some (.cells #[(0:Int),(1:Int)] 3)/\w'.heap.size=w.heap.size/\∀b,b≠c->w'.heap[b]?=w.heap[b]?) ⟨pP A h j m a c,[]⟩ w:=by simp only[codeHd,codeTl,shC,shB,shA,shBody,Tryz.f21,M0,pP];have D:=bk2 d;have g:=w0 (Bg (o:=1) (v:=.int .i64 1) d);clear d;go_wp2;exact⟨rfl,(bO.1 g.out).2,fun b n=>Bh n⟩
def LK(A c:i')(e g d a h:Nat):Array Value:=#[.agg #[.slice A 2 2,.slice c 1 1],.int .i64 1,.pointer (some e),undef,.pointer (some g),.int .i64 0,.int .i64 0,.slice (some a) 2 2,.pointer (some h),.bool true,.agg #[.slice A 2 2,.slice c 1 1],.int .i64 0,.int .i64 1,.pointer (some e),.slice A 2 2,.int .i64 2,.int .i64 1,.bool true,.int .i64 0,.slice (some d) 2 2,.int .i64 0,.int .i64 0,.bool false,undef,undef,.pointer (some e),.slice A 2 2,.int .i64 2,.slice (some a) 2 2,.slice (some a) 2 2,.int .i64 1,.pointer (some ⟨a,1,none⟩),.tuple #[.agg #[(500:Int),(1000:Int)],true],.agg #[.slice A 2 2,.slice c 1 1],.slice (some a) 2 2,.slice (some a) 2 2,.tuple #[.agg #[(500:Int),(1000:Int)],true],.agg #[(500:Int),(1000:Int)],.bool true,undef,undef,undef]
def Bj(A I:i')(M g j N G:Nat)(w:World)(f:w.heap[g]?=some (.cells #[(0:Int),(0:Int)] 63))(m:w.heap[G]?=some (.cells #[(500:Int),(1000:Int)] 63)):shE.wp prog (bodyPost prog Tryz.f21 fun e w'=>e=.returned (.tuple #[.agg #[(500:Int),(1000:Int)],(0:Int)])/\w.heap.size<=w'.heap.size/\∀b,b<w.heap.size->b≠g->w'.heap[b]?=w.heap[b]?) ⟨LK A I M g j N G,[]⟩ w:=by
 simp only[codeHd,codeTl,shE,shD,shC,shB,shA,shBody,Tryz.f21,M0,LK];have J:=bk2 f;have K:=bk2 m;have r:QB w w:=l3 _ _;have h:∀x,(sizeOf 63).run prog x=.ok 2 x:=fun x=>Qb
 have n:∀x,(isAgg 63).run prog x=.ok true x:=fun x=>Qb
 refine wp_seq ?_;refine B9 w 3 Qb Qb r ?_;intro z s;simp only[sT,j0,r4,e5];repeat (go_big_quiet_step (first|(go_at_call 40;with_reducible exact Zd (c9 _ _ _))))
 refine ZyG ?_;intro O a E c;clear z s;simp only[show unl true 12=0 from rfl];have L:=w0 (Zx a f);have F:=Zx a m;have Q:=bk2 F;clear f m F J K;go_wp2_with (first|(go_at_call 40;refine(c9 _ _ _).mono ?_;rintro e w' ⟨rfl,rfl⟩)|(refine P0 Qh (.tmp 4) (.tmp 39) 63 Qh g [.int .i64 500,.int .i64 1000] [.int .i64 0,.int .i64 0] 63 rfl rfl (h _) L.out rfl Qc ?_;intro R d y i));refine r3 (v:=.tuple #[.agg #[(500:Int),(1000:Int)],(0:Int)]) ?_ rfl ⟨rfl,by rw[i];exact c,fun b H D=>?_⟩;·exact b4 (p:=4) (u:=5) (ad:=⟨g,0,none⟩) (v:=.agg #[(500:Int),(1000:Int)]) rfl Qe (x3 (T:=63) (cs:=[.int .i64 500,.int .i64 1000]) (n _) (h _) d)
 .have C:b<O.heap.size:=h8 H c;exact(y.block b C (fun e=>D (R' e))).trans (a.block b H)
end Go.Proofs
namespace Go.Proofs
open Go.RowKit Go.Twin Go.Conc
section
variable {B:Blk} {bs':hA} {l w:World}
def ST.head{E:Env} {bs:hA} {f c:y1} {cs a:hA} (h:ST E B bs bs' (f::cs) (c::a)):FR E B f c:=by cases h with|last _ _ h _=>exact h|cons _ _ _ _ h _ _=>exact h
def Zn{E:Env} {d:bJ} {v:Value} (h:VR E B (.agg d) v) {i:Nat} {u:Value} (b:d[i]?=some u):∃a,VR E B u a:=by cases h with|agg _ xs' hx hxs=>have c:=(bO.1 b).1;exact⟨_,hxs i u (xs'[i]'Qa) b (e3 Qa)⟩
def Zj{E:Env} {A:i'} {n c:Nat} {v:Value} (h:VR E B (.slice A n c) v)(d:E.z0=false:=by rfl):∀b o s,A=some ⟨b,o,s⟩->∃a,B b a:=by rintro b o s rfl;cases h with
 |slice _ _ _ _ ha=>cases ha with|mk _ a _ _ hb=>exact⟨a,hb⟩
 |slice0 _ h=>rw[d]at h;cases h
def tL{p:Nat} {α:Type} {cs:α->List Value} {A:i'} {j:List α} (h:At p cs l A j) {x:α} (m:j[0]?=some x) {v:Value} (k:(cs x)[0]?=some v):∀b o s,A=some ⟨b,o,s⟩->∃c T f,l.heap[b]?=some (.cells c T f):=by rintro b o s rfl;obtain⟨e,g,a,_,d⟩:=h 0 x m;cases a;exact EH (d 0 v k)
def Bl(a:i'):(solvedL 2 (exs (ZQ a)) (cM [0,1])).map (fun q=>(q.1,q.2.1))=some ([0,1],1):=by show (solvedL 2 [([0,-2],-1)] [0,-1]).map (fun q=>(q.1,q.2.1))=some ([0,1],1);kernel_rfl
def gY(a:i'):exs (ZQ a)=[([0,-2],-1)]:=rfl
def EW(a:i'):cR 2 (ZQ a) [0,1]=(1,2,true):=by unfold cR;rw[gY];kernel_rfl
def EX(a:i'):cR 2 (ZQ a) (cM [0,1])=(-1,1,true):=by unfold cR;rw[gY];kernel_rfl
def Bm(a:i'):P2 2 (ZQ a) [0,1] [0,1] 1000=.tuple #[.agg #[(500:Int),(1000:Int)],true]:=by unfold P2;rw[EW,EX];kernel_rfl
def tH{a b:Int} {K:Nat} (d:a.natAbs<=K)(e:b.natAbs<=K):ZK K [a,b]:=fun x c=>by
 simp only[ZBq,ZBH,ZyH]at c;rcases c with rfl|rfl;·exact d
 .exact e
def tM{A:i'} {n c:Nat} (d:∀b o s,A=some ⟨b,o,s⟩->∃a,B b a) (g:∀b o s,A=some ⟨b,o,s⟩->∃c T f,l.heap[b]?=some (.cells c T f)):VR EnvS (idX (iW B l)) (.slice A n c) (.slice A n c):=sC fun b o s e=>⟨d b o s e,g b o s e⟩
def Bn{W:hN} {A g b:i'} {a:Nat} {k:y1} {cs o:hA} (f:BookAt l A 2 Z8 g 1 (ZQ b))(O:l.heap[a]?=some (.cells #[(0:Int),(1:Int)] 3))(h:Rel ZR W bs' B (Frame.enter ZR.P 53 #[.agg #[.slice A 2 2,.slice g 1 1],.slice (some a) 2 2,.slice (some a) 2 2,.int .i64 1000] .normal) cs l k o w):fE Tryz.prog k w fun v=>v=.tuple #[.agg #[(500:Int),(1000:Int)],true]:=by
 have u:At 1 Zc l (some ⟨a,0,none⟩) [0,1]:=x2 (⟨rfl,.inr ⟨a,2,_,rfl,k2 _,O,Qa,Qq,rfl,rfl⟩⟩:l.ownsRow 0 3 1 (.slice (some a) 2 2) 2 (([0,1]:L').flatMap Zc)) rfl;have z:=h.st.head.tmps;have Q:=sD (.agg #[.slice A 2 2,.slice g 1 1]) (.slice (some a) 2 2) (.slice (some a) 2 2) (.int .i64 1000);have K:(Frame.enter ZR.P 53 #[.agg #[.slice A 2 2,.slice g 1 1],.slice (some a) 2 2,.slice (some a) 2 2,.int .i64 1000] .normal).tmps=#[.agg #[.slice A 2 2,.slice g 1 1],.slice (some a) 2 2,.slice (some a) 2 2,.int .i64 1000]++Array.replicate 52 undef:=by show (Frame.enter Tryz.prog _ _ _).tmps=_;rw[Q];rfl
 rw[K]at z;have F:=z.getD 0 (undefR (G:=ZR) (B:=B));have J:=z.getD 1 (undefR (G:=ZR) (B:=B));have L:((#[.agg #[.slice A 2 2,.slice g 1 1],.slice (some a) 2 2,.slice (some a) 2 2,.int .i64 1000]++Array.replicate 52 undef:bJ).getD 0 undef)=.agg #[.slice A 2 2,.slice g 1 1]:=by simp[Array.getD]
 have M:((#[.agg #[.slice A 2 2,.slice g 1 1],.slice (some a) 2 2,.slice (some a) 2 2,.int .i64 1000]++Array.replicate 52 undef:bJ).getD 1 undef)=.slice (some a) 2 2:=by simp[Array.getD]
 rw[L]at F;rw[M]at J;obtain⟨u1,C⟩:=Zn F (i:=0) rfl;obtain⟨u2,D⟩:=Zn F (i:=1) rfl;have U:=tM (l:=l) (n:=2) (c:=2) (Zj C) (tL f.P rfl rfl);have V:=tM (l:=l) (n:=1) (c:=1) (Zj D) (tL f.E.1 rfl rfl);have I:=tM (l:=l) (n:=2) (c:=2) (Zj J) (tL u rfl rfl);intro H c X Y Z t q N r s T;refine EI (E1:=ZR) (lows:=[0,1]) (ups:=[0,1]) rfl (fun _=>rfl) rfl (fD b).right f.E rfl Qc Qc (fun x S=>by obtain rfl:=y2.1 S;simp) ⟨u,rfl,tH Qc Qc,fun m d p j=>?_⟩ u rfl (tH Qc Qc) (fun m d p j=>?_) ?_ ?_ U V I I h N r s (fun R=>T (R.trans (show P2 Z8.length (ZQ b) [0,1] [0,1] 1000=_ from Bm b)));·have e:solvedL Z8.length (exs (ZQ b)) [0,1]=_:=EU b;rw[e]at j;cases j;exact⟨rfl,tH Qc Qc⟩
 .have e:=Bl b;have y:solvedL 2 (exs (ZQ b)) (cM [0,1])=some (m,d,p):=j;rw[y]at e;cases e;exact⟨rfl,tH Qc Qc⟩
 .unfold R8;have e:cR Z8.length (ZQ b) [0,1]=_:=EW b;rw[e];intro _;exact⟨Qc,Qc⟩
 .unfold R8;have e:cR Z8.length (ZQ b) (cM [0,1])=_:=EX b;rw[e];intro _;exact⟨Qc,Qc⟩
end
open Tryz
variable {w:World}
attribute [local go_sem] Oper.semAt_some gP gQ gR eU gT gU
def lI{P:aA} {fn:Func} {x:Code} {R:hS} {a:Act} {d:Ending->World->Prop} (h:x.wp P (bodyPost P fn d) a w)(b:∀e w,d e w->∃v,e=.returned v/\R v w):x.wp P (fun e j f=>(e=.ret∨e=.normal)/\j.defers=[]/\∃v,(results fn j.tmps).run P f=.ok v f/\R v f) a w:=wp_mono h fun e j f g=>by cases e with|normal=>obtain⟨m,v,n,r⟩:=g;obtain⟨s,e,i⟩:=b _ _ r;cases e;exact⟨.inr rfl,m,_,n,i⟩|ret=>obtain⟨m,v,n,r⟩:=g;obtain⟨s,e,i⟩:=b _ _ r;cases e;exact⟨.inl rfl,m,_,n,i⟩|panic c=>obtain⟨s,e,i⟩:=b _ _ g.2;cases e|outgrown=>obtain⟨s,e,i⟩:=b _ _ g;cases e|exit id=>exact g.elim|goto id=>exact g.elim
def Bo (A a:i'):Frame.enter prog 21 #[.agg #[.slice A 2 2,.slice a 1 1],.int .i64 1] .normal=(Go.Conc.base 21).at ⟨nT A a,[]⟩ [.code shBody]:=by rw[iU (fn:=Tryz.f21) (c:=Tryz.f21.body.getD .skip) _ func21 rfl];kernel_rfl
def Old.re{b:World} (h:Old w b)(t:aJ)(d:Nat):Old w (b.re t d):=⟨h.size,h.get⟩
def Bp{q:hS} {W l0:World} {E:Blk} {bs':hA} (aH:∀b x,E b x->(fun _:Nat=>False) b∨(b=x/\x<l0.heap.size/\l0.heap[x]?=W.heap[x]?/\ZR.sh=false/\ZR.junk=false)) {A u BB:i'} {c:y1} {cs:hA} {l:World} {B:Blk} (f:Self ZP (fun _=>False) B l)(o:AR ZP B #[.agg #[.slice A 2 2,.slice u 1 1],.int .i64 1] #[.agg #[.slice A 2 2,.slice u 1 1],.int .i64 1])(hB:BookAt l A 2 Z8 u 1 (ZQ BB))(ho:Old l0 l)(k:∀l' G,Old l l'->B.le G->Self ZP (fun _=>False) G l'->LG ZR (StopG ZR q W l0 E (fun _=>False) bs') (c.finish (.tuple #[.agg #[(500:Int),(1000:Int)],(0:Int)])) cs l'):LG ZR (StopG ZR q W l0 E (fun _=>False) bs') (Frame.enter prog 21 #[.agg #[.slice A 2 2,.slice u 1 1],.int .i64 1] .normal) (c::cs) l:=by
 have z:Halts (StopG ZR q W l0 E (fun _=>False) bs'):=gV;rw[Bo];have aL:AR ZP B (nT A u) (nT A u):=Zb (o.append (AR.replicate 40 undefR)) Qb;rw[show shBody=.seq (codeHd shBody) shA from Qb];refine dG z ?_;refine N6 (R:=fun H p=>(∃J F,H.tmps=pN A u J F/\p.heap[J]?=some (.cells #[.slice A 2 2,.slice u 1 1] 25)/\p.heap[F]?=some (.cells #[(0:Int),(0:Int)] 63)/\l.heap.size<=F)/\Old l p) ZZ CL iX Z2 f aL rfl Qb (fun v w t d h=>⟨h.1,h.2.size,h.2.get⟩) (fun t d=>iZ (fun e H p h=>⟨h.1,h.2.1,h.2.2.1,(Ze h.2.2.2).size,(Ze h.2.2.2).get⟩) (Bd A u _)) ?_;rintro⟨tm,df⟩ l1 B1 ⟨⟨J,F,T,n2,n4,aX⟩,aF⟩ U aA aR aM;cases T;cases U;have Z:=hB.old aF;rw[show shA=.seq (codeHd shA) shB from Qb];refine dG z ?_;refine N6 (R:=fun H p=>(∃D,H.tmps=pO A u J F D)/\Old l1 p) ZZ CL iX Z2 aR aM rfl Qb (fun v w t d h=>⟨h.1,h.2.size,h.2.get⟩) (fun t d=>iZ (fun e H p h=>⟨h.1,h.2.1,h.2.2.1,(Ze h.2.2.2).size,(Ze h.2.2.2).get⟩) (Be A u BB J F _ (Z.old ((Old.refl l1).re t d)) n2)) ?_;rintro⟨tm,df⟩ l2 B2 ⟨⟨D,T⟩,M⟩ U aB aS aN;cases T;cases U;have m2:=M.at n2;rw[show shB=.seq (codeHd shB) shC from Qb];refine dG z ?_;refine N6 (R:=fun H p=>(∃I,H.tmps=pP A u J F D I/\p.heap[I]?=some (.cells #[(0:Int),(0:Int)] 3)/\l2.heap.size<=I)/\Old l2 p) ZZ CL iX Z2 aS aN rfl Qb (fun v w t d h=>⟨h.1,h.2.size,h.2.get⟩) (fun t d=>iZ (fun e H p h=>⟨h.1,h.2.1,h.2.2.1,(Ze h.2.2.2).size,(Ze h.2.2.2).get⟩) (Bf A u J F D _ m2)) ?_;rintro⟨tm,df⟩ l3 B3 ⟨⟨I,T,n7,aY⟩,aG⟩ U aC aT aO;cases T;cases U;rw[show shC=.seq (codeHd shC) shD from Qb];refine dG z ?_;refine N6 (R:=fun H p=>(H.tmps=EV A u J F D I/\p.heap[I]?=some (.cells #[(0:Int),(1:Int)] 3)/\p.heap.size=l3.heap.size/\∀b,b≠I->p.heap[b]?=l3.heap[b]?)) ZZ CL iX Z2 aT aO rfl Qb (fun v w t d h=>h) (fun t d=>iZ (fun e H p h=>h) (Bi A u J F D I (l3.re t d) n7)) ?_;rintro⟨tm,df⟩ Y B4 ⟨T,aV,aW,aI⟩ U aD f o;cases T;cases U;have N:Old l2 Y:=⟨by have:=aG.size;omega,fun b hb=>(aI b Qa).trans (aG.get b hb)⟩;have m:=Blk.le_trans (Blk.le_trans (Blk.le_trans aA aB) aC) aD;have aK:=(Z.old M).old N;have h2:=N.at m2;have h4:=N.at (M.at n4);have D2:=bk2 h2;rw[show shD=.seq (codeHd shD) shE from Qb];refine dG z ?_;simp only[codeHd,codeTl,shD,shC,shB,shA,shBody,Tryz.f21,M0];refine dO z ?_;simp only[hM,y',hG,Nat.reduceAdd,m',List.range,List.range.loop];refine F8 z Z2 ZZ f (Zb o Qb) rfl rfl Qc Qb (fun C y K r s=>?_);simp only[show ZP.P=prog from rfl];go_simp;first|refine r _ _ ?_|refine s _ ?_
 iterate 2(
  clear r s K C y;intro G a j i;replace m:=Blk.le_trans m a;clear f o a;have f:=j;have o:=i;clear j i;walk_nrm;refine F8 z Z2 ZZ f (Zb o Qb) rfl rfl Qc Qb (fun C y K r s=>?_);simp only[show ZP.P=prog from rfl];go_simp;first|refine r _ _ ?_|refine s _ ?_)
 clear r s K C y;intro G a j i;replace m:=Blk.le_trans m a;clear f o a;have f:=j;have o:=i;clear j i;walk_nrm;have X:Old l Y:=aF.trans (M.trans N);refine fV (g:=53) (args:=#[.agg #[.slice A 2 2,.slice u 1 1],.slice (some I) 2 2,.slice (some I) 2 2,.int .i64 1000]) z rfl rfl Qc Qb (fun p=>by simp only[show ZR.P=prog from rfl];kernel_rfl) ?_;refine .stop _ _ _ (zZ (R:=fun v=>v=.tuple #[.agg #[(500:Int),(1000:Int)],true]) qP aH Qd (fun c h=>by cases h) (ho.trans X).get (fun h hO=>Bn aK aV h) (fun v hv=>by subst hv;kernel_rfl) fun v n hv=>?_);subst hv;rw[cL];have f:=f.pad n;have o:=o.set 36 (VR.closed 8 (.tuple #[.agg #[(500:Int),(1000:Int)],true]) Qb);have O:Old Y (pad Y n):=⟨by rw[fS];omega,fun b hb=>k5 Y n hb⟩;obtain⟨Q,aP⟩:=Qu (pad Y n);rw[aP]at f O |-;walk_nrm;refine F8 z Z2 ZZ f (Zb o Qb) rfl rfl Qc Qb (fun C y K r s=>?_);simp only[show ZP.P=prog from rfl];go_simp;first|refine r _ _ ?_|refine s _ ?_
 iterate 5(
  clear r s K C y;intro G a j i;replace m:=Blk.le_trans m a;clear f o a;have f:=j;have o:=i;clear j i;walk_nrm;refine F8 z Z2 ZZ f (Zb o Qb) rfl rfl Qc Qb (fun C y K r s=>?_);simp only[show ZP.P=prog from rfl];go_simp;first|refine r _ _ ?_|refine s _ ?_)
 clear r s K C y;intro G a j i;replace m:=Blk.le_trans m a;clear f o a;have f:=j;have o:=i;clear j i;walk_nrm;refine A9 z ?_;obtain⟨S,L⟩:=Qu (Q.alloc (.cells #[(500:Int),(1000:Int)] 63));have n8:S.heap[Q.heap.size]?=some (.cells #[(500:Int),(1000:Int)] 63):=by rw[<-L];exact Qs
 have V:Old Q S:=by rw[<-L];exact Zp (by go_grown:QB Q _)
 rw[L]at f |-;clear L;have aJ:=V.at (O.at h4);refine AH (fn:=Tryz.f21) (x:=shE) (R:=fun v w=>v=.tuple #[.agg #[(500:Int),(1000:Int)],(0:Int)]/\S.heap.size<=w.heap.size/\∀b,b<S.heap.size->b≠F->w.heap[b]?=S.heap[b]?) ZZ CL iX Z2 f (Zb o Qb) rfl Qb func21 (fun v w t d h=>h) (fun t d=>lI (Bj A u J F D I Q.heap.size (S.re t d) aJ n8) fun e w h=>⟨_,h.1,rfl,h.2⟩) ?_;rintro v l7 B7 ⟨rfl,aZ,aQ⟩ aE aU hv;have z1:=X.size;have z2:=O.size;have z3:=V.size;refine k l7 B7 ⟨Qa,fun b hb=>?_⟩ (Blk.le_trans m aE) aU;exact(aQ b Qa Qa).trans ((V.get b Qa).trans ((O.get b Qa).trans (X.get b hb)))
variable {B:Blk}
attribute [local go_sem] Oper.semAt_some gP gQ gR eU gT gU
def tmps3(A c:i')(a b:Nat)(C d X:i')(x:Nat)(Y:i')(y f:Nat)(D e:i')(g:Nat):Array Value:=#[.bool false,.pointer (some b),.int .i64 0,.pointer (some f),.int .i64 0,.pointer (some g),.int .i64 0,undef,undef,undef,undef,.tuple #[.agg #[(30:Int),(1:Int)],(0:Int)],.agg #[.slice A 2 2,.slice c 1 1],.agg #[(0:Int),(0:Int)],.slice (some a) 1 1,.agg #[(1:Int),(10:Int),.slice (some a) 1 1],.tuple #[.agg #[(30:Int),(1:Int)],(0:Int)],.agg #[(30:Int),(1:Int)],.int .i64 0,.tuple #[eG X x Y y,(0:Int)],.agg #[.slice C 2 2,.slice d 1 1],.agg #[(1:Int),(50:Int)],.tuple #[eG X x Y y,(0:Int)],eG X x Y y,.int .i64 0,.tuple #[.agg #[(500:Int),(1000:Int)],(0:Int)],.agg #[.slice D 2 2,.slice e 1 1],.tuple #[.agg #[(500:Int),(1000:Int)],(0:Int)],.agg #[(500:Int),(1000:Int)],.int .i64 0,zu,zu,zu,zu,zu,zu,zu,zu,zu,zu,zu,zu,zu,zu,zu,zu,zu,zu,zu,zu,zu,zu,zu,zu,zu,zu,zu,zu,zu,zu,zu,zu,zu,zu,zu,zu,zu,zu,zu,zu,zu,zu,zu,zu,zu,zu,zu,zu,zu,zu,zu,zu,zu,zu]
def Zq{E:Env} {a:bJ} (h:AR E B a a)(i:Nat) {v:Value} (e:a.getD i undef=v):VR E B v v:=e▸h.getD i undefR
def EY(l:World)(t:aJ)(d:Nat):Calls ZP.P 19 #[] (l.re t d) fun e w=>∃v,e=.returned v/\((∃A a B,v=.agg #[.slice A 2 2,.slice a 1 1]/\BookAt w A 2 Z8 a 1 (ZQ B))/\Old l w):=(lH (l.re t d)).mono fun e w h=>by obtain⟨⟨A,a,B,rfl,c,_⟩,g⟩:=h;exact⟨_,rfl,⟨A,a,B,rfl,c⟩,Ze g⟩
def EZ(l:World)(v:Value)(w:World)(t:aJ)(d:Nat)(h:(∃A a B,v=.agg #[.slice A 2 2,.slice a 1 1]/\BookAt w A 2 Z8 a 1 (ZQ B))/\Old l w):(∃A a B,v=.agg #[.slice A 2 2,.slice a 1 1]/\BookAt (w.re t d) A 2 Z8 a 1 (ZQ B))/\Old l (w.re t d):=by obtain⟨⟨A,a,B,e,c⟩,g⟩:=h;exact⟨⟨A,a,B,e,c.old ((Old.refl w).re t d)⟩,g.re t d⟩
def Bq{p:hS} {W t:World} {j:Blk} {q:hA} (L:∀b x,j b x->(fun _:Nat=>False) b∨(b=x/\x<t.heap.size/\t.heap[x]?=W.heap[x]?/\ZR.sh=false/\ZR.junk=false)) {A G:i'} {m p1:Nat} {C H X:i'} {x:Nat} {Y:i'} {y p3:Nat} {cs:hA} (T:cs≠[]) {l:World} (o:Self ZP (fun _=>False) B l) (f:AR ZP B (tmps2 A G m p1 C H X x Y y p3) (tmps2 A G m p1 C H X x Y y p3)) (U:Old t l)(k:∀D E N l' u,B.le u->Self ZP (fun _=>False) u l'->AR ZP u (tmps3 A G m p1 C H X x Y y p3 D E N) (tmps3 A G m p1 C H X x Y y p3 D E N)->l'.heap[N]?=some (.cells #[(500:Int),(1000:Int)] 63)->Old l l'->LG ZR (StopG ZR p W t j (fun _=>False) q) ((Go.Conc.base 4).at ⟨tmps3 A G m p1 C H X x Y y p3 D E N,[]⟩ [.code aw4]) cs l'):LG ZR (StopG ZR p W t j (fun _=>False) q) ((Go.Conc.base 4).at ⟨tmps2 A G m p1 C H X x Y y p3,[]⟩ [.code aw3]) cs l:=by
 have r:Halts (StopG ZR p W t j (fun _=>False) q):=gV;have e:B.le B:=Blk.le_refl _;rw[show aw3=.seq (codeHd aw3) aw4 from Qb];refine dG r ?_;simp only[codeHd,codeTl,aw3,aw2,aw1,awBody,Tryz.f4,M0,tmps2,eG];refine dO r ?_;simp only[hM,y',hG,Nat.reduceAdd,m',List.range,List.range.loop];refine AG (g:=19) (args:=#[]) r ZZ CL iX Z2 o (Zb f Qb) rfl rfl Qc Qb (fun w'=>by simp only[show ZP.P=prog from rfl];kernel_rfl) Qb (AR.empty) (EZ l) (EY l) ?_;rintro v l1 V ⟨⟨D,E,BB,rfl,O⟩,J⟩ I S F;clear o f;walk_nrm;refine fV (g:=21) (args:=#[.agg #[.slice D 2 2,.slice E 1 1],.int .i64 1]) r rfl rfl Qc Qb (fun w'=>by simp only[show ZR.P=prog from rfl];kernel_rfl) ?_;refine Bp L S (Zb (((AR.replicate 2 undefR).set 0 (Zq F 26 (v:=.agg #[.slice D 2 2,.slice E 1 1]) Qb)).set 1 (.int .i64 1)) Qb) O (U.trans J) fun M Z Q z o=>?_;have f:=(F.mono z).set 27 (VR.closed 8 (.tuple #[.agg #[(500:Int),(1000:Int)],(0:Int)]) Qb);replace e:=Blk.le_trans I z;rw[cL];clear F;walk_nrm;refine F8 r Z2 ZZ o (Zb f Qb) rfl rfl Qc Qb (fun s n K h i=>?_);simp only[show ZP.P=prog from rfl];go_simp;first|refine h _ _ ?_|refine i _ ?_
 iterate 5(
  clear h i K s n;intro u a d c;replace e:=Blk.le_trans e a;clear o f a;have o:=d;have f:=c;clear d c;walk_nrm;refine F8 r Z2 ZZ o (Zb f Qb) rfl rfl Qc Qb (fun s n K h i=>?_);simp only[show ZP.P=prog from rfl];go_simp;first|refine h _ _ ?_|refine i _ ?_)
 clear h i K s n;intro u a d c;replace e:=Blk.le_trans e a;clear o f a;have o:=d;have f:=c;clear d c;walk_nrm;refine A9 r ?_;have R:Old M (M.alloc (.cells #[(500:Int),(1000:Int)] 63)):=Zp (by go_grown:QB M _);refine k D E M.heap.size _ _ e o (Zb f Qb) (Qs) (J.trans (Q.trans R))
end Go.Proofs
namespace Go.Proofs
open Go.RowKit Go.Twin Go.Conc
variable {w:World}
def E4(d:GlobOk w):∀b x,awB b x->(fun _:Nat=>False) b∨(b=x/\x<(aK w).heap.size/\(aK w).heap[x]?=w.heap[x]?/\ZR.sh=false/\ZR.junk=false):=fun b x a=>by obtain⟨rfl,a⟩:=a;obtain⟨e,T,f,c,_⟩:=d.ints b a;refine .inr ⟨rfl,?_,Ok w (mT a).1 (mT a).2,rfl,rfl⟩;rw[R9];exact(bO.1 c).1
def Br{b:hS} {cs:hA} {f:hA} (u:cs≠[])(F:GlobOk w)(k:∀A e a p1 C g X x Y y p3 D h d l' n,awB.le n->Self ZP (fun _=>False) n l'->AR ZP n (tmps3 A e a p1 C g X x Y y p3 D h d) (tmps3 A e a p1 C g X x Y y p3 D h d)->l'.heap[p1]?=some (.cells #[(30:Int),(1:Int)] 52)->l'.heap[p3]?=some (q7 X x Y y)->l'.heap[d]?=some (.cells #[(500:Int),(1000:Int)] 63)->Old (aK w) l'->LG ZR (StopG ZR b w (aK w) awB (fun _=>False) f) ((Go.Conc.base 4).at ⟨tmps3 A e a p1 C g X x Y y p3 D h d,[]⟩ [.code aw4]) cs l'):LG ZR (StopG ZR b w (aK w) awB (fun _=>False) f) (Frame.enter Tryz.prog 4 #[] .normal) cs (aK w):=by rw[EK];refine Bc gV F fun A e a p1 C g X x Y y p3 M L i z r I J m=>?_;exact Bq (E4 F) u z r m fun D h d H G j E s K c=>k A e a p1 C g X x Y y p3 D h d H G (Blk.le_trans i j) E s (c.at I) (c.at J) K (m.trans c)
end Go.Proofs
namespace Go.Proofs
open Tryz
open Go.RowKit
def Bu{l:hR} (h:hT l=true):∀c∈l,c≠32/\c≠10:=fun c e=>by
 unfold hT fY at h;simp only[aY,bP,w5]at h;obtain⟨i,d⟩:=gA e;have a:=h.2 i (p1.1 d).1;rw[D1,d]at a;simp only[M0]at a;constructor;·rintro rfl;revert a;simp[cY,jM]
 .rintro rfl;revert a;simp[cY,jM]
def lY(k d v b c:Int)(W:L'):List Int:=if k=1 then d::v::b::c::W else v::b::c::W
def xY(e:hR)(k d v b c:Int)(W:L'):Q5 e k d v b c W=e::(if k=1 then pL else pK)::(lY k d v b c W).map Lib.itoa:=by unfold Q5 lY;split<;>simp
def Bv:((bs pK).toList==[109,101,97,110])=true/\((bs pK).toList==[115,104,97,114,101])=false/\((bs pL).toList==[109,101,97,110])=false/\((bs pL).toList==[115,104,97,114,101])=true:=by rw[ByteArray.toList_eq,ByteArray.toList_eq,Pl,Pl];decide
def Bw(k d v b c:Int)(W:L'):3<=(lY k d v b c W).length/\(lY k d v b c W).length=W.length+(if k=1 then 4 else 3):=by unfold lY;split<;>simp
def Bx{g:hR} {k h v b f:Int} {W:L'} (e:hT g=true):cutL (Lib.join (Q5 g k h v b f W) [32])=Q5 g k h v b f W:=by
 refine LF _ (by rw[xY];simp) fun x a=>?_;rw[xY]at a;rcases ZBq.1 a with rfl|a;·exact fun c d=>(Bu e c d).1
 rcases ZBq.1 a with rfl|a;·split<;>decide
 .obtain⟨n,-,rfl⟩:=b3.1 a;exact fun c d=>((Y' n).2 c d).1
section
variable {P:aA} {f:aE} {o:Oper} {t ty:aN} {p q:Operand} {b:Nat} {v0 v1 v2 u0 u1 u2 u3 u4 u5 u6:Value} {x:World}
def By(g:o.op=.store t p q)(h:v0.oneCell'=true)(d:v1.oneCell'=true)(e:v2.oneCell'=true)(a:Sem.run P (sizeOf t) x=.ok 3 x)(i:f p=.pointer (some ⟨b,4,none⟩))(hq:f q=.agg #[v0,v1,v2])(j:x.heap[b]?=some (.cells #[u0,u1,u2,u3,u4,u5,u6] ty)):(execOp f o).run P x=.ok .skip (((x.setCell ⟨b,4,none⟩ v0).setCell ⟨b,5,none⟩ v1).setCell ⟨b,6,none⟩ v2):=by have c:=bk7 j;unfold execOp;rw[g];simp[go_sem,i,hq,c,a,mB _ _ _ v0 _ h,mB _ _ _ v1 _ d,mB _ _ _ v2 _ e]
def Ca{n:Int} (d:o.op=.store t p q)(a:Sem.run P (sizeOf t) x=.ok 1 x)(e:f p=.pointer (some ⟨b,3,none⟩))(hq:f q=.int .i64 n)(g:x.heap[b]?=some (.cells #[u0,u1,u2,u3,u4,u5,u6] ty)):(execOp f o).run P x=.ok .skip (x.setCell ⟨b,3,none⟩ (.int .i64 n)):=by have c:=bk7 g;unfold execOp;rw[d];simp[go_sem,e,hq,c,a]
end
def Cb(q:hR)(v l f:Int)(W:L')(C:Nat)(w:World)(bC:q.length<=20)(Z:hT q=true)(t:NumsR 0 v l f W)(bI:W.length=C)(ht:Tabs w):Calls prog 23 #[.string (bs (Lib.join (Q5 q 0 0 v l f W) [32]))] w fun e P=>(∃A c,e=.returned (.tuple #[.agg #[.string (bs q),(0:Int),(0:Int),v,l,f,.slice A C c],(0:Int)])/\At 1 Zc P A W)/\QB w P:=by
 have bA:=Aq (k:=0) bC t;have D:=w0 fun X (hb:QB w X)=>Ad (bs (Lib.join (Q5 q 0 0 v l f W) [32])) X (by rw[pJ];omega) (ht.below hb);simp only[Pl,Bx Z]at D;obtain⟨bX,bY,-⟩:=ET (k:=0) bC t;have bB:∀x∈lY 0 0 v l f W,x.natAbs<10^(12+1):=fun x z=>by
  have h1:=t.ag;have h2:=t.v;have h3:=t.den;have h4:=t.lev;unfold lY at z;split at z
  .simp only[ZBq]at z;rcases z with rfl|rfl|rfl|rfl|z;·omega
   .omega
   .omega
   .omega
   .have:=t.wt x z;omega
  .simp only[ZBq]at z;rcases z with rfl|rfl|rfl|z;·omega
   .omega
   .omega
   .have:=t.wt x z;omega
 have Y:=w0 fun(A:i')(m c:Nat)(X:World)(hb:QB w X)(hA:At 1 Sc X A ((lY 0 0 v l f W).map Lib.itoa))(hm:(lY 0 0 v l f W).length=m)(h9:m<=900)=>Ah A (lY 0 0 v l f W) 12 m c X Qc bB hA hm h9 (ht.below hb);obtain⟨S,hS⟩:=Qu (bs (Lib.join (Q5 q 0 0 v l f W) [32]));rw[hS]at D |-;rw[xY]at D;have aI:((12+1:Nat):Int)=13:=rfl;simp only[aI]at Y;have aD:=w0 t;have cL:=w0 Z;have aA:∀x,(sizeOf 34).run prog x=.ok 7 x:=fun x=>Qb
 have aR:∀x,(isAgg 34).run prog x=.ok true x:=fun x=>Qb
 have bE:=w0 fun W=>eL v 0 1000 W;have bF:=w0 fun W=>eL l 1 1000000000000 W;have bG:=w0 fun W=>rK f 1000000000000 W Qc;rw[dB.2 t.v]at bE;rw[dB.2 t.den]at bF;rw[show dA f 1000000000000=true from dB.2 (by have:=t.lev;omega)]at bG;have aO:=w0 fun W=>Ix (bs q) W (by rw[pJ];omega);rw[Pl,Z]at aO;have aJ:=w0 fun W=>rL 0 0 W;rw[kS.2 ⟨.inl rfl,t.ag.1,t.ag.2⟩]at aJ;clear bA bX bY bB hS ht t Z;obtain⟨q1,q2,q3,q4⟩:=Bv;obtain⟨l1,l2⟩:=Bw 0 0 v l f W;have aQ:=aD.out.n;obtain⟨N,hN⟩:=Qu (lY 0 0 v l f W);have bN:=w0 hN;rw[hN]at D Y l1 l2;obtain⟨m,hm⟩:=Qu N.length;have bU:=w0 hm;obtain⟨n,hn⟩:=Qu (m+1+1);simp only[y',sA,hm,hn]at D Y;have cZ:=w0 l2;have cP:3<=m:=Qa
 have cG:m<=12:=by split at l2<;>omega
 have cV:¬(n:Int)<2:=Qa
 have cS:(0:Int)<(n:Int):=Qa
 have cT:(1:Int)<(n:Int):=Qa
 have cU:(2:Int)<=(n:Int):=Qa
 have cR:n-2=m:=Qa
 have cQ:¬(m:Int)<3:=Qa
 have cH:(0:Int)<(m:Int):=Qa
 have cI:(1:Int)<(m:Int):=Qa
 have cJ:(2:Int)<(m:Int):=Qa
 clear hN hm hn l1 l2 aQ aI;simp only[show ¬((0:Int)=1)by decide,ZyI]at D;go_enter func23,ntmps23;go_wp2_with (first|(go_at_call 56;refine(D.out _ Qi).mono ?_;rintro e w2 ⟨⟨A,c,rfl,V,cW⟩,aF⟩;(obtain⟨b,o,rfl,bR,aV⟩:=V 0 _ rfl);(obtain⟨b',o',e1,-,aW⟩:=V 1 _ rfl);cases e1;have y0:=aV 0 _ rfl;have y1:=aW 0 _ rfl;have aK:=w0 (V.tail1 2);simp only[w7,gD,qU]at y0 y1;have M0:=Zx aF (ZA w (.cells #[.string (ByteArray.mk #[]),(0:Int),(0:Int),(0:Int),(0:Int),(0:Int),.slice none 0 0] 34) rfl);have cX:=ZG M0;have O:=via (ZC w (.cells #[.string (ByteArray.mk #[]),(0:Int),(0:Int),(0:Int),(0:Int),(0:Int),.slice none 0 0] 34)) aF;clear V aV aW aF)|(go_at_call 57;refine(Y.out _ m _ _ O (by have:=aK.out;simpa using this) rfl Qa).mono ?_;rintro e I ⟨⟨A2,R,rfl,aP⟩,H⟩;have z0:=tG y0 H;have z1:=tG y1 H;have M1:=Zx H M0;have Q:=via O H;have G:=w0 aP;have cF:=h8 bR H.size;clear aP H y0 y1 M0)|(refine P0 Qh (.tmp 7) (.tmp 40) 34 Qh I.heap.size [.string (bs q),.int .i64 0,.int .i64 0,.int .i64 0,.int .i64 0,.int .i64 0,.slice none 0 0] [.string (ByteArray.mk #[]),.int .i64 0,.int .i64 0,.int .i64 0,.int .i64 0,.int .i64 0,.slice none 0 0] 34 ?sp ?sq (aA _) ?sb rfl (by simp[Value.oneCell']) ?_));case sp=>rfl
 case sq=>rfl
 case sb=>exact ZA _ _ rfl
 intro w4 E aX bD;have cM:=ZG M1;have d:QB I w4:=ZS (ZC _ _) aX fun b e=>by cases e;exact sW _
 have x0:=tG z0 d;have x1:=tG z1 d;have M2:=Zx d M1;have aS:=via Q d;have hL:=w0 (e7 G.out);have aM:=w0 ((e7 G.out).below d);have bO:N=v::l::f::W:=by rw[<-bN.out];rfl
 subst bO;have cK:m<=R:=xP G.out;have bV:m-3=C:=by have:=bU.out;simp at this;omega
 obtain⟨J,o2,rfl,bK,c0⟩:=D9 hL.out (k:=0) Qd;obtain⟨_,_,ee,-,c1⟩:=D9 hL.out (k:=1) Qd;cases ee;obtain⟨_,_,ee,-,aB⟩:=D9 hL.out (k:=2) Qd;cases ee;simp only[r1,hW,w7]at c0 c1 aB;have e0:=tG c0 d;have e1:=tG c1 d;have e2:=tG aB d;have K:=h8 bK d.size;have F:J≠I.heap.size:=Qa
 have aL:J≠w.heap.size:=by have:=(G.out.lt J rfl).1;omega
 clear c0 c1 aB;have F0:=bk7 M2;have F4:=bk7 E;clear aX bD d M1 z0 z1 O;have bP:=aS;have M:=E;have aE:=w0 (aM.out.tail1 3);simp only[w8]at aE;clear aS E aM hL;go_wp2;refine p5 Qb ?_;refine v8 15 _ rfl rfl Qb Qb Qb Qb ?_;simp only[sT,j0];apply sH w 13 I.heap.size (.cells #[.string (bs q),(0:Int),(0:Int),(0:Int),(0:Int),(0:Int),.slice none 0 0] 34) (.cells #[.string (bs q),(0:Int),(0:Int),v,(0:Int),(0:Int),.slice none 0 0] 34);case hB=>kernel_rfl
 case hB'|hS|hN|hkd=>kernel_rfl
 case hw=>exact bP
 case hb=>exact Q.size
 case h4=>exact M
 case hq=>
  intro u hu aZ;have cE:=h8 K hu.2.1;have G0:=(Q0 (a:=⟨J,o2,none⟩) (hu.2.2 J K F)).trans e0;have G1:=(Q0 (a:=⟨J,o2+1,none⟩) (hu.2.2 J K F)).trans e1;have G2:=(Q0 (a:=⟨J,o2+2,none⟩) (hu.2.2 J K F)).trans e2;simp only[mixL,yieldsC,l5,n7,Nat.reduceAdd,Nat.reduceBEq,m',o7,sS,p',k7,nK,ZyJ,ZyI,r5,Nat.reduceEqDiff];repeat (go_big_quiet_step (fail))
  exact ZyG rfl
 case hs4=>intro o ho x z hz;simp only[p0,B4,M3]at ho;subst ho;exact⟨_,Ca rfl Qb rfl rfl hz,(OnlyB.refl _ _).set _ _,ZH hz _ rfl⟩
 intro x z hz;refine o8 (By rfl rfl rfl rfl Qb rfl rfl hz) ?_;obtain⟨U,hA9⟩:∃A:Option Addr,(if R=3 then some ⟨J,o2,none⟩else some ⟨J,o2+3,none⟩)=A:=⟨_,rfl⟩;obtain⟨B,L⟩:=Qu (((x.setCell ⟨I.heap.size,4,none⟩ (.int .i64 l)).setCell ⟨I.heap.size,5,none⟩ (.int .i64 f)).setCell ⟨I.heap.size,6,none⟩ (.slice U C (R-3)));have aC:OnlyB I.heap.size x B:=by rw[<-L];exact(((OnlyB.refl _ _).set _ _).set _ _).set _ _
 have Z9:B.heap[I.heap.size]?=some (.cells #[.string (bs q),(0:Int),(0:Int),v,l,f,.slice U C (R-3)] 34):=by rw[<-L];exact ZH (ZH (ZH hz _ rfl) _ rfl) _ rfl
 have cD:x.heap.size=B.heap.size:=by rw[<-L];simp
 simp only[bV,hA9];rw[L];have aH:∀k,k<w4.heap.size->k≠I.heap.size->B.heap[k]?=w4.heap[k]?:=fun k h1 h2=>(aC.other k h2).trans (z.2.2 k h1 h2);have aT:QB w B:=z.1.trans (aC.below _ Q.size);have M9:=(aH w.heap.size (ZG M2) Qa).trans M2;have aN:=w0 (show At 1 Zc B U W from by
  rw[<-hA9];split
  .have h0:C=0:=Qa
   rw[eX (bI.trans h0)];exact fun k x z=>by simp at z
  .exact lE (aE.out) (by have:=z.2.1;omega) fun g e=>by cases e;exact aH _ K F);have F9:=bk7 Z9;have J0:=bk7 M9;clear L aH aC cD z hz aE e0 e1 e2 M M2;go_wp2_with (first
  |(go_at_call 42;first|(refine Calls.mono (by with_reducible exact bE.out _) ?_;rintro e P ⟨rfl,rfl⟩)|(refine Calls.mono (by with_reducible exact bF.out _) ?_;rintro e P ⟨rfl,rfl⟩))|(go_at_call 58;refine(bG.out _).mono ?_;rintro e P ⟨rfl,rfl⟩));go_loopw [8,105] (fun r i wr=>∃j:Nat,j<=C/\r=.bool true/\i=.int .i64 j/\wr=B)(fun _ i _=>C-(intOf i).toNat);case atStart=>exact⟨0,k2 _,rfl,rfl,rfl⟩
 case round=>
  obtain⟨j,hj,rfl,rfl,rfl⟩:=hrel;by_cases bT:j<C
  .have cO:(j:Int)<(C:Int):=Qa
   obtain⟨b3,o3,rfl,cY,c4⟩:=D9 aN.out (k:=j) (by rw[bI];exact bT);obtain⟨y,hy⟩:=Qu (W.getD j 0);have cC:0<=y/\y<=1000000000000:=by rw[<-hy,D1,h' Qa];exact aD.out.wt _ (D2 _)
   rw[hy]at c4;have bH:=w0 fun W=>eL y 0 1000000000000 W;rw[dB.2 cC]at bH;go_wp2_with (go_at_call 42;refine(bH.out _).mono ?_;rintro e P ⟨rfl,rfl⟩);go_roundw;case rel=>exact⟨j+1,Qa,by first|rfl|trivial,Qj,by first|rfl|trivial⟩
   case measure=>exact Qv
  .obtain rfl:C=j:=Qa
   have aQ:=aD.out.n;have bJ:(C:Int)<=8:=Qa
   have cA:decide ((C:Int)<=8)=true:=by simpa using bJ
   go_wp2;refine B9 w 15 Qb Qb aT ?_;intro aZ bS;simp only[sT,j0,r4,e5];repeat (go_big_quiet_step (first|(go_at_call 24;with_reducible exact Grew.call (aO.out _))|(go_at_call 41;with_reducible exact Grew.call (aJ.out _))|(go_at_call 40;with_reducible exact Zd (c9 _ _ _))))
   refine ZyG ?_;intro wb s bZ bW;clear aZ bS;have Q9:=Zx s Z9;have P9:=Zx s M9;have bL:=w0 (aN.out.below s);have bQ:=via aT s;clear Z9 M9 F9 J0;go_wp2_with (first
    |(go_at_call 38;refine(P6 _ _ _ _ _).mono ?_;rintro e P ⟨rfl,rfl⟩)|(refine mP Qh (.tmp 7) 34 Qh I.heap.size [.string (bs q),.int .i64 0,.int .i64 0,.int .i64 v,.int .i64 l,.int .i64 f,.slice U C (R-3)] 34 ?lp (aR _) (aA _) ?lb ?_)|(refine P0 Qh (.tmp 2) (.tmp 136) 34 Qh w.heap.size [.string (bs q),.int .i64 0,.int .i64 0,.int .i64 v,.int .i64 l,.int .i64 f,.slice U C (R-3)] [.string (ByteArray.mk #[]),.int .i64 0,.int .i64 0,.int .i64 0,.int .i64 0,.int .i64 0,.slice none 0 0] 34 ?sp2 ?sq2 (aA _) ?sb2 rfl (by simp[Value.oneCell']) ?_));case lp=>rfl
   case lb=>exact Zz Q9 _
   all_goals try (case sp2=>rfl)
   all_goals try (case sq2=>rfl)
   case sb2=>exact Zz P9 _
   intro w9 aG aY cN;have aU:QB w w9:=ZS (via bQ (ZC _ _)) aY fun b e=>by have:=R' e;omega
   have bM:=w0 (K0 (bL.out.below (ZC _ _)) aY fun g e=>by rw[<-hA9]at e;split at e<;>(cases e;intro h;exact aL (R' h)));go_wp2;refine r3 (v:=.tuple #[.agg #[.string (bs q),(0:Int),(0:Int),v,l,f,.slice U C (R-3)],(0:Int)]) ?_ rfl ⟨⟨U,R-3,rfl,bM.out⟩,aU⟩;exact b4 (p:=2) (u:=3) (ad:=⟨w.heap.size,0,none⟩) (v:=.agg #[.string (bs q),(0:Int),(0:Int),v,l,f,.slice U C (R-3)]) rfl Qe (x3 (T:=34) (cs:=[.string (bs q),.int .i64 0,.int .i64 0,.int .i64 v,.int .i64 l,.int .i64 f,.slice U C (R-3)]) (aR _) (aA _) aG)
end Go.Proofs
namespace Go.Proofs
open Tryz
open Go.RowKit Go.Twin Go.Conc
def mV:List UInt8:=[111,108,100,49]
def Cc:NumsR 0 30 1 10 [20]:=⟨Qc,Qc,Qc,Qc,Qc,Qc⟩
def Cd(B:i'):E5 Z8 (ZQ B) (bs mV) 0 0 30 1 10 [20]=0:=by
 have a:exs (ZQ B)=exs (ZQ none):=rfl;refine xO (fD B) Qm (kS.2 Qc) Qc ?_ ?_ ?_;·exact iT.1 (show cG 1 1 10 [20]=0 by decide+kernel)
 .rw[a];decide+kernel
 .rw[a];decide+kernel
def Ce:bs (Lib.join (Q5 mV 0 0 30 1 10 [20]) [32])=ByteArray.mk #[111,108,100,49,32,109,101,97,110,32,51,48,32,49,32,49,48,32,50,48]:=by
 have h:Lib.join (Q5 mV 0 0 30 1 10 [20]) [32]=[111,108,100,49,32,109,101,97,110,32,51,48,32,49,32,49,48,32,50,48]:=Qm
 rw[h];rfl
def tmps4(A c:i')(a b:Nat)(C d X:i')(x:Nat)(Y:i')(y f:Nat)(D e:i')(h:Nat)(F g:i'):Array Value:=#[.bool false,.pointer (some b),.int .i64 0,.pointer (some f),.int .i64 0,.pointer (some h),.int .i64 0,.int .i64 1,.int .i64 0,undef,undef,.tuple #[.agg #[(30:Int),(1:Int)],(0:Int)],.agg #[.slice A 2 2,.slice c 1 1],.agg #[(0:Int),(0:Int)],.slice (some a) 1 1,.agg #[(1:Int),(10:Int),.slice (some a) 1 1],.tuple #[.agg #[(30:Int),(1:Int)],(0:Int)],.agg #[(30:Int),(1:Int)],.int .i64 0,.tuple #[eG X x Y y,(0:Int)],.agg #[.slice C 2 2,.slice d 1 1],.agg #[(1:Int),(50:Int)],.tuple #[eG X x Y y,(0:Int)],eG X x Y y,.int .i64 0,.tuple #[.agg #[(500:Int),(1000:Int)],(0:Int)],.agg #[.slice D 2 2,.slice e 1 1],.tuple #[.agg #[(500:Int),(1000:Int)],(0:Int)],.agg #[(500:Int),(1000:Int)],.int .i64 0,.tuple #[(1:Int),(0:Int)],.agg #[.slice F 2 2,.slice g 1 1],.agg #[(4:Int),(5:Int)],.tuple #[(1:Int),(0:Int)],.int .i64 1,.int .i64 0,zu,zu,zu,zu,zu,zu,zu,zu,zu,zu,zu,zu,zu,zu,zu,zu,zu,zu,zu,zu,zu,zu,zu,zu,zu,zu,zu,zu,zu,zu,zu,zu,zu,zu,zu,zu,zu,zu,zu,zu,zu,zu,zu,zu,zu,zu,zu,zu]
def _root_.Qz{P:Prop}(h:P:=by intro a b;simp only[ZBq,ZBH,ZyH]at b;rcases b with rfl|rfl<;>(intro c d;kernel_rfl)):P:=h
def Cf(A O:i')(S b:Nat)(C C2 X:i')(x:Nat)(Y:i')(y f:Nat)(D D2:i')(Z:Nat)(F F2:i')(w:World)(v:Tabs w)(P:w.heap[b]?=some (.cells #[(30:Int),(1:Int)] 52))(n3:w.heap[f]?=some (q7 X x Y y))(n5:w.heap[Z]?=some (.cells #[(500:Int),(1000:Int)] 63)):aw5.wp prog (bodyPost prog Tryz.f4 (Qt w true)) ⟨tmps4 A O S b C C2 X x Y y f D D2 Z F F2,[]⟩ w:=by
 simp only[codeHd,codeTl,aw5,aw4,aw3,aw2,aw1,awBody,Tryz.f4,M0,tmps4,eG];have J:=w0 fun W (m:QB w W)=>Cb mV 30 1 10 [20] 1 W Qc Qm Cc rfl (v.below m);rw[Ce]at J;have V:=w0 fun W=>lH W;have T:=w0 fun W A O B C c (hB:BookAt W A 2 Z8 O 1 (ZQ B)) (i:At 1 Zc W C [20])=>vA A O C 2 1 2 1 c 1 Z8 (ZQ B) (bs mV) 0 0 30 1 10 [20] W hB (J0 B) rfl rfl Qm i rfl Qc;have aG:∀x,(sizeOf 34).run prog x=.ok 7 x:=fun x=>Qb
 have l:=w0 P;have p:=w0 n3;have q:=w0 n5;clear v P n3 n5;go_wp2_with (first|(go_at_call 23;refine(J.out _ (l3 _ _)).mono ?_;rintro e w3 ⟨⟨G,c,rfl,i⟩,M⟩;have H:=w0 i;clear i));have a:=M;refine k4 ?_;intro u0 E;have X1:u0.heap[b]?=some (.cells #[(30:Int),(1:Int)] 52):=by rw[E];exact Zz (Zx a l.out) _
 have t:u0.heap[f]?=some (q7 X x Y y):=by rw[E];exact Zz (Zx a p.out) _
 have X5:u0.heap[Z]?=some (.cells #[(500:Int),(1000:Int)] 63):=by rw[E];exact Zz (Zx a q.out) _
 have X9:u0.heap[w3.heap.size]?=some (.cells #[.string (bs mV),(0:Int),(0:Int),(30:Int),(1:Int),(10:Int),.slice G 1 c] 34):=by rw[E];exact ZA w3 _ rfl
 have N:QB w u0:=by rw[E];exact via a (ZC _ _)
 have U:=w0 (show At 1 Zc u0 G [20]by rw[E];exact H.out.below (ZC _ _));clear E H M a l p q;unfold q7 at t;refine p5 Qb ?_;apply rT w (fun y=>QB u0 y) [39,41] (fun j g=>if j=39 then .agg #[.slice g.a1 2 2,.slice g.a2 1 1]else .int .i64 0)
  (fun L g y=>L 39=true->∃B,BookAt y (g 39).a1 2 Z8 (g 39).a2 1 (ZQ B));case hB=>kernel_rfl
 case hB'=>intro g;kernel_rfl
 case hS|hN=>kernel_rfl
 case hC0=>exact l3 _ _
 case hCs=>exact fun y k h m=>h.trans (m.mono h.size)
 case hCw=>exact fun y h=>via N h
 case h0=>intro L h d;rw[h 39 Qd]at d;cases d
 case hst=>intro L L' g y k h I m d;obtain⟨B,hB⟩:=I (by rw[<-h 39 Qd];exact d);exact⟨B,hB.below m⟩
 case hq=>
  have aD:∀W,(binOp .eql 52 (.agg #[(30:Int),(1:Int)]) (.agg #[(30:Int),(1:Int)])).run prog W=.ok (.bool true) W:=fun W=>Qb
  have aA:∀W,(binOp .eql 52 (.agg #[(1:Int),(2:Int)]) (.agg #[(1:Int),(2:Int)])).run prog W=.ok (.bool true) W:=fun W=>Qb
  have aB:∀W,(binOp .eql 63 (.agg #[(500:Int),(1000:Int)]) (.agg #[(500:Int),(1000:Int)])).run prog W=.ok (.bool true) W:=fun W=>Qb
  intro g u R aF N aE;have D1:=bk2 (Zx R X1);have D3:=bk7 (Zx R t);have D5:=bk2 (Zx R X5);have D9:=bk7 (Zx R X9);simp only[mixL,yieldsC,l5,n7,Nat.reduceAdd,Nat.reduceBEq,m',o7,sS,p',k7,nK,ZyJ,ZyI,r5,Nat.reduceEqDiff];repeat (go_big_quiet_step (fail))
  exact ZyG rfl
 case hind=>exact Qz
 case hwa=>intro g j s;simp only[ZBq,ZBH,ZyH]at s;rcases s with rfl|rfl<;>(intro o z;simp only[EN,p0,B4,M3]at z;subst z;kernel_rfl)
 case hsp=>
  intro j s o z L g y I i K hL r aC;simp only[ZBq,ZBH,ZyH]at s;rcases s with rfl|rfl;·simp only[p0,B4,M3]at z;subst z;refine zA Qb ((V.out y).mono ?_);rintro e k ⟨⟨A5,A6,Q,rfl,n,-⟩,m⟩;refine⟨_,rfl,i.trans (m.mono i.size),.inr ⟨{Gh.zero with a1:=A5,a2:=A6},rfl,fun _=>?_⟩⟩;rw[ZX];exact⟨Q,n⟩
  .simp only[p0,B4,M3]at z;subst z;have d:L 39=true:=r ⟨39,.data⟩ Qd rfl;obtain⟨Q,n⟩:=I d;refine zA Qb ((T.out y _ _ Q G c n (U.out.below i)).mono ?_);rw[Cd];rintro e k ⟨rfl,m⟩;refine⟨_,rfl,i.trans (m.mono i.size),.inr ⟨Gh.zero,rfl,fun _=>?_⟩⟩;rw[upd_ne Qc];exact⟨Q,n.below m⟩
 intro g y I i K;clear I;go_wp2;go_ret;exact⟨rfl,K⟩
def Tabs.old{w w':World} (h:Tabs w)(a:Old w w'):Tabs w':=by have:=h.below (⟨rfl,rfl,rfl,a.size,a.get⟩:QB w {w' with os:=w.os,tape:=w.tape,output:=w.output});obtain⟨⟩:=this;constructor<;>assumption
def Cg{b:aH} {A i:i'} {a o:Nat} {C j X:i'} {x:Nat} {Y:i'} {y p:Nat} {D m:i'} {g:Nat} {F n:i'} {l:World} {B:Blk} (K:Self ZP (fun _=>False) B l) (q:AR ZP B (tmps4 A i a o C j X x Y y p D m g F n) (tmps4 A i a o C j X x Y y p D m g F n)) (G:Tabs l) (H:l.heap[o]?=some (.cells #[(30:Int),(1:Int)] 52)) (I:l.heap[p]?=some (q7 X x Y y)) (J:l.heap[g]?=some (.cells #[(500:Int),(1000:Int)] 63))(k:∀f l',Ret prog (fun v _=>v=.bool true) f [ZJ prog] l'->f.fn=4->Old l l'->b f [ZJ prog] l'):LG ZR b ((Go.Conc.base 4).at ⟨tmps4 A i a o C j X x Y y p D m g F n,[]⟩ [.code aw5]) [ZJ prog] l:=by refine qK (E0:=ZP) (E:=ZR) (fn:=Tryz.f4) (R:=fun v w=>v=.bool true/\Old l w) ZZ CL Z2 K q rfl Qb func4 (fun t d=>lI (Cf A i a o C j X x Y y p D m g F n (l.re t d) (G.old ((Old.refl l).re t d)) H I J) fun e w h=>⟨_,h.1,rfl,Ze h.2⟩) fun f l' c r=>.stop _ _ _ ?_;obtain⟨u,v,t,d,z,rfl,s⟩:=c;exact k f l' ⟨u,_,t,d,z,rfl⟩ r ⟨s.size,s.get⟩
end Go.Proofs
namespace Go.Proofs
open Go.RowKit Go.Twin Go.Conc
def Aw4:Prop:=∀(Post:hS)(W l0:World)(c:Blk)(bs':hA),(∀b x,c b x->(fun _:Nat=>False) b∨(b=x/\x<l0.heap.size/\l0.heap[x]?=W.heap[x]?/\ZR.sh=false/\ZR.junk=false))->∀(A d:i') (a p1:Nat) (C e X:i') (x:Nat) (Y:i') (y p3:Nat) (D g:i') (h:Nat) (cs:hA) (l:World) (B:Blk),cs≠[]->Self ZP (fun _=>False) B l->AR ZP B (tmps3 A d a p1 C e X x Y y p3 D g h) (tmps3 A d a p1 C e X x Y y p3 D g h)->Old l0 l->(∀F j l' i,B.le i->Self ZP (fun _=>False) i l'->AR ZP i (tmps4 A d a p1 C e X x Y y p3 D g h F j) (tmps4 A d a p1 C e X x Y y p3 D g h F j)->Old l l'->LG ZR (StopG ZR Post W l0 c (fun _=>False) bs') ((Go.Conc.base 4).at ⟨tmps4 A d a p1 C e X x Y y p3 D g h F j,[]⟩ [.code aw5]) cs l')->LG ZR (StopG ZR Post W l0 c (fun _=>False) bs') ((Go.Conc.base 4).at ⟨tmps3 A d a p1 C e X x Y y p3 D g h,[]⟩ [.code aw4]) cs l
def awake_of(b:Aw4) {w:World} (r:GlobOk w)(M:Tabs (aK w)):fE Tryz.prog (Frame.enter Tryz.prog 4 #[] .normal) w fun v=>v=true:=by refine Y4 r (fun e c L g=>?_) rfl;refine Br Qd r fun A H i T C J X x Y y U D K V O I E u j Q R S d=>?_;refine b e w (aK w) awB (c::L) (E4 r) A H i T C J X x Y y U D K V _ O I Qd u j d fun F k l Z G z m a=>?_;exact Cg z m (M.old (d.trans a)) (a.at Q) (a.at R) (a.at S) fun f N h n s=>g f N h n (d.trans (a.trans s)).get
def Ci(a:i'):(solvedL 2 (exs (ZQ a)) [5,1]).map (fun q=>(q.1,q.2.1))=some ([0,1],1):=by rw[gY];kernel_rfl
def Cj(a:i'):(solvedL 2 (exs (ZQ a)) (cM [6,2])).map (fun q=>(q.1,q.2.1))=some ([1,1],2):=by rw[gY];kernel_rfl
def E6(a:i'):cR 2 (ZQ a) [5,1]=(1,1,true):=by unfold cR;rw[gY];kernel_rfl
def E7(a:i'):cR 2 (ZQ a) (cM [6,2])=(-8,2,true):=by unfold cR;rw[gY];kernel_rfl
def Ck(a:i'):P2 2 (ZQ a) [5,1] [6,2] 1=.tuple #[.agg #[(1:Int),(4:Int)],true]:=by unfold P2;rw[E6,E7];kernel_rfl
section
variable {B:Blk} {bs':hA} {l w:World}
def Cm{sh:hN} {A j b a g:i'} {f k:Nat} {W:y1} {cs cb:hA} (o:BookAt l A 2 Z8 j 1 (ZQ b))(hL:At 1 Zc l a [5,1])(I:At 1 Zc l g [6,2])(h:Rel ZR sh bs' B (Frame.enter ZR.P 53 #[.agg #[.slice A 2 2,.slice j 1 1],.slice a 2 f,.slice g 2 k,.int .i64 1] .normal) cs l W cb w):fE Tryz.prog W w fun v=>v=.tuple #[.agg #[(1:Int),(4:Int)],true]:=by
 have s:=h.st.head.tmps;have R:=sD (.agg #[.slice A 2 2,.slice j 1 1]) (.slice a 2 f) (.slice g 2 k) (.int .i64 1);have L:(Frame.enter ZR.P 53 #[.agg #[.slice A 2 2,.slice j 1 1],.slice a 2 f,.slice g 2 k,.int .i64 1] .normal).tmps=#[.agg #[.slice A 2 2,.slice j 1 1],.slice a 2 f,.slice g 2 k,.int .i64 1]++Array.replicate 52 undef:=by show (Frame.enter Tryz.prog _ _ _).tmps=_;rw[R];rfl
 rw[L]at s;have F:=s.getD 0 (undefR (G:=ZR) (B:=B));have J:=s.getD 1 (undefR (G:=ZR) (B:=B));have K:=s.getD 2 (undefR (G:=ZR) (B:=B));have M:((#[.agg #[.slice A 2 2,.slice j 1 1],.slice a 2 f,.slice g 2 k,.int .i64 1]++Array.replicate 52 undef:bJ).getD 0 undef)=.agg #[.slice A 2 2,.slice j 1 1]:=by simp[Array.getD]
 have N:((#[.agg #[.slice A 2 2,.slice j 1 1],.slice a 2 f,.slice g 2 k,.int .i64 1]++Array.replicate 52 undef:bJ).getD 1 undef)=.slice a 2 f:=by simp[Array.getD]
 have O:((#[.agg #[.slice A 2 2,.slice j 1 1],.slice a 2 f,.slice g 2 k,.int .i64 1]++Array.replicate 52 undef:bJ).getD 2 undef)=.slice g 2 k:=by simp[Array.getD]
 rw[M]at F;rw[N]at J;rw[O]at K;obtain⟨u1,C⟩:=Zn F (i:=0) rfl;obtain⟨u2,D⟩:=Zn F (i:=1) rfl;have V:=tM (l:=l) (n:=2) (c:=2) (Zj C) (tL o.P rfl rfl);have X:=tM (l:=l) (n:=1) (c:=1) (Zj D) (tL o.E.1 rfl rfl);have Y:=tM (l:=l) (n:=2) (c:=f) (Zj J) (tL hL rfl rfl);have Z:=tM (l:=l) (n:=2) (c:=k) (Zj K) (tL I rfl rfl);intro H c ca gs sl t q Q u y U;refine EI (E1:=ZR) (lows:=[5,1]) (ups:=[6,2]) rfl (fun _=>rfl) rfl (fD b).right o.E rfl Qc Qc (fun x T=>by obtain rfl:=y2.1 T;simp) ⟨hL,rfl,tH Qc Qc,fun m d p z=>?_⟩ I rfl (tH Qc Qc) (fun m d p z=>?_) ?_ ?_ V X Y Z h Q u y (fun S=>U (S.trans (show P2 Z8.length (ZQ b) [5,1] [6,2] 1=_ from Ck b)));·have e:=Ci b;have r:solvedL 2 (exs (ZQ b)) [5,1]=some (m,d,p):=z;rw[r]at e;cases e;exact⟨rfl,tH Qc Qc⟩
 .have e:=Cj b;have r:solvedL 2 (exs (ZQ b)) (cM [6,2])=some (m,d,p):=z;rw[r]at e;cases e;exact⟨rfl,tH Qc Qc⟩
 .unfold R8;have e:cR Z8.length (ZQ b) [5,1]=_:=E6 b;rw[e];intro _;exact⟨Qc,Qc⟩
 .unfold R8;have e:cR Z8.length (ZQ b) (cM [6,2])=_:=E7 b;rw[e];intro _;exact⟨Qc,Qc⟩
end
open Tryz
variable {es2:e6} {BB:i'}
attribute [local go_sem] Oper.semAt_some gP gQ gR eU gT gU
def pQ(A c:i')(i j:Nat)(d:i')(b:Nat)(e:i')(f r:Nat)(g:i')(m:Nat)(h:i')(n:Nat)(u11 u33 u34 u35 u36 u37 u38 u39 u40 u41 u42 u43 u44 u45 u46 u47 u48:Value)(a:Nat):Array Value:=#[.agg #[.slice A 2 2,.slice c 1 1],.agg #[(4:Int),(5:Int)],.pointer (some i),.pointer (some j),.int .i64 0,.int .i64 0,.pointer (some r),.int .i64 0,.slice g 2 m,.slice h 2 n,undef,u11,.pointer (some a),.bool true,.tuple #[.agg #[.slice d 2 b,.slice e 3 f],(0:Int)],.agg #[.slice A 2 2,.slice c 1 1],.agg #[(4:Int),(5:Int)],.tuple #[.agg #[.slice d 2 b,.slice e 3 f],(0:Int)],.agg #[.slice d 2 b,.slice e 3 f],.int .i64 0,.int .i64 0,.bool false,undef,.agg #[.slice A 2 2,.slice c 1 1],.bool false,.bool false,.agg #[.slice d 2 b,.slice e 3 f],.bool false,.bool false,.pointer (some i),.slice A 2 2,.int .i64 2,.int .i64 2,u33,u34,u35,u36,u37,u38,u39,u40,u41,u42,u43,u44,u45,u46,u47,u48,.tuple #[.agg #[(1:Int),(4:Int)],true],.agg #[.slice A 2 2,.slice c 1 1],.slice g 2 m,.slice h 2 n,.tuple #[.agg #[(1:Int),(4:Int)],true],.agg #[(1:Int),(4:Int)],.bool true,.bool true,.bool true,.pointer (some a),.int .i64 1,.pointer (some j),.int .i64 4,.bool false,.bool false,.bool false,zu,zu,zu,zu,zu,.bool false]
def Cn(A g:i')(r d:Nat)(h:i')(b:Nat)(i:i')(f s:Nat)(j:i')(u:Nat)(m:i')(y:Nat)(u11 u33 u34 u35 u36 u37 u38 u39 u40 u41 u42 u43 u44 u45 u46 u47 u48:Value)(a:Nat)(w:World)(C:w.heap[d]?=some (.cells #[(4:Int),(5:Int)] 63))(c:w.heap[a]?=some (.cells #[(1:Int),(4:Int)] 63)):agY.wp prog (fun e n k=>e=.normal/\n.defers=[]/\n.tmps=pQ A g r d h b i f s j u m y u11 u33 u34 u35 u36 u37 u38 u39 u40 u41 u42 u43 u44 u45 u46 u47 u48 a/\QB w k) ⟨KW A g 2 2 1 1 4 5 r d h b i f s j u m y u11 u33 u34 u35 u36 u37 u38 u39 u40 u41 u42 u43 u44 u45 u46 u47 u48 1 4 a,[]⟩ w:=by simp only[agY,agX,cHd,cTl,ag6,ag5,ag4,ag3,ag2,ag1,agBody,Tryz.f22,M0,KW];have D:=bk2 C;have z:=bk2 c;go_wp2;exact⟨rfl,l3 _ _⟩
def Cp(A c:i')(j m:Nat)(d:i')(b:Nat)(g:i')(e n:Nat)(h:i')(r:Nat)(i:i')(s:Nat)(u11 u33 u34 u35 u36 u37 u38 u39 u40 u41 u42 u43 u44 u45 u46 u47 u48:Value)(a:Nat)(w:World):ag7.wp prog (bodyPost prog Tryz.f22 (Qt w (.tuple #[(1:Int),(0:Int)]))) ⟨pQ A c j m d b g e n h r i s u11 u33 u34 u35 u36 u37 u38 u39 u40 u41 u42 u43 u44 u45 u46 u47 u48 a,[]⟩ w:=by simp only[cHd,cTl,ag7,ag6,ag5,ag4,ag3,ag2,ag1,agBody,Tryz.f22,M0,pQ];go_wp2;go_ret2;exact⟨rfl,l3 _ _⟩
def FA(h:es2.map En.sig=(ZQ BB).map En.sig++wcL Z8 4 5):exs es2=[([0,-2],-1),([5,1],5),([-6,-2],-4)]:=by
 have e:exs es2=(es2.map En.sig).map fun s=>(s.2.1,s.2.2):=by simp only[exs,dZ];rfl
 rw[e,h];rfl
def Cq(h:es2.map En.sig=(ZQ BB).map En.sig++wcL Z8 4 5):RightE es2 2/\es2.length=3:=by
 have g:es2.length=3:=by have:=w6 List.length h;simpa [ZQ,wcL] using this
 refine⟨⟨Qa,fun x i=>?_⟩,g⟩;have d:x.ex∈exs es2:=sG i;rw[FA h]at d;have e:x.co.length=2/\(∀n∈x.co,n.natAbs<=20)/\x.mo.natAbs<=20:=by simp only[ZBq,ZBH,ZyH,En.ex,qA]at d;rcases d with⟨a,c⟩|⟨a,c⟩|⟨a,c⟩<;>rw[a,c]<;>exact⟨rfl,Qc,Qc⟩
 exact e
def Cr(BB:i'):wcE Z8 (ZQ BB) 4 5=0:=by
 unfold wcE;rw[bB];intro e a;simp only[ZBq,ZBH,ZyH]at a;rcases a with rfl|rfl|rfl|rfl;·exact hY.2 (fD BB)
 .decide
 .have c:P5 (ZQ BB) mostS=false:=by have:P5 (ZQ BB) mostS=P5 (ZQ none) mostS:=rfl;rw[this];decide+kernel
  have d:P5 (ZQ BB) leastS=false:=by have:P5 (ZQ BB) leastS=P5 (ZQ none) leastS:=rfl;rw[this];decide+kernel
  rw[c,d];rfl
 .rfl
def Cs(BB:i'):T1 2 (exs (ZQ BB))=false:=by rw[gY];kernel_rfl
def Ct(h:es2.map En.sig=(ZQ BB).map En.sig++wcL Z8 4 5):T1 2 (exs es2)=false:=by rw[FA h];kernel_rfl
def Cu{e:Nat} {α:Type} {cs:α->List Value} {l:World} {A:i'} {c:List α} (h:At e cs l A c) {x:α} (d:c[0]?=some x):A≠none:=by rintro rfl;obtain⟨b,o,a,_⟩:=h 0 x d;cases a
end Go.Proofs
namespace Go.Proofs
open Tryz
open Go.RowKit Go.Twin Go.Conc
attribute [local go_sem] Oper.semAt_some gP gQ gR eU gT gU
def Cv (A a:i'):Frame.enter prog 22 #[.agg #[.slice A 2 2,.slice a 1 1],.agg #[(4:Int),(5:Int)]] .normal=(Go.Conc.base 22).at ⟨nP A a 2 2 1 1 4 5,[]⟩ [.code agBody]:=by rw[iU (fn:=Tryz.f22) (c:=Tryz.f22.body.getD .skip) _ func22 rfl];kernel_rfl
def BookAt.re{w:World} {e a:i'} {g c:Nat} {b:z1} {es:e6} (h:BookAt w e g b a c es)(t:aJ)(d:Nat):BookAt (w.re t d) e g b a c es:=h.old ((Old.refl w).re t d)
def Cw{q:hS} {W l0:World} {I:Blk} {bs':hA} (aX:∀b x,I b x->(fun _:Nat=>False) b∨(b=x/\x<l0.heap.size/\l0.heap[x]?=W.heap[x]?/\ZR.sh=false/\ZR.junk=false)) {A u BB:i'} {c:y1} {cs:hA} {l:World} {B:Blk} (f:Self ZP (fun _=>False) B l)(o:AR ZP B #[.agg #[.slice A 2 2,.slice u 1 1],.agg #[(4:Int),(5:Int)]] #[.agg #[.slice A 2 2,.slice u 1 1],.agg #[(4:Int),(5:Int)]])(hB:BookAt l A 2 Z8 u 1 (ZQ BB))(ho:Old l0 l)(k:∀l' T,Old l l'->B.le T->Self ZP (fun _=>False) T l'->LG ZR (StopG ZR q W l0 I (fun _=>False) bs') (c.finish (.tuple #[(1:Int),(0:Int)])) cs l'):LG ZR (StopG ZR q W l0 I (fun _=>False) bs') (Frame.enter prog 22 #[.agg #[.slice A 2 2,.slice u 1 1],.agg #[(4:Int),(5:Int)]] .normal) (c::cs) l:=by
 have z:Halts (StopG ZR q W l0 I (fun _=>False) bs'):=gV;rw[Cv];have aG:AR ZP B (nP A u 2 2 1 1 4 5) (nP A u 2 2 1 1 4 5):=Zb (o.append (AR.replicate 69 undefR)) Qb;rw[show agBody=.seq (cHd agBody) ag1 from Qb];refine dG z ?_;refine N6 (R:=fun y p=>(∃G H,y.tmps=pD A u 2 2 1 1 4 5 G H/\p.heap[G]?=some (.cells #[.slice A 2 2,.slice u 1 1] 25)/\p.heap[H]?=some (.cells #[(4:Int),(5:Int)] 63))/\Old l p) ZZ CL iX Z2 f aG rfl Qb (fun v w t d h=>⟨h.1,h.2.size,h.2.get⟩) (fun t d=>iZ (fun e y p h=>⟨h.1,h.2.1,h.2.2.1,(Ze h.2.2.2).size,(Ze h.2.2.2).get⟩) (YC A u 2 2 1 1 4 5 _)) ?_;rintro⟨tm,df⟩ l1 B1 ⟨⟨G,H,Q,m2,m3⟩,aT⟩ S aM aY aH;cases Q;cases S;have aB:=hB.old aT;rw[show ag1=.seq (cHd ag1) ag2 from Qb];refine dG z ?_;refine N6 (R:=fun y p=>EC A u 2 2 1 1 4 5 Z8 (ZQ BB) G H y.tmps p/\Old l1 p) ZZ CL iX Z2 aY aH rfl Qb (fun v w t d h=>⟨by obtain⟨J,N,L,O,M,es2,g1,g2,g3,g4⟩:=h.1;exact⟨J,N,L,O,M,es2,g1,g2,g3,g4.re t d⟩,h.2.size,h.2.get⟩) (fun t d=>iZ (fun e y p h=>⟨h.1,h.2.1,h.2.2.1,(Ze h.2.2.2).size,(Ze h.2.2.2).get⟩) (YD A u 2 2 1 1 4 5 Z8 (ZQ BB) G H (l1.re t d) (aB.re t d) (J0 BB) rfl rfl (fun h=>absurd h (Cu aB.P rfl)) (Cr BB) m2 m3)) ?_;rintro⟨tm,df⟩ l2 B2 ⟨⟨J,N,L,O,M,es2,Q,m6,bE,bG⟩,Y⟩ S aN bA aI;cases Q;cases S;obtain⟨bK,bM⟩:=Cq bE;have aA:=aB.old Y;have aE:=Y.at m2;have bT:=Y.at m3;rw[show ag2=.seq (cHd ag2) ag3 from Qb];refine dG z ?_;refine N6 (R:=fun y p=>(y.tmps=pE A u 2 2 1 1 4 5 G H J N L O M)/\Old l2 p) ZZ CL iX Z2 bA aI rfl Qb (fun v w t d h=>⟨h.1,h.2.size,h.2.get⟩) (fun t d=>iZ (fun e y p h=>⟨h.1,h.2.1,h.2.2.1,(Ze h.2.2.2).size,(Ze h.2.2.2).get⟩) (YE A u 2 2 1 1 4 5 G H J N L O M _)) ?_;rintro⟨tm,df⟩ l3 B3 ⟨Q,U⟩ S aO bB aJ;cases Q;cases S;rw[show ag3=.seq (cHd ag3) ag4 from Qb];refine dG z ?_;refine N6 (R:=fun y p=>(y.tmps=pF A u 2 2 1 1 4 5 G H J N L O M)/\Old l3 p) ZZ CL iX Z2 bB aJ rfl Qb (fun v w t d h=>⟨h.1,h.2.size,h.2.get⟩) (fun t d=>iZ (fun e y p h=>⟨h.1,h.2.1,h.2.2.1,(Ze h.2.2.2).size,(Ze h.2.2.2).get⟩) (YF A u 2 2 1 1 4 5 (ZQ BB) es2 G H J N L O M (l3.re t d) (fD BB).right ((aA.old U).re t d).E rfl Qc Qc bK ((bG.old U).re t d).E bM (Cs BB) (Ct bE) (U.at aE) (U.at m6))) ?_;rintro⟨tm,df⟩ l4 B4 ⟨Q,bO⟩ S aP bC aK;cases Q;cases S;rw[show ag4=.seq (cHd ag4) ag5 from Qb];refine dG z ?_;refine N6 (R:=fun y p=>(y.tmps=pG A u 2 2 1 1 4 5 G H J N L O M)/\Old l4 p) ZZ CL iX Z2 bC aK rfl Qb (fun v w t d h=>⟨h.1,h.2.size,h.2.get⟩) (fun t d=>iZ (fun e y p h=>⟨h.1,h.2.1,h.2.2.1,(Ze h.2.2.2).size,(Ze h.2.2.2).get⟩) (YG A u 2 2 1 1 4 5 G H J N L O M _)) ?_;rintro⟨tm,df⟩ l5 B5 ⟨Q,bP⟩ S aQ bD aL;cases Q;cases S;have D:=(U.trans bO).trans bP;have aF:=aA.old D;rw[show ag5=.seq (cHd ag5) ag6 from Qb];refine dG z ?_;refine N6 (R:=fun y p=>ED A u 2 2 1 1 4 5 Z8 G H J N L O M l5.heap.size y.tmps p/\Old l5 p) ZZ CL iX Z2 bD aL rfl Qb (fun v w t d h=>⟨h.1,h.2.size,h.2.get⟩) (fun t d=>iZ (fun e y p h=>⟨h.1,h.2.1,h.2.2.1,(Ze h.2.2.2).size,(Ze h.2.2.2).get⟩) (YH A u 2 2 1 1 4 5 Z8 G H J N L O M (l5.re t d) (aF.re t d).P rfl Qc Qc (D.at aE))) ?_;rintro⟨tm,df⟩ l6 B6 ⟨⟨L1,r,L2,s,u11,u33,u34,u35,u36,u37,u38,u39,u40,u41,u42,u43,u44,u45,u46,u47,u48,Q,o1,o2⟩,Z⟩ S aR f o;cases Q;cases S;have m:=Blk.le_trans (Blk.le_trans (Blk.le_trans (Blk.le_trans (Blk.le_trans aM aN) aO) aP) aQ) aR;have bH:=aF.old Z;have n2:=Z.at (D.at aE);have n3:=Z.at (D.at bT);have aW:Old l l6:=aT.trans (Y.trans (D.trans Z));have bI:At 1 Zc l6 L1 [5,1]:=x2 o1 rfl;have bJ:At 1 Zc l6 L2 [6,2]:=x2 o2 rfl;have D2:=bk2 n2;clear aY bA bB bC bD aH aI aJ aK aL aG;rw[show ag6=.seq agX ag7 from Qb];refine dG z ?_;rw[show agX=.seq (cHd agX) agY from Qb];refine dG z ?_;simp only[cHd,cTl,agX,ag6,ag5,ag4,ag3,ag2,ag1,agBody,Tryz.f22,M0,EB];refine dO z ?_;simp only[hM,y',hG,Nat.reduceAdd,m',List.range,List.range.loop];refine F8 z Z2 ZZ f (Zb o Qb) rfl rfl Qc Qb (fun F C K r s=>?_);simp only[show ZP.P=prog from rfl];go_simp;first|refine r _ _ ?_|refine s _ ?_
 iterate 2(
  clear r s K F C;intro T a j i;replace m:=Blk.le_trans m a;clear f o a;have f:=j;have o:=i;clear j i;walk_nrm;refine F8 z Z2 ZZ f (Zb o Qb) rfl rfl Qc Qb (fun F C K r s=>?_);simp only[show ZP.P=prog from rfl];go_simp;first|refine r _ _ ?_|refine s _ ?_)
 clear r s K F C;intro T a j i;replace m:=Blk.le_trans m a;clear f o a;have f:=j;have o:=i;clear j i;walk_nrm;refine fV (g:=53) (args:=#[.agg #[.slice A 2 2,.slice u 1 1],.slice L1 2 r,.slice L2 2 s,.int .i64 1]) z rfl rfl Qc Qb (fun p=>by simp only[show ZR.P=prog from rfl];kernel_rfl) ?_;refine .stop _ _ _ (zZ (R:=fun v=>v=.tuple #[.agg #[(1:Int),(4:Int)],true]) qP aX Qd (fun c h=>by cases h) (ho.trans aW).get (fun h hO=>Cm bH bI bJ h) (fun v hv=>by subst hv;kernel_rfl) fun v n hv=>?_);subst hv;rw[cL];have f:=f.pad n;have o:=o.set 53 (VR.closed 8 (.tuple #[.agg #[(1:Int),(4:Int)],true]) Qb);have aD:Old l6 (pad l6 n):=⟨by rw[fS];omega,fun b hb=>k5 l6 n hb⟩;obtain⟨V,bN⟩:=Qu (pad l6 n);rw[bN]at f aD |-;walk_nrm;refine F8 z Z2 ZZ f (Zb o Qb) rfl rfl Qc Qb (fun F C K r s=>?_);simp only[show ZP.P=prog from rfl];go_simp;first|refine r _ _ ?_|refine s _ ?_
 iterate 5(
  clear r s K F C;intro T a j i;replace m:=Blk.le_trans m a;clear f o a;have f:=j;have o:=i;clear j i;walk_nrm;refine F8 z Z2 ZZ f (Zb o Qb) rfl rfl Qc Qb (fun F C K r s=>?_);simp only[show ZP.P=prog from rfl];go_simp;first|refine r _ _ ?_|refine s _ ?_)
 clear r s K F C;intro T a j i;replace m:=Blk.le_trans m a;clear f o a;have f:=j;have o:=i;clear j i;walk_nrm;refine A9 z ?_;obtain⟨l8,X⟩:=Qu (V.alloc (.cells #[(1:Int),(4:Int)] 63));have bU:l8.heap[V.heap.size]?=some (.cells #[(1:Int),(4:Int)] 63):=by rw[<-X];exact Qs
 have aV:Old V l8:=by rw[<-X];exact Zp (by go_grown:QB V _)
 rw[X]at f |-;clear X;have bV:=aV.at (aD.at n3);refine N6 (x:=agY) (R:=fun y p=>y.tmps=pQ A u G H J N L O M L1 r L2 s u11 u33 u34 u35 u36 u37 u38 u39 u40 u41 u42 u43 u44 u45 u46 u47 u48 V.heap.size/\Old l8 p) ZZ CL iX Z2 f (Zb o Qb) rfl Qb (fun v w t d h=>⟨h.1,h.2.size,h.2.get⟩) (fun t d=>iZ (fun e y p h=>⟨h.1,h.2.1,h.2.2.1,(Ze h.2.2.2).size,(Ze h.2.2.2).get⟩) (Cn A u G H J N L O M L1 r L2 s u11 u33 u34 u35 u36 u37 u38 u39 u40 u41 u42 u43 u44 u45 u46 u47 u48 V.heap.size (l8.re t d) bV bU)) ?_;rintro⟨tm,df⟩ l9 B9 ⟨Q,bQ⟩ S aS bR bL;cases Q;cases S;refine AH (fn:=Tryz.f22) (x:=ag7) (R:=fun v w=>v=.tuple #[(1:Int),(0:Int)]/\Old l9 w) ZZ CL iX Z2 bR bL rfl Qb func22 (fun v w t d h=>⟨h.1,h.2.size,h.2.get⟩) (fun t d=>lI (Cp A u G H J N L O M L1 r L2 s u11 u33 u34 u35 u36 u37 u38 u39 u40 u41 u42 u43 u44 u45 u46 u47 u48 V.heap.size (l9.re t d)) fun e w h=>⟨_,h.1,rfl,Ze h.2⟩) ?_;rintro v bS bF ⟨rfl,aU⟩ aC aZ hv;exact k bS bF (aW.trans (aD.trans (aV.trans (bQ.trans aU)))) (Blk.le_trans m (Blk.le_trans aS aC)) aZ
def Cx:Aw4:=by
 intro G W Z E b M A p T p1 C C2 X x Y y p3 D D2 p5 cs l B U i h V k;have r:Halts (StopG ZR G W Z E (fun _=>False) b):=gV;have e:B.le B:=Blk.le_refl _;rw[show aw4=.seq (codeHd aw4) aw5 from Qb];refine dG r ?_;simp only[codeHd,codeTl,aw4,aw3,aw2,aw1,awBody,Tryz.f4,M0,tmps3,eG];refine dO r ?_;simp only[hM,y',hG,Nat.reduceAdd,m',List.range,List.range.loop];refine AG (g:=19) (args:=#[]) r ZZ CL iX Z2 i (Zb h Qb) rfl rfl Qc Qb (fun o=>by simp only[show ZP.P=prog from rfl];kernel_rfl) Qb (AR.empty) (EZ l) (EY l) ?_;rintro v l1 q ⟨⟨F,Q,w,rfl,R⟩,L⟩ J N H;clear i h;walk_nrm;replace e:=J;have i:=N;have h:=H;clear N H;refine F8 r Z2 ZZ i (Zb h Qb) rfl rfl Qc Qb (fun s n K j m=>?_);simp only[show ZP.P=prog from rfl];go_simp;first|refine j _ _ ?_|refine m _ ?_
 clear j m K s n;intro z a d c;replace e:=Blk.le_trans e a;clear i h a;have i:=d;have h:=c;clear d c;walk_nrm;refine fV (g:=22) (args:=#[.agg #[.slice F 2 2,.slice Q 1 1],.agg #[(4:Int),(5:Int)]]) r rfl rfl Qc Qb (fun o=>by simp only[show ZR.P=prog from rfl];kernel_rfl) ?_;refine Cw M i (Zb (((AR.replicate 2 undefR).set 0 (Zq h 31 (v:=.agg #[.slice F 2 2,.slice Q 1 1]) Qb)).set 1 (Zq h 32 (v:=.agg #[(4:Int),(5:Int)]) Qb)) Qb) R (V.trans L) fun f t S u O=>?_;have I:=(h.mono u).set 33 (VR.closed 8 (.tuple #[(1:Int),(0:Int)]) Qb);replace e:=Blk.le_trans e u;rw[cL];clear h i;have i:=O;have h:=I;clear I O;walk_nrm;refine F8 r Z2 ZZ i (Zb h Qb) rfl rfl Qc Qb (fun s n K j m=>?_);simp only[show ZP.P=prog from rfl];go_simp;first|refine j _ _ ?_|refine m _ ?_
 iterate 4(
  clear j m K s n;intro z a d c;replace e:=Blk.le_trans e a;clear i h a;have i:=d;have h:=c;clear d c;walk_nrm;refine F8 r Z2 ZZ i (Zb h Qb) rfl rfl Qc Qb (fun s n K j m=>?_);simp only[show ZP.P=prog from rfl];go_simp;first|refine j _ _ ?_|refine m _ ?_)
 clear j m K s n;intro z a d c;replace e:=Blk.le_trans e a;clear i h a;have i:=d;have h:=c;clear d c;walk_nrm;refine A9 r ?_;exact k F Q f _ e i (Zb h Qb) (L.trans S)
def Cy{w:World} (a:GlobOk w)(c:Tabs (aK w)):fE prog (Frame.enter prog 4 #[] .normal) w fun v=>v=true:=awake_of Cx a c
end Go.Proofs
namespace Go.Proofs
open Tryz
open Go.RowKit Go.Twin Go.Conc
variable {W w:World} {p:Nat}
noncomputable def rA(n p q:Nat)(s:String):Code:=.region n #[{dst:=some p,op:=.call {callee:=.value (.func 4),args:=#[],argTypes:=#[]},type:=4,pos:=s,after:=#[],guard:=none},{dst:=some q,op:=.unOp .not 4 (.tmp p),type:=4,pos:=s,after:=#[{on:=0,ground:=.data}],guard:=none}] false
def Cz(f:Kept1 W w):Old (aK W) (aK w):=by
 refine⟨by rw[R9,R9];exact f.size,fun b a=>?_⟩;rw[R9]at a;have c:b<w.heap.size:=h8 a f.size;unfold aK;simp only[bF,rN];by_cases e:4=b;·subst e;simp[a,c]
 .by_cases d:3=b;·subst d;simp[a,c]
  .simp[d,e,f.heap b a]
def Tabs.kept(h:Tabs (aK W))(hk:Kept1 W w):Tabs (aK w):=h.old (Cz hk)
def Old.pad(l:World)(n:Nat):Old l (Twin.pad l n):=⟨by rw[fS];omega,fun b a=>k5 l n a⟩
def Da(p:Nat):dI.op (.unOp .not 4 (.tmp p))=true:=by simp[Env.op,Env.op0,Env.darkOp,Op.operands,Env.operand]
def Db{ρ:aE} {o:Oper} (h:ρ (.tmp p)=.bool true)(a:o.op=.unOp .not 4 (.tmp p))(w:World):(execOp ρ o).run prog w=.ok (.value (.bool false)) w:=by unfold execOp;rw[a];go_simp
noncomputable def mW(W:World):World:=dV dI (fun _=>False) W
def Dc{F:Nat} {fn:Func} {c0 x rest:Code} {n q:Nat} {s:String} {args:bJ} {k:hS} {T:Array Value->World->Prop} (B:prog.funcs[F]?=some fn) (o:fn.body=some (.seq c0 (.seq (.seq (rA n p q s) (.cond (.tmp q) x .skip)) rest))) (hm:aV (.seq c0 (.seq (.seq (rA n p q s) (.cond (.tmp q) x .skip)) rest))=true)(Z:dI.code c0=true)(aA:dI.code rest=true)(hi:prog.inits.idxOf? F=none)(i:GlobOk W)(ht:Tabs (aK W))(ha:AR dI (idX (cU (fun _=>False) W)) args args)(aJ:p≠q)(O:∀c w w',T c w->Old w w'->T c w')(U:∀c w,T c w->p<c.size/\q<c.size)(h0:∀l,Old (mW W) l->c0.wp prog (fun e a w'=>e=.normal/\a.defers=[]/\T a.tmps w'/\QB l w') ⟨args++Array.replicate (fn.ntmps-args.size) undef,[]⟩ l)(hr:∀c w,T c w->rest.wp prog (bodyPost prog fn (Qt w true)) ⟨(c.setIfInBounds p (.bool true)).setIfInBounds q (.bool false),[]⟩ w)(hk:∀w',Kept1 W w'->k (.bool true) w'):Fin prog k #[G (Frame.enter prog F args .normal) []] W none #[]:=by
 have M:prog.globals.size<=W.heap.size:=i.size;refine S5 (S:=dI) (E:=lV) (D:=fun _=>False) JD G6 rfl rfl rfl (fn:=fn) B o hm (fun g i=>by cases i) (fun g i=>by cases i) M ha ?_;have r:Halts (StopG lV k W (dV dI (fun _=>False) W) (idX (cU (fun _=>False) W)) (cU (fun _=>False) W) []):=gV;have e0:Frame.enter lV.P F args .normal=(Go.Conc.base F).at ⟨args++Array.replicate (fn.ntmps-args.size) undef,[]⟩ [.code (.seq c0 (.seq (.seq (rA n p q s) (.cond (.tmp q) x .skip)) rest))]:=iU _ B o;rw[e0];have hs:=SZ (S:=dI) (D:=fun _=>False) (w:=W) rfl (fun g i=>by cases i) (fun g i=>by cases i) M;refine dG r ?_;refine N6 (E0:=dI) (E:=lV) (R:=fun a' w'=>T a'.tmps w'/\Old (mW W) w') HQ JC TK G6 hs (ha.append (AR.replicate _ undefR)) rfl Z (fun v w t d h=>⟨O _ _ _ h.1 ((Old.refl w).re t d),h.2.size,h.2.get⟩) (fun t d=>iZ (fun e a' w' h=>⟨h.1,h.2.1,h.2.2.1,Ze h.2.2.2⟩) (h0 _ ((Old.refl (mW W)).re t d))) ?_;rintro⟨c,df⟩ N B1 ⟨Q,J⟩ e2 aH j V;cases e2;refine dG r (dG r ?_);simp only[rA];refine dO r ?_;simp only[hM,y',hG,Nat.reduceAdd,m',List.range,List.range.loop];refine .stop _ _ _ (S1 (E:=lV) (g:=4) (R:=fun v=>v=.bool true) JD (fun b x o=>.inl o.2) Qd rfl rfl (fun a w=>?_) (fun a w=>?_) J.get (fun I=>Cy (i.kept I) (ht.kept I)) (fun v h=>by subst h;rfl) fun v m hv=>?_);·simp only[show lV.P=prog from rfl];kernel_rfl
 .simp only[show lV.P=prog from rfl];kernel_rfl
 subst hv;have z:Old N (Twin.pad N m):=Old.pad N m;replace j:=j.pad m;obtain⟨A,aC⟩:=Qu (Twin.pad N m);rw[aC]at z j |-;have C:=O _ _ _ Q z;have X:AR dI B1 (c.setIfInBounds p (.bool true)) (c.setIfInBounds p (.bool true)):=V.set p (.bool true);obtain⟨aE,aF⟩:=U _ _ C;have H:(c.setIfInBounds p (.bool true)).getD p undef=true:=by rw[fG,bX aE];rfl
 have y:((c.setIfInBounds p (.bool true)).setIfInBounds q (.bool false)).getD q undef=false:=by rw[fG,bX (by simpa using aF)];rfl
 refine F8 (E0:=dI) (a:=⟨c.setIfInBounds p (.bool true),[]⟩) r G6 HQ j X rfl rfl (fun h=>by cases h) (Da p) (fun tt dd K k1 k2=>?_);have ev:(⟨c.setIfInBounds p (.bool true),[]⟩:Act).eval (.tmp p)=true:=H;simp only[show dI.P=prog from rfl];rw[show (execOp (⟨c.setIfInBounds p (.bool true),[]⟩:Act).eval (#[{dst:=some p,op:=Op.call {callee:=Callee.value (Operand.func 4),args:=#[],argTypes:=#[]},type:=4,pos:=s,after:=#[],guard:=none},{dst:=some q,op:=Op.unOp UnOp.not 4 (Operand.tmp p),type:=4,pos:=s,after:=#[{on:=0,ground:=Ground.data}],guard:=none}][1])).run prog (A.re tt dd)=.ok (.value (.bool false)) (A.re tt dd)from Db ev rfl _];refine k1 _ _ ?_;clear k1 k2 K;intro B2 aI aG Y;refine A9 r ?_;refine vY r (t:=false) rfl y ?_;simp only[nK,ZyI];refine zR r ?_;refine qK (E0:=dI) (E:=lV) (fn:=fn) (R:=fun v w=>v=.bool true/\Old A w) HQ JC G6 aG Y rfl aA B (fun t d=>lI (hr _ _ (O _ _ _ C ((Old.refl A).re t d))) fun e w h=>⟨_,h.1,rfl,Ze h.2⟩) fun f l' L aB=>.stop _ _ _ ?_;obtain⟨hc,v,t,d,hl,rfl,ho⟩:=L;refine S4 (u:=.bool true) (R:=fun v _=>v=.bool true) Qe (by rw[aB];exact hi) ⟨hc,_,t,d,hl,rfl⟩ (fun v t d h=>h) rfl ?_ hk;have aD:Old A l':=⟨ho.size,ho.get⟩;exact(J.trans (z.trans aD)).get
end Go.Proofs
