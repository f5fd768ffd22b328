import Derived.Shelf.Utf8.RuneCount
import Derived.Shelf.Strconv.Atoi
import Derived.Shelf.Strconv.Itoa3
import Derived.Shelf.Strings.Shaped
import Derived.Shelf.Strings.Prefix
import Derived.Shelf.Strings.SplitShaped
import Derived.Shelf.Strings.Explode
import Derived.Shelf.Unicode.DecodeAny
import Derived.Shelf.Slices.Clone
import Derived.Shelf.SlicesE.Clone
import Derived.Test.YtckjpehfchmmaaaGreatDoorMg7
import Derived.Lib.AppendIntMem
set_option linter.all false
set_option maxRecDepth 100000
set_option maxHeartbeats 16000000
namespace Go
def iQ:=@Code.wp_mono
def wH:=@World.block_lt_of_cell?
def rD:=@List.mem_map_of_mem
end Go
namespace Go.Proofs
open Tryz
open Go.Shelf
def Tryz.lays172_ren:Go.Shelf.Ren:=⟨fun|172=>92|244=>108|245=>109|247=>119|279=>120|280=>121|281=>122|282=>123|287=>128|316=>129|171=>93|205=>130|321=>135|322=>136|243=>110|246=>124|283=>131|284=>132|285=>133|286=>134|129=>138|317=>137|318=>139|319=>140|320=>141|337=>142|338=>143|n=>n,fun|9=>9|3=>3|75=>157|76=>158|4=>4|5=>5|167=>178|37=>139|0=>0|85=>179|2=>2|168=>181|53=>177|175=>192|46=>168|210=>196|127=>203|145=>206|143=>204|21=>21|171=>198|173=>200|212=>208|51=>175|20=>20|213=>209|232=>210|233=>211|80=>212|n=>n,fun|15=>3|16=>4|17=>5|18=>6|19=>7|n=>n⟩
def Tryz.lays172:Go.Proofs.Lays.n172 prog Tryz.lays172_ren:={
 mixed:=Qb
 f129:=func138.trans (D1 some Qb)
 f171:=func93.trans (D1 some Qb)
 f172:=func92.trans (D1 some Qb)
 f205:=func130.trans (D1 some Qb)
 f243:=func110.trans (D1 some Qb)
 f244:=func108.trans (D1 some Qb)
 f245:=func109.trans (D1 some Qb)
 f246:=func124.trans (D1 some Qb)
 f247:=func119.trans (D1 some Qb)
 f279:=func120.trans (D1 some Qb)
 f280:=func121.trans (D1 some Qb)
 f281:=func122.trans (D1 some Qb)
 f282:=func123.trans (D1 some Qb)
 f283:=func131.trans (D1 some Qb)
 f284:=func132.trans (D1 some Qb)
 f285:=func133.trans (D1 some Qb)
 f286:=func134.trans (D1 some Qb)
 f287:=func128.trans (D1 some Qb)
 f316:=func129.trans (D1 some Qb)
 f317:=func137.trans (D1 some Qb)
 f318:=func139.trans (D1 some Qb)
 f319:=func140.trans (D1 some Qb)
 f320:=func141.trans (D1 some Qb)
 f321:=func135.trans (D1 some Qb)
 f322:=func136.trans (D1 some Qb)
 f337:=func142.trans (D1 some Qb)
 f338:=func143.trans (D1 some Qb)
 t0:=underlying0
 a0:=isAgg0
 z0:=sizeOf0
 v0:=zeroValue0
 t2:=underlying2
 a2:=isAgg2
 z2:=sizeOf2
 v2:=zeroValue2
 t3:=underlying3
 a3:=isAgg3
 z3:=sizeOf3
 v3:=zeroValue3
 t4:=underlying4
 a4:=isAgg4
 z4:=sizeOf4
 v4:=zeroValue4
 t5:=underlying5
 a5:=isAgg5
 z5:=sizeOf5
 v5:=zeroValue5
 t9:=underlying9
 a9:=isAgg9
 z9:=sizeOf9
 v9:=zeroValue9
 t20:=underlying20
 a20:=isAgg20
 z20:=sizeOf20
 v20:=zeroValue20
 t21:=underlying21
 a21:=isAgg21
 z21:=sizeOf21
 v21:=zeroValue21
 t37:=underlying139
 a37:=isAgg139
 z37:=sizeOf139
 v37:=zeroValue139
 t46:=underlying168
 a46:=isAgg168
 z46:=sizeOf168
 v46:=zeroValue168
 t51:=underlying175
 a51:=isAgg175
 z51:=sizeOf175
 v51:=zeroValue175
 t53:=underlying177
 a53:=isAgg177
 z53:=sizeOf177
 v53:=zeroValue177
 t75:=underlying157
 a75:=isAgg157
 z75:=sizeOf157
 v75:=zeroValue157
 t76:=underlying158
 a76:=isAgg158
 z76:=sizeOf158
 v76:=zeroValue158
 t85:=underlying179
 a85:=isAgg179
 z85:=sizeOf179
 v85:=zeroValue179
 t127:=underlying203
 a127:=isAgg203
 z127:=sizeOf203
 v127:=zeroValue203
 t143:=underlying204
 a143:=isAgg204
 z143:=sizeOf204
 v143:=zeroValue204
 t145:=underlying206
 a145:=isAgg206
 z145:=sizeOf206
 v145:=zeroValue206
 t167:=underlying178
 a167:=isAgg178
 z167:=sizeOf178
 v167:=zeroValue178
 t168:=underlying181
 a168:=isAgg181
 z168:=sizeOf181
 v168:=zeroValue181
 t171:=underlying198
 a171:=isAgg198
 z171:=sizeOf198
 v171:=zeroValue198
 t173:=underlying200
 a173:=isAgg200
 z173:=sizeOf200
 v173:=zeroValue200
 t175:=underlying192
 a175:=isAgg192
 z175:=sizeOf192
 v175:=zeroValue192
 t210:=underlying196
 a210:=isAgg196
 z210:=sizeOf196
 v210:=zeroValue196
 t212:=underlying208
 a212:=isAgg208
 z212:=sizeOf208
 v212:=zeroValue208
 t213:=underlying209
 a213:=isAgg209
 z213:=sizeOf209
 t232:=underlying210
 a232:=isAgg210
 z232:=sizeOf210
 v232:=zeroValue210
 t233:=underlying211
 a233:=isAgg211
 z233:=sizeOf211
 v233:=zeroValue211
 g15:=Qb
 g16:=Qb
 g17:=Qb
 g18:=Qb
 g19:=by kernel_rfl}
open Go.RowKit in def Tryz.strconv_Atoi(s:ByteArray)(n:Int)(a:s.size<=18)(h:Lib.atoi s.data.toList=some n)(w:World):Calls prog 92 #[.string s] w fun e b=>e=.returned (.tuple #[n,.nilIface])/\∃t,b=Lib.bytesWorld w 5 t:=Any.strconv_Atoi Tryz.lays172 s n a h w
def Tryz.laysM171_ren:Go.Shelf.Ren:=⟨fun|171=>93|243=>110|246=>124|283=>131|284=>132|285=>133|286=>134|129=>138|317=>137|318=>139|319=>140|320=>141|337=>142|338=>143|n=>n,fun|3=>3|9=>9|2=>2|4=>4|171=>198|0=>0|53=>177|37=>139|5=>5|173=>200|212=>208|51=>175|20=>20|213=>209|46=>168|232=>210|233=>211|n=>n,fun|17=>5|18=>6|19=>7|n=>n⟩
def Tryz.laysM171:Go.Proofs.LaysM.n171 prog Tryz.laysM171_ren:={
 mixed:=Qb
 f129:=func138.trans (D1 some Qb)
 f171:=func93.trans (D1 some Qb)
 f243:=func110.trans (D1 some Qb)
 f246:=func124.trans (D1 some Qb)
 f283:=func131.trans (D1 some Qb)
 f284:=func132.trans (D1 some Qb)
 f285:=func133.trans (D1 some Qb)
 f286:=func134.trans (D1 some Qb)
 f317:=func137.trans (D1 some Qb)
 f318:=func139.trans (D1 some Qb)
 f319:=func140.trans (D1 some Qb)
 f320:=func141.trans (D1 some Qb)
 f337:=func142.trans (D1 some Qb)
 f338:=func143.trans (D1 some Qb)
 t0:=underlying0
 a0:=isAgg0
 z0:=sizeOf0
 v0:=zeroValue0
 t2:=underlying2
 a2:=isAgg2
 z2:=sizeOf2
 v2:=zeroValue2
 t3:=underlying3
 a3:=isAgg3
 z3:=sizeOf3
 v3:=zeroValue3
 t4:=underlying4
 a4:=isAgg4
 z4:=sizeOf4
 v4:=zeroValue4
 t5:=underlying5
 a5:=isAgg5
 z5:=sizeOf5
 v5:=zeroValue5
 t9:=underlying9
 a9:=isAgg9
 z9:=sizeOf9
 v9:=zeroValue9
 t20:=underlying20
 a20:=isAgg20
 z20:=sizeOf20
 v20:=zeroValue20
 t37:=underlying139
 a37:=isAgg139
 z37:=sizeOf139
 v37:=zeroValue139
 t46:=underlying168
 a46:=isAgg168
 z46:=sizeOf168
 v46:=zeroValue168
 t51:=underlying175
 a51:=isAgg175
 z51:=sizeOf175
 v51:=zeroValue175
 t53:=underlying177
 a53:=isAgg177
 z53:=sizeOf177
 v53:=zeroValue177
 t171:=underlying198
 a171:=isAgg198
 z171:=sizeOf198
 v171:=zeroValue198
 t173:=underlying200
 a173:=isAgg200
 z173:=sizeOf200
 v173:=zeroValue200
 t212:=underlying208
 a212:=isAgg208
 z212:=sizeOf208
 v212:=zeroValue208
 t213:=underlying209
 a213:=isAgg209
 z213:=sizeOf209
 t232:=underlying210
 a232:=isAgg210
 z232:=sizeOf210
 v232:=zeroValue210
 t233:=underlying211
 a233:=isAgg211
 z233:=sizeOf211
 v233:=zeroValue211
 g17:=Qb
 g18:=Qb
 g19:=Qb
 i0:=Qb
 i2:=Qb
 i3:=Qb
 i4:=Qb
 i5:=Qb
 i9:=Qb
 i20:=Qb
 i37:=Qb
 i46:=Qb
 i51:=Qb
 i53:=Qb
 i171:=Qb
 i173:=Qb
 i212:=Qb
 i232:=Qb
 i233:=Qb
 m17:=Qb
 m18:=Qb
 m19:=by kernel_rfl}
open Go.RowKit Go.Sort Go.Lib in def Tryz.strconv_Itoa(n:Int)(b:-9223372036854775808<=n)(c:n<=9223372036854775807)(w:World)(a:Lib.TabIs prog w "internal/strconv.uint64pow10" .u64 Lib.pow10Tab):Calls prog 93 #[n] w fun e f=>e=.returned (.string ⟨(Lib.itoa n).toArray⟩)/\∃k d,f=grow (w.drewN k) d:=Any.strconv_Itoa Tryz.laysM171 n b c w a
def Tryz.lays101_ren:Go.Shelf.Ren:=⟨fun|101=>94|208=>111|206=>125|n=>n,fun|9=>9|4=>4|3=>3|n=>n,fun|n=>n⟩
def Tryz.lays101:Go.Proofs.Lays.n101 prog Tryz.lays101_ren:={
 mixed:=Qb
 f101:=func94.trans (D1 some Qb)
 f206:=func125.trans (D1 some Qb)
 f208:=func111.trans (D1 some Qb)
 t3:=underlying3
 a3:=isAgg3
 z3:=sizeOf3
 v3:=zeroValue3
 t4:=underlying4
 a4:=isAgg4
 z4:=sizeOf4
 v4:=zeroValue4
 t9:=underlying9
 a9:=isAgg9
 z9:=sizeOf9
 v9:=zeroValue9}
open Go.RowKit Go.Lib in def Tryz.strings_TrimPrefix(s p:ByteArray)(w:World):Calls prog 94 #[.string s,.string p] w fun e a=>e=.returned (.string ⟨(Lib.trimPrefix s.data.toList p.data.toList).toArray⟩)/\a=w:=Any.strings_TrimPrefix Tryz.lays101 s p w
def Tryz.lays146_ren:Go.Shelf.Ren:=⟨fun|146=>43|221=>72|268=>89|138=>90|143=>91|195=>104|197=>105|218=>106|219=>107|260=>114|217=>115|225=>116|224=>117|267=>118|266=>126|314=>127|n=>n,fun|9=>9|31=>94|3=>3|4=>4|0=>0|105=>170|21=>21|5=>5|46=>168|119=>186|139=>189|138=>188|146=>190|51=>175|n=>n,fun|1=>0|3=>1|4=>2|n=>n⟩
def Tryz.lays146:Go.Proofs.Lays.n146 prog Tryz.lays146_ren:={
 mixed:=Qb
 f138:=func90.trans (D1 some Qb)
 f143:=func91.trans (D1 some Qb)
 f146:=func43.trans (D1 some Qb)
 f195:=func104.trans (D1 some Qb)
 f197:=func105.trans (D1 some Qb)
 f217:=func115.trans (D1 some Qb)
 f218:=func106.trans (D1 some Qb)
 f219:=func107.trans (D1 some Qb)
 f221:=func72.trans (D1 some Qb)
 f224:=func117.trans (D1 some Qb)
 f225:=func116.trans (D1 some Qb)
 f260:=func114.trans (D1 some Qb)
 f266:=func126.trans (D1 some Qb)
 f267:=func118.trans (D1 some Qb)
 f268:=func89.trans (D1 some Qb)
 f314:=func127.trans (D1 some Qb)
 t0:=underlying0
 a0:=isAgg0
 z0:=sizeOf0
 v0:=zeroValue0
 t3:=underlying3
 a3:=isAgg3
 z3:=sizeOf3
 v3:=zeroValue3
 t4:=underlying4
 a4:=isAgg4
 z4:=sizeOf4
 v4:=zeroValue4
 t5:=underlying5
 a5:=isAgg5
 z5:=sizeOf5
 v5:=zeroValue5
 t9:=underlying9
 a9:=isAgg9
 z9:=sizeOf9
 v9:=zeroValue9
 t21:=underlying21
 a21:=isAgg21
 z21:=sizeOf21
 v21:=zeroValue21
 t31:=underlying94
 a31:=isAgg94
 z31:=sizeOf94
 v31:=zeroValue94
 t46:=underlying168
 a46:=isAgg168
 z46:=sizeOf168
 v46:=zeroValue168
 t51:=underlying175
 a51:=isAgg175
 z51:=sizeOf175
 v51:=zeroValue175
 t105:=underlying170
 a105:=isAgg170
 z105:=sizeOf170
 v105:=zeroValue170
 t119:=underlying186
 a119:=isAgg186
 z119:=sizeOf186
 t138:=underlying188
 a138:=isAgg188
 z138:=sizeOf188
 v138:=zeroValue188
 t139:=underlying189
 a139:=isAgg189
 z139:=sizeOf189
 v139:=zeroValue189
 t146:=underlying190
 a146:=isAgg190
 z146:=sizeOf190
 v146:=zeroValue190
 g1:=Qb
 g3:=Qb
 g4:=by kernel_rfl}
open Go.RowKit Go.Lib in def Tryz.strings_Split(s a:ByteArray)(m:Int)(w:World)(d:s.size<4294967281)(c:w.cell? ⟨0,0,none⟩=some (.int .i64 m))(b:1<=a.size):Calls prog 43 #[.string s,.string a] w fun e f=>e=.returned (.slice (some w.heap.size) (Lib.countB s a+1) (Lib.countB s a+1))/\f=w.alloc (.cells ((Lib.splitB a 0 (Lib.countB s a) s).map Value.string).toArray 9):=Any.strings_Split Tryz.lays146 Qb s a m w d c b
end Go.Proofs
namespace Go.Proofs
open Tryz
open Go.RowKit
variable {w w':World}
def bs(l:List UInt8):ByteArray:=⟨l.toArray⟩
def Sc(l:List UInt8):List Value:=[.string (bs l)]
def R8(l:List UInt8):(bs l).data.toList=l:=by simp[bs]
def W3(s:ByteArray):bs s.data.toList=s:=by cases s;simp[bs]
def nX(l:List UInt8):(bs l).size=l.length:=by simp[bs,ByteArray.size]
structure Tabs (w:World):Prop where
 tab:Lib.TabIs prog w "internal/strconv.uint64pow10" .u64 Lib.pow10Tab
 mx:∃m,w.cell? ⟨0,0,none⟩=some (.int .i64 m)
def rX{p:Addr} {v:Value} (h:w.cell? p=some v)(hb:QB w w'):w'.cell? p=some v:=(hb.cell (wH _ _ h)).trans h
def Tabs.below(h:Tabs w)(hb:QB w w'):Tabs w':=by obtain⟨a,⟨m,c⟩⟩:=h;exact⟨Lib.tabBelow_of_tabIs a w' hb,⟨m,rX c hb⟩⟩
def W4(n:Int)(w:World)(h:n.natAbs<=9000000000000000000)(c:Tabs w):Calls prog 93 #[n] w (Qt w (.string (bs (Lib.itoa n)))):=(Tryz.strconv_Itoa n Qa Qa w c.tab).mono fun e w' ⟨a,k,g,d⟩=>⟨a,d▸Lib.below_grow w.heap.size w (r3 _) k g⟩
def XB(a:ByteArray)(e:1<=a.size):∀(n:Nat)(s:ByteArray),s.size<=n->(Lib.splitB a 0 (Lib.countB s a) s).length=Lib.countB s a+1:=by intro n;induction n with
 |zero=>
  intro s m;rcases Lib.index_spec s.data.toList a.data.toList with⟨h,-⟩|⟨i,h,g,-,-⟩;·rw[Lib.countB_miss s a h];rfl
  .have j:=Lib.index_room s.data.toList a.data.toList Qa;have c:s.data.toList.length=s.size:=Qd
   have d:a.data.toList.length=a.size:=Qd
   omega|succ n ih=>
  intro s m;rcases Lib.index_spec s.data.toList a.data.toList with⟨h,-⟩|⟨i,h,g,-,-⟩;·rw[Lib.countB_miss s a h];rfl
  .have j:=Lib.index_room s.data.toList a.data.toList Qa;have c:s.data.toList.length=s.size:=Qd
   have d:a.data.toList.length=a.size:=Qd
   rw[Lib.countB_hit s a i e h,aD 1,Lib.splitB_hit a 0 _ s i h,L',ih _ (by rw[ByteArray.size_extract];omega)]
def XC{l:List ByteArray} {m:List (List UInt8)} (h:l.map (·.data.toList)=m):l=m.map bs:=by subst h;rw[dJ,show (bs ∘ fun x:ByteArray=>x.data.toList)=id from funext fun x=>W3 x,pO]
def JW(s:ByteArray):Lib.splitB ⟨#[32]⟩ 0 (Lib.countB s ⟨#[32]⟩) s=(cutL s.data.toList).map bs:=by refine XC ?_;rw[Lib.splitB_data];exact WW _ _ (r3 _)
def XD(s:ByteArray)(w:World)(b:s.size<=100000)(g:Tabs w):Calls prog 43 #[.string s,.string ⟨#[32]⟩] w fun e w'=>(∃A c,e=.returned (.slice A (cutL s.data.toList).length c)/\At 1 Sc w' A (cutL s.data.toList)/\(cutL s.data.toList).length<=c)/\QB w w':=by obtain⟨m,d⟩:=g.mx;refine(Tryz.strings_Split s ⟨#[32]⟩ m w Qa d Qc).mono ?_;rintro e w' ⟨rfl,rfl⟩;have a:=XB ⟨#[32]⟩ Qc s.size s (r3 _);rw[JW,B3]at a;rw[JW,<-a];refine⟨⟨_,_,rfl,?_,r3 _⟩,ZB _ _⟩;intro k x i;refine⟨w.heap.size,0,rfl,Qd,?_⟩;intro j v h;match j,h with|0,rfl=>rw[pL _ _ _ _ rfl];simp[i]
def XE(n:Int)(w:World)(c:n.natAbs<10^16):Calls prog 92 #[.string (bs (Lib.itoa n))] w (Qt w (.tuple #[n,.nilIface])):=by refine(Tryz.strconv_Atoi (bs (Lib.itoa n)) n (by rw[nX];have:=(rC 15 n c).1;omega) (by rw[R8];exact WZ n) w).mono ?_;rintro e w' ⟨rfl,t,rfl⟩;exact⟨rfl,rfl,rfl,rfl,by rw[zH];omega,fun k a=>zI w 5 t k a⟩
def XF(b:List UInt8)(w:World):Calls prog 94 #[.string (bs b),.string ⟨#[45]⟩] w fun e w'=>e=.returned (.string (bs (T9 b)))/\w=w':=by refine(Tryz.strings_TrimPrefix (bs b) ⟨#[45]⟩ w).mono ?_;rintro e w' ⟨rfl,rfl⟩;refine⟨?_,rfl⟩;rw[R8];show _=Ending.returned (.string (bs (T9 b)));rw[<-WY];rfl
def At.tail1{α:Type} {f:Nat} {cs:α->List Value} {w:World} {b o:Nat} {l:List α} (h:At f cs w (some ⟨b,o,none⟩) l) (n:Nat):At f cs w (some ⟨b,o+n*f,none⟩) (l.drop n):=fun k x a=>by rw[gZ]at a;obtain⟨i,m,c,d,e⟩:=h (n+k) x a;cases c;refine⟨b,o+n*f,rfl,d,fun j u g=>?_⟩;rw[<-e j u g,w5];congr 2;omega
def XG(n:Int)(k:Nat)(w:World)(E:k<=14)(z:n.natAbs<10^(k+1))(A:Tabs w):Calls prog 73 #[.string (bs (Lib.itoa n)),((k+1:Nat):Int)] w (Qt w (.tuple #[n,true])):=by
 have i:(10:Nat)^(k+1)<=10^15:=jE Qc Qa;have c:=XE n w Qa;have d:=i' fun W (D:QB w W)=>W4 n W Qa (A.below D);have a:=i' fun W=>XF (Lib.itoa n) W;have y:=(rC k n z).2;obtain⟨S,u⟩:=Qu (bs (Lib.itoa n));obtain⟨M,j⟩:=Qu (bs (T9 (Lib.itoa n)));have C:M.size<=k+1:=by rw[<-j,nX];exact y
 have m:decide ((M.size:Int)<=((k+1:Nat):Int))=true:=Qk
 have g:(M.size:Int)<=((k+1:Nat):Int):=Qa
 rw[u]at c d a |-;rw[j]at a;obtain⟨K,s⟩:∃K:Int,((k+1:Nat):Int)=K:=⟨_,rfl⟩;rw[s]at m g |-;have G:(S.toList==S.toList)=true:=Qd
 have F:∀W,(binOp .eql 157 .nilIface .nilIface).run prog W=.ok (.bool true) W:=fun W=>Qb
 clear z A i y u j s E;go_enter func73,ntmps73;go_wp2_with (first|(go_at_call 92;refine c.mono ?_;rintro e H ⟨rfl,h⟩)|(go_at_call 93;refine(d.out _ h).mono ?_;rintro e b ⟨rfl,r⟩)|(go_at_call 94;refine(a.out _).mono ?_;rintro e I ⟨rfl,rfl⟩));go_ret2;exact⟨rfl,via h r⟩
def XH(A:Option Addr)(l:List Int)(k n c:Nat)(w:World)(T:k<=14)(U:∀x∈l,x.natAbs<10^(k+1))(Q:At 1 Sc w A (l.map Lib.itoa))(V:l.length=n)(h9:n<=900)(X:Tabs w):Calls prog 44 #[.slice A n c,((k+1:Nat):Int)] w fun e w'=>(∃O c2,e=.returned (.tuple #[.slice O n c2,true])/\w'.ownsRow w.heap.size 3 1 (.slice O n c2) n (l.map (Value.int .i64)))/\QB w w':=by
 have y:=i' fun x (s:x∈l) W (q:QB w W)=>XG x k W T (U x s) (X.below q);have G:=i' Q;have F:=i' V;obtain⟨K,R⟩:∃K:Int,((k+1:Nat):Int)=K:=⟨_,rfl⟩;rw[R]at y |-;obtain⟨B,t,L,M,N⟩:=x0 info3;clear T U Q V X R;go_enter func44,ntmps44;go_wp2;go_loopw [6,13] (fun v i wr=>∃j:Nat,j<=n/\i=.int .i64 j/\Hid (wr.ownsRow w.heap.size 3 1 v j ((l.take j).map (Value.int .i64)))/\QB w wr)(fun _ i _=>n-(intOf i).toNat);case atStart=>exact⟨0,e6 _,rfl,i' (hG _ _ _ _),m' _ _⟩
 case round=>
  obtain⟨j,hj,rfl,a,g⟩:=hrel;obtain⟨f,c5,rfl⟩:=ZV a.out;by_cases I:j<n
  .have aB:(j:Int)<(n:Int):=Qa
   obtain⟨x,s⟩:∃x,l[j]?=some x:=⟨_,h' (by rw[F.out];exact I)⟩;obtain⟨b,o,rfl,aA,S⟩:=G.out.below g j (Lib.itoa x) (by rw[k2,s];rfl);have y0:=S 0 _ rfl;simp only[sW,p1]at y0;have H:=i' (y.out x (e7 s) wr g);have J:=i' (show (l.take (j+1)).map (Value.int .i64)=(l.take j).map (Value.int .i64)++[.int .i64 x]by rw[r4,s];simp);clear S s;go_wp2_with (first
    |(go_at_call 73;refine H.out.mono ?_;rintro e w2 ⟨rfl,m⟩;have z:=i' (ZL a.out m);have h:=via g m;clear m)|(at_builtin;refine C0 _ rfl _ _ 28 rfl w.heap.size 3 B (.int .i64 0) 1 8 underlying28 t L M N rfl Qc _ _ _ rfl (z.out.alloc _) ⟨w2.heap.size,0,none⟩ 1 1 [.int .i64 x] rfl rfl ?c1 ?c2 ?c3 ?c4 ?c5 ?_));try (case c1=>exact G1 _ [.int .i64 x] _ Qd)
   case c2=>first|rfl|(intro u Y;simp at Y;subst Y;rfl)
   case c3=>first|omega|(unfold maxLen;omega)
   case c4=>omega
   case c5=>have:=h.size;first|omega|(simp;omega)
   intro P Z d E _;have r:=i' (show Z.ownsRow w.heap.size 3 1 P (j+1) ((l.take (j+1)).map (Value.int .i64))from by rw[J.out,R5];exact d);have D:QB w Z:=ZX (via h (ZB _ _)) E fun b e=>by have:=(z.out.lt b e).1;omega
   clear d E;go_wp2;go_roundw;case rel=>exact⟨j+1,Qa,Qj,r.out,D⟩
   case measure=>exact Qv
  .obtain rfl:n=j:=Qa
   have C:=i' (show l.take n=l by rw[<-F.out,x1]);go_wp2;go_ret2;exact⟨⟨f,c5,rfl,by have:=a.out;rwa [C.out]at this⟩,g⟩
end Go.Proofs
namespace Go.Proofs
open Go.RowKit
def tV{w:World} {base:Nat} {e:TypeId} {a n c:Nat} {A:Option Addr} {b:List Value} (h:w.ownsRow base e a (.slice A n c) n b):n<=c:=by
 rcases h.2 with⟨h,r⟩|⟨g,d,i,j,s,u,m,-⟩;·omega
 .cases j;exact m
open Tryz
def rE{P:Program} {α:Type} {sz:Nat} {cs:α->List Value} (C:∀y,(cs y).length=sz)(W:0<sz) {x:World} {t ty e:TypeId} {i:TypeInfo} {z:Value} {d:Nat} (J:P.underlying t=some (.slice e))(f:P.info? e=some i)(B:i.zero=some z)(q:i.size=sz)(K:z.cells.size=sz)(G:i.bytes=d)(E:d<=1000)(b base:Nat)(s:base<=b)(u:x.heap[b]?=some (.cells #[] e))(F:base<=x.heap.size) {l:List α} {A:Option Addr} (c n:Nat)(S:l.length=n)(j:At sz cs x A l)(O:l.length<=1000):∃M N L,(Builtin.append_ #[t,t] ty #[.slice (some b) 0 0,.slice A n c]).run P x=.ok (.slice M n N) L/\QB x L/\L.ownsRow base e sz (.slice M n N) n (l.flatMap cs):=by subst S;cases l with
 |nil=>refine⟨some ⟨b,0,none⟩,0,x,?_,m' _ _,Qd,.inr ⟨b,0,#[],rfl,s,u,r3 _,e6 _,Qd,Qd⟩⟩;cases A with
  |none=>simp[Builtin.append_,run_underlying J,sizeOf,typeInfo,f,Builtin.lenOf,Builtin.firstCells,loadCells,loadCellsFrom,storeCells]|some a=>simp[Builtin.append_,run_underlying J,sizeOf,typeInfo,f,Builtin.lenOf,Builtin.firstCells,loadCells,loadCellsFrom,storeCells]
 |cons y l'=>
  obtain⟨l,m⟩:∃l,y::l'=l:=⟨_,rfl⟩;have T:0<l.length:=by rw[<-m];simp
  rw[m]at j O |-;obtain⟨a,rfl⟩:∃a,A=some a:=by obtain⟨U,V,h,-⟩:=j 0 y (by rw[<-m];rfl);exact⟨_,h⟩
  have g:=nR cs sz C l;have r:=jW C j;have R:l.length*d<=1000*1000:=hI O E;subst q;subst G;have Q:=run_append_grow (P:=P) (w:=x) t ty e i z J f B ⟨b,0,none⟩ 0 0 [] Qd Qd a l.length c (l.flatMap cs) g r Qa Qa (growslice_fits Qa (by rw[w0];omega));simp only[w0]at Q;have I:=grownCap_ge x l.length 0 e;have H:grownCap x l.length 0 e<=maxLen:=grownCap_le_maxLen x l.length 0 e Qq;have D:QB x (x.drew.alloc (.cells (([]:List Value).toArray++(l.flatMap cs).toArray++Builtin.zeroCells z.cells (grownCap x l.length 0 e-l.length)) e)):=((m' _ x).drew).alloc Qd _;refine⟨_,_,_,Q,D,g,.inr ⟨x.heap.size,_,_,rfl,F,Sp x.drew _,I,H,?_,?_⟩⟩;·simp only[Array.size_append,A8,size_zeroCells,K,g,w9,w0,<-w5];congr 1;omega
  .simp only[AX,Q3];rw[<-g];exact List.take_left
section
variable {P:Program} {ops:Array Oper}
def rF{b:List Oper} {o:Oper} {a:Act} {x e:World} {f l d:Value} {Q:Exit->Act->World->Prop} (c:o.guard=none)(s y:Operand)(t:TypeId)(i:o.op=.call {callee:=.builtin .append,args:=#[s,y],argTypes:=#[t,t]})(n:a.eval s=f)(m:a.eval y=l)(j:(Builtin.append_ #[t,t] o.type #[f,l]).run P x=.ok d e)(h:wpList P ops Q b (a.put o.dst d) e):wpList P ops Q (o::b) a x:=by refine l7 c fun K g=>?_;unfold Oper.wp execOp;simp only[i,resolve,invoke,builtin,aB,aC,aA,cF,w6,M1,n,m,j];exact g _ _ h
end
def R9(A:Option Addr)(l:List Int)(c n:Nat)(w:World)(g:At 1 Zc w A l)(D:l.length=n)(E:n<=1000):Calls prog 12 #[.slice A n c] w fun e f=>(∃m r,e=.returned (.slice m n r)/\f.ownsRow w.heap.size 3 1 (.slice m n r) n (l.flatMap Zc))/\QB w f:=by obtain⟨F,y,h,i,j⟩:=x0 info3;obtain⟨m,r,G,z,C,a⟩:=rE (P:=prog) (sz:=1) (cs:=Zc) (x:=w.alloc (.cells #[] 3)) (t:=28) (ty:=28) (e:=3) (fun _=>rfl) Qc underlying28 y h i rfl j Qc w.heap.size w.heap.size (r3 _) (ZA _ _ rfl) Qd c n D (g.below (ZB _ _)) Qa;have u:=i' z;have d:=i' a;have s:=via (ZB _ _) C;clear z a y h i j g;go_enter func12,ntmps12;go_wp2_with (at_builtin;refine rF rfl _ _ 28 rfl rfl rfl u.out ?_);go_ret;exact⟨⟨m,r,rfl,d.out⟩,s⟩
def C'(pA Z:Option Addr)(Y Q D f:Nat)(ps:List Pa)(l:List En)(w:World)(hB:BookAt w pA Y ps Z Q l)(hF:FewB ps l)(aM:ps.length=D)(U:l.length=f)(bI:f<=900):Calls prog 7 #[.agg #[.slice pA D Y,.slice Z f Q]] w fun e w'=>(∃A c A2 c2 B,e=.returned (.agg #[.slice A D c,.slice A2 f c2])/\B.length=f/\B.map En.sig=l.map En.sig/\w'.ownsRow w.heap.size 69 5 (.slice A D c) D (ps.flatMap Pa.cs)/\EnsOwn w' w.heap.size (.slice A2 f c2) B)/\QB w w':=by
 obtain⟨j0,ji,aP,aQ,aR⟩:=x0 qW;obtain⟨Ap,cp,q,hr,S,R⟩:=rE (P:=prog) (sz:=5) (cs:=Pa.cs) (x:=((w.alloc (.cells #[.slice pA D Y,.slice Z f Q] 25)).alloc (.cells #[.slice none 0 0,.slice none 0 0] 25)).alloc (.cells #[] 69)) (t:=22) (ty:=22) (e:=69) (fun _=>rfl) Qc (by first|exact underlying22|kernel_rfl) ji aP aQ rfl aR Qc (w.heap.size+2) (w.heap.size+2) (r3 _) (ZA _ _ Qd) Qd Y D aM (hB.P.below Qi) (by have:=hF.p;omega);have aV:=i' hr;have M0:=Zx S (Qs:(((w.alloc (.cells #[.slice pA D Y,.slice Z f Q] 25)).alloc (.cells #[.slice none 0 0,.slice none 0 0] 25)).alloc (.cells #[] 69)).heap[w.heap.size]?=some (.cells #[.slice pA D Y,.slice Z f Q] 25));have M1:=Zx S (Qs:(((w.alloc (.cells #[.slice pA D Y,.slice Z f Q] 25)).alloc (.cells #[.slice none 0 0,.slice none 0 0] 25)).alloc (.cells #[] 69)).heap[w.heap.size+1]?=some (.cells #[.slice none 0 0,.slice none 0 0] 25));have aG:QB w q:=via Qi S;have bF:=ZE M1;have bG:=S.size;clear hr ji aP aQ aR S;have bJ:f<=Q:=by rw[<-U];exact hB.ec'
 have aA:=i' hB.E;have bE:=i' hB.nil;have M:=i' U;have aI:=i' hF.co;obtain⟨i0,hi,bA,bB,bD⟩:=x0 r9;have aW:∀x,(sizeOf 25).run prog x=.ok 2 x:=fun x=>Qb
 have aT:∀x,(isAgg 25).run prog x=.ok true x:=fun x=>Qb
 clear hB hF aM U;go_enter func7,ntmps7;have R:=i' R;have D0:=bk2 M0;go_wp2_with (at_builtin;refine rF rfl _ _ 22 rfl rfl rfl aV.out ?_);go_loopw [4] (fun i wr=>∃j:Nat,∃v:Value,∃G:List En,j<=f/\i=.int .i64 j/\wr.heap[q.heap.size]?=some (.cells #[.slice Ap D cp,v] 25)/\Hid (G.length=j)/\Hid (G.map En.sig=(l.take j).map En.sig)/\Hid (EnsOwn wr (q.heap.size+1) v G)/\QB q wr)(fun i _=>f-(intOf i).toNat);case atStart=>exact⟨0,.slice none 0 0,[],e6 _,rfl,Qs,i' rfl,i' rfl,i' (EnsOwn.nil _ _),Qi⟩
 case round=>
  obtain⟨j,v,G,hj,rfl,M3,C,aO,y,z⟩:=hrel;have n:=y.out.own;rw[C.out]at n;obtain⟨A5,c5,rfl⟩:=ZV n;clear n;have aF:QB w wr:=via aG z;have D0:=bk2 (Zx z M0);have D1:=bk2 (Zx z M1);have D3:=bk2 M3;have bL:=ZE M3;by_cases aU:j<f
  .have bK:(j:Int)<(f:Int):=Qa
   obtain⟨x,hx⟩:∃x,l[j]?=some x:=⟨_,h' (by rw[M.out];exact aU)⟩;have X:=e7 hx;obtain⟨b,o,rfl,bH,hc⟩:=(aA.out.below aF).1 j x hx;have y0:=hc 0 _ rfl;have y1:=hc 1 _ rfl;have y2:=hc 2 _ rfl;simp only[sW]at y0;obtain⟨L,hL⟩:=Qu x.co.length;have aS:=i' fun W (S:QB wr W)=>R9 x.A x.co x.c L W (((aA.out.below aF).2 x X).below S) hL (by rw[<-hL];exact aI.out x X);have K:=i' (show (l.take (j+1)).map En.sig=(l.take j).map En.sig++[x.sig]by rw[r4,hx];simp);have aD:=i' hL;have bM:wr.cell? ⟨b,o+j*3+1,none⟩=some (.slice x.A L x.c):=by rw[<-hL];exact y1
   clear hc hx X y1 hL;go_wp2_with (first
    |(go_at_call 12;refine(aS.out _ (ZB _ _)).mono ?_;rintro e F ⟨⟨d,m,rfl,aE⟩,I⟩;have Q3:=Zx I (Zz M3 (.cells #[.string x.nm,.slice x.A L x.c,.int .i64 x.mo] 71 (0,0)));have Q5:=Zx I (ZA wr (.cells #[.string x.nm,.slice x.A L x.c,.int .i64 x.mo] 71 (0,0)) rfl);have E3:=bk2 Q3;have E5:=bk3 Q5;have O:=via (ZB wr (.cells #[.string x.nm,.slice x.A L x.c,.int .i64 x.mo] 71 (0,0))) I;(have H:QB wr ((F.setCell ⟨wr.heap.size,1,none⟩ (.slice d L m))):=O.trans (((OnlyB.refl wr.heap.size F).set 1 _).below _ (r3 _)));(have a:=i' (y.out.below (via H (ZB ((F.setCell ⟨wr.heap.size,1,none⟩ (.slice d L m))) (.cells #[.string x.nm,.slice d L m,.int .i64 x.mo] 71 (0,0))))));have s:=i' aE;clear aE I)|(at_builtin;refine CK rfl (.tmp 28) (.tmp 30) 23 71 i0 _ (.slice A5 j c5) 48 (q.heap.size+1) j F.heap.size 3 (G.flatMap En.cs) [.string x.nm,.slice d L m,.int .i64 x.mo] 71 rfl rfl rfl Qb hi bA bB bD rfl Qc Qc rfl ?c1 ?c2 ?c3 ?c4 ?c5 ?_));case c1=>have:=a.out.own;rwa [C.out]at this
   case c2=>exact ZA _ _ Qd
   case c3=>simp[Value.oneCell']
   case c4=>omega
   case c5=>have:=a.out;have:=H.size;simp at this |-;omega
   intro v' w8 V J aJ;obtain⟨A8,c8,rfl⟩:=ZV V;have aX:((F.setCell ⟨wr.heap.size,1,none⟩ (.slice d L m))).heap.size=F.heap.size:=lB _ _ _;have aK:∀g,d=some g->wr.heap.size+1<=g.block/\g.block<F.heap.size:=fun g e=>by have:=s.out.lt g.block (by rw[e];rfl);simp only[P3]at this;exact this
   have o7:=ZL (R' s.out fun r e=>((OnlyB.refl wr.heap.size F).set 1 (.slice d L m)).other r (by have:=(s.out.lt r e).1;simp at this;omega)) (ZB ((F.setCell ⟨wr.heap.size,1,none⟩ (.slice d L m))) (.cells #[.string x.nm,.slice d L m,x.mo] 71));have o5:=a.out.own;rw[C.out]at o5;have N:=fun r e=>(y.out.own.lt r e).2;have aB:EnsOwn w8 (q.heap.size+1) (.slice A8 (j+1) c8) (G++[⟨x.nm,d,m,x.co,x.mo⟩]):=by
    refine EnsOwn.push a.out (x:=⟨x.nm,d,m,x.co,x.mo⟩) (C1 o7 aD.out) (gQ o7) (fun g e=>?_) J ?_ ?_
    .have h1:=aK g e;refine⟨Qa,?_,fun h=>?_⟩;·simp;omega
     .have:=N _ h.symm;omega
    .have:=V;simp only[C.out,En.cs,aD.out];exact this
    .rcases aJ with h|h;·exact .inl h
     .exact .inr (by rw[h];simp)
   have R3:=b5 J (Zz (MB (i:=1) (u:=.slice d L m) Q3 (show q.heap.size≠wr.heap.size by omega)) (.cells #[.string x.nm,.slice d L m,x.mo] 71)) (X1 o5 (tQ _));have aH:QB q w8:=ZX ((z.trans (H.mono Qa)).trans ((ZB ((F.setCell ⟨wr.heap.size,1,none⟩ (.slice d L m))) (.cells #[.string x.nm,.slice d L m,x.mo] 71)).mono Qa)) J fun b e=>by have:=(o5.lt b e).1;omega
   have aC:=i' aB;clear aB o7 o5 N aK aX V J aJ a s H O;have F8:=bk2 R3;obtain⟨aY,aZ⟩:Hid ((G++[(⟨x.nm,d,m,x.co,x.mo⟩:En)]).length=j+1)/\Hid ((G++[(⟨x.nm,d,m,x.co,x.mo⟩:En)]).map En.sig=(l.take (j+1)).map En.sig):=⟨i' (by simp[C.out]),i' (by rw[K.out,b4,aO.out];rfl)⟩;go_wp2;go_roundw;case rel=>exact⟨j+1,_,_,Qa,Qj,ZG (o:=1) R3 (.slice A8 (j+1) c8) rfl,aY,aZ,i' (aC.out.other (tQ _) ((OnlyB.refl _ _).set _ _) Qd),aH.trans (((OnlyB.refl q.heap.size w8).set 1 _).below _ (r3 _))⟩
   case measure=>exact Qv
  .obtain rfl:f=j:=Qa
   have K:G.map En.sig=l.map En.sig:=by rw[aO.out,<-M.out,x1]
   have aN:=i' K;have aL:=i' (ZL R.out z);clear K;go_wp2;refine e5 (v:=.agg #[.slice Ap D cp,.slice A5 f c5]) ?_ rfl ⟨⟨Ap,cp,A5,c5,G,rfl,C.out,aN.out,?_,?_⟩,?_⟩;·exact X2 (p:=2) (ad:=⟨w.heap.size+1,0,none⟩) rfl Qe (x3 (T:=25) (cs:=[.slice Ap D cp,.slice A5 f c5]) (aT _) (aW _) (ZG (ZG (Zx z M1) _ rfl) _ rfl))
   .exact F2 (R' aL.out fun r e=>(((OnlyB.refl (w.heap.size+1) wr).set _ _).set _ _).other r (by have:=(aL.out.lt r e).1;omega)) Qa
   .exact(y.out.other (k:=w.heap.size+1) Qa (((OnlyB.refl _ _).set _ _).set _ _) Qd).base Qa
   .go_grown
end Go.Proofs
namespace Go.Proofs
open Go.RowKit
section
variable {P:Program}
def EY(b w:World)(a:Nat)(x:World):Prop:=QB b x/\w.heap.size<=x.heap.size/\∀k,k<w.heap.size->k≠a->x.heap[k]?=w.heap[k]?
def jY{Q:Exit->Act->World->Prop} {Y:Act} {w:World} {l:List Oper} (f:World)(p:Nat)(a:Nat)(H I:Obj)(s:Act)(hB:bL l.toArray=true) (hB':bL (mixL [p] (fun _ _=>undef) (fun _=>Gh.zero) 0 l).toArray=true) (hS:Region.noSelect l.toArray=true) (hN:spB l.toArray [p]=true)(hkd:(match l[p]? with|some o=>o.dst.isNone|_=>false)=true)(hw:QB f w)(hb:f.heap.size<=a)(h4:w.heap[a]?=some H)(hs4:∀o,l[p]?=some o->∀x,EY f w a x->x.heap[a]?=some H->∃d,(execOp s.eval o).run P x=.ok .skip d/\OnlyB a x d/\d.heap[a]?=some I)(hq:∀u,EY f w a u->(∀(x:Grew u)(b o:Nat),b<u.heap.size->x.val.cell? ⟨b,o,none⟩=u.cell? ⟨b,o,none⟩)->wpQuiet P (mixL [p] (fun _ _=>undef) (fun _=>Gh.zero) 0 l).toArray (fun Z=>∃x:Grew u,Z=x.val) (fun K=>K=s) (mixL [p] (fun _ _=>undef) (fun _=>Gh.zero) 0 l) Y)(B:∀x,EY f w a x->x.heap[a]?=some I->Q .normal s x):wpAny P .any l.toArray Q l.toArray.size (Array.replicate l.toArray.size false) Y {w with drawn:=w.drawn+1}:=by
 have n:∀j∈[p],∀o,l[j]?=some o->o.dst=none:=by cases C:l[p]? with
  |none=>rw[C]at hkd;simp at hkd|some o1=>rw[C]at hkd;simp only[AY]at hkd;intro j m o i;rw[y2]at m;subst m;rw[C]at i;cases i;exact hkd
 have G:∀{x d:World},EY f w a x->OnlyB a x d->EY f w a d:=fun {x d} h i=>⟨h.1.trans (i.below _ hb),l3 h.2.1 (i.below 0 (e6 _)).size,fun k A c=>(i.other k c).trans (h.2.2 k A c)⟩;have F:∀{x d:World},EY f w a x->QB x d->EY f w a d:=fun {x d} h e=>⟨via h.1 e,l3 h.2.1 e.size,fun k A c=>(e.block k (h8 A h.2.1)).trans (h.2.2 k A c)⟩;have r:∀g X,mixL [p] (fun _ _=>undef) g 0 l=mixL [p] (fun _ _=>undef) X 0 l:=fun g X=>by apply aP;intro j;have c:=G2 [p] (fun _ _=>undef) g l 0 j;have R:=G2 [p] (fun _ _=>undef) X l 0 j;rw[c,R]
 refine dO f (EY f w a) [p] (fun _ _=>undef) (fun L g x=>x.heap[a]?=some (if L p then I else H)) (fun _=>s) hB (fun g=>by rw[r g (fun _=>Gh.zero)];exact hB') hS hN
  ⟨hw,r3 _,fun _ _ _=>rfl⟩ (fun x d h hb=>F h hb) (fun x h=>h.1) ?_ ?_ (fun g u O E _ _=>by rw[r g (fun _=>Gh.zero)];exact hq u O E) (fun _ _ _ _=>rfl) ?_ ?_;·intro L h;rw[h p Qd];exact h4
 .rintro L V g x d h c e;rw[h p Qd];exact Zx e c
 .intro j m o i L g x c y D M z J;have N:=n j m o i;rw[y2]at m;subst m;rw[M]at c;obtain⟨d,S,T,U⟩:=hs4 o i x y c;refine gF S ⟨G y T,.inl ⟨N,?_⟩⟩;rw[dP];exact U
 .rintro g x c y D;simp only[Zyk]at c;exact B x y c
def wI{Q:Exit->Act->World->Prop} {D:Act} {w:World} {l:List Oper} (E:World)(c:Act)(hB:bL l.toArray=true) (hB':bL (mixL [] (fun _ _=>undef) (fun _=>Gh.zero) 0 l).toArray=true) (hS:Region.noSelect l.toArray=true) (hN:spB l.toArray []=true) (hw:QB E w)(hq:∀u,QB w u->(∀(x:Grew u)(b o:Nat),b<u.heap.size->x.val.cell? ⟨b,o,none⟩=u.cell? ⟨b,o,none⟩)->wpQuiet P (mixL [] (fun _ _=>undef) (fun _=>Gh.zero) 0 l).toArray (fun F=>∃x:Grew u,F=x.val) (fun i=>i=c) (mixL [] (fun _ _=>undef) (fun _=>Gh.zero) 0 l) D)(f:∀x,QB w x->Q .normal c x):wpAny P .any l.toArray Q l.toArray.size (Array.replicate l.toArray.size false) D {w with drawn:=w.drawn+1}:=by
 have a:∀g C,mixL [] (fun _ _=>undef) g 0 l=mixL [] (fun _ _=>undef) C 0 l:=fun g C=>by apply aP;intro j;have s:=G2 [] (fun _ _=>undef) g l 0 j;have y:=G2 [] (fun _ _=>undef) C l 0 j;rw[s,y]
 exact dO E (fun x=>QB w x) [] (fun _ _=>undef) (fun _ _ _=>True) (fun _=>c) hB (fun g=>by rw[a g (fun _=>Gh.zero)];exact hB') hS hN (m' _ _) (fun x z h m=>h.trans (m.mono h.size)) (fun x h=>via hw h) (fun _ _=>trivial) (fun _ _ _ _ _ _ _ _=>trivial) (fun g u n d _ _=>by rw[a g (fun _=>Gh.zero)];exact hq u n d) (fun j e=>by cases e) (fun j e=>by cases e) (fun g x _ r _=>f x r)
end
open Tryz
def XI(A D:Option Addr)(l:List Int)(c e n:Nat)(w:World)(E:At 1 Zc w A l)(F:At 1 Zc w D l)(I:l.length=n)(R:n<=1000):Calls prog 10 #[.slice A n c,.slice D n e] w (Qt w true):=by
 have y:=i' I;have h:=i' E;have j:=i' F;clear I E F;go_enter func10,ntmps10;go_wp2;go_loopw [5] (fun i wr=>∃k:Nat,k<=n/\i=.int .i64 k/\QB w wr)(fun i _=>n-(intOf i).toNat);case atStart=>exact⟨0,e6 _,rfl,Qi⟩
 case round=>
  obtain⟨k,Q,rfl,d⟩:=hrel;by_cases u:k<n
  .have L:(k:Int)<(n:Int):=Qa
   have K:(0:Int)<=(k:Int):=Qa
   obtain⟨x,C⟩:∃x,l[k]?=some x:=⟨_,h' (by rw[y.out];exact u)⟩;obtain⟨b,o,rfl,J,H⟩:=(h.out.below d) k x C;obtain⟨O,o2,rfl,G,g⟩:=(j.out.below d) k x C;have M:=H 0 _ rfl;have N:=g 0 _ rfl;simp only[sW,p1]at M N;clear H g C;go_wp2;refine c8 w Qb Qb Qi ?_;intro s r;repeat (go_big_quiet_step (fail))
   refine Zyh ?_;intro S m a z;clear s r;go_wp2;go_roundw;case rel=>exact⟨k+1,Qa,Qj,a⟩
   case measure=>exact Qv
  .obtain rfl:n=k:=Qa
   go_wp2;go_ret;exact⟨rfl,Qi⟩
end Go.Proofs
namespace Go.Proofs
open Go.RowKit
variable {nm:List UInt8} {k ag v den lev:Int} {W:List Int}
def nY:List UInt8:=[109,101,97,110]
def nZ:List UInt8:=[115,104,97,114,101]
def fX(nm:List UInt8)(k ag v den lev:Int)(W:List Int):List (List UInt8):=nm::((if k=1 then [nZ,Lib.itoa ag]else [nY])++(Lib.itoa v::Lib.itoa den::Lib.itoa lev::W.map Lib.itoa))
structure NumsR (ag v den lev:Int)(W:List Int):Prop where
 ag:0<=ag/\ag<=400
 v:0<=v/\v<=1000
 den:1<=den/\den<=1000000000000
 lev:lev.natAbs<=1000000000000
 wt:∀x∈W,0<=x/\x<=1000000000000
 n:W.length<=8
def FA(n:Int)(h:n.natAbs<=1000000000000):(Lib.itoa n).length<=14:=(rC 12 n Qa).1
def DC(d:nm.length<=20)(b:NumsR ag v den lev W):(fX nm k ag v den lev W).length<=14/\5<=(fX nm k ag v den lev W).length/\∀x∈fX nm k ag v den lev W,x.length<=20:=by
 have c:=b.n;unfold fX;refine⟨?_,?_,fun x a=>?_⟩;·split<;>simp<;>omega
 .split<;>simp
 .rcases ZAW.1 a with rfl|a;·exact d
  rcases s0.1 a with a|a
  .split at a
   .simp only[ZAW,ZBg,Zyi]at a;rcases a with rfl|rfl;·decide
    .have:=FA ag (by have:=b.ag;omega);omega
   .simp only[ZAW,ZBg,Zyi]at a;subst a;decide
  .simp only[ZAW,b3]at a;rcases a with rfl|rfl|rfl|⟨y,e,rfl⟩;·have:=FA v (by have:=b.v;omega);omega
   .have:=FA den (by have:=b.den;omega);omega
   .have:=FA lev b.lev;omega
   .have:=FA y (by have:=b.wt y e;omega);omega
def XJ(c:nm.length<=20)(b:NumsR ag v den lev W):(Lib.join (fX nm k ag v den lev W) [32]).length<=1000:=by obtain⟨d,-,a⟩:=DC (k:=k) c b;have:=JV 20 _ a;omega
structure EnTy (w:World)(base:Nat)(v:Value)(xs:List En):Prop where
 own:w.ownsRow base 71 3 v xs.length (xs.flatMap En.cs)
 row:∀x∈xs,At 1 Zc w x.A x.co/\(x.A=none->x.c=0)/\∀g,x.A=some g->∃cur fr,w.heap[g.block]?=some (.cells cur 3 fr)
end Go.Proofs
namespace Go.Proofs
open Tryz
open Go.RowKit
def kN(e:List Pa)(c:List En)(k d a b:Int)(W:List Int):Int:=if bU e c k d≠0 then bU e c k d else if eF c.length a b W≠0 then eF c.length a b W else if eC (Z5 e k d) c a b W then 0 else 20
def rU(e:List Pa)(c:List En)(k d a b:Int)(W:List Int):Int×Int:=if kN e c k d a b W=0 then ((b-spentL (exs c) W) / fH (b-spentL (exs c) W) a,a / fH (b-spentL (exs c) W) a)else (0,0)
def XK(pA Z A:Option Addr)(pc P pn B c wn:Nat)(t:List Pa)(o:List En)(k q f l:Int)(W:List Int)(w:World)(hB:BookAt w pA pc t Z P o)(hF:FewB t o)(K:t.length=pn)(r:o.length=B)(hW:At 1 Zc w A W)(L:W.length=wn)(hl:wn<=1000000):Calls prog 16 #[.agg #[.slice pA pn pc,.slice Z B P],.agg #[k,q],.agg #[f,l,.slice A wn c]] w (Qt w (.tuple #[.agg #[(rU t o k q f l W).1,(rU t o k q f l W).2],(kN t o k q f l W)])):=by
 have I:=i' fun W (M:QB w W)=>AQ pA Z pc P pn B t o k q W (hB.below M) hF K r;have J:=i' fun x (M:QB w x)=>by have h:=CA pA Z A pc P pn B c f l W x (hW.below M) Qa (by rw[<-r];exact hF.e);rw[L]at h;exact h
 have y:∀x,(sizeOf 44).run prog x=.ok 2 x:=fun x=>Qb
 have aD:∀x,(isAgg 44).run prog x=.ok true x:=fun x=>Qb
 have aB:=i' fun(x:World)(M:Below (((((w.alloc (.cells #[.slice pA pn pc,.slice Z B P] 25)).alloc (.cells #[k,q] 53)).alloc (.cells #[f,l,.slice A wn c] 41)).alloc (.cells #[(0:Int),(0:Int)] 44))).heap.size (((((w.alloc (.cells #[.slice pA pn pc,.slice Z B P] 25)).alloc (.cells #[k,q] 53)).alloc (.cells #[f,l,.slice A wn c] 41)).alloc (.cells #[(0:Int),(0:Int)] 44))) x)=>(⟨Zx M (Qs),Zx M (Qs),Zx M (Qs),Zx M (Qs),via Qi M⟩:x.heap[w.heap.size]?=some (.cells #[.slice pA pn pc,.slice Z B P] 25)/\x.heap[w.heap.size+1]?=some (.cells #[k,q] 53)/\x.heap[w.heap.size+1+1]?=some (.cells #[f,l,.slice A wn c] 41)/\x.heap[w.heap.size+1+1+1]?=some (.cells #[(0:Int),(0:Int)] 44)/\QB w x);by_cases O:bU t o k q=0;case neg=>
  have e1:kN t o k q f l W=bU t o k q:=by unfold kN;rw[Zc9 O]
  have N:rU t o k q f l W=(0,0):=by unfold rU;rw[e1,q' O]
  rw[e1,N];obtain⟨E1,Q⟩:=Qu (bU t o k q);rw[Q]at O I |-;clear hB hF K r hW L e1 N Q J;have aK:decide (E1=0)=false:=by simpa using O
  go_enter func16,ntmps16;go_wp2_with (first|(go_at_call 34;refine(I.out _ Qi).mono ?_;rintro e w2 ⟨rfl,j⟩;(obtain⟨F,G,H,N3,d⟩:=aB.out _ j);clear j;have C0:=bk2 F;have C1:=bk2 G;(have C2:=bk3 H))|(refine P0 Qh (.tmp 6) (.tmp 21) 44 Qh (w.heap.size+1+1+1) [.int .i64 0,.int .i64 0] [.int .i64 0,.int .i64 0] 44 rfl rfl (y _) N3 rfl Qc ?_;intro w5 g s U;(have n:QB w w5:=ZX d s fun b e=>(by have:=D3 e;omega));clear s));refine e5 (v:=.tuple #[.agg #[(0:Int),(0:Int)],E1]) ?_ rfl ⟨rfl,n⟩;exact K2 (p:=6) (u:=7) (ad:=⟨w.heap.size+1+1+1,0,none⟩) (v:=.agg #[(0:Int),(0:Int)]) rfl Qe (x3 (T:=44) (cs:=[.int .i64 0,.int .i64 0]) (aD _) (y _) g)
 case pos=>
  have h2:=O;unfold bU at h2;have hR:BookR t o:=hM.1 (aW.1 h2 _ Qd);clear h2;rw[O]at I;by_cases h3:eF B f l W=0;case neg=>
   have e1:kN t o k q f l W=eF B f l W:=by unfold kN;rw[q' (by simp[O]),r,Zc9 h3]
   have N:rU t o k q f l W=(0,0):=by unfold rU;rw[e1,q' h3]
   rw[e1,N];obtain⟨E1,Q⟩:=Qu (eF B f l W);rw[Q]at h3 J |-;clear hB hF K r hW L e1 N Q hR O;have aK:decide (E1=0)=false:=by simpa using h3
   go_enter func16,ntmps16;go_wp2_with (first|(go_at_call 34;refine(I.out _ Qi).mono ?_;rintro e w2 ⟨rfl,j⟩;(obtain⟨F,G,H,N3,d⟩:=aB.out _ j);clear j;have C0:=bk2 F;have C1:=bk2 G;(have C2:=bk3 H))|(go_at_call 39;refine(J.out _ d).mono ?_;rintro e w3 ⟨rfl,a⟩;have M0:=Zx a F;have M1:=Zx a G;have M2:=Zx a H;have M3:=Zx a N3;have m:=via d a;clear a C0 C1 C2 F G H;have D0:=bk2 M0;have D1:=bk2 M1;(have D2:=bk3 M2))|(refine P0 Qh (.tmp 6) (.tmp 21) 44 Qh (w.heap.size+1+1+1) [.int .i64 0,.int .i64 0] [.int .i64 0,.int .i64 0] 44 rfl rfl (y _) M3 rfl Qc ?_;intro w5 g s U;(have n:QB w w5:=ZX m s fun b e=>(by have:=D3 e;omega));clear s));refine e5 (v:=.tuple #[.agg #[(0:Int),(0:Int)],E1]) ?_ rfl ⟨rfl,n⟩;exact K2 (p:=6) (u:=7) (ad:=⟨w.heap.size+1+1+1,0,none⟩) (v:=.agg #[(0:Int),(0:Int)]) rfl Qe (x3 (T:=44) (cs:=[.int .i64 0,.int .i64 0]) (aD _) (y _) g)
  case pos=>
   have i:=jV.1 h3;rw[h3]at J;have sW:ZN 1000000000000 W:=fun x hx=>by have:=i.w x hx;omega
   have C:=i' (show ∀x,QB w x->Calls prog 40 #[.agg #[.slice pA pn pc,.slice Z B P],.agg #[k,q],.agg #[f,l,.slice A B c]] x (Qt x (.tuple #[.agg (if eC (Z5 t k q) o f l W then #[.int .i64 (l-spentL (exs o) W),.int .i64 f]else #[.int .i64 0,.int .i64 0]),(eC (Z5 t k q) o f l W)])) from fun x M=>(CC pA Z A pc P pn B c t o k q f l W x (hB.below M) hF hR K r (hW.below M) (by rw[i.len,r]) sW (by have:=i.d1;have:=i.dK;omega) i.lK).mono fun e w' h=>⟨CD h.1,h.2⟩);have aI:(spentL (exs o) W).natAbs<=8*(1000000000000*20):=by have hs:=V7 (X:=20) (Y:=1000000000000) (exs o) W 8 hR.right.exs_mo sW;rw[h9 (by rw[r2];exact hR.right.n8),h9 (by rw[i.len,<-r];exact hR.right.n8)]at hs;exact hs
   have aC:=i' fun x=>AO (l-spentL (exs o) W) f x (by have:=i.d1;omega) (by have:=i.lK;omega) (by have:=i.d1;have:=i.dK;omega);have aL:wn=B:=by rw[<-L];exact i.len
   subst aL;obtain⟨BD,aA⟩:=Qu (l-spentL (exs o) W);have V:kN t o k q f l W=if eC (Z5 t k q) o f l W then 0 else 20:=by unfold kN;rw[q' (by simp[O]),r,q' (by simp[h3])]
   cases hH:eC (Z5 t k q) o f l W with
   |false=>
    rw[hH]at V C;simp only[p0,Zyj]at V C;have N:rU t o k q f l W=(0,0):=by unfold rU;rw[V,q' Qc]
    rw[V,N];clear hB hF K r hW L V N hR O h3 i sW aI aC hH aA;go_enter func16,ntmps16;go_wp2_with (first|(go_at_call 34;refine(I.out _ Qi).mono ?_;rintro e w2 ⟨rfl,j⟩;(obtain⟨F,G,H,N3,d⟩:=aB.out _ j);clear j;have C0:=bk2 F;have C1:=bk2 G;(have C2:=bk3 H))|(go_at_call 39;refine(J.out _ d).mono ?_;rintro e w3 ⟨rfl,a⟩;have M0:=Zx a F;have M1:=Zx a G;have M2:=Zx a H;have M3:=Zx a N3;have m:=via d a;clear a C0 C1 C2 F G H;have D0:=bk2 M0;have D1:=bk2 M1;(have D2:=bk3 M2))|(go_at_call 40;refine(C.out _ m).mono ?_;rintro e w4 ⟨rfl,D⟩;have P3:=Zx D M3;have z:=via m D;clear D)|(refine P0 Qh (.tmp 9) (.tmp 28) 44 Qh w4.heap.size [.int .i64 0,.int .i64 0] [.int .i64 0,.int .i64 0] 44 rfl rfl (y _) (ZA _ _ rfl) rfl Qc ?_;intro w6 R E aJ;(have Q3:=b5 E (Zx (ZB _ _) P3) (by have:=ZE P3;simp;omega));(have S:QB w w6:=ZX (via z (ZB _ _)) E fun b e=>(by have:=D3 e;have:=z.size;omega));clear E)|(refine P0 Qh (.tmp 6) (.tmp 32) 44 Qh (w.heap.size+1+1+1) [.int .i64 0,.int .i64 0] [.int .i64 0,.int .i64 0] 44 rfl rfl (y _) Q3 rfl Qc ?_;intro w5 g s U;(have n:QB w w5:=ZX S s fun b e=>(by have:=D3 e;omega));clear s));refine e5 (v:=.tuple #[.agg #[(0:Int),(0:Int)],(20:Int)]) ?_ rfl ⟨rfl,n⟩;exact K2 (p:=6) (u:=7) (ad:=⟨w.heap.size+1+1+1,0,none⟩) (v:=.agg #[(0:Int),(0:Int)]) rfl Qe (x3 (T:=44) (cs:=[.int .i64 0,.int .i64 0]) (aD _) (y _) g)|true=>
    rw[hH]at V C;simp only[Zyk]at V C;have N:rU t o k q f l W=(BD / fH BD f,f / fH BD f):=by unfold rU;rw[V,Zc9 rfl,aA]
    rw[V,N];rw[aA]at C aC;obtain⟨U1,aF⟩:=Qu (BD / fH BD f);obtain⟨U2,aG⟩:=Qu (f / fH BD f);rw[aF,aG]at aC |-;clear hB hF K r hW L V N hR O h3 i sW aI hH aA aF aG;go_enter func16,ntmps16;go_wp2_with (first|(go_at_call 34;refine(I.out _ Qi).mono ?_;rintro e w2 ⟨rfl,j⟩;(obtain⟨F,G,H,N3,d⟩:=aB.out _ j);clear j;have C0:=bk2 F;have C1:=bk2 G;(have C2:=bk3 H))|(go_at_call 39;refine(J.out _ d).mono ?_;rintro e w3 ⟨rfl,a⟩;have M0:=Zx a F;have M1:=Zx a G;have M2:=Zx a H;have M3:=Zx a N3;have m:=via d a;clear a C0 C1 C2 F G H;have D0:=bk2 M0;have D1:=bk2 M1;(have D2:=bk3 M2))|(go_at_call 40;refine(C.out _ m).mono ?_;rintro e w4 ⟨rfl,D⟩;have P3:=Zx D M3;have z:=via m D;clear D)|(refine P0 Qh (.tmp 9) (.tmp 28) 44 Qh w4.heap.size [.int .i64 BD,.int .i64 f] [.int .i64 0,.int .i64 0] 44 rfl rfl (y _) (ZA _ _ rfl) rfl (by simp[Value.oneCell']) ?_;intro w6 R E aJ;(have Q3:=b5 E (Zx (ZB _ _) P3) (by have:=ZE P3;simp;omega));(have S:QB w w6:=ZX (via z (ZB _ _)) E fun b e=>(by have:=D3 e;have:=z.size;omega));have C6:=bk2 R;clear E)|(go_at_call 37;refine(aC.out _).mono ?_;rintro e w7 ⟨rfl,aE⟩;have S3:=Zx aE Q3;have aH:=via S aE;clear aE)|(refine P0 Qh (.tmp 6) (.tmp 37) 44 Qh (w.heap.size+1+1+1) [.int .i64 U1,.int .i64 U2] [.int .i64 0,.int .i64 0] 44 rfl rfl (y _) S3 rfl (by simp[Value.oneCell']) ?_;intro w5 g s U;(have n:QB w w5:=ZX aH s fun b e=>(by have:=D3 e;omega));clear s));refine e5 (v:=.tuple #[.agg #[U1,U2],(0:Int)]) ?_ rfl ⟨rfl,n⟩;exact K2 (p:=6) (u:=7) (ad:=⟨w.heap.size+1+1+1,0,none⟩) (v:=.agg #[U1,U2]) rfl Qe (x3 (T:=44) (cs:=[.int .i64 U1,.int .i64 U2]) (aD _) (y _) g)
def XL{w:World} {base m c k n:Nat} {A j:Option Addr} {b:List Pa} {f:List En} (h:w.ownsRow base 69 5 (.slice A m c) m (b.flatMap Pa.cs))(a:EnTy w base (.slice j n k) f)(l:b.length=m)(y:f.length=n):BookAt w A c b j k f:=by
 subst l;subst y;have u:=tV h;have g:=tV a.own;refine⟨?_,⟨?_,fun x i=>(a.row x i).1⟩,u,g,fun x i=>(a.row x i).2.1⟩;·obtain⟨r,s,d,e⟩:=A9 (cs:=Pa.cs) (sz:=5) (fun _=>rfl) h;cases d;exact e
 .obtain⟨r,s,d,e⟩:=A9 (cs:=En.cs) (sz:=3) (fun _=>rfl) a.own;cases d;exact e
def Z6:List Pa:=[⟨bs [97],10,12,5,6⟩,⟨bs [98],50,60,1,2⟩]
def ZO(B:Option Addr):List En:=[⟨bs [104,97,108,102],B,2,[0,-2],-1⟩]
def dW(B:Option Addr):BookR Z6 (ZO B):=by have h:BookR Z6 (ZO none):=hM.1 Qm;exact h.sig rfl
def jZ(w:World):Calls prog 17 #[] w fun e b=>(∃A i B,e=.returned (.agg #[.slice A 2 2,.slice i 1 1])/\BookAt b A 2 Z6 i 1 (ZO B)/\∀g,A=some g->w.heap.size<=g.block)/\QB w b:=by
 go_enter func17,ntmps17;go_wp2;obtain⟨W,a⟩:=Qu ((((w.alloc (.cells #[.slice (some ⟨(w.heap.size+1),0,none⟩) 2 2,.slice (some ⟨(w.heap.size+1+1+1),0,none⟩) 1 1] 25)).alloc (.cells #[.string (bs [97]),(10:Int),(12:Int),(5:Int),(6:Int),.string (bs [98]),(50:Int),(60:Int),(1:Int),(2:Int)] 69)).alloc (.cells #[(0:Int),.int .i64 (-2)] 3)).alloc (.cells #[.string (bs [104,97,108,102]),.slice (some ⟨(w.heap.size+1+1),0,none⟩) 2 2,.int .i64 (-1)] 71));have j:W.heap[w.heap.size]?=some (.cells #[.slice (some ⟨(w.heap.size+1),0,none⟩) 2 2,.slice (some ⟨(w.heap.size+1+1+1),0,none⟩) 1 1] 25):=by rw[<-a];exact Qs
 have r:W.heap[(w.heap.size+1)]?=some (.cells #[.string (bs [97]),(10:Int),(12:Int),(5:Int),(6:Int),.string (bs [98]),(50:Int),(60:Int),(1:Int),(2:Int)] 69):=by rw[<-a];exact Qs
 have m:W.heap[(w.heap.size+1+1)]?=some (.cells #[(0:Int),.int .i64 (-2)] 3):=by rw[<-a];exact Qs
 have s:W.heap[(w.heap.size+1+1+1)]?=some (.cells #[.string (bs [104,97,108,102]),.slice (some ⟨(w.heap.size+1+1),0,none⟩) 2 2,.int .i64 (-1)] 71):=by rw[<-a];exact Qs
 have c:QB w W:=by rw[<-a];go_grown
 have o1:W.ownsRow w.heap.size 69 5 (.slice (some ⟨(w.heap.size+1),0,none⟩) 2 2) 2 (Z6.flatMap Pa.cs):=⟨rfl,.inr ⟨(w.heap.size+1),2,_,rfl,Qa,r,Qa,Qq,rfl,rfl⟩⟩;have o2:W.ownsRow w.heap.size 3 1 (.slice (some ⟨(w.heap.size+1+1),0,none⟩) 2 2) 2 (([0,-2]:List Int).flatMap Zc):=⟨rfl,.inr ⟨(w.heap.size+1+1),2,_,rfl,Qa,m,Qa,Qq,rfl,rfl⟩⟩;have o3:W.ownsRow w.heap.size 71 3 (.slice (some ⟨(w.heap.size+1+1+1),0,none⟩) 1 1) 1 ((ZO (some ⟨(w.heap.size+1+1),0,none⟩)).flatMap En.cs):=⟨rfl,.inr ⟨(w.heap.size+1+1+1),1,_,rfl,Qa,s,Qa,Qq,rfl,rfl⟩⟩;have n:BookAt W (some ⟨(w.heap.size+1),0,none⟩) 2 Z6 (some ⟨(w.heap.size+1+1+1),0,none⟩) 1 (ZO (some ⟨(w.heap.size+1+1),0,none⟩)):=XL o1 ⟨o3,fun x u=>by obtain rfl:=y2.1 u;exact⟨C1 o2 rfl,gQ o2,fun g e=>by cases e;exact⟨_,_,m⟩⟩⟩ rfl rfl;have h:∀x,(sizeOf 25).run prog x=.ok 2 x:=fun x=>Qb
 have d:∀x,(isAgg 25).run prog x=.ok true x:=fun x=>Qb
 refine e5 (v:=.agg #[.slice (some ⟨(w.heap.size+1),0,none⟩) 2 2,.slice (some ⟨(w.heap.size+1+1+1),0,none⟩) 1 1]) ?_ rfl ⟨⟨some ⟨(w.heap.size+1),0,none⟩,some ⟨(w.heap.size+1+1+1),0,none⟩,some ⟨(w.heap.size+1+1),0,none⟩,rfl,by rw[<-a]at n;exact n,fun g e=>by cases e;dsimp only;omega⟩,by rw[<-a]at c;exact c⟩;rw[<-a]at j;exact X2 (p:=0) (ad:=⟨w.heap.size,0,none⟩) rfl Qe (x3 (T:=25) (cs:=[.slice (some ⟨(w.heap.size+1),0,none⟩) 2 2,.slice (some ⟨(w.heap.size+1+1+1),0,none⟩) 1 1]) (d _) (h _) j)
def u'(B:Option Addr):FewB Z6 (ZO B):=⟨Qc,by show 1<=1000;decide,fun p a=>by
 rcases ZAW.1 a with rfl|a;·decide
 .obtain rfl:=y2.1 a;decide,fun x c=>by obtain rfl:=y2.1 c;show (bs [104,97,108,102]).size<=1000;decide,fun x c=>by obtain rfl:=y2.1 c;show 2<=1000;decide⟩
def XM(B:Option Addr):bU Z6 (ZO B) 0 0=0:=by unfold bU;rw[hM.2 (dW B)];rfl
def JX(B:Option Addr):kN Z6 (ZO B) 0 0 1 10 [20]=0/\rU Z6 (ZO B) 0 0 1 10 [20]=(30,1):=by
 have h:kN Z6 (ZO B) 0 0 1 10 [20]=0:=by unfold kN;rw[q' (by rw[XM];simp)];rfl
 refine⟨h,?_⟩;unfold rU;rw[Zc9 h];kernel_rfl
end Go.Proofs
namespace Go.Proofs
open Tryz
open Go.RowKit Go.Twin Go.Conc
variable {w' W w:World}
def codeHd:Code->Code|.seq x _=>x|c=>c
def codeTl:Code->Code|.seq _ y=>y|c=>c
noncomputable def awBody:Code:=Tryz.f4.body.getD .skip
noncomputable def aw1:Code:=codeTl awBody
noncomputable def aw2:Code:=codeTl aw1
noncomputable def aw3:Code:=codeTl aw2
noncomputable def aw4:Code:=codeTl aw3
noncomputable def aw5:Code:=codeTl aw4
def oA(A c:Option Addr)(a b:Nat):Array Value:=#[.bool false,.pointer (some b),.int .i64 0,zu,zu,zu,zu,zu,zu,zu,zu,.tuple #[.agg #[(30:Int),(1:Int)],(0:Int)],.agg #[.slice A 2 2,.slice c 1 1],.agg #[(0:Int),(0:Int)],.slice (some a) 1 1,.agg #[(1:Int),(10:Int),.slice (some a) 1 1],.tuple #[.agg #[(30:Int),(1:Int)],(0:Int)],.agg #[(30:Int),(1:Int)],.int .i64 0,zu,zu,zu,zu,zu,zu,zu,zu,zu,zu,zu,zu,zu,zu,zu,zu,zu,zu,zu,zu,zu,zu,zu,zu,zu,zu,zu,zu,zu,zu,zu,zu,zu,zu,zu,zu,zu,zu,zu,zu,zu,zu,zu,zu,zu,zu,zu,zu,zu,zu,zu,zu,zu,zu,zu,zu,zu,zu,zu,zu,zu,zu,zu,zu,zu]
def XN(w:World):(codeHd aw1).wp prog (fun e y w'=>e=.normal/\y.defers=[]/\(∃A m n C,y.tmps=oA A m n C/\w'.heap[C]?=some (.cells #[(30:Int),(1:Int)] 44))/\QB w w') ⟨#[.bool false,zu,zu,zu,zu,zu,zu,zu,zu,zu,zu,zu,zu,zu,zu,zu,zu,zu,zu,zu,zu,zu,zu,zu,zu,zu,zu,zu,zu,zu,zu,zu,zu,zu,zu,zu,zu,zu,zu,zu,zu,zu,zu,zu,zu,zu,zu,zu,zu,zu,zu,zu,zu,zu,zu,zu,zu,zu,zu,zu,zu,zu,zu,zu,zu,zu,zu,zu,zu,zu,zu,zu,zu,zu,zu,zu,zu,zu,zu,zu,zu,zu,zu,zu],[]⟩ w:=by simp only[aw1,codeHd,codeTl,awBody,Tryz.f4,y'];have d:=i' fun x=>jZ x;go_wp2_with (first|(go_at_call 17;refine(d.out _).mono ?_;rintro e b ⟨⟨A,m,B,rfl,z,D⟩,g⟩;have r:=i' z;have i:=i' g;clear D z g)|(go_at_call 16;(obtain⟨u,a⟩:=Qu (b.alloc (.cells #[(20:Int)] 3)));(have o2:u.ownsRow b.heap.size 3 1 (.slice (some b.heap.size) 1 1) 1 (([20]:List Int).flatMap Zc):=⟨rfl,.inr ⟨b.heap.size,1,_,rfl,Qa,(by rw[<-a];exact Qs),Qa,Qq,rfl,rfl⟩⟩);(have c:QB b u:=by rw[<-a];go_grown);rw[a];clear a;have s:=XK A m (some ⟨b.heap.size,0,none⟩) 2 1 2 1 1 1 Z6 (ZO B) 0 0 1 10 [20] u (r.out.below c) (u' B) rfl rfl (C1 o2 rfl) rfl Qa;rw[(JX B).1,(JX B).2]at s;refine s.mono ?_;rintro e E ⟨rfl,h⟩;have j:=via (via i.out c) h;clear s o2 h c));exact⟨⟨A,m,_,_,rfl,Qs⟩,via j Qi⟩
def DD(B:Option Addr):solvedL Z6.length (exs (ZO B)) (Z5 Z6 1 50)=some ([1,1],2,⟨2,0,[1]⟩):=by show solvedL 2 [([0,-2],-1)] [0,1]=some ([1,1],2,⟨2,0,[1]⟩);kernel_rfl
def XO(B:Option Addr):bU Z6 (ZO B) 1 50=0:=by unfold bU;rw[hM.2 (dW B)];rfl
def cJ(X:Option Addr)(x:Nat)(Y:Option Addr)(y:Nat):Value:=.agg #[(1:Int),(2:Int),(2:Int),.slice X 2 x,(2:Int),(0:Int),.slice Y 1 y]
def XP{B:Option Addr} {a:Nat} {e:Ending} (h:kQ Z6 (ZO B) 1 50 a e w'):∃X x Y y,e=.returned (.tuple #[cJ X x Y y,(0:Int)]):=by unfold kQ at h;rw[q' (by rw[XO];simp),DD]at h;obtain⟨X,x,Y,y,h,_⟩:=h;exact⟨X,x,Y,y,h⟩
def tmps2(A c:Option Addr)(a b:Nat)(C d X:Option Addr)(x:Nat)(Y:Option Addr)(y e:Nat):Array Value:=#[.bool false,.pointer (some b),.int .i64 0,.pointer (some e),.int .i64 0,zu,zu,zu,zu,zu,zu,.tuple #[.agg #[(30:Int),(1:Int)],(0:Int)],.agg #[.slice A 2 2,.slice c 1 1],.agg #[(0:Int),(0:Int)],.slice (some a) 1 1,.agg #[(1:Int),(10:Int),.slice (some a) 1 1],.tuple #[.agg #[(30:Int),(1:Int)],(0:Int)],.agg #[(30:Int),(1:Int)],.int .i64 0,.tuple #[cJ X x Y y,(0:Int)],.agg #[.slice C 2 2,.slice d 1 1],.agg #[(1:Int),(50:Int)],.tuple #[cJ X x Y y,(0:Int)],cJ X x Y y,.int .i64 0,zu,zu,zu,zu,zu,zu,zu,zu,zu,zu,zu,zu,zu,zu,zu,zu,zu,zu,zu,zu,zu,zu,zu,zu,zu,zu,zu,zu,zu,zu,zu,zu,zu,zu,zu,zu,zu,zu,zu,zu,zu,zu,zu,zu,zu,zu,zu,zu,zu,zu,zu,zu,zu,zu,zu,zu,zu,zu,zu]
def XY(X:Option Addr)(x:Nat)(Y:Option Addr)(y:Nat):Obj:=.cells #[(1:Int),(2:Int),(2:Int),.slice X 2 x,(2:Int),(0:Int),.slice Y 1 y] 48
def XQ(A r:Option Addr)(c b:Nat)(w:World):(codeHd aw2).wp prog (fun e s w'=>e=.normal/\s.defers=[]/\(∃C m X x Y y D,s.tmps=tmps2 A r c b C m X x Y y D/\w'.heap[D]?=some (XY X x Y y))/\QB w w') ⟨oA A r c b,[]⟩ w:=by
 simp only[aw2,aw1,codeHd,codeTl,awBody,Tryz.f4,y',oA];have d:=i' fun x=>jZ x;have F:∀x,(sizeOf 48).run prog x=.ok 7 x:=fun x=>Qb
 go_wp2_with (first|(go_at_call 17;refine(d.out _).mono ?_;rintro e f ⟨⟨C,m,B,rfl,u,E⟩,g⟩;have n:=i' u;have i:=i' g;clear E u g)|(go_at_call 14;have z:=BZ C m 2 1 2 1 Z6 (ZO B) 1 50 f n.out (u' B) rfl rfl;refine z.mono ?_;rintro e G ⟨a,h⟩;(obtain⟨X,x,Y,y,rfl⟩:=XP a);have j:=via i.out h;clear z a h;simp only[cJ]));exact⟨⟨C,m,X,x,Y,y,_,rfl,Qs⟩,via j Qi⟩
structure Old (W w':World):Prop where
 size:W.heap.size<=w'.heap.size
 get:∀b,b<W.heap.size->w'.heap[b]?=W.heap[b]?
def Old.refl(W:World):Old W W:=⟨r3 _,fun _ _=>rfl⟩
def Old.trans(h:Old W w)(a:Old w w'):Old W w':=⟨l3 h.size a.size,fun b c=>(a.get b (h8 c h.size)).trans (h.get b c)⟩
def Zp(h:QB w w'):Old w w':=⟨h.size,h.block⟩
def Ze{t:Nat->Question->Nat} {d:Nat} (h:Below (w.re t d).heap.size (w.re t d) w'):Old w w':=⟨h.size,h.block⟩
def Old.at{b:Nat} {o:Obj} (h:Old W w')(hb:W.heap[b]?=some o):w'.heap[b]?=some o:=(h.get b (bP.1 hb).1).trans hb
def XR:ZM.code (codeHd aw1)=true:=Qb
def XS:ZM.code (codeHd aw2)=true:=Qb
def Zb{E:Env} {B:Blk} {a b:Array Value} (h:AR E B a a)(e:a=b):AR E B b b:=e▸h
def XT{b:Frame->List Frame->World->Prop} {cs:List Frame} (o:Halts b)(V:GlobOk w)(k:∀A c a f C i X x Y y l p D,awB.le D->Self ZM (fun _=>False) D p->AR ZM D (tmps2 A c a f C i X x Y y l) (tmps2 A c a f C i X x Y y l)->p.heap[f]?=some (.cells #[(30:Int),(1:Int)] 44)->p.heap[l]?=some (XY X x Y y)->Old (aK w) p->LG ZP b ((Go.Conc.base 4).at ⟨tmps2 A c a f C i X x Y y l,[]⟩ [.code aw3]) cs p):LG ZP b ((Go.Conc.base 4).at ⟨Array.replicate 84 undef,[]⟩ [.code awBody]) cs (aK w):=by
 have F:=WT V;have j:awB.le awB:=Blk.le_refl _;have E:AR ZM awB (Array.replicate 84 undef) (Array.replicate 84 undef):=AR.replicate _ undefR;rw[show awBody=.seq (codeHd awBody) aw1 from Qb];refine cO o ?_;simp only[awBody,codeHd,Tryz.f4,y'];refine cT o ?_;simp only[A8,L',w9,Nat.reduceAdd,w0,List.range,List.range.loop];refine fQ o Z0 ZZ F (Zb E Qb) rfl rfl Qc Qb (fun tt T K O Q=>?_);simp only[show ZM.P=prog from rfl];go_simp;first|refine O _ _ ?_|refine Q _ ?_
 clear O Q K tt T;intro D g z n;replace j:=Blk.le_trans j g;clear F E g;have F:=z;have E:=n;clear z n;walk_nrm;refine cU o ?_;rw[show aw1=.seq (codeHd aw1) aw2 from Qb];refine cO o ?_;refine z6 (R:=fun m w'=>(∃A c a f,m.tmps=oA A c a f/\w'.heap[f]?=some (.cells #[(30:Int),(1:Int)] 44))/\Old (aK w) w') ZZ fL iN Z0 F (Zb E Qb) rfl XR (fun v w t d h=>⟨h.1,h.2.size,h.2.get⟩) (fun t d=>iQ (fun e m w' h=>⟨h.1,h.2.1,h.2.2.1,(Ze h.2.2.2).size,(Ze h.2.2.2).get⟩) (XN _)) ?_;rintro⟨tm,U⟩ Z B1 ⟨⟨A,c,a,f,G,B⟩,L⟩ H r M I;cases G;cases H;rw[show aw2=.seq (codeHd aw2) aw3 from Qb];refine cO o ?_;refine z6 (R:=fun m w'=>(∃C i X x Y y l,m.tmps=tmps2 A c a f C i X x Y y l/\w'.heap[l]?=some (XY X x Y y))/\Old Z w') ZZ fL iN Z0 M I rfl XS (fun v w t d h=>⟨h.1,h.2.size,h.2.get⟩) (fun t d=>iQ (fun e m w' h=>⟨h.1,h.2.1,h.2.2.1,(Ze h.2.2.2).size,(Ze h.2.2.2).get⟩) (XQ A c a f _)) ?_;rintro⟨tm,U⟩ q S ⟨⟨C,i,X,x,Y,y,l,G,n3⟩,u⟩ H s N J;cases G;cases H;exact k A c a f C i X x Y y l q S (Blk.le_trans (Blk.le_trans j r) s) N J (u.at B) n3 (L.trans u)
variable {w w':World} {b o:Nat} {v:Value}
def At.old{d:Nat} {α:Type} {cs:α->List Value} {A:Option Addr} {e:List α} (h:At d cs w A e)(a:Old w w'):At d cs w' A e:=(h.below (⟨rfl,rfl,rfl,a.size,a.get⟩:QB w {w' with os:=w.os,tape:=w.tape,output:=w.output}):At d cs {w' with os:=w.os,tape:=w.tape,output:=w.output} A e)
def BookAt.old{d a:Option Addr} {e c:Nat} {m:List Pa} {l:List En} (f:BookAt w d e m a c l)(h:Old w w'):BookAt w' d e m a c l:=⟨f.P.old h,⟨f.E.1.old h,fun x g=>(f.E.2 x g).old h⟩,f.pc',f.ec',f.nil⟩
noncomputable def shBody:Code:=Tryz.f18.body.getD .skip
noncomputable def shA:Code:=codeTl shBody
noncomputable def shB:Code:=codeTl shA
noncomputable def shC:Code:=codeTl shB
noncomputable def shD:Code:=codeTl shC
noncomputable def shE:Code:=codeTl shD
def mK(A a:Option Addr):Array Value:=#[.agg #[.slice A 2 2,.slice a 1 1],.int .i64 1,zu,zu,zu,zu,zu,zu,zu,zu,zu,zu,zu,zu,zu,zu,zu,zu,zu,zu,zu,zu,zu,zu,zu,zu,zu,zu,zu,zu,zu,zu,zu,zu,zu,zu,zu,zu,zu,zu,zu,zu]
def oB(A a:Option Addr)(c d:Nat):Array Value:=#[.agg #[.slice A 2 2,.slice a 1 1],.int .i64 1,.pointer (some c),undef,.pointer (some d),.int .i64 0,zu,zu,zu,zu,zu,zu,zu,zu,zu,zu,zu,zu,zu,zu,zu,zu,zu,zu,zu,zu,zu,zu,zu,zu,zu,zu,zu,zu,zu,zu,zu,zu,zu,zu,zu,zu]
def oD(A c:Option Addr)(d e a:Nat):Array Value:=#[.agg #[.slice A 2 2,.slice c 1 1],.int .i64 1,.pointer (some d),undef,.pointer (some e),.int .i64 0,.int .i64 0,undef,undef,undef,.agg #[.slice A 2 2,.slice c 1 1],.int .i64 0,.int .i64 1,.pointer (some d),.slice A 2 2,.int .i64 2,.int .i64 1,.bool true,.int .i64 0,.slice (some a) 2 2,.int .i64 0,.int .i64 0,.bool false,zu,zu,zu,zu,zu,zu,zu,zu,zu,zu,zu,zu,zu,zu,zu,zu,zu,zu,zu]
def oE(A d:Option Addr)(c g a e:Nat):Array Value:=#[.agg #[.slice A 2 2,.slice d 1 1],.int .i64 1,.pointer (some c),undef,.pointer (some g),.int .i64 0,.int .i64 0,.slice (some e) 2 2,undef,undef,.agg #[.slice A 2 2,.slice d 1 1],.int .i64 0,.int .i64 1,.pointer (some c),.slice A 2 2,.int .i64 2,.int .i64 1,.bool true,.int .i64 0,.slice (some a) 2 2,.int .i64 0,.int .i64 0,.bool false,undef,undef,.pointer (some c),.slice A 2 2,.int .i64 2,.slice (some e) 2 2,zu,zu,zu,zu,zu,zu,zu,zu,zu,zu,zu,zu,zu]
def DE(A e:Option Addr)(d g c a:Nat):Array Value:=#[.agg #[.slice A 2 2,.slice e 1 1],.int .i64 1,.pointer (some d),undef,.pointer (some g),.int .i64 0,.int .i64 0,.slice (some a) 2 2,undef,undef,.agg #[.slice A 2 2,.slice e 1 1],.int .i64 0,.int .i64 1,.pointer (some d),.slice A 2 2,.int .i64 2,.int .i64 1,.bool true,.int .i64 0,.slice (some c) 2 2,.int .i64 0,.int .i64 0,.bool false,undef,undef,.pointer (some d),.slice A 2 2,.int .i64 2,.slice (some a) 2 2,.slice (some a) 2 2,.int .i64 1,.pointer (some ⟨a,1,none⟩),zu,zu,zu,zu,zu,zu,zu,zu,zu,zu]
def XU(A a:Option Addr)(w:World):(codeHd shBody).wp prog (fun e d w'=>e=.normal/\d.defers=[]/\(∃g c,d.tmps=oB A a g c/\w'.heap[g]?=some (.cells #[.slice A 2 2,.slice a 1 1] 25)/\w'.heap[c]?=some (.cells #[(0:Int),(0:Int)] 58)/\w.heap.size<=c)/\QB w w') ⟨mK A a,[]⟩ w:=by simp only[codeHd,codeTl,shBody,Tryz.f18,y',mK];go_wp2;exact⟨⟨_,_,rfl,Qs,Qs,by first|omega|simp⟩,Qi⟩
def XV(A c B:Option Addr)(i u:Nat)(w:World)(f:BookAt w A 2 Z6 c 1 (ZO B))(y:w.heap[i]?=some (.cells #[.slice A 2 2,.slice c 1 1] 25)):(codeHd shA).wp prog (fun e s w'=>e=.normal/\s.defers=[]/\(∃h,s.tmps=oD A c i u h)/\QB w w') ⟨oB A c i u,[]⟩ w:=by
 simp only[codeHd,codeTl,shA,shBody,Tryz.f18,y',oB];have z:=i' fun W (C:QB w W)=>(hM.2 (dW B))▸fF A c 2 1 2 1 Z6 (ZO B) W (f.below C) (u' B) rfl rfl;have d:=i' fun W=>dD 1 0 1 W;rw[show hN 1 0 1=true from Qc]at d;have D:=bk2 y;have j:QB w w:=m' _ _;clear f y;refine wp_seq ?_;refine v8 w 9 Qb Qb j ?_;intro m g;simp only[sT,p',sA,B9];repeat (go_big_quiet_step (first
  |(go_at_call 22;with_reducible exact Grew.call (z.out _ (g.out _)))|(go_at_call 30;with_reducible exact Zd (d.out _))|(go_at_call 25;with_reducible exact Zd (hP _ _ _))))
 refine Zyh ?_;intro E a r n;clear m g;simp only[show unl true 6=0 from rfl];go_wp2_with (go_at_call 29;refine(hY _ _ _).mono ?_;rintro e w' ⟨rfl,rfl⟩;simp only[show Z8 [0,0]=0 from rfl]);exact⟨⟨_,rfl⟩,via a Qi⟩
def XW(A c:Option Addr)(d i a:Nat)(w:World)(j:w.heap[d]?=some (.cells #[.slice A 2 2,.slice c 1 1] 25)):(codeHd shB).wp prog (fun e h w'=>e=.normal/\h.defers=[]/\(∃g,h.tmps=oE A c d i a g/\w'.heap[g]?=some (.cells #[(0:Int),(0:Int)] 3)/\w.heap.size<=g)/\QB w w') ⟨oD A c d i a,[]⟩ w:=by simp only[codeHd,codeTl,shB,shA,shBody,Tryz.f18,y',oD];have D:=bk2 j;clear j;have m:∀W,(Instr.makeSlice 28 (.int .i64 2) (.int .i64 2)).run prog W=.ok (.slice (some W.heap.size) 2 2) (W.alloc (.cells #[(0:Int),(0:Int)] 3)):=fun W=>S2 2 Qa W;go_wp2;exact⟨⟨_,rfl,Qs,r3 _⟩,Qi⟩
def XX{c:Array Value} {T:TypeId} {f:Nat×Nat} (h:w.heap[b]?=some (.cells c T f)):(w.setCell ⟨b,o,none⟩ v).heap[b]?=some (.cells (c.setIfInBounds o v) T f):=by simp[World.setCell,jA,h]
def XZ{k:Nat} (a:k≠b):(w.setCell ⟨b,o,none⟩ v).heap[k]?=w.heap[k]?:=by simp[World.setCell,jA,e0 a]
def X4(A h:Option Addr)(j m a c:Nat)(w:World)(d:w.heap[c]?=some (.cells #[(0:Int),(0:Int)] 3)):(codeHd shC).wp prog (fun e i w'=>e=.normal/\i.defers=[]/\i.tmps=DE A h j m a c/\w'.heap[c]?=some (.cells #[(0:Int),(1:Int)] 3)/\w'.heap.size=w.heap.size/\∀b,b≠c->w'.heap[b]?=w.heap[b]?) ⟨oE A h j m a c,[]⟩ w:=by simp only[codeHd,codeTl,shC,shB,shA,shBody,Tryz.f18,y',oE];have D:=bk2 d;have g:=i' (XX (o:=1) (v:=.int .i64 1) d);clear d;go_wp2;exact⟨rfl,(bP.1 g.out).2,fun b n=>XZ n⟩
def JY(A c:Option Addr)(e g d a h:Nat):Array Value:=#[.agg #[.slice A 2 2,.slice c 1 1],.int .i64 1,.pointer (some e),undef,.pointer (some g),.int .i64 0,.int .i64 0,.slice (some a) 2 2,.pointer (some h),.bool true,.agg #[.slice A 2 2,.slice c 1 1],.int .i64 0,.int .i64 1,.pointer (some e),.slice A 2 2,.int .i64 2,.int .i64 1,.bool true,.int .i64 0,.slice (some d) 2 2,.int .i64 0,.int .i64 0,.bool false,undef,undef,.pointer (some e),.slice A 2 2,.int .i64 2,.slice (some a) 2 2,.slice (some a) 2 2,.int .i64 1,.pointer (some ⟨a,1,none⟩),.tuple #[.agg #[(500:Int),(1000:Int)],true],.agg #[.slice A 2 2,.slice c 1 1],.slice (some a) 2 2,.slice (some a) 2 2,.tuple #[.agg #[(500:Int),(1000:Int)],true],.agg #[(500:Int),(1000:Int)],.bool true,undef,undef,undef]
def X6(A I:Option Addr)(M g j N G:Nat)(w:World)(f:w.heap[g]?=some (.cells #[(0:Int),(0:Int)] 58))(m:w.heap[G]?=some (.cells #[(500:Int),(1000:Int)] 58)):shE.wp prog (bodyPost prog Tryz.f18 fun e w'=>e=.returned (.tuple #[.agg #[(500:Int),(1000:Int)],(0:Int)])/\w.heap.size<=w'.heap.size/\∀b,b<w.heap.size->b≠g->w'.heap[b]?=w.heap[b]?) ⟨JY A I M g j N G,[]⟩ w:=by
 simp only[codeHd,codeTl,shE,shD,shC,shB,shA,shBody,Tryz.f18,y',JY];have J:=bk2 f;have K:=bk2 m;have r:QB w w:=m' _ _;have h:∀x,(sizeOf 58).run prog x=.ok 2 x:=fun x=>Qb
 have n:∀x,(isAgg 58).run prog x=.ok true x:=fun x=>Qb
 refine wp_seq ?_;refine v8 w 3 Qb Qb r ?_;intro z s;simp only[sT,p',sA,B9];repeat (go_big_quiet_step (first|(go_at_call 25;with_reducible exact Zd (hP _ _ _))))
 refine Zyh ?_;intro O a E c;clear z s;simp only[show unl true 12=0 from rfl];have L:=i' (Zx a f);have F:=Zx a m;have Q:=bk2 F;clear f m F J K;go_wp2_with (first|(go_at_call 25;refine(hP _ _ _).mono ?_;rintro e w' ⟨rfl,rfl⟩)|(refine P0 Qh (.tmp 4) (.tmp 39) 58 Qh g [.int .i64 500,.int .i64 1000] [.int .i64 0,.int .i64 0] 58 rfl rfl (h _) L.out rfl Qc ?_;intro R d y i));refine e5 (v:=.tuple #[.agg #[(500:Int),(1000:Int)],(0:Int)]) ?_ rfl ⟨rfl,by rw[i];exact c,fun b H D=>?_⟩;·exact K2 (p:=4) (u:=5) (ad:=⟨g,0,none⟩) (v:=.agg #[(500:Int),(1000:Int)]) rfl Qe (x3 (T:=58) (cs:=[.int .i64 500,.int .i64 1000]) (n _) (h _) d)
 .have C:b<O.heap.size:=h8 H c;exact(y.block b C (fun e=>D (D3 e))).trans (a.block b H)
end Go.Proofs
namespace Go.Proofs
open Go.RowKit Go.Twin Go.Conc
section
variable {B:Blk} {bs':List Frame} {l w:World}
def ST.head{E:Env} {bs:List Frame} {f c:Frame} {cs a:List Frame} (h:ST E B bs bs' (f::cs) (c::a)):FR E B f c:=by cases h with|last _ _ h _=>exact h|cons _ _ _ _ h _ _=>exact h
def Zn{E:Env} {d:Array Value} {v:Value} (h:VR E B (.agg d) v) {i:Nat} {u:Value} (b:d[i]?=some u):∃a,VR E B u a:=by cases h with|agg _ xs' hx hxs=>have c:=(bP.1 b).1;exact⟨_,hxs i u (xs'[i]'Qa) b (y1 Qa)⟩
def Zj{E:Env} {A:Option Addr} {n c:Nat} {v:Value} (h:VR E B (.slice A n c) v)(d:E.z0=false:=by rfl):∀b o s,A=some ⟨b,o,s⟩->∃a,B b a:=by rintro b o s rfl;cases h with
 |slice _ _ _ _ ha=>cases ha with|mk _ a _ _ hb=>exact⟨a,hb⟩
 |slice0 _ h=>rw[d]at h;cases h
def sF{p:Nat} {α:Type} {cs:α->List Value} {A:Option Addr} {j:List α} (h:At p cs l A j) {x:α} (m:j[0]?=some x) {v:Value} (k:(cs x)[0]?=some v):∀b o s,A=some ⟨b,o,s⟩->∃c T f,l.heap[b]?=some (.cells c T f):=by rintro b o s rfl;obtain⟨e,g,a,_,d⟩:=h 0 x m;cases a;exact CW (d 0 v k)
def X8(a:Option Addr):(solvedL 2 (exs (ZO a)) (cL [0,1])).map (fun q=>(q.1,q.2.1))=some ([0,1],1):=by show (solvedL 2 [([0,-2],-1)] [0,-1]).map (fun q=>(q.1,q.2.1))=some ([0,1],1);kernel_rfl
def fG(a:Option Addr):exs (ZO a)=[([0,-2],-1)]:=rfl
def DF(a:Option Addr):cN 2 (ZO a) [0,1]=(1,2,true):=by unfold cN;rw[fG];kernel_rfl
def DG(a:Option Addr):cN 2 (ZO a) (cL [0,1])=(-1,1,true):=by unfold cN;rw[fG];kernel_rfl
def X'(a:Option Addr):fV 2 (ZO a) [0,1] [0,1] 1000=.tuple #[.agg #[(500:Int),(1000:Int)],true]:=by unfold fV;rw[DF,DG];kernel_rfl
def rY{a b:Int} {K:Nat} (d:a.natAbs<=K)(e:b.natAbs<=K):ZN K [a,b]:=fun x c=>by
 simp only[ZAW,ZBg,Zyi]at c;rcases c with rfl|rfl;·exact d
 .exact e
def sG{A:Option Addr} {n c:Nat} (d:∀b o s,A=some ⟨b,o,s⟩->∃a,B b a) (g:∀b o s,A=some ⟨b,o,s⟩->∃c T f,l.heap[b]?=some (.cells c T f)):VR EnvS (idX (Z7 B l)) (.slice A n c) (.slice A n c):=qZ fun b o s e=>⟨d b o s e,g b o s e⟩
def YA{W:Nat->Prop} {A g b:Option Addr} {a:Nat} {k:Frame} {cs o:List Frame} (f:BookAt l A 2 Z6 g 1 (ZO b))(O:l.heap[a]?=some (.cells #[(0:Int),(1:Int)] 3))(h:Rel ZP W bs' B (Frame.enter ZP.P 41 #[.agg #[.slice A 2 2,.slice g 1 1],.slice (some a) 2 2,.slice (some a) 2 2,.int .i64 1000] .normal) cs l k o w):dV Tryz.prog k w fun v=>v=.tuple #[.agg #[(500:Int),(1000:Int)],true]:=by
 have u:At 1 Zc l (some ⟨a,0,none⟩) [0,1]:=C1 (⟨rfl,.inr ⟨a,2,_,rfl,e6 _,O,Qa,Qq,rfl,rfl⟩⟩:l.ownsRow 0 3 1 (.slice (some a) 2 2) 2 (([0,1]:List Int).flatMap Zc)) rfl;have z:=h.st.head.tmps;have Q:=q9 (.agg #[.slice A 2 2,.slice g 1 1]) (.slice (some a) 2 2) (.slice (some a) 2 2) (.int .i64 1000);have K:(Frame.enter ZP.P 41 #[.agg #[.slice A 2 2,.slice g 1 1],.slice (some a) 2 2,.slice (some a) 2 2,.int .i64 1000] .normal).tmps=#[.agg #[.slice A 2 2,.slice g 1 1],.slice (some a) 2 2,.slice (some a) 2 2,.int .i64 1000]++Array.replicate 52 undef:=by show (Frame.enter Tryz.prog _ _ _).tmps=_;rw[Q];rfl
 rw[K]at z;have F:=z.getD 0 (undefR (G:=ZP) (B:=B));have J:=z.getD 1 (undefR (G:=ZP) (B:=B));have L:((#[.agg #[.slice A 2 2,.slice g 1 1],.slice (some a) 2 2,.slice (some a) 2 2,.int .i64 1000]++Array.replicate 52 undef:Array Value).getD 0 undef)=.agg #[.slice A 2 2,.slice g 1 1]:=by simp[Array.getD]
 have M:((#[.agg #[.slice A 2 2,.slice g 1 1],.slice (some a) 2 2,.slice (some a) 2 2,.int .i64 1000]++Array.replicate 52 undef:Array Value).getD 1 undef)=.slice (some a) 2 2:=by simp[Array.getD]
 rw[L]at F;rw[M]at J;obtain⟨u1,C⟩:=Zn F (i:=0) rfl;obtain⟨u2,D⟩:=Zn F (i:=1) rfl;have U:=sG (l:=l) (n:=2) (c:=2) (Zj C) (sF f.P rfl rfl);have V:=sG (l:=l) (n:=1) (c:=1) (Zj D) (sF f.E.1 rfl rfl);have I:=sG (l:=l) (n:=2) (c:=2) (Zj J) (sF u rfl rfl);intro H c X Y Z t q N r s T;refine CX (E1:=ZP) (lows:=[0,1]) (ups:=[0,1]) rfl (fun _=>rfl) rfl (dW b).right f.E rfl Qc Qc (fun x S=>by obtain rfl:=y2.1 S;simp) ⟨u,rfl,rY Qc Qc,fun m d p j=>?_⟩ u rfl (rY Qc Qc) (fun m d p j=>?_) ?_ ?_ U V I I h N r s (fun R=>T (R.trans (show fV Z6.length (ZO b) [0,1] [0,1] 1000=_ from X' b)));·have e:solvedL Z6.length (exs (ZO b)) [0,1]=_:=DD b;rw[e]at j;cases j;exact⟨rfl,rY Qc Qc⟩
 .have e:=X8 b;have y:solvedL 2 (exs (ZO b)) (cL [0,1])=some (m,d,p):=j;rw[y]at e;cases e;exact⟨rfl,rY Qc Qc⟩
 .unfold E9;have e:cN Z6.length (ZO b) [0,1]=_:=DF b;rw[e];intro _;exact⟨Qc,Qc⟩
 .unfold E9;have e:cN Z6.length (ZO b) (cL [0,1])=_:=DG b;rw[e];intro _;exact⟨Qc,Qc⟩
end
open Tryz
variable {w:World}
attribute [local go_sem] Oper.semAt_some fB fC fD dL fE fP
def j5{P:Program} {fn:Func} {x:Code} {R:Value->World->Prop} {a:Act} {d:Ending->World->Prop} (h:x.wp P (bodyPost P fn d) a w)(b:∀e w,d e w->∃v,e=.returned v/\R v w):x.wp P (fun e j f=>(e=.ret∨e=.normal)/\j.defers=[]/\∃v,(results fn j.tmps).run P f=.ok v f/\R v f) a w:=wp_mono h fun e j f g=>by cases e with|normal=>obtain⟨m,v,n,r⟩:=g;obtain⟨s,e,i⟩:=b _ _ r;cases e;exact⟨.inr rfl,m,_,n,i⟩|ret=>obtain⟨m,v,n,r⟩:=g;obtain⟨s,e,i⟩:=b _ _ r;cases e;exact⟨.inl rfl,m,_,n,i⟩|panic c=>obtain⟨s,e,i⟩:=b _ _ g.2;cases e|outgrown=>obtain⟨s,e,i⟩:=b _ _ g;cases e|exit id=>exact g.elim|goto id=>exact g.elim
def YB (A a:Option Addr):Frame.enter prog 18 #[.agg #[.slice A 2 2,.slice a 1 1],.int .i64 1] .normal=(Go.Conc.base 18).at ⟨mK A a,[]⟩ [.code shBody]:=by rw[iK (fn:=Tryz.f18) (c:=Tryz.f18.body.getD .skip) _ func18 rfl];kernel_rfl
def Old.re{b:World} (h:Old w b)(t:Nat->Question->Nat)(d:Nat):Old w (b.re t d):=⟨h.size,h.get⟩
def YC{q:Value->World->Prop} {W l0:World} {E:Blk} {bs':List Frame} (aH:∀b x,E b x->(fun _:Nat=>False) b∨(b=x/\x<l0.heap.size/\l0.heap[x]?=W.heap[x]?/\ZP.sh=false/\ZP.junk=false)) {A u BB:Option Addr} {c:Frame} {cs:List Frame} {l:World} {B:Blk} (f:Self ZM (fun _=>False) B l)(o:AR ZM B #[.agg #[.slice A 2 2,.slice u 1 1],.int .i64 1] #[.agg #[.slice A 2 2,.slice u 1 1],.int .i64 1])(hB:BookAt l A 2 Z6 u 1 (ZO BB))(ho:Old l0 l)(k:∀l' G,Old l l'->B.le G->Self ZM (fun _=>False) G l'->LG ZP (StopG ZP q W l0 E (fun _=>False) bs') (c.finish (.tuple #[.agg #[(500:Int),(1000:Int)],(0:Int)])) cs l'):LG ZP (StopG ZP q W l0 E (fun _=>False) bs') (Frame.enter prog 18 #[.agg #[.slice A 2 2,.slice u 1 1],.int .i64 1] .normal) (c::cs) l:=by
 have z:Halts (StopG ZP q W l0 E (fun _=>False) bs'):=fT;rw[YB];have aL:AR ZM B (mK A u) (mK A u):=Zb (o.append (AR.replicate 40 undefR)) Qb;rw[show shBody=.seq (codeHd shBody) shA from Qb];refine cO z ?_;refine z6 (R:=fun H p=>(∃J F,H.tmps=oB A u J F/\p.heap[J]?=some (.cells #[.slice A 2 2,.slice u 1 1] 25)/\p.heap[F]?=some (.cells #[(0:Int),(0:Int)] 58)/\l.heap.size<=F)/\Old l p) ZZ fL iN Z0 f aL rfl Qb (fun v w t d h=>⟨h.1,h.2.size,h.2.get⟩) (fun t d=>iQ (fun e H p h=>⟨h.1,h.2.1,h.2.2.1,(Ze h.2.2.2).size,(Ze h.2.2.2).get⟩) (XU A u _)) ?_;rintro⟨tm,df⟩ l1 B1 ⟨⟨J,F,T,n2,n4,aX⟩,aF⟩ U aA aR aM;cases T;cases U;have Z:=hB.old aF;rw[show shA=.seq (codeHd shA) shB from Qb];refine cO z ?_;refine z6 (R:=fun H p=>(∃D,H.tmps=oD A u J F D)/\Old l1 p) ZZ fL iN Z0 aR aM rfl Qb (fun v w t d h=>⟨h.1,h.2.size,h.2.get⟩) (fun t d=>iQ (fun e H p h=>⟨h.1,h.2.1,h.2.2.1,(Ze h.2.2.2).size,(Ze h.2.2.2).get⟩) (XV A u BB J F _ (Z.old ((Old.refl l1).re t d)) n2)) ?_;rintro⟨tm,df⟩ l2 B2 ⟨⟨D,T⟩,M⟩ U aB aS aN;cases T;cases U;have m2:=M.at n2;rw[show shB=.seq (codeHd shB) shC from Qb];refine cO z ?_;refine z6 (R:=fun H p=>(∃I,H.tmps=oE A u J F D I/\p.heap[I]?=some (.cells #[(0:Int),(0:Int)] 3)/\l2.heap.size<=I)/\Old l2 p) ZZ fL iN Z0 aS aN rfl Qb (fun v w t d h=>⟨h.1,h.2.size,h.2.get⟩) (fun t d=>iQ (fun e H p h=>⟨h.1,h.2.1,h.2.2.1,(Ze h.2.2.2).size,(Ze h.2.2.2).get⟩) (XW A u J F D _ m2)) ?_;rintro⟨tm,df⟩ l3 B3 ⟨⟨I,T,n7,aY⟩,aG⟩ U aC aT aO;cases T;cases U;rw[show shC=.seq (codeHd shC) shD from Qb];refine cO z ?_;refine z6 (R:=fun H p=>(H.tmps=DE A u J F D I/\p.heap[I]?=some (.cells #[(0:Int),(1:Int)] 3)/\p.heap.size=l3.heap.size/\∀b,b≠I->p.heap[b]?=l3.heap[b]?)) ZZ fL iN Z0 aT aO rfl Qb (fun v w t d h=>h) (fun t d=>iQ (fun e H p h=>h) (X4 A u J F D I (l3.re t d) n7)) ?_;rintro⟨tm,df⟩ Y B4 ⟨T,aV,aW,aI⟩ U aD f o;cases T;cases U;have N:Old l2 Y:=⟨by have:=aG.size;omega,fun b hb=>(aI b Qa).trans (aG.get b hb)⟩;have m:=Blk.le_trans (Blk.le_trans (Blk.le_trans aA aB) aC) aD;have aK:=(Z.old M).old N;have h2:=N.at m2;have h4:=N.at (M.at n4);have D2:=bk2 h2;rw[show shD=.seq (codeHd shD) shE from Qb];refine cO z ?_;simp only[codeHd,codeTl,shD,shC,shB,shA,shBody,Tryz.f18,y'];refine cT z ?_;simp only[A8,L',w9,Nat.reduceAdd,w0,List.range,List.range.loop];refine fQ z Z0 ZZ f (Zb o Qb) rfl rfl Qc Qb (fun C y K r s=>?_);simp only[show ZM.P=prog from rfl];go_simp;first|refine r _ _ ?_|refine s _ ?_
 iterate 2(
  clear r s K C y;intro G a j i;replace m:=Blk.le_trans m a;clear f o a;have f:=j;have o:=i;clear j i;walk_nrm;refine fQ z Z0 ZZ f (Zb o Qb) rfl rfl Qc Qb (fun C y K r s=>?_);simp only[show ZM.P=prog from rfl];go_simp;first|refine r _ _ ?_|refine s _ ?_)
 clear r s K C y;intro G a j i;replace m:=Blk.le_trans m a;clear f o a;have f:=j;have o:=i;clear j i;walk_nrm;have X:Old l Y:=aF.trans (M.trans N);refine eS (g:=41) (args:=#[.agg #[.slice A 2 2,.slice u 1 1],.slice (some I) 2 2,.slice (some I) 2 2,.int .i64 1000]) z rfl rfl Qc Qb (fun p=>by simp only[show ZP.P=prog from rfl];kernel_rfl) ?_;refine .stop _ _ _ (yP (R:=fun v=>v=.tuple #[.agg #[(500:Int),(1000:Int)],true]) pK aH Qd (fun c h=>by cases h) (ho.trans X).get (fun h hO=>YA aK aV h) (fun v hv=>by subst hv;kernel_rfl) fun v n hv=>?_);subst hv;rw[hW];have f:=f.pad n;have o:=o.set 36 (VR.closed 8 (.tuple #[.agg #[(500:Int),(1000:Int)],true]) Qb);have O:Old Y (pad Y n):=⟨by rw[eL];omega,fun b hb=>K1 Y n hb⟩;obtain⟨Q,aP⟩:=Qu (pad Y n);rw[aP]at f O |-;walk_nrm;refine fQ z Z0 ZZ f (Zb o Qb) rfl rfl Qc Qb (fun C y K r s=>?_);simp only[show ZM.P=prog from rfl];go_simp;first|refine r _ _ ?_|refine s _ ?_
 iterate 5(
  clear r s K C y;intro G a j i;replace m:=Blk.le_trans m a;clear f o a;have f:=j;have o:=i;clear j i;walk_nrm;refine fQ z Z0 ZZ f (Zb o Qb) rfl rfl Qc Qb (fun C y K r s=>?_);simp only[show ZM.P=prog from rfl];go_simp;first|refine r _ _ ?_|refine s _ ?_)
 clear r s K C y;intro G a j i;replace m:=Blk.le_trans m a;clear f o a;have f:=j;have o:=i;clear j i;walk_nrm;refine cU z ?_;obtain⟨S,L⟩:=Qu (Q.alloc (.cells #[(500:Int),(1000:Int)] 58));have n8:S.heap[Q.heap.size]?=some (.cells #[(500:Int),(1000:Int)] 58):=by rw[<-L];exact Qs
 have V:Old Q S:=by rw[<-L];exact Zp (by go_grown:QB Q _)
 rw[L]at f |-;clear L;have aJ:=V.at (O.at h4);refine yW (fn:=Tryz.f18) (x:=shE) (R:=fun v w=>v=.tuple #[.agg #[(500:Int),(1000:Int)],(0:Int)]/\S.heap.size<=w.heap.size/\∀b,b<S.heap.size->b≠F->w.heap[b]?=S.heap[b]?) ZZ fL iN Z0 f (Zb o Qb) rfl Qb func18 (fun v w t d h=>h) (fun t d=>j5 (X6 A u J F D I Q.heap.size (S.re t d) aJ n8) fun e w h=>⟨_,h.1,rfl,h.2⟩) ?_;rintro v l7 B7 ⟨rfl,aZ,aQ⟩ aE aU hv;have z1:=X.size;have z2:=O.size;have z3:=V.size;refine k l7 B7 ⟨Qa,fun b hb=>?_⟩ (Blk.le_trans m aE) aU;exact(aQ b Qa Qa).trans ((V.get b Qa).trans ((O.get b Qa).trans (X.get b hb)))
variable {B:Blk}
attribute [local go_sem] Oper.semAt_some fB fC fD dL fE fP
def tmps3(A c:Option Addr)(a b:Nat)(C d X:Option Addr)(x:Nat)(Y:Option Addr)(y f:Nat)(D e:Option Addr)(g:Nat):Array Value:=#[.bool false,.pointer (some b),.int .i64 0,.pointer (some f),.int .i64 0,.pointer (some g),.int .i64 0,undef,undef,undef,undef,.tuple #[.agg #[(30:Int),(1:Int)],(0:Int)],.agg #[.slice A 2 2,.slice c 1 1],.agg #[(0:Int),(0:Int)],.slice (some a) 1 1,.agg #[(1:Int),(10:Int),.slice (some a) 1 1],.tuple #[.agg #[(30:Int),(1:Int)],(0:Int)],.agg #[(30:Int),(1:Int)],.int .i64 0,.tuple #[cJ X x Y y,(0:Int)],.agg #[.slice C 2 2,.slice d 1 1],.agg #[(1:Int),(50:Int)],.tuple #[cJ X x Y y,(0:Int)],cJ X x Y y,.int .i64 0,.tuple #[.agg #[(500:Int),(1000:Int)],(0:Int)],.agg #[.slice D 2 2,.slice e 1 1],.tuple #[.agg #[(500:Int),(1000:Int)],(0:Int)],.agg #[(500:Int),(1000:Int)],.int .i64 0,zu,zu,zu,zu,zu,zu,zu,zu,zu,zu,zu,zu,zu,zu,zu,zu,zu,zu,zu,zu,zu,zu,zu,zu,zu,zu,zu,zu,zu,zu,zu,zu,zu,zu,zu,zu,zu,zu,zu,zu,zu,zu,zu,zu,zu,zu,zu,zu,zu,zu,zu,zu,zu,zu]
def Zq{E:Env} {a:Array Value} (h:AR E B a a)(i:Nat) {v:Value} (e:a.getD i undef=v):VR E B v v:=e▸h.getD i undefR
def DI(l:World)(t:Nat->Question->Nat)(d:Nat):Calls ZM.P 17 #[] (l.re t d) fun e w=>∃v,e=.returned v/\((∃A a B,v=.agg #[.slice A 2 2,.slice a 1 1]/\BookAt w A 2 Z6 a 1 (ZO B))/\Old l w):=(jZ (l.re t d)).mono fun e w h=>by obtain⟨⟨A,a,B,rfl,c,_⟩,g⟩:=h;exact⟨_,rfl,⟨A,a,B,rfl,c⟩,Ze g⟩
def DJ(l:World)(v:Value)(w:World)(t:Nat->Question->Nat)(d:Nat)(h:(∃A a B,v=.agg #[.slice A 2 2,.slice a 1 1]/\BookAt w A 2 Z6 a 1 (ZO B))/\Old l w):(∃A a B,v=.agg #[.slice A 2 2,.slice a 1 1]/\BookAt (w.re t d) A 2 Z6 a 1 (ZO B))/\Old l (w.re t d):=by obtain⟨⟨A,a,B,e,c⟩,g⟩:=h;exact⟨⟨A,a,B,e,c.old ((Old.refl w).re t d)⟩,g.re t d⟩
def YD{p:Value->World->Prop} {W t:World} {j:Blk} {q:List Frame} (L:∀b x,j b x->(fun _:Nat=>False) b∨(b=x/\x<t.heap.size/\t.heap[x]?=W.heap[x]?/\ZP.sh=false/\ZP.junk=false)) {A G:Option Addr} {m p1:Nat} {C H X:Option Addr} {x:Nat} {Y:Option Addr} {y p3:Nat} {cs:List Frame} (T:cs≠[]) {l:World} (o:Self ZM (fun _=>False) B l) (f:AR ZM B (tmps2 A G m p1 C H X x Y y p3) (tmps2 A G m p1 C H X x Y y p3)) (U:Old t l)(k:∀D E N l' u,B.le u->Self ZM (fun _=>False) u l'->AR ZM u (tmps3 A G m p1 C H X x Y y p3 D E N) (tmps3 A G m p1 C H X x Y y p3 D E N)->l'.heap[N]?=some (.cells #[(500:Int),(1000:Int)] 58)->Old l l'->LG ZP (StopG ZP p W t j (fun _=>False) q) ((Go.Conc.base 4).at ⟨tmps3 A G m p1 C H X x Y y p3 D E N,[]⟩ [.code aw4]) cs l'):LG ZP (StopG ZP p W t j (fun _=>False) q) ((Go.Conc.base 4).at ⟨tmps2 A G m p1 C H X x Y y p3,[]⟩ [.code aw3]) cs l:=by
 have r:Halts (StopG ZP p W t j (fun _=>False) q):=fT;have e:B.le B:=Blk.le_refl _;rw[show aw3=.seq (codeHd aw3) aw4 from Qb];refine cO r ?_;simp only[codeHd,codeTl,aw3,aw2,aw1,awBody,Tryz.f4,y',tmps2,cJ];refine cT r ?_;simp only[A8,L',w9,Nat.reduceAdd,w0,List.range,List.range.loop];refine yV (g:=17) (args:=#[]) r ZZ fL iN Z0 o (Zb f Qb) rfl rfl Qc Qb (fun w'=>by simp only[show ZM.P=prog from rfl];kernel_rfl) Qb (AR.empty) (DJ l) (DI l) ?_;rintro v l1 V ⟨⟨D,E,BB,rfl,O⟩,J⟩ I S F;clear o f;walk_nrm;refine eS (g:=18) (args:=#[.agg #[.slice D 2 2,.slice E 1 1],.int .i64 1]) r rfl rfl Qc Qb (fun w'=>by simp only[show ZP.P=prog from rfl];kernel_rfl) ?_;refine YC L S (Zb (((AR.replicate 2 undefR).set 0 (Zq F 26 (v:=.agg #[.slice D 2 2,.slice E 1 1]) Qb)).set 1 (.int .i64 1)) Qb) O (U.trans J) fun M Z Q z o=>?_;have f:=(F.mono z).set 27 (VR.closed 8 (.tuple #[.agg #[(500:Int),(1000:Int)],(0:Int)]) Qb);replace e:=Blk.le_trans I z;rw[hW];clear F;walk_nrm;refine fQ r Z0 ZZ o (Zb f Qb) rfl rfl Qc Qb (fun s n K h i=>?_);simp only[show ZM.P=prog from rfl];go_simp;first|refine h _ _ ?_|refine i _ ?_
 iterate 5(
  clear h i K s n;intro u a d c;replace e:=Blk.le_trans e a;clear o f a;have o:=d;have f:=c;clear d c;walk_nrm;refine fQ r Z0 ZZ o (Zb f Qb) rfl rfl Qc Qb (fun s n K h i=>?_);simp only[show ZM.P=prog from rfl];go_simp;first|refine h _ _ ?_|refine i _ ?_)
 clear h i K s n;intro u a d c;replace e:=Blk.le_trans e a;clear o f a;have o:=d;have f:=c;clear d c;walk_nrm;refine cU r ?_;have R:Old M (M.alloc (.cells #[(500:Int),(1000:Int)] 58)):=Zp (by go_grown:QB M _);refine k D E M.heap.size _ _ e o (Zb f Qb) (Qs) (J.trans (Q.trans R))
end Go.Proofs
namespace Go.Proofs
open Go.RowKit Go.Twin Go.Conc
variable {w:World}
def DK(d:GlobOk w):∀b x,awB b x->(fun _:Nat=>False) b∨(b=x/\x<(aK w).heap.size/\(aK w).heap[x]?=w.heap[x]?/\ZP.sh=false/\ZP.junk=false):=fun b x a=>by obtain⟨rfl,a⟩:=a;obtain⟨e,T,f,c,_⟩:=d.ints b a;refine .inr ⟨rfl,?_,R7 w (lO a).1 (lO a).2,rfl,rfl⟩;rw[F0];exact(bP.1 c).1
def YE{b:Value->World->Prop} {cs:List Frame} {p:List Frame} (u:cs≠[])(F:GlobOk w)(k:∀A e a l C g X x Y y o D h d f n,awB.le n->Self ZM (fun _=>False) n f->AR ZM n (tmps3 A e a l C g X x Y y o D h d) (tmps3 A e a l C g X x Y y o D h d)->f.heap[l]?=some (.cells #[(30:Int),(1:Int)] 44)->f.heap[o]?=some (XY X x Y y)->f.heap[d]?=some (.cells #[(500:Int),(1000:Int)] 58)->Old (aK w) f->LG ZP (StopG ZP b w (aK w) awB (fun _=>False) p) ((Go.Conc.base 4).at ⟨tmps3 A e a l C g X x Y y o D h d,[]⟩ [.code aw4]) cs f):LG ZP (StopG ZP b w (aK w) awB (fun _=>False) p) (Frame.enter Tryz.prog 4 #[] .normal) cs (aK w):=by rw[CZ];refine XT fT F fun A e a l C g X x Y y o M L i z r I J m=>?_;exact YD (DK F) u z r m fun D h d H G j E s K c=>k A e a l C g X x Y y o D h d H G (Blk.le_trans i j) E s (c.at I) (c.at J) K (m.trans c)
end Go.Proofs
namespace Go.Proofs
open Tryz
open Go.RowKit
def YF{l:List UInt8} (h:c6 l=true):∀c∈l,c≠32/\c≠10:=fun c e=>by
 unfold c6 hQ at h;simp only[aY,bK,y0]at h;obtain⟨i,d⟩:=eP e;have a:=h.2 i (M0.1 d).1;rw[h6,d]at a;simp only[y']at a;constructor;·rintro rfl;revert a;simp[bB,V0]
 .rintro rfl;revert a;simp[bB,V0]
def kO(k d v b c:Int)(W:List Int):List Int:=if k=1 then d::v::b::c::W else v::b::c::W
def wJ(e:List UInt8)(k d v b c:Int)(W:List Int):fX e k d v b c W=e::(if k=1 then nZ else nY)::(kO k d v b c W).map Lib.itoa:=by unfold fX kO;split<;>simp
def YG:((bs nY).toList==[109,101,97,110])=true/\((bs nY).toList==[115,104,97,114,101])=false/\((bs nZ).toList==[109,101,97,110])=false/\((bs nZ).toList==[115,104,97,114,101])=true:=by rw[ByteArray.toList_eq,ByteArray.toList_eq,R8,R8];decide
def YH(k d v b c:Int)(W:List Int):3<=(kO k d v b c W).length/\(kO k d v b c W).length=W.length+(if k=1 then 4 else 3):=by unfold kO;split<;>simp
def YI{g:List UInt8} {k h v b f:Int} {W:List Int} (e:c6 g=true):cutL (Lib.join (fX g k h v b f W) [32])=fX g k h v b f W:=by
 refine JU _ (by rw[wJ];simp) fun x a=>?_;rw[wJ]at a;rcases ZAW.1 a with rfl|a;·exact fun c d=>(YF e c d).1
 rcases ZAW.1 a with rfl|a;·split<;>decide
 .obtain⟨n,-,rfl⟩:=b3.1 a;exact fun c d=>((W1 n).2 c d).1
section
variable {P:Program} {f:Operand->Value} {o:Oper} {t ty:TypeId} {p q:Operand} {b:Nat} {v0 v1 v2 u0 u1 u2 u3 u4 u5 u6:Value} {x:World}
def YJ(g:o.op=.store t p q)(h:v0.oneCell'=true)(d:v1.oneCell'=true)(e:v2.oneCell'=true)(a:Sem.run P (sizeOf t) x=.ok 3 x)(i:f p=.pointer (some ⟨b,4,none⟩))(hq:f q=.agg #[v0,v1,v2])(j:x.heap[b]?=some (.cells #[u0,u1,u2,u3,u4,u5,u6] ty)):(execOp f o).run P x=.ok .skip (((x.setCell ⟨b,4,none⟩ v0).setCell ⟨b,5,none⟩ v1).setCell ⟨b,6,none⟩ v2):=by have c:=bk7 j;unfold execOp;rw[g];simp[go_sem,i,hq,c,a,kS _ _ _ v0 _ h,kS _ _ _ v1 _ d,kS _ _ _ v2 _ e]
def YK{n:Int} (d:o.op=.store t p q)(a:Sem.run P (sizeOf t) x=.ok 1 x)(e:f p=.pointer (some ⟨b,3,none⟩))(hq:f q=.int .i64 n)(g:x.heap[b]?=some (.cells #[u0,u1,u2,u3,u4,u5,u6] ty)):(execOp f o).run P x=.ok .skip (x.setCell ⟨b,3,none⟩ (.int .i64 n)):=by have c:=bk7 g;unfold execOp;rw[d];simp[go_sem,e,hq,c,a]
end
def YL(q:List UInt8)(v l f:Int)(W:List Int)(C:Nat)(w:World)(bD:q.length<=20)(Z:c6 q=true)(t:NumsR 0 v l f W)(bJ:W.length=C)(ht:Tabs w):Calls prog 20 #[.string (bs (Lib.join (fX q 0 0 v l f W) [32]))] w fun e P=>(∃A c,e=.returned (.tuple #[.agg #[.string (bs q),(0:Int),(0:Int),v,l,f,.slice A C c],(0:Int)])/\At 1 Zc P A W)/\QB w P:=by
 have bA:=XJ (k:=0) bD t;have D:=i' fun X (hb:QB w X)=>XD (bs (Lib.join (fX q 0 0 v l f W) [32])) X (by rw[nX];omega) (ht.below hb);simp only[R8,YI Z]at D;obtain⟨bY,bZ,-⟩:=DC (k:=0) bD t;have bB:∀x∈kO 0 0 v l f W,x.natAbs<10^(12+1):=fun x z=>by
  have h1:=t.ag;have h2:=t.v;have h3:=t.den;have h4:=t.lev;unfold kO at z;split at z
  .simp only[ZAW]at z;rcases z with rfl|rfl|rfl|rfl|z;·omega
   .omega
   .omega
   .omega
   .have:=t.wt x z;omega
  .simp only[ZAW]at z;rcases z with rfl|rfl|rfl|z;·omega
   .omega
   .omega
   .have:=t.wt x z;omega
 have Y:=i' fun(A:Option Addr)(m c:Nat)(X:World)(hb:QB w X)(hA:At 1 Sc X A ((kO 0 0 v l f W).map Lib.itoa))(hm:(kO 0 0 v l f W).length=m)(h9:m<=900)=>XH A (kO 0 0 v l f W) 12 m c X Qc bB hA hm h9 (ht.below hb);obtain⟨S,hS⟩:=Qu (bs (Lib.join (fX q 0 0 v l f W) [32]));rw[hS]at D |-;rw[wJ]at D;have aI:((12+1:Nat):Int)=13:=rfl;simp only[aI]at Y;have aD:=i' t;have cM:=i' Z;have aA:∀x,(sizeOf 64).run prog x=.ok 7 x:=fun x=>Qb
 have aR:∀x,(isAgg 64).run prog x=.ok true x:=fun x=>Qb
 have bF:=i' fun W=>dD v 0 1000 W;have bG:=i' fun W=>dD l 1 1000000000000 W;have bH:=i' fun W=>qA f 1000000000000 W Qc;rw[dB.2 t.v]at bF;rw[dB.2 t.den]at bG;rw[show dC f 1000000000000=true from dB.2 (by have:=t.lev;omega)]at bH;have aO:=i' fun W=>mA (bs q) W (by rw[nX];omega);rw[R8,Z]at aO;have aJ:=i' fun W=>qB 0 0 W;rw[AT.2 ⟨.inl rfl,t.ag.1,t.ag.2⟩]at aJ;clear bA bY bZ bB hS ht t Z;obtain⟨q1,q2,q3,q4⟩:=YG;obtain⟨l1,l2⟩:=YH 0 0 v l f W;have aQ:=aD.out.n;obtain⟨N,hN⟩:=Qu (kO 0 0 v l f W);have bO:=i' hN;rw[hN]at D Y l1 l2;obtain⟨m,hm⟩:=Qu N.length;have bV:=i' hm;obtain⟨n,hn⟩:=Qu (m+1+1);simp only[L',B3,hm,hn]at D Y;have dA:=i' l2;have cQ:3<=m:=Qa
 have cH:m<=12:=by split at l2<;>omega
 have cW:¬(n:Int)<2:=Qa
 have cT:(0:Int)<(n:Int):=Qa
 have cU:(1:Int)<(n:Int):=Qa
 have cV:(2:Int)<=(n:Int):=Qa
 have cS:n-2=m:=Qa
 have cR:¬(m:Int)<3:=Qa
 have cI:(0:Int)<(m:Int):=Qa
 have cJ:(1:Int)<(m:Int):=Qa
 have cK:(2:Int)<(m:Int):=Qa
 clear hN hm hn l1 l2 aQ aI;simp only[show ¬((0:Int)=1)by decide,Zyj]at D;go_enter func20,ntmps20;go_wp2_with (first|(go_at_call 43;refine(D.out _ Qi).mono ?_;rintro e w2 ⟨⟨A,c,rfl,V,cX⟩,aF⟩;(obtain⟨b,o,rfl,bS,aV⟩:=V 0 _ rfl);(obtain⟨b',o',e1,-,aW⟩:=V 1 _ rfl);cases e1;have y0:=aV 0 _ rfl;have y1:=aW 0 _ rfl;have aK:=i' (V.tail1 2);simp only[sW,gR,pR]at y0 y1;have M0:=Zx aF (ZA w (.cells #[.string (ByteArray.mk #[]),(0:Int),(0:Int),(0:Int),(0:Int),(0:Int),.slice none 0 0] 64) rfl);have cY:=ZE M0;have O:=via (ZB w (.cells #[.string (ByteArray.mk #[]),(0:Int),(0:Int),(0:Int),(0:Int),(0:Int),.slice none 0 0] 64)) aF;clear V aV aW aF)|(go_at_call 44;refine(Y.out _ m _ _ O (by have:=aK.out;simpa using this) rfl Qa).mono ?_;rintro e I ⟨⟨A2,R,rfl,aP⟩,H⟩;have z0:=rX y0 H;have z1:=rX y1 H;have M1:=Zx H M0;have Q:=via O H;have G:=i' aP;have cG:=h8 bS H.size;clear aP H y0 y1 M0)|(refine P0 Qh (.tmp 7) (.tmp 40) 64 Qh I.heap.size [.string (bs q),.int .i64 0,.int .i64 0,.int .i64 0,.int .i64 0,.int .i64 0,.slice none 0 0] [.string (ByteArray.mk #[]),.int .i64 0,.int .i64 0,.int .i64 0,.int .i64 0,.int .i64 0,.slice none 0 0] 64 ?sp ?sq (aA _) ?sb rfl (by simp[Value.oneCell']) ?_));case sp=>rfl
 case sq=>rfl
 case sb=>exact ZA _ _ rfl
 intro w4 E aX bE;have cN:=ZE M1;have d:QB I w4:=ZX (ZB _ _) aX fun b e=>by cases e;exact r3 _
 have x0:=rX z0 d;have x1:=rX z1 d;have M2:=Zx d M1;have aS:=via Q d;have hL:=i' (A' G.out);have aM:=i' ((A' G.out).below d);have bP:N=v::l::f::W:=by rw[<-bO.out];rfl
 subst bP;have cL:m<=R:=C6 G.out;have bW:m-3=C:=by have:=bV.out;simp at this;omega
 obtain⟨J,o2,rfl,bL,c0⟩:=e' hL.out (k:=0) Qd;obtain⟨_,_,ee,-,c1⟩:=e' hL.out (k:=1) Qd;cases ee;obtain⟨_,_,ee,-,aB⟩:=e' hL.out (k:=2) Qd;cases ee;simp only[e3,hR,sW]at c0 c1 aB;have e0:=rX c0 d;have e1:=rX c1 d;have e2:=rX aB d;have K:=h8 bL d.size;have F:J≠I.heap.size:=Qa
 have aL:J≠w.heap.size:=by have:=(G.out.lt J rfl).1;omega
 clear c0 c1 aB;have F0:=bk7 M2;have F4:=bk7 E;clear aX bE d M1 z0 z1 O;have bQ:=aS;have M:=E;have aE:=i' (aM.out.tail1 3);simp only[p1]at aE;clear aS E aM hL;go_wp2;refine w7 Qb ?_;refine T' 15 _ rfl rfl Qb Qb Qb Qb ?_;simp only[sT,p'];apply jY w 13 I.heap.size (.cells #[.string (bs q),(0:Int),(0:Int),(0:Int),(0:Int),(0:Int),.slice none 0 0] 64) (.cells #[.string (bs q),(0:Int),(0:Int),v,(0:Int),(0:Int),.slice none 0 0] 64);case hB=>kernel_rfl
 case hB'|hS|hN|hkd=>kernel_rfl
 case hw=>exact bQ
 case hb=>exact Q.size
 case h4=>exact M
 case hq=>
  intro u hu aZ;have cF:=h8 K hu.2.1;have G0:=(P1 (a:=⟨J,o2,none⟩) (hu.2.2 J K F)).trans e0;have G1:=(P1 (a:=⟨J,o2+1,none⟩) (hu.2.2 J K F)).trans e1;have G2:=(P1 (a:=⟨J,o2+2,none⟩) (hu.2.2 J K F)).trans e2;simp only[mixL,yieldsC,l5,n7,Nat.reduceAdd,Nat.reduceBEq,w0,o7,s4,S3,k4,p0,Zyk,Zyj,r5,Nat.reduceEqDiff];repeat (go_big_quiet_step (fail))
  exact Zyh rfl
 case hs4=>intro o ho x z hz;simp only[B4,S',nK]at ho;subst ho;exact⟨_,YK rfl Qb rfl rfl hz,(OnlyB.refl _ _).set _ _,ZG hz _ rfl⟩
 intro x z hz;refine X9 (YJ rfl rfl rfl rfl Qb rfl rfl hz) ?_;obtain⟨U,hA9⟩:∃A:Option Addr,(if R=3 then some ⟨J,o2,none⟩else some ⟨J,o2+3,none⟩)=A:=⟨_,rfl⟩;obtain⟨B,L⟩:=Qu (((x.setCell ⟨I.heap.size,4,none⟩ (.int .i64 l)).setCell ⟨I.heap.size,5,none⟩ (.int .i64 f)).setCell ⟨I.heap.size,6,none⟩ (.slice U C (R-3)));have aC:OnlyB I.heap.size x B:=by rw[<-L];exact(((OnlyB.refl _ _).set _ _).set _ _).set _ _
 have Z9:B.heap[I.heap.size]?=some (.cells #[.string (bs q),(0:Int),(0:Int),v,l,f,.slice U C (R-3)] 64):=by rw[<-L];exact ZG (ZG (ZG hz _ rfl) _ rfl) _ rfl
 have cE:x.heap.size=B.heap.size:=by rw[<-L];simp
 simp only[bW,hA9];rw[L];have aH:∀k,k<w4.heap.size->k≠I.heap.size->B.heap[k]?=w4.heap[k]?:=fun k h1 h2=>(aC.other k h2).trans (z.2.2 k h1 h2);have aT:QB w B:=z.1.trans (aC.below _ Q.size);have M9:=(aH w.heap.size (ZE M2) Qa).trans M2;have aN:=i' (show At 1 Zc B U W from by
  rw[<-hA9];split
  .have h0:C=0:=Qa
   rw[Q0 (bJ.trans h0)];exact fun k x z=>by simp at z
  .exact qX (aE.out) (by have:=z.2.1;omega) fun g e=>by cases e;exact aH _ K F);have F9:=bk7 Z9;have J0:=bk7 M9;clear L aH aC cE z hz aE e0 e1 e2 M M2;go_wp2_with (first
  |(go_at_call 30;first|(refine Calls.mono (by with_reducible exact bF.out _) ?_;rintro e P ⟨rfl,rfl⟩)|(refine Calls.mono (by with_reducible exact bG.out _) ?_;rintro e P ⟨rfl,rfl⟩))|(go_at_call 45;refine(bH.out _).mono ?_;rintro e P ⟨rfl,rfl⟩));go_loopw [8,105] (fun r i wr=>∃j:Nat,j<=C/\r=.bool true/\i=.int .i64 j/\wr=B)(fun _ i _=>C-(intOf i).toNat);case atStart=>exact⟨0,e6 _,rfl,rfl,rfl⟩
 case round=>
  obtain⟨j,hj,rfl,rfl,rfl⟩:=hrel;by_cases bU:j<C
  .have cP:(j:Int)<(C:Int):=Qa
   obtain⟨b3,o3,rfl,cZ,c4⟩:=e' aN.out (k:=j) (by rw[bJ];exact bU);obtain⟨y,hy⟩:=Qu (W.getD j 0);have cD:0<=y/\y<=1000000000000:=by rw[<-hy,h6,h' Qa];exact aD.out.wt _ (D2 _)
   rw[hy]at c4;have bI:=i' fun W=>dD y 0 1000000000000 W;rw[dB.2 cD]at bI;go_wp2_with (go_at_call 30;refine(bI.out _).mono ?_;rintro e P ⟨rfl,rfl⟩);go_roundw;case rel=>exact⟨j+1,Qa,by first|rfl|trivial,Qj,by first|rfl|trivial⟩
   case measure=>exact Qv
  .obtain rfl:C=j:=Qa
   have aQ:=aD.out.n;have bK:(C:Int)<=8:=Qa
   have cC:decide ((C:Int)<=8)=true:=by simpa using bK
   go_wp2;refine v8 w 15 Qb Qb aT ?_;intro aZ bT;simp only[sT,p',sA,B9];repeat (go_big_quiet_step (first|(go_at_call 46;with_reducible exact Grew.call (aO.out _))|(go_at_call 47;with_reducible exact Grew.call (aJ.out _))|(go_at_call 25;with_reducible exact Zd (hP _ _ _))))
   refine Zyh ?_;intro wb s cA bX;clear aZ bT;have Q9:=Zx s Z9;have P9:=Zx s M9;have bM:=i' (aN.out.below s);have bR:=via aT s;clear Z9 M9 F9 J0;go_wp2_with (first
    |(go_at_call 29;refine(z' _ _ _ _ _).mono ?_;rintro e P ⟨rfl,rfl⟩)|(refine lI Qh (.tmp 7) 64 Qh I.heap.size [.string (bs q),.int .i64 0,.int .i64 0,.int .i64 v,.int .i64 l,.int .i64 f,.slice U C (R-3)] 64 ?lp (aR _) (aA _) ?lb ?_)|(refine P0 Qh (.tmp 2) (.tmp 136) 64 Qh w.heap.size [.string (bs q),.int .i64 0,.int .i64 0,.int .i64 v,.int .i64 l,.int .i64 f,.slice U C (R-3)] [.string (ByteArray.mk #[]),.int .i64 0,.int .i64 0,.int .i64 0,.int .i64 0,.int .i64 0,.slice none 0 0] 64 ?sp2 ?sq2 (aA _) ?sb2 rfl (by simp[Value.oneCell']) ?_));case lp=>rfl
   case lb=>exact Zz Q9 _
   all_goals try (case sp2=>rfl)
   all_goals try (case sq2=>rfl)
   case sb2=>exact Zz P9 _
   intro w9 aG aY cO;have aU:QB w w9:=ZX (via bR (ZB _ _)) aY fun b e=>by have:=D3 e;omega
   have bN:=i' (jX (bM.out.below (ZB _ _)) aY fun g e=>by rw[<-hA9]at e;split at e<;>(cases e;intro h;exact aL (D3 h)));go_wp2;refine e5 (v:=.tuple #[.agg #[.string (bs q),(0:Int),(0:Int),v,l,f,.slice U C (R-3)],(0:Int)]) ?_ rfl ⟨⟨U,R-3,rfl,bN.out⟩,aU⟩;exact K2 (p:=2) (u:=3) (ad:=⟨w.heap.size,0,none⟩) (v:=.agg #[.string (bs q),(0:Int),(0:Int),v,l,f,.slice U C (R-3)]) rfl Qe (x3 (T:=64) (cs:=[.string (bs q),.int .i64 0,.int .i64 0,.int .i64 v,.int .i64 l,.int .i64 f,.slice U C (R-3)]) (aR _) (aA _) aG)
end Go.Proofs
namespace Go.Proofs
open Tryz
open Go.RowKit Go.Twin Go.Conc
def lP:List UInt8:=[111,108,100,49]
def YM:NumsR 0 30 1 10 [20]:=⟨Qc,Qc,Qc,Qc,Qc,Qc⟩
def YN(B:Option Addr):lN Z6 (ZO B) (bs lP) 0 0 30 1 10 [20]=0:=by
 have a:exs (ZO B)=exs (ZO none):=rfl;refine VT (dW B) Qm (AT.2 Qc) Qc ?_ ?_ ?_;·exact jV.1 (show eF 1 1 10 [20]=0 by decide+kernel)
 .rw[a];decide+kernel
 .rw[a];decide+kernel
def YO:bs (Lib.join (fX lP 0 0 30 1 10 [20]) [32])=ByteArray.mk #[111,108,100,49,32,109,101,97,110,32,51,48,32,49,32,49,48,32,50,48]:=by
 have h:Lib.join (fX lP 0 0 30 1 10 [20]) [32]=[111,108,100,49,32,109,101,97,110,32,51,48,32,49,32,49,48,32,50,48]:=Qm
 rw[h];rfl
def tmps4(A c:Option Addr)(a b:Nat)(C d X:Option Addr)(x:Nat)(Y:Option Addr)(y f:Nat)(D e:Option Addr)(h:Nat)(F g:Option Addr):Array Value:=#[.bool false,.pointer (some b),.int .i64 0,.pointer (some f),.int .i64 0,.pointer (some h),.int .i64 0,.int .i64 1,.int .i64 0,undef,undef,.tuple #[.agg #[(30:Int),(1:Int)],(0:Int)],.agg #[.slice A 2 2,.slice c 1 1],.agg #[(0:Int),(0:Int)],.slice (some a) 1 1,.agg #[(1:Int),(10:Int),.slice (some a) 1 1],.tuple #[.agg #[(30:Int),(1:Int)],(0:Int)],.agg #[(30:Int),(1:Int)],.int .i64 0,.tuple #[cJ X x Y y,(0:Int)],.agg #[.slice C 2 2,.slice d 1 1],.agg #[(1:Int),(50:Int)],.tuple #[cJ X x Y y,(0:Int)],cJ X x Y y,.int .i64 0,.tuple #[.agg #[(500:Int),(1000:Int)],(0:Int)],.agg #[.slice D 2 2,.slice e 1 1],.tuple #[.agg #[(500:Int),(1000:Int)],(0:Int)],.agg #[(500:Int),(1000:Int)],.int .i64 0,.tuple #[(1:Int),(0:Int)],.agg #[.slice F 2 2,.slice g 1 1],.agg #[(4:Int),(5:Int)],.tuple #[(1:Int),(0:Int)],.int .i64 1,.int .i64 0,zu,zu,zu,zu,zu,zu,zu,zu,zu,zu,zu,zu,zu,zu,zu,zu,zu,zu,zu,zu,zu,zu,zu,zu,zu,zu,zu,zu,zu,zu,zu,zu,zu,zu,zu,zu,zu,zu,zu,zu,zu,zu,zu,zu,zu,zu,zu,zu]
def YP(A O:Option Addr)(S b:Nat)(C C2 X:Option Addr)(x:Nat)(Y:Option Addr)(y f:Nat)(D D2:Option Addr)(Z:Nat)(F F2:Option Addr)(w:World)(v:Tabs w)(P:w.heap[b]?=some (.cells #[(30:Int),(1:Int)] 44))(n3:w.heap[f]?=some (XY X x Y y))(n5:w.heap[Z]?=some (.cells #[(500:Int),(1000:Int)] 58)):aw5.wp prog (bodyPost prog Tryz.f4 (Qt w true)) ⟨tmps4 A O S b C C2 X x Y y f D D2 Z F F2,[]⟩ w:=by
 simp only[codeHd,codeTl,aw5,aw4,aw3,aw2,aw1,awBody,Tryz.f4,y',tmps4,cJ];have J:=i' fun W (m:QB w W)=>YL lP 30 1 10 [20] 1 W Qc Qm YM rfl (v.below m);rw[YO]at J;have V:=i' fun W=>jZ W;have T:=i' fun W A O B C c (hB:BookAt W A 2 Z6 O 1 (ZO B)) (i:At 1 Zc W C [20])=>VK A O C 2 1 2 1 c 1 Z6 (ZO B) (bs lP) 0 0 30 1 10 [20] W hB (u' B) rfl rfl Qm i rfl Qc;have aG:∀x,(sizeOf 64).run prog x=.ok 7 x:=fun x=>Qb
 have l:=i' P;have p:=i' n3;have q:=i' n5;clear v P n3 n5;go_wp2_with (first|(go_at_call 20;refine(J.out _ (m' _ _)).mono ?_;rintro e w3 ⟨⟨G,c,rfl,i⟩,M⟩;have H:=i' i;clear i));have a:=M;refine e9 ?_;intro u0 E;have X1:u0.heap[b]?=some (.cells #[(30:Int),(1:Int)] 44):=by rw[E];exact Zz (Zx a l.out) _
 have t:u0.heap[f]?=some (XY X x Y y):=by rw[E];exact Zz (Zx a p.out) _
 have X5:u0.heap[Z]?=some (.cells #[(500:Int),(1000:Int)] 58):=by rw[E];exact Zz (Zx a q.out) _
 have X9:u0.heap[w3.heap.size]?=some (.cells #[.string (bs lP),(0:Int),(0:Int),(30:Int),(1:Int),(10:Int),.slice G 1 c] 64):=by rw[E];exact ZA w3 _ rfl
 have N:QB w u0:=by rw[E];exact via a (ZB _ _)
 have U:=i' (show At 1 Zc u0 G [20]by rw[E];exact H.out.below (ZB _ _));clear E H M a l p q;unfold XY at t;refine w7 Qb ?_;apply BI w (fun y=>QB u0 y) [39,41] (fun j g=>if j=39 then .agg #[.slice g.a1 2 2,.slice g.a2 1 1]else .int .i64 0)
  (fun L g y=>L 39=true->∃B,BookAt y (g 39).a1 2 Z6 (g 39).a2 1 (ZO B));case hB=>kernel_rfl
 case hB'=>intro g;kernel_rfl
 case hS|hN=>kernel_rfl
 case hC0=>exact m' _ _
 case hCs=>exact fun y k h m=>h.trans (m.mono h.size)
 case hCw=>exact fun y h=>via N h
 case h0=>intro L h d;rw[h 39 Qd]at d;cases d
 case hst=>intro L L' g y k h I m d;obtain⟨B,hB⟩:=I (by rw[<-h 39 Qd];exact d);exact⟨B,hB.below m⟩
 case hq=>
  have aD:∀W,(binOp .eql 44 (.agg #[(30:Int),(1:Int)]) (.agg #[(30:Int),(1:Int)])).run prog W=.ok (.bool true) W:=fun W=>Qb
  have aA:∀W,(binOp .eql 44 (.agg #[(1:Int),(2:Int)]) (.agg #[(1:Int),(2:Int)])).run prog W=.ok (.bool true) W:=fun W=>Qb
  have aB:∀W,(binOp .eql 58 (.agg #[(500:Int),(1000:Int)]) (.agg #[(500:Int),(1000:Int)])).run prog W=.ok (.bool true) W:=fun W=>Qb
  intro g u R aF N aE;have D1:=bk2 (Zx R X1);have D3:=bk7 (Zx R t);have D5:=bk2 (Zx R X5);have D9:=bk7 (Zx R X9);simp only[mixL,yieldsC,l5,n7,Nat.reduceAdd,Nat.reduceBEq,w0,o7,s4,S3,k4,p0,Zyk,Zyj,r5,Nat.reduceEqDiff];repeat (go_big_quiet_step (fail))
  exact Zyh rfl
 case hind=>exact Qz
 case hwa=>intro g j s;simp only[ZAW,ZBg,Zyi]at s;rcases s with rfl|rfl<;>(intro o z;simp only[List.getElem?_toArray,B4,S',nK]at z;subst z;kernel_rfl)
 case hsp=>
  intro j s o z L g y I i K hL r aC;simp only[ZAW,ZBg,Zyi]at s;rcases s with rfl|rfl;·simp only[B4,S',nK]at z;subst z;refine Q1 Qb ((V.out y).mono ?_);rintro e k ⟨⟨A5,A6,Q,rfl,n,-⟩,m⟩;refine⟨_,rfl,i.trans (m.mono i.size),.inr ⟨{Gh.zero with a1:=A5,a2:=A6},rfl,fun _=>?_⟩⟩;rw[Z4];exact⟨Q,n⟩
  .simp only[B4,S',nK]at z;subst z;have d:L 39=true:=r ⟨39,.data⟩ Qd rfl;obtain⟨Q,n⟩:=I d;refine Q1 Qb ((T.out y _ _ Q G c n (U.out.below i)).mono ?_);rw[YN];rintro e k ⟨rfl,m⟩;refine⟨_,rfl,i.trans (m.mono i.size),.inr ⟨Gh.zero,rfl,fun _=>?_⟩⟩;rw[upd_ne Qc];exact⟨Q,n.below m⟩
 intro g y I i K;clear I;go_wp2;go_ret;exact⟨rfl,K⟩
def Tabs.old{w w':World} (h:Tabs w)(a:Old w w'):Tabs w':=by have:=h.below (⟨rfl,rfl,rfl,a.size,a.get⟩:QB w {w' with os:=w.os,tape:=w.tape,output:=w.output});obtain⟨⟩:=this;constructor<;>assumption
def YQ{b:Frame->List Frame->World->Prop} {A i:Option Addr} {a p:Nat} {C j X:Option Addr} {x:Nat} {Y:Option Addr} {y q:Nat} {D m:Option Addr} {g:Nat} {F n:Option Addr} {l:World} {B:Blk} (L:Self ZM (fun _=>False) B l) (K:AR ZM B (tmps4 A i a p C j X x Y y q D m g F n) (tmps4 A i a p C j X x Y y q D m g F n)) (G:Tabs l) (H:l.heap[p]?=some (.cells #[(30:Int),(1:Int)] 44)) (I:l.heap[q]?=some (XY X x Y y)) (J:l.heap[g]?=some (.cells #[(500:Int),(1000:Int)] 58))(k:∀f o,Ret prog (fun v _=>v=.bool true) f [ZH prog] o->f.fn=4->Old l o->b f [ZH prog] o):LG ZP b ((Go.Conc.base 4).at ⟨tmps4 A i a p C j X x Y y q D m g F n,[]⟩ [.code aw5]) [ZH prog] l:=by refine pF (E0:=ZM) (E:=ZP) (fn:=Tryz.f4) (R:=fun v w=>v=.bool true/\Old l w) ZZ fL Z0 L K rfl Qb func4 (fun t d=>j5 (YP A i a p C j X x Y y q D m g F n (l.re t d) (G.old ((Old.refl l).re t d)) H I J) fun e w h=>⟨_,h.1,rfl,Ze h.2⟩) fun f o c r=>.stop _ _ _ ?_;obtain⟨u,v,t,d,z,rfl,s⟩:=c;exact k f o ⟨u,_,t,d,z,rfl⟩ r ⟨s.size,s.get⟩
end Go.Proofs
namespace Go.Proofs
open Go.RowKit Go.Twin Go.Conc
def Aw4:Prop:=∀(f:Value->World->Prop)(W o:World)(c:Blk)(n:List Frame),(∀b x,c b x->(fun _:Nat=>False) b∨(b=x/\x<o.heap.size/\o.heap[x]?=W.heap[x]?/\ZP.sh=false/\ZP.junk=false))->∀(A d:Option Addr) (a k:Nat) (C e X:Option Addr) (x:Nat) (Y:Option Addr) (y m:Nat) (D g:Option Addr) (h:Nat) (cs:List Frame) (l:World) (B:Blk),cs≠[]->Self ZM (fun _=>False) B l->AR ZM B (tmps3 A d a k C e X x Y y m D g h) (tmps3 A d a k C e X x Y y m D g h)->Old o l->(∀F j p i,B.le i->Self ZM (fun _=>False) i p->AR ZM i (tmps4 A d a k C e X x Y y m D g h F j) (tmps4 A d a k C e X x Y y m D g h F j)->Old l p->LG ZP (StopG ZP f W o c (fun _=>False) n) ((Go.Conc.base 4).at ⟨tmps4 A d a k C e X x Y y m D g h F j,[]⟩ [.code aw5]) cs p)->LG ZP (StopG ZP f W o c (fun _=>False) n) ((Go.Conc.base 4).at ⟨tmps3 A d a k C e X x Y y m D g h,[]⟩ [.code aw4]) cs l
def awake_of(b:Aw4) {w:World} (r:GlobOk w)(M:Tabs (aK w)):dV Tryz.prog (Frame.enter Tryz.prog 4 #[] .normal) w fun v=>v=true:=by refine WU r (fun e c L g=>?_) rfl;refine YE Qd r fun A H i T C J X x Y y U D K V O I E u j Q R S d=>?_;refine b e w (aK w) awB (c::L) (DK r) A H i T C J X x Y y U D K V _ O I Qd u j d fun F k l Z G z m a=>?_;exact YQ z m (M.old (d.trans a)) (a.at Q) (a.at R) (a.at S) fun f N h n s=>g f N h n (d.trans (a.trans s)).get
def YR(a:Option Addr):(solvedL 2 (exs (ZO a)) [5,1]).map (fun q=>(q.1,q.2.1))=some ([0,1],1):=by rw[fG];kernel_rfl
def YS(a:Option Addr):(solvedL 2 (exs (ZO a)) (cL [6,2])).map (fun q=>(q.1,q.2.1))=some ([1,1],2):=by rw[fG];kernel_rfl
def DL(a:Option Addr):cN 2 (ZO a) [5,1]=(1,1,true):=by unfold cN;rw[fG];kernel_rfl
def DM(a:Option Addr):cN 2 (ZO a) (cL [6,2])=(-8,2,true):=by unfold cN;rw[fG];kernel_rfl
def YT(a:Option Addr):fV 2 (ZO a) [5,1] [6,2] 1=.tuple #[.agg #[(1:Int),(4:Int)],true]:=by unfold fV;rw[DL,DM];kernel_rfl
section
variable {B:Blk} {bs':List Frame} {l w:World}
def YU{sh:Nat->Prop} {A j b a g:Option Addr} {f k:Nat} {W:Frame} {cs cb:List Frame} (o:BookAt l A 2 Z6 j 1 (ZO b))(hL:At 1 Zc l a [5,1])(I:At 1 Zc l g [6,2])(h:Rel ZP sh bs' B (Frame.enter ZP.P 41 #[.agg #[.slice A 2 2,.slice j 1 1],.slice a 2 f,.slice g 2 k,.int .i64 1] .normal) cs l W cb w):dV Tryz.prog W w fun v=>v=.tuple #[.agg #[(1:Int),(4:Int)],true]:=by
 have s:=h.st.head.tmps;have R:=q9 (.agg #[.slice A 2 2,.slice j 1 1]) (.slice a 2 f) (.slice g 2 k) (.int .i64 1);have L:(Frame.enter ZP.P 41 #[.agg #[.slice A 2 2,.slice j 1 1],.slice a 2 f,.slice g 2 k,.int .i64 1] .normal).tmps=#[.agg #[.slice A 2 2,.slice j 1 1],.slice a 2 f,.slice g 2 k,.int .i64 1]++Array.replicate 52 undef:=by show (Frame.enter Tryz.prog _ _ _).tmps=_;rw[R];rfl
 rw[L]at s;have F:=s.getD 0 (undefR (G:=ZP) (B:=B));have J:=s.getD 1 (undefR (G:=ZP) (B:=B));have K:=s.getD 2 (undefR (G:=ZP) (B:=B));have M:((#[.agg #[.slice A 2 2,.slice j 1 1],.slice a 2 f,.slice g 2 k,.int .i64 1]++Array.replicate 52 undef:Array Value).getD 0 undef)=.agg #[.slice A 2 2,.slice j 1 1]:=by simp[Array.getD]
 have N:((#[.agg #[.slice A 2 2,.slice j 1 1],.slice a 2 f,.slice g 2 k,.int .i64 1]++Array.replicate 52 undef:Array Value).getD 1 undef)=.slice a 2 f:=by simp[Array.getD]
 have O:((#[.agg #[.slice A 2 2,.slice j 1 1],.slice a 2 f,.slice g 2 k,.int .i64 1]++Array.replicate 52 undef:Array Value).getD 2 undef)=.slice g 2 k:=by simp[Array.getD]
 rw[M]at F;rw[N]at J;rw[O]at K;obtain⟨u1,C⟩:=Zn F (i:=0) rfl;obtain⟨u2,D⟩:=Zn F (i:=1) rfl;have V:=sG (l:=l) (n:=2) (c:=2) (Zj C) (sF o.P rfl rfl);have X:=sG (l:=l) (n:=1) (c:=1) (Zj D) (sF o.E.1 rfl rfl);have Y:=sG (l:=l) (n:=2) (c:=f) (Zj J) (sF hL rfl rfl);have Z:=sG (l:=l) (n:=2) (c:=k) (Zj K) (sF I rfl rfl);intro H c ca gs sl t q Q u y U;refine CX (E1:=ZP) (lows:=[5,1]) (ups:=[6,2]) rfl (fun _=>rfl) rfl (dW b).right o.E rfl Qc Qc (fun x T=>by obtain rfl:=y2.1 T;simp) ⟨hL,rfl,rY Qc Qc,fun m d p z=>?_⟩ I rfl (rY Qc Qc) (fun m d p z=>?_) ?_ ?_ V X Y Z h Q u y (fun S=>U (S.trans (show fV Z6.length (ZO b) [5,1] [6,2] 1=_ from YT b)));·have e:=YR b;have r:solvedL 2 (exs (ZO b)) [5,1]=some (m,d,p):=z;rw[r]at e;cases e;exact⟨rfl,rY Qc Qc⟩
 .have e:=YS b;have r:solvedL 2 (exs (ZO b)) (cL [6,2])=some (m,d,p):=z;rw[r]at e;cases e;exact⟨rfl,rY Qc Qc⟩
 .unfold E9;have e:cN Z6.length (ZO b) [5,1]=_:=DL b;rw[e];intro _;exact⟨Qc,Qc⟩
 .unfold E9;have e:cN Z6.length (ZO b) (cL [6,2])=_:=DM b;rw[e];intro _;exact⟨Qc,Qc⟩
end
open Tryz
variable {es2:List En} {BB:Option Addr}
attribute [local go_sem] Oper.semAt_some fB fC fD dL fE fP
def oF(A c:Option Addr)(i j:Nat)(d:Option Addr)(b:Nat)(e:Option Addr)(f r:Nat)(g:Option Addr)(m:Nat)(h:Option Addr)(n:Nat)(u11 u33 u34 u35 u36 u37 u38 u39 u40 u41 u42 u43 u44 u45 u46 u47 u48:Value)(a:Nat):Array Value:=#[.agg #[.slice A 2 2,.slice c 1 1],.agg #[(4:Int),(5:Int)],.pointer (some i),.pointer (some j),.int .i64 0,.int .i64 0,.pointer (some r),.int .i64 0,.slice g 2 m,.slice h 2 n,undef,u11,.pointer (some a),.bool true,.tuple #[.agg #[.slice d 2 b,.slice e 3 f],(0:Int)],.agg #[.slice A 2 2,.slice c 1 1],.agg #[(4:Int),(5:Int)],.tuple #[.agg #[.slice d 2 b,.slice e 3 f],(0:Int)],.agg #[.slice d 2 b,.slice e 3 f],.int .i64 0,.int .i64 0,.bool false,undef,.agg #[.slice A 2 2,.slice c 1 1],.bool false,.bool false,.agg #[.slice d 2 b,.slice e 3 f],.bool false,.bool false,.pointer (some i),.slice A 2 2,.int .i64 2,.int .i64 2,u33,u34,u35,u36,u37,u38,u39,u40,u41,u42,u43,u44,u45,u46,u47,u48,.tuple #[.agg #[(1:Int),(4:Int)],true],.agg #[.slice A 2 2,.slice c 1 1],.slice g 2 m,.slice h 2 n,.tuple #[.agg #[(1:Int),(4:Int)],true],.agg #[(1:Int),(4:Int)],.bool true,.bool true,.bool true,.pointer (some a),.int .i64 1,.pointer (some j),.int .i64 4,.bool false,.bool false,.bool false,zu,zu,zu,zu,zu,.bool false]
def YV(A g:Option Addr)(r d:Nat)(h:Option Addr)(b:Nat)(i:Option Addr)(f s:Nat)(j:Option Addr)(u:Nat)(m:Option Addr)(y:Nat)(u11 u33 u34 u35 u36 u37 u38 u39 u40 u41 u42 u43 u44 u45 u46 u47 u48:Value)(a:Nat)(w:World)(C:w.heap[d]?=some (.cells #[(4:Int),(5:Int)] 58))(c:w.heap[a]?=some (.cells #[(1:Int),(4:Int)] 58)):agY.wp prog (fun e n k=>e=.normal/\n.defers=[]/\n.tmps=oF A g r d h b i f s j u m y u11 u33 u34 u35 u36 u37 u38 u39 u40 u41 u42 u43 u44 u45 u46 u47 u48 a/\QB w k) ⟨JD A g 2 2 1 1 4 5 r d h b i f s j u m y u11 u33 u34 u35 u36 u37 u38 u39 u40 u41 u42 u43 u44 u45 u46 u47 u48 1 4 a,[]⟩ w:=by simp only[agY,agX,cHd,cTl,ag6,ag5,ag4,ag3,ag2,ag1,agBody,Tryz.f19,y',JD];have D:=bk2 C;have z:=bk2 c;go_wp2;exact⟨rfl,m' _ _⟩
def YW(A c:Option Addr)(j m:Nat)(d:Option Addr)(b:Nat)(g:Option Addr)(e n:Nat)(h:Option Addr)(r:Nat)(i:Option Addr)(s:Nat)(u11 u33 u34 u35 u36 u37 u38 u39 u40 u41 u42 u43 u44 u45 u46 u47 u48:Value)(a:Nat)(w:World):ag7.wp prog (bodyPost prog Tryz.f19 (Qt w (.tuple #[(1:Int),(0:Int)]))) ⟨oF A c j m d b g e n h r i s u11 u33 u34 u35 u36 u37 u38 u39 u40 u41 u42 u43 u44 u45 u46 u47 u48 a,[]⟩ w:=by simp only[cHd,cTl,ag7,ag6,ag5,ag4,ag3,ag2,ag1,agBody,Tryz.f19,y',oF];go_wp2;go_ret2;exact⟨rfl,m' _ _⟩
def DN(h:es2.map En.sig=(ZO BB).map En.sig++wcL Z6 4 5):exs es2=[([0,-2],-1),([5,1],5),([-6,-2],-4)]:=by
 have e:exs es2=(es2.map En.sig).map fun s=>(s.2.1,s.2.2):=by simp only[exs,dJ];rfl
 rw[e,h];rfl
def YX(h:es2.map En.sig=(ZO BB).map En.sig++wcL Z6 4 5):RightE es2 2/\es2.length=3:=by
 have g:es2.length=3:=by have:=D1 List.length h;simpa [ZO,wcL] using this
 refine⟨⟨Qa,fun x i=>?_⟩,g⟩;have d:x.ex∈exs es2:=rD i;rw[DN h]at d;have e:x.co.length=2/\(∀n∈x.co,n.natAbs<=20)/\x.mo.natAbs<=20:=by simp only[ZAW,ZBg,Zyi,En.ex,oV]at d;rcases d with⟨a,c⟩|⟨a,c⟩|⟨a,c⟩<;>rw[a,c]<;>exact⟨rfl,Qc,Qc⟩
 exact e
def YY(BB:Option Addr):wcE Z6 (ZO BB) 4 5=0:=by
 unfold wcE;rw[aW];intro e a;simp only[ZAW,ZBg,Zyi]at a;rcases a with rfl|rfl|rfl|rfl;·exact hM.2 (dW BB)
 .decide
 .have c:z8 (ZO BB) mostS=false:=by have:z8 (ZO BB) mostS=z8 (ZO none) mostS:=rfl;rw[this];decide+kernel
  have d:z8 (ZO BB) leastS=false:=by have:z8 (ZO BB) leastS=z8 (ZO none) leastS:=rfl;rw[this];decide+kernel
  rw[c,d];rfl
 .rfl
def YZ(BB:Option Addr):b2 2 (exs (ZO BB))=false:=by rw[fG];kernel_rfl
def Y0(h:es2.map En.sig=(ZO BB).map En.sig++wcL Z6 4 5):b2 2 (exs es2)=false:=by rw[DN h];kernel_rfl
def Y1{e:Nat} {α:Type} {cs:α->List Value} {l:World} {A:Option Addr} {c:List α} (h:At e cs l A c) {x:α} (d:c[0]?=some x):A≠none:=by rintro rfl;obtain⟨b,o,a,_⟩:=h 0 x d;cases a
end Go.Proofs
namespace Go.Proofs
open Tryz
open Go.RowKit Go.Twin Go.Conc
attribute [local go_sem] Oper.semAt_some fB fC fD dL fE fP
def Y3 (A a:Option Addr):Frame.enter prog 19 #[.agg #[.slice A 2 2,.slice a 1 1],.agg #[(4:Int),(5:Int)]] .normal=(Go.Conc.base 19).at ⟨mG A a 2 2 1 1 4 5,[]⟩ [.code agBody]:=by rw[iK (fn:=Tryz.f19) (c:=Tryz.f19.body.getD .skip) _ func19 rfl];kernel_rfl
def BookAt.re{w:World} {e a:Option Addr} {g c:Nat} {b:List Pa} {es:List En} (h:BookAt w e g b a c es)(t:Nat->Question->Nat)(d:Nat):BookAt (w.re t d) e g b a c es:=h.old ((Old.refl w).re t d)
def Y4{q:Value->World->Prop} {W l0:World} {I:Blk} {bs':List Frame} (aX:∀b x,I b x->(fun _:Nat=>False) b∨(b=x/\x<l0.heap.size/\l0.heap[x]?=W.heap[x]?/\ZP.sh=false/\ZP.junk=false)) {A u BB:Option Addr} {c:Frame} {cs:List Frame} {l:World} {B:Blk} (f:Self ZM (fun _=>False) B l)(o:AR ZM B #[.agg #[.slice A 2 2,.slice u 1 1],.agg #[(4:Int),(5:Int)]] #[.agg #[.slice A 2 2,.slice u 1 1],.agg #[(4:Int),(5:Int)]])(hB:BookAt l A 2 Z6 u 1 (ZO BB))(ho:Old l0 l)(k:∀l' T,Old l l'->B.le T->Self ZM (fun _=>False) T l'->LG ZP (StopG ZP q W l0 I (fun _=>False) bs') (c.finish (.tuple #[(1:Int),(0:Int)])) cs l'):LG ZP (StopG ZP q W l0 I (fun _=>False) bs') (Frame.enter prog 19 #[.agg #[.slice A 2 2,.slice u 1 1],.agg #[(4:Int),(5:Int)]] .normal) (c::cs) l:=by
 have z:Halts (StopG ZP q W l0 I (fun _=>False) bs'):=fT;rw[Y3];have aG:AR ZM B (mG A u 2 2 1 1 4 5) (mG A u 2 2 1 1 4 5):=Zb (o.append (AR.replicate 69 undefR)) Qb;rw[show agBody=.seq (cHd agBody) ag1 from Qb];refine cO z ?_;refine z6 (R:=fun y p=>(∃G H,y.tmps=nS A u 2 2 1 1 4 5 G H/\p.heap[G]?=some (.cells #[.slice A 2 2,.slice u 1 1] 25)/\p.heap[H]?=some (.cells #[(4:Int),(5:Int)] 58))/\Old l p) ZZ fL iN Z0 f aG rfl Qb (fun v w t d h=>⟨h.1,h.2.size,h.2.get⟩) (fun t d=>iQ (fun e y p h=>⟨h.1,h.2.1,h.2.2.1,(Ze h.2.2.2).size,(Ze h.2.2.2).get⟩) (VZ A u 2 2 1 1 4 5 _)) ?_;rintro⟨tm,df⟩ l1 B1 ⟨⟨G,H,Q,m2,m3⟩,aT⟩ S aM aY aH;cases Q;cases S;have aB:=hB.old aT;rw[show ag1=.seq (cHd ag1) ag2 from Qb];refine cO z ?_;refine z6 (R:=fun y p=>CP A u 2 2 1 1 4 5 Z6 (ZO BB) G H y.tmps p/\Old l1 p) ZZ fL iN Z0 aY aH rfl Qb (fun v w t d h=>⟨by obtain⟨J,N,L,O,M,es2,g1,g2,g3,g4⟩:=h.1;exact⟨J,N,L,O,M,es2,g1,g2,g3,g4.re t d⟩,h.2.size,h.2.get⟩) (fun t d=>iQ (fun e y p h=>⟨h.1,h.2.1,h.2.2.1,(Ze h.2.2.2).size,(Ze h.2.2.2).get⟩) (V1 A u 2 2 1 1 4 5 Z6 (ZO BB) G H (l1.re t d) (aB.re t d) (u' BB) rfl rfl (fun h=>absurd h (Y1 aB.P rfl)) (YY BB) m2 m3)) ?_;rintro⟨tm,df⟩ l2 B2 ⟨⟨J,N,L,O,M,es2,Q,m6,bF,bH⟩,Y⟩ S aN bA aI;cases Q;cases S;obtain⟨bL,bN⟩:=YX bF;have aA:=aB.old Y;have aE:=Y.at m2;have bU:=Y.at m3;rw[show ag2=.seq (cHd ag2) ag3 from Qb];refine cO z ?_;refine z6 (R:=fun y p=>(y.tmps=nT A u 2 2 1 1 4 5 G H J N L O M)/\Old l2 p) ZZ fL iN Z0 bA aI rfl Qb (fun v w t d h=>⟨h.1,h.2.size,h.2.get⟩) (fun t d=>iQ (fun e y p h=>⟨h.1,h.2.1,h.2.2.1,(Ze h.2.2.2).size,(Ze h.2.2.2).get⟩) (V3 A u 2 2 1 1 4 5 G H J N L O M _)) ?_;rintro⟨tm,df⟩ l3 B3 ⟨Q,U⟩ S aO bB aJ;cases Q;cases S;rw[show ag3=.seq (cHd ag3) ag4 from Qb];refine cO z ?_;refine z6 (R:=fun y p=>(y.tmps=nU A u 2 2 1 1 4 5 G H J N L O M)/\Old l3 p) ZZ fL iN Z0 bB aJ rfl Qb (fun v w t d h=>⟨h.1,h.2.size,h.2.get⟩) (fun t d=>iQ (fun e y p h=>⟨h.1,h.2.1,h.2.2.1,(Ze h.2.2.2).size,(Ze h.2.2.2).get⟩) (V4 A u 2 2 1 1 4 5 (ZO BB) es2 G H J N L O M (l3.re t d) (dW BB).right ((aA.old U).re t d).E rfl Qc Qc bL ((bH.old U).re t d).E bN (YZ BB) (Y0 bF) (U.at aE) (U.at m6))) ?_;rintro⟨tm,df⟩ l4 B4 ⟨Q,bP⟩ S aP bD aK;cases Q;cases S;rw[show ag4=.seq (cHd ag4) ag5 from Qb];refine cO z ?_;refine z6 (R:=fun y p=>(y.tmps=nV A u 2 2 1 1 4 5 G H J N L O M)/\Old l4 p) ZZ fL iN Z0 bD aK rfl Qb (fun v w t d h=>⟨h.1,h.2.size,h.2.get⟩) (fun t d=>iQ (fun e y p h=>⟨h.1,h.2.1,h.2.2.1,(Ze h.2.2.2).size,(Ze h.2.2.2).get⟩) (V5 A u 2 2 1 1 4 5 G H J N L O M _)) ?_;rintro⟨tm,df⟩ l5 B5 ⟨Q,bQ⟩ S aQ bE aL;cases Q;cases S;have D:=(U.trans bP).trans bQ;have aF:=aA.old D;rw[show ag5=.seq (cHd ag5) ag6 from Qb];refine cO z ?_;refine z6 (R:=fun y p=>CQ A u 2 2 1 1 4 5 Z6 G H J N L O M l5.heap.size y.tmps p/\Old l5 p) ZZ fL iN Z0 bE aL rfl Qb (fun v w t d h=>⟨h.1,h.2.size,h.2.get⟩) (fun t d=>iQ (fun e y p h=>⟨h.1,h.2.1,h.2.2.1,(Ze h.2.2.2).size,(Ze h.2.2.2).get⟩) (V6 A u 2 2 1 1 4 5 Z6 G H J N L O M (l5.re t d) (aF.re t d).P rfl Qc Qc (D.at aE))) ?_;rintro⟨tm,df⟩ l6 B6 ⟨⟨L1,r,L2,s,u11,u33,u34,u35,u36,u37,u38,u39,u40,u41,u42,u43,u44,u45,u46,u47,u48,Q,o1,o2⟩,Z⟩ S aR f o;cases Q;cases S;have m:=Blk.le_trans (Blk.le_trans (Blk.le_trans (Blk.le_trans (Blk.le_trans aM aN) aO) aP) aQ) aR;have bI:=aF.old Z;have n2:=Z.at (D.at aE);have n3:=Z.at (D.at bU);have aW:Old l l6:=aT.trans (Y.trans (D.trans Z));have bJ:At 1 Zc l6 L1 [5,1]:=C1 o1 rfl;have bK:At 1 Zc l6 L2 [6,2]:=C1 o2 rfl;have D2:=bk2 n2;clear aY bA bB bD bE aH aI aJ aK aL aG;rw[show ag6=.seq agX ag7 from Qb];refine cO z ?_;rw[show agX=.seq (cHd agX) agY from Qb];refine cO z ?_;simp only[cHd,cTl,agX,ag6,ag5,ag4,ag3,ag2,ag1,agBody,Tryz.f19,y',CO];refine cT z ?_;simp only[A8,L',w9,Nat.reduceAdd,w0,List.range,List.range.loop];refine fQ z Z0 ZZ f (Zb o Qb) rfl rfl Qc Qb (fun F C K r s=>?_);simp only[show ZM.P=prog from rfl];go_simp;first|refine r _ _ ?_|refine s _ ?_
 iterate 2(
  clear r s K F C;intro T a j i;replace m:=Blk.le_trans m a;clear f o a;have f:=j;have o:=i;clear j i;walk_nrm;refine fQ z Z0 ZZ f (Zb o Qb) rfl rfl Qc Qb (fun F C K r s=>?_);simp only[show ZM.P=prog from rfl];go_simp;first|refine r _ _ ?_|refine s _ ?_)
 clear r s K F C;intro T a j i;replace m:=Blk.le_trans m a;clear f o a;have f:=j;have o:=i;clear j i;walk_nrm;refine eS (g:=41) (args:=#[.agg #[.slice A 2 2,.slice u 1 1],.slice L1 2 r,.slice L2 2 s,.int .i64 1]) z rfl rfl Qc Qb (fun p=>by simp only[show ZP.P=prog from rfl];kernel_rfl) ?_;refine .stop _ _ _ (yP (R:=fun v=>v=.tuple #[.agg #[(1:Int),(4:Int)],true]) pK aX Qd (fun c h=>by cases h) (ho.trans aW).get (fun h hO=>YU bI bJ bK h) (fun v hv=>by subst hv;kernel_rfl) fun v n hv=>?_);subst hv;rw[hW];have f:=f.pad n;have o:=o.set 53 (VR.closed 8 (.tuple #[.agg #[(1:Int),(4:Int)],true]) Qb);have aD:Old l6 (pad l6 n):=⟨by rw[eL];omega,fun b hb=>K1 l6 n hb⟩;obtain⟨V,bO⟩:=Qu (pad l6 n);rw[bO]at f aD |-;walk_nrm;refine fQ z Z0 ZZ f (Zb o Qb) rfl rfl Qc Qb (fun F C K r s=>?_);simp only[show ZM.P=prog from rfl];go_simp;first|refine r _ _ ?_|refine s _ ?_
 iterate 5(
  clear r s K F C;intro T a j i;replace m:=Blk.le_trans m a;clear f o a;have f:=j;have o:=i;clear j i;walk_nrm;refine fQ z Z0 ZZ f (Zb o Qb) rfl rfl Qc Qb (fun F C K r s=>?_);simp only[show ZM.P=prog from rfl];go_simp;first|refine r _ _ ?_|refine s _ ?_)
 clear r s K F C;intro T a j i;replace m:=Blk.le_trans m a;clear f o a;have f:=j;have o:=i;clear j i;walk_nrm;refine cU z ?_;obtain⟨l8,X⟩:=Qu (V.alloc (.cells #[(1:Int),(4:Int)] 58));have bV:l8.heap[V.heap.size]?=some (.cells #[(1:Int),(4:Int)] 58):=by rw[<-X];exact Qs
 have aV:Old V l8:=by rw[<-X];exact Zp (by go_grown:QB V _)
 rw[X]at f |-;clear X;have bW:=aV.at (aD.at n3);refine z6 (x:=agY) (R:=fun y p=>y.tmps=oF A u G H J N L O M L1 r L2 s u11 u33 u34 u35 u36 u37 u38 u39 u40 u41 u42 u43 u44 u45 u46 u47 u48 V.heap.size/\Old l8 p) ZZ fL iN Z0 f (Zb o Qb) rfl Qb (fun v w t d h=>⟨h.1,h.2.size,h.2.get⟩) (fun t d=>iQ (fun e y p h=>⟨h.1,h.2.1,h.2.2.1,(Ze h.2.2.2).size,(Ze h.2.2.2).get⟩) (YV A u G H J N L O M L1 r L2 s u11 u33 u34 u35 u36 u37 u38 u39 u40 u41 u42 u43 u44 u45 u46 u47 u48 V.heap.size (l8.re t d) bW bV)) ?_;rintro⟨tm,df⟩ l9 B9 ⟨Q,bR⟩ S aS bS bM;cases Q;cases S;refine yW (fn:=Tryz.f19) (x:=ag7) (R:=fun v w=>v=.tuple #[(1:Int),(0:Int)]/\Old l9 w) ZZ fL iN Z0 bS bM rfl Qb func19 (fun v w t d h=>⟨h.1,h.2.size,h.2.get⟩) (fun t d=>j5 (YW A u G H J N L O M L1 r L2 s u11 u33 u34 u35 u36 u37 u38 u39 u40 u41 u42 u43 u44 u45 u46 u47 u48 V.heap.size (l9.re t d)) fun e w h=>⟨_,h.1,rfl,Ze h.2⟩) ?_;rintro v bT bG ⟨rfl,aU⟩ aC aZ hv;exact k bT bG (aW.trans (aD.trans (aV.trans (bR.trans aU)))) (Blk.le_trans m (Blk.le_trans aS aC)) aZ
def Y5:Aw4:=by
 intro G W Z E b M A p T p1 C C2 X x Y y p3 D D2 p5 cs l B U i h V k;have r:Halts (StopG ZP G W Z E (fun _=>False) b):=fT;have e:B.le B:=Blk.le_refl _;rw[show aw4=.seq (codeHd aw4) aw5 from Qb];refine cO r ?_;simp only[codeHd,codeTl,aw4,aw3,aw2,aw1,awBody,Tryz.f4,y',tmps3,cJ];refine cT r ?_;simp only[A8,L',w9,Nat.reduceAdd,w0,List.range,List.range.loop];refine yV (g:=17) (args:=#[]) r ZZ fL iN Z0 i (Zb h Qb) rfl rfl Qc Qb (fun o=>by simp only[show ZM.P=prog from rfl];kernel_rfl) Qb (AR.empty) (DJ l) (DI l) ?_;rintro v l1 q ⟨⟨F,Q,w,rfl,R⟩,L⟩ J N H;clear i h;walk_nrm;replace e:=J;have i:=N;have h:=H;clear N H;refine fQ r Z0 ZZ i (Zb h Qb) rfl rfl Qc Qb (fun s n K j m=>?_);simp only[show ZM.P=prog from rfl];go_simp;first|refine j _ _ ?_|refine m _ ?_
 clear j m K s n;intro z a d c;replace e:=Blk.le_trans e a;clear i h a;have i:=d;have h:=c;clear d c;walk_nrm;refine eS (g:=19) (args:=#[.agg #[.slice F 2 2,.slice Q 1 1],.agg #[(4:Int),(5:Int)]]) r rfl rfl Qc Qb (fun o=>by simp only[show ZP.P=prog from rfl];kernel_rfl) ?_;refine Y4 M i (Zb (((AR.replicate 2 undefR).set 0 (Zq h 31 (v:=.agg #[.slice F 2 2,.slice Q 1 1]) Qb)).set 1 (Zq h 32 (v:=.agg #[(4:Int),(5:Int)]) Qb)) Qb) R (V.trans L) fun f t S u O=>?_;have I:=(h.mono u).set 33 (VR.closed 8 (.tuple #[(1:Int),(0:Int)]) Qb);replace e:=Blk.le_trans e u;rw[hW];clear h i;have i:=O;have h:=I;clear I O;walk_nrm;refine fQ r Z0 ZZ i (Zb h Qb) rfl rfl Qc Qb (fun s n K j m=>?_);simp only[show ZM.P=prog from rfl];go_simp;first|refine j _ _ ?_|refine m _ ?_
 iterate 4(
  clear j m K s n;intro z a d c;replace e:=Blk.le_trans e a;clear i h a;have i:=d;have h:=c;clear d c;walk_nrm;refine fQ r Z0 ZZ i (Zb h Qb) rfl rfl Qc Qb (fun s n K j m=>?_);simp only[show ZM.P=prog from rfl];go_simp;first|refine j _ _ ?_|refine m _ ?_)
 clear j m K s n;intro z a d c;replace e:=Blk.le_trans e a;clear i h a;have i:=d;have h:=c;clear d c;walk_nrm;refine cU r ?_;exact k F Q f _ e i (Zb h Qb) (L.trans S)
def Y6{w:World} (a:GlobOk w)(c:Tabs (aK w)):dV prog (Frame.enter prog 4 #[] .normal) w fun v=>v=true:=awake_of Y5 a c
end Go.Proofs
namespace Go.Proofs
open Tryz
open Go.RowKit Go.Twin Go.Conc
variable {W w:World} {p:Nat}
noncomputable def rA(n p q:Nat)(s:String):Code:=.region n #[{dst:=some p,op:=.call {callee:=.value (.func 4),args:=#[],argTypes:=#[]},type:=4,pos:=s,after:=#[],guard:=none},{dst:=some q,op:=.unOp .not 4 (.tmp p),type:=4,pos:=s,after:=#[{on:=0,ground:=.data}],guard:=none}] false
def Y7(d:Kept1 W w):Old (aK W) (aK w):=by
 refine⟨by rw[F0,F0];exact d.size,fun b a=>?_⟩;rw[F0]at a;have c:b<w.heap.size:=h8 a d.size;unfold aK;simp only[bF,AZ];by_cases g:4=b;·subst g;simp[a,c]
 .by_cases e:3=b;·subst e;simp[a,c]
  .simp[e,g,d.heap b a]
def Tabs.kept(h:Tabs (aK W))(a:Kept1 W w):Tabs (aK w):=h.old (Y7 a)
def Old.pad(l:World)(n:Nat):Old l (Twin.pad l n):=⟨by rw[eL];omega,fun b a=>K1 l n a⟩
def Y8(p:Nat):bI.op (.unOp .not 4 (.tmp p))=true:=by simp[Env.op,Env.op0,Env.darkOp,Op.operands,Env.operand]
def Y9{ρ:Operand->Value} {o:Oper} (h:ρ (.tmp p)=.bool true)(a:o.op=.unOp .not 4 (.tmp p))(w:World):(execOp ρ o).run prog w=.ok (.value (.bool false)) w:=by unfold execOp;rw[a];go_simp
noncomputable def lQ(W:World):World:=bY bI (fun _=>False) W
def Y'{F:Nat} {fn:Func} {c0 x rest:Code} {n q:Nat} {s:String} {args:Array Value} {o:Value->World->Prop} {T:Array Value->World->Prop} (hf:prog.funcs[F]?=some fn) (B:fn.body=some (.seq c0 (.seq (.seq (rA n p q s) (.cond (.tmp q) x .skip)) rest))) (hm:aV (.seq c0 (.seq (.seq (rA n p q s) (.cond (.tmp q) x .skip)) rest))=true)(Z:bI.code c0=true)(aA:bI.code rest=true)(hi:prog.inits.idxOf? F=none)(i:GlobOk W)(ht:Tabs (aK W))(ha:AR bI (idX (aZ (fun _=>False) W)) args args)(aJ:p≠q)(O:∀c w k,T c w->Old w k->T c k)(U:∀c w,T c w->p<c.size/\q<c.size)(h0:∀l,Old (lQ W) l->c0.wp prog (fun e a k=>e=.normal/\a.defers=[]/\T a.tmps k/\QB l k) ⟨args++Array.replicate (fn.ntmps-args.size) undef,[]⟩ l)(hr:∀c w,T c w->rest.wp prog (bodyPost prog fn (Qt w true)) ⟨(c.setIfInBounds p (.bool true)).setIfInBounds q (.bool false),[]⟩ w)(hk:∀k,Kept1 W k->o (.bool true) k):Fin prog o #[G (Frame.enter prog F args .normal) []] W none #[]:=by
 have M:prog.globals.size<=W.heap.size:=i.size;refine QL (S:=bI) (E:=kK) (D:=fun _=>False) HZ FH rfl rfl rfl (fn:=fn) hf B hm (fun g i=>by cases i) (fun g i=>by cases i) M ha ?_;have r:Halts (StopG kK o W (bY bI (fun _=>False) W) (idX (aZ (fun _=>False) W)) (aZ (fun _=>False) W) []):=fT;have e0:Frame.enter kK.P F args .normal=(Go.Conc.base F).at ⟨args++Array.replicate (fn.ntmps-args.size) undef,[]⟩ [.code (.seq c0 (.seq (.seq (rA n p q s) (.cond (.tmp q) x .skip)) rest))]:=iK _ hf B;rw[e0];have hs:=QI (S:=bI) (D:=fun _=>False) (w:=W) rfl (fun g i=>by cases i) (fun g i=>by cases i) M;refine cO r ?_;refine z6 (E0:=bI) (E:=kK) (R:=fun a' k=>T a'.tmps k/\Old (lQ W) k) F5 HY Q4 FH hs (ha.append (AR.replicate _ undefR)) rfl Z (fun v w t d h=>⟨O _ _ _ h.1 ((Old.refl w).re t d),h.2.size,h.2.get⟩) (fun t d=>iQ (fun e a' k h=>⟨h.1,h.2.1,h.2.2.1,Ze h.2.2.2⟩) (h0 _ ((Old.refl (lQ W)).re t d))) ?_;rintro⟨c,df⟩ N B1 ⟨Q,J⟩ e2 aH j V;cases e2;refine cO r (cO r ?_);simp only[rA];refine cT r ?_;simp only[A8,L',w9,Nat.reduceAdd,w0,List.range,List.range.loop];refine .stop _ _ _ (QJ (E:=kK) (g:=4) (R:=fun v=>v=.bool true) HZ (fun b x B=>.inl B.2) Qd rfl rfl (fun a w=>?_) (fun a w=>?_) J.get (fun I=>Y6 (i.kept I) (ht.kept I)) (fun v h=>by subst h;rfl) fun v m hv=>?_);·simp only[show kK.P=prog from rfl];kernel_rfl
 .simp only[show kK.P=prog from rfl];kernel_rfl
 subst hv;have z:Old N (Twin.pad N m):=Old.pad N m;replace j:=j.pad m;obtain⟨A,aC⟩:=Qu (Twin.pad N m);rw[aC]at z j |-;have C:=O _ _ _ Q z;have X:AR bI B1 (c.setIfInBounds p (.bool true)) (c.setIfInBounds p (.bool true)):=V.set p (.bool true);obtain⟨aE,aF⟩:=U _ _ C;have H:(c.setIfInBounds p (.bool true)).getD p undef=true:=by rw[fO,bR aE];rfl
 have y:((c.setIfInBounds p (.bool true)).setIfInBounds q (.bool false)).getD q undef=false:=by rw[fO,bR (by simpa using aF)];rfl
 refine fQ (E0:=bI) (a:=⟨c.setIfInBounds p (.bool true),[]⟩) r FH F5 j X rfl rfl (fun h=>by cases h) (Y8 p) (fun tt dd K k1 k2=>?_);have ev:(⟨c.setIfInBounds p (.bool true),[]⟩:Act).eval (.tmp p)=true:=H;simp only[show bI.P=prog from rfl];rw[show (execOp (⟨c.setIfInBounds p (.bool true),[]⟩:Act).eval (#[{dst:=some p,op:=Op.call {callee:=Callee.value (Operand.func 4),args:=#[],argTypes:=#[]},type:=4,pos:=s,after:=#[],guard:=none},{dst:=some q,op:=Op.unOp UnOp.not 4 (Operand.tmp p),type:=4,pos:=s,after:=#[{on:=0,ground:=Ground.data}],guard:=none}][1])).run prog (A.re tt dd)=.ok (.value (.bool false)) (A.re tt dd)from Y9 ev rfl _];refine k1 _ _ ?_;clear k1 k2 K;intro B2 aI aG Y;refine cU r ?_;refine uQ r (t:=false) rfl y ?_;simp only[p0,Zyj];refine yH r ?_;refine pF (E0:=bI) (E:=kK) (fn:=fn) (R:=fun v w=>v=.bool true/\Old A w) F5 HY FH aG Y rfl aA hf (fun t d=>j5 (hr _ _ (O _ _ _ C ((Old.refl A).re t d))) fun e w h=>⟨_,h.1,rfl,Ze h.2⟩) fun f l' L aB=>.stop _ _ _ ?_;obtain⟨hc,v,t,d,hl,rfl,ho⟩:=L;refine QK (u:=.bool true) (R:=fun v _=>v=.bool true) Qe (by rw[aB];exact hi) ⟨hc,_,t,d,hl,rfl⟩ (fun v t d h=>h) rfl ?_ hk;have aD:Old A l':=⟨ho.size,ho.get⟩;exact(J.trans (z.trans aD)).get
end Go.Proofs
