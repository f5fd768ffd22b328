import Derived.Shelf.Utf8.RuneCount
import Derived.Shelf.Strconv.Atoi
import Derived.Shelf.Strconv.Itoa3
import Derived.Shelf.Strings.Shaped
import Derived.Shelf.Strings.Prefix
import Derived.Shelf.Strings.SplitShaped
import Derived.Shelf.Strings.Explode
import Derived.Shelf.Unicode.DecodeAny
import Derived.Shelf.Slices.Clone
import Derived.Shelf.SlicesE.Clone
import Derived.Test.YtgiiimibmccpiaaGreatDoorMg7
import Derived.Lib.AppendIntMem
set_option linter.unusedVariables false
set_option linter.unusedSimpArgs false
set_option maxRecDepth 100000
set_option maxHeartbeats 16000000
namespace Go
theorem Zx9:type_of% @List.getElem?_toArray:=@List.getElem?_toArray
end Go
namespace Go.Proofs
open Tryz
open Go.Shelf
def Tryz.lays172_ren:Go.Shelf.Ren:=⟨fun|172=>129|244=>140|245=>141|247=>151|279=>152|280=>153|281=>154|282=>155|287=>160|316=>161|171=>130|205=>162|321=>167|322=>168|243=>142|246=>156|283=>163|284=>164|285=>165|286=>166|129=>170|317=>169|318=>171|319=>172|320=>173|337=>174|338=>175|n=>n,fun|9=>9|3=>3|75=>184|76=>185|4=>4|5=>5|167=>202|37=>152|0=>0|85=>203|2=>2|168=>205|53=>201|175=>216|46=>192|210=>220|127=>227|145=>230|143=>228|21=>21|171=>222|173=>224|212=>232|51=>199|20=>20|213=>233|232=>234|233=>235|80=>236|n=>n,fun|15=>3|16=>4|17=>5|18=>6|19=>7|n=>n⟩
theorem Tryz.lays172:Go.Proofs.Lays.n172 prog Tryz.lays172_ren:={
 mixed:=by kernel_rfl
 f129:=func170.trans (congrArg some (by kernel_rfl))
 f171:=func130.trans (congrArg some (by kernel_rfl))
 f172:=func129.trans (congrArg some (by kernel_rfl))
 f205:=func162.trans (congrArg some (by kernel_rfl))
 f243:=func142.trans (congrArg some (by kernel_rfl))
 f244:=func140.trans (congrArg some (by kernel_rfl))
 f245:=func141.trans (congrArg some (by kernel_rfl))
 f246:=func156.trans (congrArg some (by kernel_rfl))
 f247:=func151.trans (congrArg some (by kernel_rfl))
 f279:=func152.trans (congrArg some (by kernel_rfl))
 f280:=func153.trans (congrArg some (by kernel_rfl))
 f281:=func154.trans (congrArg some (by kernel_rfl))
 f282:=func155.trans (congrArg some (by kernel_rfl))
 f283:=func163.trans (congrArg some (by kernel_rfl))
 f284:=func164.trans (congrArg some (by kernel_rfl))
 f285:=func165.trans (congrArg some (by kernel_rfl))
 f286:=func166.trans (congrArg some (by kernel_rfl))
 f287:=func160.trans (congrArg some (by kernel_rfl))
 f316:=func161.trans (congrArg some (by kernel_rfl))
 f317:=func169.trans (congrArg some (by kernel_rfl))
 f318:=func171.trans (congrArg some (by kernel_rfl))
 f319:=func172.trans (congrArg some (by kernel_rfl))
 f320:=func173.trans (congrArg some (by kernel_rfl))
 f321:=func167.trans (congrArg some (by kernel_rfl))
 f322:=func168.trans (congrArg some (by kernel_rfl))
 f337:=func174.trans (congrArg some (by kernel_rfl))
 f338:=func175.trans (congrArg some (by kernel_rfl))
 t0:=underlying0
 a0:=isAgg0
 z0:=sizeOf0
 v0:=zeroValue0
 t2:=underlying2
 a2:=isAgg2
 z2:=sizeOf2
 v2:=zeroValue2
 t3:=underlying3
 a3:=isAgg3
 z3:=sizeOf3
 v3:=zeroValue3
 t4:=underlying4
 a4:=isAgg4
 z4:=sizeOf4
 v4:=zeroValue4
 t5:=underlying5
 a5:=isAgg5
 z5:=sizeOf5
 v5:=zeroValue5
 t9:=underlying9
 a9:=isAgg9
 z9:=sizeOf9
 v9:=zeroValue9
 t20:=underlying20
 a20:=isAgg20
 z20:=sizeOf20
 v20:=zeroValue20
 t21:=underlying21
 a21:=isAgg21
 z21:=sizeOf21
 v21:=zeroValue21
 t37:=underlying152
 a37:=isAgg152
 z37:=sizeOf152
 v37:=zeroValue152
 t46:=underlying192
 a46:=isAgg192
 z46:=sizeOf192
 v46:=zeroValue192
 t51:=underlying199
 a51:=isAgg199
 z51:=sizeOf199
 v51:=zeroValue199
 t53:=underlying201
 a53:=isAgg201
 z53:=sizeOf201
 v53:=zeroValue201
 t75:=underlying184
 a75:=isAgg184
 z75:=sizeOf184
 v75:=zeroValue184
 t76:=underlying185
 a76:=isAgg185
 z76:=sizeOf185
 v76:=zeroValue185
 t85:=underlying203
 a85:=isAgg203
 z85:=sizeOf203
 v85:=zeroValue203
 t127:=underlying227
 a127:=isAgg227
 z127:=sizeOf227
 v127:=zeroValue227
 t143:=underlying228
 a143:=isAgg228
 z143:=sizeOf228
 v143:=zeroValue228
 t145:=underlying230
 a145:=isAgg230
 z145:=sizeOf230
 v145:=zeroValue230
 t167:=underlying202
 a167:=isAgg202
 z167:=sizeOf202
 v167:=zeroValue202
 t168:=underlying205
 a168:=isAgg205
 z168:=sizeOf205
 v168:=zeroValue205
 t171:=underlying222
 a171:=isAgg222
 z171:=sizeOf222
 v171:=zeroValue222
 t173:=underlying224
 a173:=isAgg224
 z173:=sizeOf224
 v173:=zeroValue224
 t175:=underlying216
 a175:=isAgg216
 z175:=sizeOf216
 v175:=zeroValue216
 t210:=underlying220
 a210:=isAgg220
 z210:=sizeOf220
 v210:=zeroValue220
 t212:=underlying232
 a212:=isAgg232
 z212:=sizeOf232
 v212:=zeroValue232
 t213:=underlying233
 a213:=isAgg233
 z213:=sizeOf233
 t232:=underlying234
 a232:=isAgg234
 z232:=sizeOf234
 v232:=zeroValue234
 t233:=underlying235
 a233:=isAgg235
 z233:=sizeOf235
 v233:=zeroValue235
 g15:=by kernel_rfl
 g16:=by kernel_rfl
 g17:=by kernel_rfl
 g18:=by kernel_rfl
 g19:=by kernel_rfl}
open Go.RowKit in theorem Tryz.strconv_Atoi(s:ByteArray)(n:Int)(hl:s.size<=18)(h:Lib.atoi s.data.toList=some n)(w:World):Calls prog 129 #[.string s] w fun e w'=>e=.returned (.tuple #[.int .i64 n,.nilIface])/\∃t,w'=Lib.bytesWorld w 5 t:=Any.strconv_Atoi Tryz.lays172 s n hl h w
def Tryz.laysM171_ren:Go.Shelf.Ren:=⟨fun|171=>130|243=>142|246=>156|283=>163|284=>164|285=>165|286=>166|129=>170|317=>169|318=>171|319=>172|320=>173|337=>174|338=>175|n=>n,fun|3=>3|9=>9|2=>2|4=>4|171=>222|0=>0|53=>201|37=>152|5=>5|173=>224|212=>232|51=>199|20=>20|213=>233|46=>192|232=>234|233=>235|n=>n,fun|17=>5|18=>6|19=>7|n=>n⟩
theorem Tryz.laysM171:Go.Proofs.LaysM.n171 prog Tryz.laysM171_ren:={
 mixed:=by kernel_rfl
 f129:=func170.trans (congrArg some (by kernel_rfl))
 f171:=func130.trans (congrArg some (by kernel_rfl))
 f243:=func142.trans (congrArg some (by kernel_rfl))
 f246:=func156.trans (congrArg some (by kernel_rfl))
 f283:=func163.trans (congrArg some (by kernel_rfl))
 f284:=func164.trans (congrArg some (by kernel_rfl))
 f285:=func165.trans (congrArg some (by kernel_rfl))
 f286:=func166.trans (congrArg some (by kernel_rfl))
 f317:=func169.trans (congrArg some (by kernel_rfl))
 f318:=func171.trans (congrArg some (by kernel_rfl))
 f319:=func172.trans (congrArg some (by kernel_rfl))
 f320:=func173.trans (congrArg some (by kernel_rfl))
 f337:=func174.trans (congrArg some (by kernel_rfl))
 f338:=func175.trans (congrArg some (by kernel_rfl))
 t0:=underlying0
 a0:=isAgg0
 z0:=sizeOf0
 v0:=zeroValue0
 t2:=underlying2
 a2:=isAgg2
 z2:=sizeOf2
 v2:=zeroValue2
 t3:=underlying3
 a3:=isAgg3
 z3:=sizeOf3
 v3:=zeroValue3
 t4:=underlying4
 a4:=isAgg4
 z4:=sizeOf4
 v4:=zeroValue4
 t5:=underlying5
 a5:=isAgg5
 z5:=sizeOf5
 v5:=zeroValue5
 t9:=underlying9
 a9:=isAgg9
 z9:=sizeOf9
 v9:=zeroValue9
 t20:=underlying20
 a20:=isAgg20
 z20:=sizeOf20
 v20:=zeroValue20
 t37:=underlying152
 a37:=isAgg152
 z37:=sizeOf152
 v37:=zeroValue152
 t46:=underlying192
 a46:=isAgg192
 z46:=sizeOf192
 v46:=zeroValue192
 t51:=underlying199
 a51:=isAgg199
 z51:=sizeOf199
 v51:=zeroValue199
 t53:=underlying201
 a53:=isAgg201
 z53:=sizeOf201
 v53:=zeroValue201
 t171:=underlying222
 a171:=isAgg222
 z171:=sizeOf222
 v171:=zeroValue222
 t173:=underlying224
 a173:=isAgg224
 z173:=sizeOf224
 v173:=zeroValue224
 t212:=underlying232
 a212:=isAgg232
 z212:=sizeOf232
 v212:=zeroValue232
 t213:=underlying233
 a213:=isAgg233
 z213:=sizeOf233
 t232:=underlying234
 a232:=isAgg234
 z232:=sizeOf234
 v232:=zeroValue234
 t233:=underlying235
 a233:=isAgg235
 z233:=sizeOf235
 v233:=zeroValue235
 g17:=by kernel_rfl
 g18:=by kernel_rfl
 g19:=by kernel_rfl
 i0:=by kernel_rfl
 i2:=by kernel_rfl
 i3:=by kernel_rfl
 i4:=by kernel_rfl
 i5:=by kernel_rfl
 i9:=by kernel_rfl
 i20:=by kernel_rfl
 i37:=by kernel_rfl
 i46:=by kernel_rfl
 i51:=by kernel_rfl
 i53:=by kernel_rfl
 i171:=by kernel_rfl
 i173:=by kernel_rfl
 i212:=by kernel_rfl
 i232:=by kernel_rfl
 i233:=by kernel_rfl
 m17:=by kernel_rfl
 m18:=by kernel_rfl
 m19:=by kernel_rfl}
open Go.RowKit Go.Sort Go.Lib in theorem Tryz.strconv_Itoa(n:Int)(h0:-9223372036854775808<=n)(h1:n<=9223372036854775807)(w:World)(htab:Lib.TabIs prog w "internal/strconv.uint64pow10" .u64 Lib.pow10Tab):Calls prog 130 #[.int .i64 n] w fun e w'=>e=.returned (.string ⟨(Lib.itoa n).toArray⟩)/\∃k os,w'=grow (w.drewN k) os:=Any.strconv_Itoa Tryz.laysM171 n h0 h1 w htab
def Tryz.lays101_ren:Go.Shelf.Ren:=⟨fun|101=>131|208=>143|206=>157|n=>n,fun|9=>9|4=>4|3=>3|n=>n,fun|n=>n⟩
theorem Tryz.lays101:Go.Proofs.Lays.n101 prog Tryz.lays101_ren:={
 mixed:=by kernel_rfl
 f101:=func131.trans (congrArg some (by kernel_rfl))
 f206:=func157.trans (congrArg some (by kernel_rfl))
 f208:=func143.trans (congrArg some (by kernel_rfl))
 t3:=underlying3
 a3:=isAgg3
 z3:=sizeOf3
 v3:=zeroValue3
 t4:=underlying4
 a4:=isAgg4
 z4:=sizeOf4
 v4:=zeroValue4
 t9:=underlying9
 a9:=isAgg9
 z9:=sizeOf9
 v9:=zeroValue9}
open Go.RowKit Go.Lib in theorem Tryz.strings_TrimPrefix(s p:ByteArray)(w:World):Calls prog 131 #[.string s,.string p] w fun e w'=>e=.returned (.string ⟨(Lib.trimPrefix s.data.toList p.data.toList).toArray⟩)/\w'=w:=Any.strings_TrimPrefix Tryz.lays101 s p w
def Tryz.lays146_ren:Go.Shelf.Ren:=⟨fun|146=>85|221=>112|268=>126|138=>127|143=>128|195=>136|197=>137|218=>138|219=>139|260=>146|217=>147|225=>148|224=>149|267=>150|266=>158|314=>159|n=>n,fun|9=>9|31=>130|3=>3|4=>4|0=>0|105=>194|21=>21|5=>5|46=>192|119=>210|139=>213|138=>212|146=>214|51=>199|n=>n,fun|1=>0|3=>1|4=>2|n=>n⟩
theorem Tryz.lays146:Go.Proofs.Lays.n146 prog Tryz.lays146_ren:={
 mixed:=by kernel_rfl
 f138:=func127.trans (congrArg some (by kernel_rfl))
 f143:=func128.trans (congrArg some (by kernel_rfl))
 f146:=func85.trans (congrArg some (by kernel_rfl))
 f195:=func136.trans (congrArg some (by kernel_rfl))
 f197:=func137.trans (congrArg some (by kernel_rfl))
 f217:=func147.trans (congrArg some (by kernel_rfl))
 f218:=func138.trans (congrArg some (by kernel_rfl))
 f219:=func139.trans (congrArg some (by kernel_rfl))
 f221:=func112.trans (congrArg some (by kernel_rfl))
 f224:=func149.trans (congrArg some (by kernel_rfl))
 f225:=func148.trans (congrArg some (by kernel_rfl))
 f260:=func146.trans (congrArg some (by kernel_rfl))
 f266:=func158.trans (congrArg some (by kernel_rfl))
 f267:=func150.trans (congrArg some (by kernel_rfl))
 f268:=func126.trans (congrArg some (by kernel_rfl))
 f314:=func159.trans (congrArg some (by kernel_rfl))
 t0:=underlying0
 a0:=isAgg0
 z0:=sizeOf0
 v0:=zeroValue0
 t3:=underlying3
 a3:=isAgg3
 z3:=sizeOf3
 v3:=zeroValue3
 t4:=underlying4
 a4:=isAgg4
 z4:=sizeOf4
 v4:=zeroValue4
 t5:=underlying5
 a5:=isAgg5
 z5:=sizeOf5
 v5:=zeroValue5
 t9:=underlying9
 a9:=isAgg9
 z9:=sizeOf9
 v9:=zeroValue9
 t21:=underlying21
 a21:=isAgg21
 z21:=sizeOf21
 v21:=zeroValue21
 t31:=underlying130
 a31:=isAgg130
 z31:=sizeOf130
 v31:=zeroValue130
 t46:=underlying192
 a46:=isAgg192
 z46:=sizeOf192
 v46:=zeroValue192
 t51:=underlying199
 a51:=isAgg199
 z51:=sizeOf199
 v51:=zeroValue199
 t105:=underlying194
 a105:=isAgg194
 z105:=sizeOf194
 v105:=zeroValue194
 t119:=underlying210
 a119:=isAgg210
 z119:=sizeOf210
 t138:=underlying212
 a138:=isAgg212
 z138:=sizeOf212
 v138:=zeroValue212
 t139:=underlying213
 a139:=isAgg213
 z139:=sizeOf213
 v139:=zeroValue213
 t146:=underlying214
 a146:=isAgg214
 z146:=sizeOf214
 v146:=zeroValue214
 g1:=by kernel_rfl
 g3:=by kernel_rfl
 g4:=by kernel_rfl}
open Go.RowKit Go.Lib in theorem Tryz.strings_Split(s sep:ByteArray)(m:Int)(w:World)(hs:s.size<4294967281)(hm:w.cell? ⟨0,0,none⟩=some (.int .i64 m))(h1:1<=sep.size):Calls prog 85 #[.string s,.string sep] w fun e w'=>e=.returned (.slice (some ⟨w.heap.size,0,none⟩) (Lib.countB s sep+1) (Lib.countB s sep+1))/\w'=w.alloc (.cells ((Lib.splitB sep 0 (Lib.countB s sep) s).map Value.string).toArray 9):=Any.strings_Split Tryz.lays146 (by kernel_rfl) s sep m w hs hm h1
end Go.Proofs
namespace Go.Proofs
open Tryz
open Go.RowKit
variable {w w':World}
def bs(l:List UInt8):ByteArray:=⟨l.toArray⟩
def Sc(l:List UInt8):List Value:=[.string (bs l)]
theorem Zey(l:List UInt8):(bs l).data.toList=l:=by simp[bs]
theorem Zqq(s:ByteArray):bs s.data.toList=s:=by cases s;simp[bs]
theorem Zgq(l:List UInt8):(bs l).size=l.length:=by simp[bs,ByteArray.size]
structure Tabs (w:World):Prop where
 tab:Lib.TabIs prog w "internal/strconv.uint64pow10" .u64 Lib.pow10Tab
 mx:∃m,w.cell? ⟨0,0,none⟩=some (.int .i64 m)
theorem Zde{p:Addr} {v:Value} (h:w.cell? p=some v)(hb:Below w.heap.size w w'):w'.cell? p=some v:=(hb.cell (World.block_lt_of_cell? _ _ h)).trans h
theorem Tabs.below(h:Tabs w)(hb:Below w.heap.size w w'):Tabs w':=by obtain⟨a,⟨m,c⟩⟩:=h;exact⟨Lib.tabBelow_of_tabIs a w' hb,⟨m,Zde c hb⟩⟩
theorem Zqr(n:Int)(w:World)(h:n.natAbs<=9000000000000000000)(c:Tabs w):Calls prog 130 #[.int .i64 n] w fun e w'=>e=.returned (.string (bs (Lib.itoa n)))/\Below w.heap.size w w':=(Tryz.strconv_Itoa n (by omega) (by omega) w c.tab).mono fun e w' ⟨a,k,g,d⟩=>⟨a,d▸Lib.below_grow w.heap.size w (Zza _) k g⟩
theorem Zqs(a:ByteArray)(e:1<=a.size):∀(n:Nat)(s:ByteArray),s.size<=n->(Lib.splitB a 0 (Lib.countB s a) s).length=Lib.countB s a+1:=by intro n;induction n with
 |zero=>
  intro s m;rcases Lib.index_spec s.data.toList a.data.toList with⟨h,-⟩|⟨i,h,g,-,-⟩;·rw[Lib.countB_miss s a h];rfl
  ·have j:=Lib.index_room s.data.toList a.data.toList (by omega);have c:s.data.toList.length=s.size:=by simp
   have d:a.data.toList.length=a.size:=by simp
   omega|succ n ih=>
  intro s m;rcases Lib.index_spec s.data.toList a.data.toList with⟨h,-⟩|⟨i,h,g,-,-⟩;·rw[Lib.countB_miss s a h];rfl
  ·have j:=Lib.index_room s.data.toList a.data.toList (by omega);have c:s.data.toList.length=s.size:=by simp
   have d:a.data.toList.length=a.size:=by simp
   rw[Lib.countB_hit s a i e h,Zy2 1,Lib.splitB_hit a 0 _ s i h,Zyd,ih _ (by rw[ByteArray.size_extract];omega)]
theorem Zqt{l:List ByteArray} {m:List (List UInt8)} (h:l.map (·.data.toList)=m):l=m.map bs:=by subst h;rw[Zyq,show (bs ∘ fun x:ByteArray=>x.data.toList)=id from funext fun x=>Zqq x,List.map_id]
theorem ZlC(s:ByteArray):Lib.splitB ⟨#[32]⟩ 0 (Lib.countB s ⟨#[32]⟩) s=(cutL s.data.toList).map bs:=by refine Zqt ?_;rw[Lib.splitB_data];exact Zql _ _ (Zza _)
theorem Zqu(s:ByteArray)(w:World)(hs:s.size<=100000)(g:Tabs w):Calls prog 85 #[.string s,.string ⟨#[32]⟩] w fun e w'=>(∃A c,e=.returned (.slice A (cutL s.data.toList).length c)/\At 1 Sc w' A (cutL s.data.toList)/\(cutL s.data.toList).length<=c)/\Below w.heap.size w w':=by obtain⟨m,d⟩:=g.mx;refine(Tryz.strings_Split s ⟨#[32]⟩ m w (by omega) d (by decide)).mono ?_;rintro e w' ⟨rfl,rfl⟩;have a:=Zqs ⟨#[32]⟩ (by decide) s.size s (Zza _);rw[ZlC,Zyf]at a;rw[ZlC,<-a];refine⟨⟨_,_,rfl,?_,Zza _⟩,ZC _ _⟩;intro k x i;refine⟨w.heap.size,0,rfl,by simp,?_⟩;intro j v h;match j,h with|0,rfl=>rw[World.cell?_alloc_at _ _ _ _ rfl];simp[i]
theorem Zqv(n:Int)(w:World)(c:n.natAbs<10^16):Calls prog 129 #[.string (bs (Lib.itoa n))] w fun e w'=>e=.returned (.tuple #[.int .i64 n,.nilIface])/\Below w.heap.size w w':=by refine(Tryz.strconv_Atoi (bs (Lib.itoa n)) n (by rw[Zgq];have:=(ZiH 15 n c).1;omega) (by rw[Zey];exact Zqo n) w).mono ?_;rintro e w' ⟨rfl,t,rfl⟩;exact⟨rfl,rfl,rfl,rfl,by rw[Lib.bytesWorld_size];omega,fun k a=>Lib.bytesWorld_at_old w 5 t k a⟩
theorem Zqw(b:List UInt8)(w:World):Calls prog 131 #[.string (bs b),.string ⟨#[45]⟩] w fun e w'=>e=.returned (.string (bs (Zdd b)))/\w=w':=by refine(Tryz.strings_TrimPrefix (bs b) ⟨#[45]⟩ w).mono ?_;rintro e w' ⟨rfl,rfl⟩;refine⟨?_,rfl⟩;rw[Zey];show _=Ending.returned (.string (bs (Zdd b)));rw[<-Zqn];rfl
theorem At.tail1{α:Type} {sz:Nat} {cs:α->List Value} {w:World} {b o:Nat} {l:List α} (h:At sz cs w (some ⟨b,o,none⟩) l) (n:Nat):At sz cs w (some ⟨b,o+n*sz,none⟩) (l.drop n):=fun k x a=>by rw[List.getElem?_drop]at a;obtain⟨i,m,c,d,e⟩:=h (n+k) x a;cases c;refine⟨b,o+n*sz,rfl,d,fun j u g=>?_⟩;rw[<-e j u g,Zy3];congr 2;omega
theorem Zqx(n:Int)(k:Nat)(w:World)(E:k<=14)(z:n.natAbs<10^(k+1))(A:Tabs w):Calls prog 113 #[.string (bs (Lib.itoa n)),.int .i64 ((k+1:Nat):Int)] w fun e w'=>e=.returned (.tuple #[.int .i64 n,.bool true])/\Below w.heap.size w w':=by
 have i:(10:Nat)^(k+1)<=10^15:=Zzs (by decide) (by omega);have c:=Zqv n w (by omega);have d:=Zxi fun W (D:Below w.heap.size w W)=>Zqr n W (by omega) (A.below D);have a:=Zxi fun W=>Zqw (Lib.itoa n) W;have y:=(ZiH k n z).2;obtain⟨S,u⟩:∃S,bs (Lib.itoa n)=S:=⟨_,rfl⟩;obtain⟨M,j⟩:∃M,bs (Zdd (Lib.itoa n))=M:=⟨_,rfl⟩;have C:M.size<=k+1:=by rw[<-j,Zgq];exact y
 have m:decide ((M.size:Int)<=((k+1:Nat):Int))=true:=by simp;omega
 have g:(M.size:Int)<=((k+1:Nat):Int):=by omega
 rw[u]at c d a |-;rw[j]at a;obtain⟨K,s⟩:∃K:Int,((k+1:Nat):Int)=K:=⟨_,rfl⟩;rw[s]at m g |-;have G:(S.toList==S.toList)=true:=by simp
 have F:∀W,(binOp .eql 184 .nilIface .nilIface).run prog W=.ok (.bool true) W:=fun W=>by kernel_rfl
 clear z A i y u j s E;go_enter func113,ntmps113;go_wp2_with (first|(go_at_call 129;refine c.mono ?_;rintro e H ⟨rfl,h⟩)|(go_at_call 130;refine(d.out _ h).mono ?_;rintro e w2 ⟨rfl,r⟩)|(go_at_call 131;refine(a.out _).mono ?_;rintro e I ⟨rfl,rfl⟩));go_ret2;exact⟨rfl,via h r⟩
theorem Zqy(A:Option Addr)(l:List Int)(k n c:Nat)(w:World)(T:k<=14)(U:∀x∈l,x.natAbs<10^(k+1))(Q:At 1 Sc w A (l.map Lib.itoa))(V:l.length=n)(h9:n<=900)(X:Tabs w):Calls prog 86 #[.slice A n c,.int .i64 ((k+1:Nat):Int)] w fun e w'=>(∃O c2,e=.returned (.tuple #[.slice O n c2,.bool true])/\w'.ownsRow w.heap.size 3 1 (.slice O n c2) n (l.map (Value.int .i64)))/\Below w.heap.size w w':=by
 have y:=Zxi fun x (s:x∈l) W (hb:Below w.heap.size w W)=>Zqx x k W T (U x s) (X.below hb);have G:=Zxi Q;have F:=Zxi V;obtain⟨K,R⟩:∃K:Int,((k+1:Nat):Int)=K:=⟨_,rfl⟩;rw[R]at y |-;obtain⟨i0,hi,L,M,N⟩:=info_parts info3;clear T U Q V X R;go_enter func86,ntmps86;go_wp2;go_loopw [6,13] (fun v i wr=>∃j:Nat,j<=n/\i=.int .i64 j/\Hid (wr.ownsRow w.heap.size 3 1 v j ((l.take j).map (Value.int .i64)))/\Below w.heap.size w wr)(fun _ i _=>n-(intOf i).toNat);case atStart=>exact⟨0,Zzx _,rfl,Zxi (World.ownsRow_nil _ _ _ _),ZwJ _ _⟩
 case round=>
  obtain⟨j,hj,rfl,a,g⟩:=hrel;obtain⟨A5,c5,rfl⟩:=Z6 a.out;by_cases I:j<n
  ·have aB:(j:Int)<(n:Int):=by omega
   obtain⟨x,s⟩:∃x,l[j]?=some x:=⟨_,ZxX (by rw[F.out];exact I)⟩;obtain⟨b,o,rfl,aA,S⟩:=G.out.below g j (Lib.itoa x) (by rw[Zx1,s];rfl);have y0:=S 0 _ rfl;simp only[Zy6,Zzn]at y0;have H:=Zxi (y.out x (ZyD s) wr g);have J:=Zxi (show (l.take (j+1)).map (Value.int .i64)=(l.take j).map (Value.int .i64)++[.int .i64 x]by rw[ZyV,s];simp);clear S s;go_wp2_with (first
    |(go_at_call 113;refine H.out.mono ?_;rintro e w2 ⟨rfl,m⟩;(have z:=Zxi (ZP a.out m));(have h:=via g m);clear m)|(at_builtin;refine wpList_append_own _ rfl _ _ 31 rfl w.heap.size 3 i0 (.int .i64 0) 1 8 underlying31 hi L M N rfl (by decide) _ _ _ rfl (z.out.alloc _) ⟨w2.heap.size,0,none⟩ 1 1 [.int .i64 x] rfl rfl ?c1 ?c2 ?c3 ?c4 ?c5 ?_));try (case c1=>exact Zbp _ [.int .i64 x] _ (by simp))
   case c2=>first|rfl|(intro u Y;simp at Y;subst Y;rfl)
   case c3=>first|omega|(unfold maxLen;omega)
   case c4=>omega
   case c5=>have:=h.size;first|omega|(simp;omega)
   intro v' Z d E _;have r:=Zxi (show Z.ownsRow w.heap.size 3 1 v' (j+1) ((l.take (j+1)).map (Value.int .i64))from by rw[J.out,List.map_take];exact d);have D:Below w.heap.size w Z:=Z3 (via h (ZC _ _)) E fun b e=>by have:=(z.out.lt b e).1;omega
   clear d E;go_wp2;go_roundw;case rel=>exact⟨j+1,by omega,by go_num,r.out,D⟩
   case measure=>simp[intOf]<;>omega
  ·obtain rfl:n=j:=by omega
   have C:=Zxi (show l.take n=l by rw[<-F.out,ZyW]);go_wp2;go_ret2;exact⟨⟨A5,c5,rfl,by have:=a.out;rwa [C.out]at this⟩,g⟩
end Go.Proofs
namespace Go.Proofs
open Go.RowKit
theorem Zgr{w:World} {base:Nat} {e:TypeId} {a n c:Nat} {A:Option Addr} {xs:List Value} (h:w.ownsRow base e a (.slice A n c) n xs):n<=c:=by
 rcases h.2 with⟨h,r⟩|⟨g,d,i,j,s,u,m,-⟩;·omega
 ·cases j;exact m
end Go.Proofs
namespace Go.Proofs
open Tryz
open Go.RowKit
theorem ZlD{P:Program} {α:Type} {sz:Nat} {cs:α->List Value} (C:∀y,(cs y).length=sz)(hp:0<sz) {x:World} {t ty e:TypeId} {i:TypeInfo} {z:Value} {d:Nat} (J:P.underlying t=some (.slice e))(hi:P.info? e=some i)(hz:i.zero=some z)(hs:i.size=sz)(K:z.cells.size=sz)(G:i.bytes=d)(E:d<=1000)(b base:Nat)(s:base<=b)(u:x.heap[b]?=some (.cells #[] e (0,0)))(F:base<=x.heap.size) {l:List α} {A:Option Addr} (c n:Nat)(S:l.length=n)(j:At sz cs x A l)(O:l.length<=1000):∃M N L,(Builtin.append_ #[t,t] ty #[.slice (some ⟨b,0,none⟩) 0 0,.slice A n c]).run P x=.ok (.slice M n N) L/\Below x.heap.size x L/\L.ownsRow base e sz (.slice M n N) n (l.flatMap cs):=by subst S;cases l with
 |nil=>refine⟨some ⟨b,0,none⟩,0,x,?_,ZwJ _ _,by simp,.inr ⟨b,0,#[],rfl,s,u,Zza _,Zzx _,by simp,by simp⟩⟩;cases A with
  |none=>simp[Builtin.append_,run_underlying J,sizeOf,typeInfo,hi,Builtin.lenOf,Builtin.firstCells,loadCells,loadCellsFrom,storeCells]|some a=>simp[Builtin.append_,run_underlying J,sizeOf,typeInfo,hi,Builtin.lenOf,Builtin.firstCells,loadCells,loadCellsFrom,storeCells]
 |cons y l'=>
  obtain⟨l,m⟩:∃l,y::l'=l:=⟨_,rfl⟩;have T:0<l.length:=by rw[<-m];simp
  rw[m]at j O |-;obtain⟨a,rfl⟩:∃a,A=some a:=by obtain⟨U,V,h,-⟩:=j 0 y (by rw[<-m];rfl);exact⟨_,h⟩
  have g:=Zgm cs sz C l;have r:=Ziu C j;have R:l.length*d<=1000*1000:=Zzl O E;subst hs;subst G;have Q:=run_append_grow (P:=P) (w:=x) t ty e i z J hi hz ⟨b,0,none⟩ 0 0 [] (by simp) (by simp) a l.length c (l.flatMap cs) g r (by omega) (by omega) (growslice_fits (by omega) (by rw[Zzw];omega));simp only[Zzw]at Q;have I:=grownCap_ge x l.length 0 e;have H:grownCap x l.length 0 e<=maxLen:=grownCap_le_maxLen x l.length 0 e (by unfold maxLen;omega);have D:Below x.heap.size x (x.drew.alloc (.cells (([]:List Value).toArray++(l.flatMap cs).toArray++Builtin.zeroCells z.cells (grownCap x l.length 0 e-l.length)) e)):=((ZwJ _ x).drew).alloc (by simp) _;refine⟨_,_,_,Q,D,g,.inr ⟨x.heap.size,_,_,rfl,F,heap_alloc_new x.drew _,I,H,?_,?_⟩⟩;·simp only[Array.size_append,ZyT,size_zeroCells,K,g,Zyg,Zzw,<-Zy3];congr 1;omega
  ·simp only[Array.toList_append,ZyJ];rw[<-g];exact List.take_left
section
variable {P:Program} {ops:Array Oper}
theorem ZlE{rest:List Oper} {o:Oper} {a:Act} {x e:World} {v1 v2 d:Value} {Q:Exit->Act->World->Prop} (c:o.guard=none)(s y:Operand)(t:TypeId)(i:o.op=.call {callee:=.builtin .append,args:=#[s,y],argTypes:=#[t,t]})(hs:a.eval s=v1)(m:a.eval y=v2)(j:(Builtin.append_ #[t,t] o.type #[v1,v2]).run P x=.ok d e)(h:wpList P ops Q rest (a.put o.dst d) e):wpList P ops Q (o::rest) a x:=by refine wpList_plain c fun K g=>?_;unfold Oper.wp execOp;simp only[i,resolve,invoke,builtin,Sem.run_bind,Sem.run_pure,Result.andThen_ok,Zyt,Zyp,Zyr,hs,m,j];exact g _ _ h
end
theorem Zqz(A:Option Addr)(l:List Int)(c n:Nat)(w:World)(g:At 1 Zc w A l)(D:l.length=n)(E:n<=1000):Calls prog 41 #[.slice A n c] w fun e w'=>(∃m r,e=.returned (.slice m n r)/\w'.ownsRow w.heap.size 3 1 (.slice m n r) n (l.flatMap Zc))/\Below w.heap.size w w':=by obtain⟨F,y,h,i,j⟩:=info_parts info3;obtain⟨m,r,G,z,C,a⟩:=ZlD (P:=prog) (sz:=1) (cs:=Zc) (x:=w.alloc (.cells #[] 3 (0,0))) (t:=31) (ty:=31) (e:=3) (fun _=>rfl) (by decide) underlying31 y h i rfl j (by decide) w.heap.size w.heap.size (Zza _) (ZA _ _ rfl) (by simp) c n D (g.below (ZC _ _)) (by omega);have u:=Zxi z;have d:=Zxi a;have s:=via (ZC _ _) C;clear z a y h i j g;go_enter func41,ntmps41;go_wp2_with (at_builtin;refine ZlE rfl _ _ 31 rfl rfl rfl u.out ?_);go_ret;exact⟨⟨m,r,rfl,d.out⟩,s⟩
theorem ZqA(pA eA:Option Addr)(Z R F d:Nat)(ps:List Pa)(es:List En)(w:World)(hB:BookAt w pA Z ps eA R es)(hF:FewB ps es)(aM:ps.length=F)(V:es.length=d)(bI:d<=900):Calls prog 11 #[.agg #[.slice pA F Z,.slice eA d R]] w fun e w'=>(∃A c A2 c2 es2,e=.returned (.agg #[.slice A F c,.slice A2 d c2])/\es2.length=d/\es2.map En.sig=es.map En.sig/\w'.ownsRow w.heap.size 101 5 (.slice A F c) F (ps.flatMap Pa.cs)/\EnsOwn w' w.heap.size (.slice A2 d c2) es2)/\Below w.heap.size w w':=by
 obtain⟨j0,ji,aP,aQ,aR⟩:=info_parts Zll;obtain⟨Ap,cp,w2,hr,U,S⟩:=ZlD (P:=prog) (sz:=5) (cs:=Pa.cs) (x:=((w.alloc (.cells #[.slice pA F Z,.slice eA d R] 25 (0,0))).alloc (.cells #[.slice none 0 0,.slice none 0 0] 25 (0,0))).alloc (.cells #[] 101 (0,0))) (t:=22) (ty:=22) (e:=101) (fun _=>rfl) (by decide) (by first|exact underlying22|kernel_rfl) ji aP aQ rfl aR (by decide) (w.heap.size+2) (w.heap.size+2) (Zza _) (ZA _ _ (by simp)) (by simp) Z F aM (hB.P.below (by go_grown)) (by have:=hF.p;omega);have aV:=Zxi hr;have M0:=Zw U (by(repeat (first|assumption|(refine ZA _ _ ?_;(simp;done))|refine ZD ?_|refine Zz ?_ _|refine ZB ?_ (by simp<;>omega) _)):(((w.alloc (.cells #[.slice pA F Z,.slice eA d R] 25 (0,0))).alloc (.cells #[.slice none 0 0,.slice none 0 0] 25 (0,0))).alloc (.cells #[] 101 (0,0))).heap[w.heap.size]?=some (.cells #[.slice pA F Z,.slice eA d R] 25 (0,0)));have M1:=Zw U (by(repeat (first|assumption|(refine ZA _ _ ?_;(simp;done))|refine ZD ?_|refine Zz ?_ _|refine ZB ?_ (by simp<;>omega) _)):(((w.alloc (.cells #[.slice pA F Z,.slice eA d R] 25 (0,0))).alloc (.cells #[.slice none 0 0,.slice none 0 0] 25 (0,0))).alloc (.cells #[] 101 (0,0))).heap[w.heap.size+1]?=some (.cells #[.slice none 0 0,.slice none 0 0] 25 (0,0)));have aG:Below w.heap.size w w2:=via (by go_grown) U;have bF:=ZI M1;have bG:=U.size;clear hr ji aP aQ aR U;have bJ:d<=R:=by rw[<-V];exact hB.ec'
 have aA:=Zxi hB.E;have bE:=Zxi hB.nil;have N:=Zxi V;have aI:=Zxi hF.co;obtain⟨i0,hi,bA,bB,bD⟩:=info_parts Ziv;have aW:∀x,(sizeOf 25).run prog x=.ok 2 x:=fun x=>by kernel_rfl
 have aT:∀x,(isAgg 25).run prog x=.ok true x:=fun x=>by kernel_rfl
 clear hB hF aM V;go_enter func11,ntmps11;have S:=Zxi S;have D0:=bk2 M0;go_wp2_with (at_builtin;refine ZlE rfl _ _ 22 rfl rfl rfl aV.out ?_);go_loopw [4] (fun i wr=>∃j:Nat,∃v:Value,∃H:List En,j<=d/\i=.int .i64 j/\wr.heap[w2.heap.size]?=some (.cells #[.slice Ap F cp,v] 25 (0,0))/\Hid (H.length=j)/\Hid (H.map En.sig=(es.take j).map En.sig)/\Hid (EnsOwn wr (w2.heap.size+1) v H)/\Below w2.heap.size w2 wr)(fun i _=>d-(intOf i).toNat);case atStart=>exact⟨0,.slice none 0 0,[],Zzx _,rfl,by(repeat (first|assumption|(refine ZA _ _ ?_;(simp;done))|refine ZD ?_|refine Zz ?_ _|refine ZB ?_ (by simp<;>omega) _)),Zxi rfl,Zxi rfl,Zxi (EnsOwn.nil _ _),by go_grown⟩
 case round=>
  obtain⟨j,v,H,hj,rfl,M3,D,aO,z,C⟩:=hrel;have s:=z.out.own;rw[D.out]at s;obtain⟨A5,c5,rfl⟩:=Z6 s;clear s;have aF:Below w.heap.size w wr:=via aG C;have D0:=bk2 (Zw C M0);have D1:=bk2 (Zw C M1);have D3:=bk2 M3;have bL:=ZI M3;by_cases aU:j<d
  ·have bK:(j:Int)<(d:Int):=by omega
   obtain⟨x,hx⟩:∃x,es[j]?=some x:=⟨_,ZxX (by rw[N.out];exact aU)⟩;have Y:=ZyD hx;obtain⟨b,o,rfl,bH,hc⟩:=(aA.out.below aF).1 j x hx;have y0:=hc 0 _ rfl;have y1:=hc 1 _ rfl;have y2:=hc 2 _ rfl;simp only[Zy6]at y0;obtain⟨L,hL⟩:∃L,x.co.length=L:=⟨_,rfl⟩;have aS:=Zxi fun W (U:Below wr.heap.size wr W)=>Zqz x.A x.co x.c L W (((aA.out.below aF).2 x Y).below U) hL (by rw[<-hL];exact aI.out x Y);have M:=Zxi (show (es.take (j+1)).map En.sig=(es.take j).map En.sig++[x.sig]by rw[ZyV,hx];simp);have aD:=Zxi hL;have bM:wr.cell? ⟨b,o+j*3+1,none⟩=some (.slice x.A L x.c):=by rw[<-hL];exact y1
   clear hc hx Y y1 hL;go_wp2_with (first
    |(go_at_call 41;refine(aS.out _ (ZC _ _)).mono ?_;rintro e G ⟨⟨m,n,rfl,aE⟩,J⟩;(have Q3:=Zw J (Zz M3 (.cells #[.string x.nm,.slice x.A L x.c,.int .i64 x.mo] 71 (0,0))));(have Q5:=Zw J (ZA wr (.cells #[.string x.nm,.slice x.A L x.c,.int .i64 x.mo] 71 (0,0)) rfl));(have E3:=bk2 Q3);(have E5:=bk3 Q5);(have Q:=via (ZC wr (.cells #[.string x.nm,.slice x.A L x.c,.int .i64 x.mo] 71 (0,0))) J);(have I:Below wr.heap.size wr ((G.setCell ⟨wr.heap.size,1,none⟩ (.slice m L n))):=Q.trans (((OnlyB.refl wr.heap.size G).set 1 _).below _ (Zza _)));(have a:=Zxi (z.out.below (via I (ZC ((G.setCell ⟨wr.heap.size,1,none⟩ (.slice m L n))) (.cells #[.string x.nm,.slice m L n,.int .i64 x.mo] 71 (0,0))))));(have y:=Zxi aE);clear aE J)|(at_builtin;refine Zln rfl (.tmp 28) (.tmp 30) 23 71 i0 _ (.slice A5 j c5) 48 (w2.heap.size+1) j G.heap.size 3 (H.flatMap En.cs) [.string x.nm,.slice m L n,.int .i64 x.mo] 71 rfl rfl rfl (by kernel_rfl) hi bA bB bD rfl (by decide) (by decide) rfl ?c1 ?c2 ?c3 ?c4 ?c5 ?_));case c1=>have:=a.out.own;rwa [D.out]at this
   case c2=>exact ZA _ _ (by simp)
   case c3=>simp[Value.oneCell']
   case c4=>omega
   case c5=>have:=a.out;have:=I.size;simp at this |-;omega
   intro v' w8 X K aJ;obtain⟨A8,c8,rfl⟩:=Z6 X;have aX:((G.setCell ⟨wr.heap.size,1,none⟩ (.slice m L n))).heap.size=G.heap.size:=ZdQ _ _ _;have aK:∀g,m=some g->wr.heap.size+1<=g.block/\g.block<G.heap.size:=fun g e=>by have:=y.out.lt g.block (by rw[e];rfl);simp only[World.size_alloc]at this;exact this
   have o7:=ZP (Zap y.out fun r e=>((OnlyB.refl wr.heap.size G).set 1 (.slice m L n)).other r (by have:=(y.out.lt r e).1;simp at this;omega)) (ZC ((G.setCell ⟨wr.heap.size,1,none⟩ (.slice m L n))) (.cells #[.string x.nm,.slice m L n,.int .i64 x.mo] 71 (0,0)));have o5:=a.out.own;rw[D.out]at o5;have O:=fun r e=>(z.out.own.lt r e).2;have aB:EnsOwn w8 (w2.heap.size+1) (.slice A8 (j+1) c8) (H++[⟨x.nm,m,n,x.co,x.mo⟩]):=by
    refine EnsOwn.push a.out (x:=⟨x.nm,m,n,x.co,x.mo⟩) (ZcS o7 aD.out) (ZdP o7) (fun g e=>?_) K ?_ ?_
    ·have h1:=aK g e;refine⟨by omega,?_,fun h=>?_⟩;·simp;omega
     ·have:=O _ h.symm;omega
    ·have:=X;simp only[D.out,En.cs,aD.out];exact this
    ·rcases aJ with h|h;·exact .inl h
     ·exact .inr (by rw[h];simp)
   have R3:=ZaM K (Zz (Zfj (i:=1) (u:=.slice m L n) Q3 (show w2.heap.size≠wr.heap.size by omega)) (.cells #[.string x.nm,.slice m L n,.int .i64 x.mo] 71 (0,0))) (ZaL o5 (Nat.lt_succ_self _));have aH:Below w2.heap.size w2 w8:=Z3 ((C.trans (I.mono (by omega))).trans ((ZC ((G.setCell ⟨wr.heap.size,1,none⟩ (.slice m L n))) (.cells #[.string x.nm,.slice m L n,.int .i64 x.mo] 71 (0,0))).mono (by omega))) K fun b e=>by have:=(o5.lt b e).1;omega
   have aC:=Zxi aB;clear aB o7 o5 O aK aX X K aJ a y I Q;have F8:=bk2 R3;obtain⟨aY,aZ⟩:Hid ((H++[(⟨x.nm,m,n,x.co,x.mo⟩:En)]).length=j+1)/\Hid ((H++[(⟨x.nm,m,n,x.co,x.mo⟩:En)]).map En.sig=(es.take (j+1)).map En.sig):=⟨Zxi (by simp[D.out]),Zxi (by rw[M.out,Zyn,aO.out];rfl)⟩;go_wp2;go_roundw;case rel=>exact⟨j+1,_,_,by omega,by go_num,ZG (o:=1) R3 (.slice A8 (j+1) c8) rfl,aY,aZ,Zxi (aC.out.other (Nat.lt_succ_self _) ((OnlyB.refl _ _).set _ _) (by simp)),aH.trans (((OnlyB.refl w2.heap.size w8).set 1 _).below _ (Zza _))⟩
   case measure=>simp[intOf]<;>omega
  ·obtain rfl:d=j:=by omega
   have M:H.map En.sig=es.map En.sig:=by rw[aO.out,<-N.out,ZyW]
   have aN:=Zxi M;have aL:=Zxi (ZP S.out C);clear M;go_wp2;refine bodyPost_ret (v:=.agg #[.slice Ap F cp,.slice A5 d c5]) ?_ rfl ⟨⟨Ap,cp,A5,c5,H,rfl,D.out,aN.out,?_,?_⟩,?_⟩;·exact ZdM (p:=2) (ad:=⟨w.heap.size+1,0,none⟩) rfl (by rfl) (Zac (T:=25) (cs:=[.slice Ap F cp,.slice A5 d c5]) (aT _) (aW _) (ZG (ZG (Zw C M1) _ rfl) _ rfl))
   ·exact Za5 (Zap aL.out fun r e=>(((OnlyB.refl (w.heap.size+1) wr).set _ _).set _ _).other r (by have:=(aL.out.lt r e).1;omega)) (by omega)
   ·exact(z.out.other (k:=w.heap.size+1) (by omega) (((OnlyB.refl _ _).set _ _).set _ _) (by simp)).base (by omega)
   ·go_grown
end Go.Proofs
namespace Go.Proofs
open Go.RowKit
section
variable {P:Program}
def Zdf(w0 w:World)(a:Nat)(x:World):Prop:=Below w0.heap.size w0 x/\w.heap.size<=x.heap.size/\∀k,k<w.heap.size->k≠a->x.heap[k]?=w.heap[k]?
theorem ZlF{Q:Exit->Act->World->Prop} {a0:Act} {w:World} {l:List Oper} (w0:World)(p:Nat)(a:Nat)(H I:Obj)(s:Act)(hB:Zay l.toArray=true) (hB':Zay (mixL [p] (fun _ _=>undef) (fun _=>Gh.zero) 0 l).toArray=true) (hS:Region.noSelect l.toArray=true) (hN:spB l.toArray [p]=true)(hkd:(match l[p]? with|some o=>o.dst.isNone|_=>false)=true)(hw:Below w0.heap.size w0 w)(hb:w0.heap.size<=a)(h4:w.heap[a]?=some H)(hs4:∀o,l[p]?=some o->∀x,Zdf w0 w a x->x.heap[a]?=some H->∃d,(execOp s.eval o).run P x=.ok .skip d/\OnlyB a x d/\d.heap[a]?=some I)(hq:∀u,Zdf w0 w a u->(∀(x:Grew u)(b o:Nat),b<u.heap.size->x.val.cell? ⟨b,o,none⟩=u.cell? ⟨b,o,none⟩)->wpQuiet P (mixL [p] (fun _ _=>undef) (fun _=>Gh.zero) 0 l).toArray (fun w'=>∃x:Grew u,w'=x.val) (fun K=>K=s) (mixL [p] (fun _ _=>undef) (fun _=>Gh.zero) 0 l) a0)(hend:∀x,Zdf w0 w a x->x.heap[a]?=some I->Q .normal s x):wpAny P .any l.toArray Q l.toArray.size (Array.replicate l.toArray.size false) a0 {w with drawn:=w.drawn+1}:=by
 have n:∀j∈[p],∀o,l[j]?=some o->o.dst=none:=by cases C:l[p]? with
  |none=>rw[C]at hkd;simp at hkd|some o1=>rw[C]at hkd;simp only[Option.isNone_iff_eq_none]at hkd;intro j m o i;rw[ZyH]at m;subst m;rw[C]at i;cases i;exact hkd
 have G:∀{x d:World},Zdf w0 w a x->OnlyB a x d->Zdf w0 w a d:=fun {x d} h i=>⟨h.1.trans (i.below _ hb),Zzb h.2.1 (i.below 0 (Zzx _)).size,fun k A c=>(i.other k c).trans (h.2.2 k A c)⟩;have F:∀{x d:World},Zdf w0 w a x->Below x.heap.size x d->Zdf w0 w a d:=fun {x d} h e=>⟨via h.1 e,Zzb h.2.1 e.size,fun k A c=>(e.block k (Zzf A h.2.1)).trans (h.2.2 k A c)⟩;have r:∀g g',mixL [p] (fun _ _=>undef) g 0 l=mixL [p] (fun _ _=>undef) g' 0 l:=fun g g'=>by apply ZxI;intro j;have c:=ZcL [p] (fun _ _=>undef) g l 0 j;have R:=ZcL [p] (fun _ _=>undef) g' l 0 j;rw[c,R]
 refine ZdO w0 (Zdf w0 w a) [p] (fun _ _=>undef) (fun L g x=>x.heap[a]?=some (if L p then I else H)) (fun _=>s) hB (fun g=>by rw[r g (fun _=>Gh.zero)];exact hB') hS hN
  ⟨hw,Zza _,fun _ _ _=>rfl⟩ (fun x d h hb=>F h hb) (fun x h=>h.1) ?_ ?_ (fun g u O E _ _=>by rw[r g (fun _=>Gh.zero)];exact hq u O E) (fun _ _ _ _=>rfl) ?_ ?_;·intro L h;rw[h p (by simp)];exact h4
 ·rintro L V g x d h c e;rw[h p (by simp)];exact Zw e c
 ·intro j m o i L g x c y D M z J;have N:=n j m o i;rw[ZyH]at m;subst m;rw[M]at c;obtain⟨d,S,T,U⟩:=hs4 o i x y c;refine Zc7 S ⟨G y T,.inl ⟨N,?_⟩⟩;rw[Za6];exact U
 ·rintro g x c y D;simp only[if_true]at c;exact hend x y c
theorem ZlG{Q:Exit->Act->World->Prop} {a0:Act} {w:World} {l:List Oper} (w0:World)(c:Act)(hB:Zay l.toArray=true) (hB':Zay (mixL [] (fun _ _=>undef) (fun _=>Gh.zero) 0 l).toArray=true) (hS:Region.noSelect l.toArray=true) (hN:spB l.toArray []=true) (hw:Below w0.heap.size w0 w)(hq:∀u,Below w.heap.size w u->(∀(x:Grew u)(b o:Nat),b<u.heap.size->x.val.cell? ⟨b,o,none⟩=u.cell? ⟨b,o,none⟩)->wpQuiet P (mixL [] (fun _ _=>undef) (fun _=>Gh.zero) 0 l).toArray (fun w'=>∃x:Grew u,w'=x.val) (fun i=>i=c) (mixL [] (fun _ _=>undef) (fun _=>Gh.zero) 0 l) a0)(hend:∀x,Below w.heap.size w x->Q .normal c x):wpAny P .any l.toArray Q l.toArray.size (Array.replicate l.toArray.size false) a0 {w with drawn:=w.drawn+1}:=by
 have a:∀g g',mixL [] (fun _ _=>undef) g 0 l=mixL [] (fun _ _=>undef) g' 0 l:=fun g g'=>by apply ZxI;intro j;have s:=ZcL [] (fun _ _=>undef) g l 0 j;have y:=ZcL [] (fun _ _=>undef) g' l 0 j;rw[s,y]
 exact ZdO w0 (fun x=>Below w.heap.size w x) [] (fun _ _=>undef) (fun _ _ _=>True) (fun _=>c) hB (fun g=>by rw[a g (fun _=>Gh.zero)];exact hB') hS hN (ZwJ _ _) (fun x z h m=>h.trans (m.mono h.size)) (fun x h=>via hw h) (fun _ _=>trivial) (fun _ _ _ _ _ _ _ _=>trivial) (fun g u n d _ _=>by rw[a g (fun _=>Gh.zero)];exact hq u n d) (fun j e=>by cases e) (fun j e=>by cases e) (fun g x _ r _=>hend x r)
end
end Go.Proofs
namespace Go.Proofs
open Tryz
open Go.RowKit
theorem ZqB(A D:Option Addr)(l:List Int)(c c2 n:Nat)(w:World)(E:At 1 Zc w A l)(F:At 1 Zc w D l)(I:l.length=n)(R:n<=1000):Calls prog 35 #[.slice A n c,.slice D n c2] w fun e w'=>e=.returned (.bool true)/\Below w.heap.size w w':=by
 have y:=Zxi I;have h:=Zxi E;have j:=Zxi F;clear I E F;go_enter func35,ntmps35;go_wp2;go_loopw [5] (fun i wr=>∃k:Nat,k<=n/\i=.int .i64 k/\Below w.heap.size w wr)(fun i _=>n-(intOf i).toNat);case atStart=>exact⟨0,Zzx _,rfl,by go_grown⟩
 case round=>
  obtain⟨k,Q,rfl,d⟩:=hrel;by_cases u:k<n
  ·have L:(k:Int)<(n:Int):=by omega
   have K:(0:Int)<=(k:Int):=by omega
   obtain⟨x,C⟩:∃x,l[k]?=some x:=⟨_,ZxX (by rw[y.out];exact u)⟩;obtain⟨b,o,rfl,J,H⟩:=(h.out.below d) k x C;obtain⟨O,o2,rfl,G,g⟩:=(j.out.below d) k x C;have M:=H 0 _ rfl;have N:=g 0 _ rfl;simp only[Zy6,Zzn]at M N;clear H g C;go_wp2;refine Zbc w (by kernel_rfl) (by kernel_rfl) (by go_grown) ?_;intro s r;repeat (go_big_quiet_step (fail))
   refine wpQuiet_nil ?_;intro S m a z;clear s r;go_wp2;go_roundw;case rel=>exact⟨k+1,by omega,by go_num,a⟩
   case measure=>simp[intOf]<;>omega
  ·obtain rfl:n=k:=by omega
   go_wp2;go_ret;exact⟨rfl,by go_grown⟩
theorem ZqC(den lev:Int)(A d:Option Addr)(l:List Int)(c c2 n:Nat)(w:World)(h:At 1 Zc w A l)(i:At 1 Zc w d l)(r:l.length=n)(m:n<=1000):Calls prog 14 #[.agg #[.int .i64 den,.int .i64 lev,.slice A n c],.agg #[.int .i64 den,.int .i64 lev,.slice d n c2]] w fun e w'=>e=.returned (.bool true)/\Below w.heap.size w w':=by have s:=Zxi fun W (j:Below w.heap.size w W)=>ZqB A d l c c2 n W (h.below j) (i.below j) r m;clear h i r m;go_enter func14,ntmps14;go_wp2_with (go_at_call 35;refine(s.out _ (by go_grown)).mono ?_;rintro e w2 ⟨rfl,g⟩;(have a:Below w.heap.size w w2:=via (by go_grown) g));go_ret;exact⟨rfl,a⟩
end Go.Proofs
namespace Go.Proofs
open Go.RowKit
variable {nm:List UInt8} {k ag v den lev:Int} {W:List Int}
def Zg6:List UInt8:=[109,101,97,110]
def Zg7:List UInt8:=[115,104,97,114,101]
def ZbQ(nm:List UInt8)(k ag v den lev:Int)(W:List Int):List (List UInt8):=nm::((if k=1 then [Zg7,Lib.itoa ag]else [Zg6])++(Lib.itoa v::Lib.itoa den::Lib.itoa lev::W.map Lib.itoa))
structure NumsR (ag v den lev:Int)(W:List Int):Prop where
 ag:0<=ag/\ag<=400
 v:0<=v/\v<=1000
 den:1<=den/\den<=1000000000000
 lev:lev.natAbs<=1000000000000
 wt:∀x∈W,0<=x/\x<=1000000000000
 n:W.length<=8
theorem ZfO(n:Int)(h:n.natAbs<=1000000000000):(Lib.itoa n).length<=14:=(ZiH 12 n (by omega)).1
theorem Znm(e:nm.length<=20)(c:NumsR ag v den lev W):(ZbQ nm k ag v den lev W).length<=14/\5<=(ZbQ nm k ag v den lev W).length/\∀x∈ZbQ nm k ag v den lev W,x.length<=20:=by
 have d:=c.n;unfold ZbQ;refine⟨?_,?_,fun x a=>?_⟩;·split<;>simp<;>omega
 ·split<;>simp
 ·rcases Zyx.1 a with rfl|a;·exact e
  rcases Zyu.1 a with a|a
  ·split at a
   ·simp only[Zyx,ZyN,or_false]at a;rcases a with rfl|rfl;·decide
    ·have:=ZfO ag (by have:=c.ag;omega);omega
   ·simp only[Zyx,ZyN,or_false]at a;subst a;decide
  ·simp only[Zyx,ZyC]at a;rcases a with rfl|rfl|rfl|⟨y,g,rfl⟩;·have:=ZfO v (by have:=c.v;omega);omega
   ·have:=ZfO den (by have:=c.den;omega);omega
   ·have:=ZfO lev c.lev;omega
   ·have:=ZfO y (by have:=c.wt y g;omega);omega
theorem ZtS(d:nm.length<=20)(c:NumsR ag v den lev W):(Lib.join (ZbQ nm k ag v den lev W) [32]).length<=1000:=by obtain⟨e,-,a⟩:=Znm (k:=k) d c;have:=ZlB 20 _ a;omega
structure EnTy (w:World)(base:Nat)(v:Value)(xs:List En):Prop where
 own:w.ownsRow base 71 3 v xs.length (xs.flatMap En.cs)
 row:∀x∈xs,At 1 Zc w x.A x.co/\(x.A=none->x.c=0)/\∀g,x.A=some g->∃cur fr,w.heap[g.block]?=some (.cells cur 3 fr)
end Go.Proofs
namespace Go.Proofs
open Tryz
open Go.RowKit
def Zck(ps:List Pa)(es:List En)(k ag den lev:Int)(W:List Int):Int:=if ZaD ps es k ag≠0 then ZaD ps es k ag else if Za0 es.length den lev W≠0 then Za0 es.length den lev W else if ZaH (Z0 ps k ag) es den lev W then 0 else 20
def Zb4(ps:List Pa)(es:List En)(k ag den lev:Int)(W:List Int):Int×Int:=if Zck ps es k ag den lev W=0 then ((lev-spentL (exs es) W) / ZaC (lev-spentL (exs es) W) den,den / ZaC (lev-spentL (exs es) W) den)else (0,0)
theorem Zp3(r m A:Option Addr)(s n y C c g:Nat)(ps:List Pa)(es:List En)(k ag den lev:Int)(W:List Int)(w:World)(hB:BookAt w r s ps m n es)(hF:FewB ps es)(S:ps.length=y)(F:es.length=C)(hW:At 1 Zc w A W)(U:W.length=g)(hl:g<=1000000):Calls prog 43 #[.agg #[.slice r y s,.slice m C n],.agg #[.int .i64 k,.int .i64 ag],.agg #[.int .i64 den,.int .i64 lev,.slice A g c]] w fun e w'=>e=.returned (.tuple #[.agg #[.int .i64 (Zb4 ps es k ag den lev W).1,.int .i64 (Zb4 ps es k ag den lev W).2],.int .i64 (Zck ps es k ag den lev W)])/\Below w.heap.size w w':=by
 have Q:=Zxi fun W (hb:Below w.heap.size w W)=>ZkI r m s n y C ps es k ag W (hB.below hb) hF S F;have R:=Zxi fun x (hb:Below w.heap.size w x)=>by have h:=Zlg r m A s n y C c den lev W x (hW.below hb) (by omega) (by rw[<-F];exact hF.e);rw[U]at h;exact h
 have H:∀x,(sizeOf 30).run prog x=.ok 2 x:=fun x=>by kernel_rfl
 have aG:∀x,(isAgg 30).run prog x=.ok true x:=fun x=>by kernel_rfl
 by_cases Z:ZaD ps es k ag=0;case neg=>
  have e1:Zck ps es k ag den lev W=ZaD ps es k ag:=by unfold Zck;rw[if_pos Z]
  have V:Zb4 ps es k ag den lev W=(0,0):=by unfold Zb4;rw[e1,if_neg Z]
  rw[e1,V];obtain⟨E1,aA⟩:∃x,ZaD ps es k ag=x:=⟨_,rfl⟩;rw[aA]at Z Q |-;clear hB hF S F hW U e1 V aA R;have aN:decide (E1=0)=false:=by simpa using Z
  go_enter func43,ntmps43;go_wp2_with (first|(go_at_call 48;refine(Q.out _ (by go_grown)).mono ?_;rintro e w2 ⟨rfl,a⟩;(have M:=Zw a (show (((((w.alloc (.cells #[.slice r y s,.slice m C n] 25 (0,0))).alloc (.cells #[.int .i64 k,.int .i64 ag] 27 (0,0))).alloc (.cells #[.int .i64 den,.int .i64 lev,.slice A g c] 35 (0,0))).alloc (.cells #[.int .i64 0,.int .i64 0] 30 (0,0)))).heap[w.heap.size]?=some (.cells #[.slice r y s,.slice m C n] 25 (0,0))from by(repeat (first|assumption|(refine ZA _ _ ?_;(simp;done))|refine ZD ?_|refine Zz ?_ _|refine ZB ?_ (by simp<;>omega) _))));(have N:=Zw a (show (((((w.alloc (.cells #[.slice r y s,.slice m C n] 25 (0,0))).alloc (.cells #[.int .i64 k,.int .i64 ag] 27 (0,0))).alloc (.cells #[.int .i64 den,.int .i64 lev,.slice A g c] 35 (0,0))).alloc (.cells #[.int .i64 0,.int .i64 0] 30 (0,0)))).heap[w.heap.size+1]?=some (.cells #[.int .i64 k,.int .i64 ag] 27 (0,0))from by(repeat (first|assumption|(refine ZA _ _ ?_;(simp;done))|refine ZD ?_|refine Zz ?_ _|refine ZB ?_ (by simp<;>omega) _))));(have O:=Zw a (show (((((w.alloc (.cells #[.slice r y s,.slice m C n] 25 (0,0))).alloc (.cells #[.int .i64 k,.int .i64 ag] 27 (0,0))).alloc (.cells #[.int .i64 den,.int .i64 lev,.slice A g c] 35 (0,0))).alloc (.cells #[.int .i64 0,.int .i64 0] 30 (0,0)))).heap[w.heap.size+1+1]?=some (.cells #[.int .i64 den,.int .i64 lev,.slice A g c] 35 (0,0))from by(repeat (first|assumption|(refine ZA _ _ ?_;(simp;done))|refine ZD ?_|refine Zz ?_ _|refine ZB ?_ (by simp<;>omega) _))));(have N3:=Zw a (show (((((w.alloc (.cells #[.slice r y s,.slice m C n] 25 (0,0))).alloc (.cells #[.int .i64 k,.int .i64 ag] 27 (0,0))).alloc (.cells #[.int .i64 den,.int .i64 lev,.slice A g c] 35 (0,0))).alloc (.cells #[.int .i64 0,.int .i64 0] 30 (0,0)))).heap[w.heap.size+1+1+1]?=some (.cells #[.int .i64 0,.int .i64 0] 30 (0,0))from by(repeat (first|assumption|(refine ZA _ _ ?_;(simp;done))|refine ZD ?_|refine Zz ?_ _|refine ZB ?_ (by simp<;>omega) _))));(have i:=via (by go_grown:Below w.heap.size w (((((w.alloc (.cells #[.slice r y s,.slice m C n] 25 (0,0))).alloc (.cells #[.int .i64 k,.int .i64 ag] 27 (0,0))).alloc (.cells #[.int .i64 den,.int .i64 lev,.slice A g c] 35 (0,0))).alloc (.cells #[.int .i64 0,.int .i64 0] 30 (0,0))))) a);clear a;(have C0:=bk2 M);(have C1:=bk2 N);(have C2:=bk3 O))|(refine ZaT (by with_reducible rfl) (.tmp 6) (.tmp 21) 30 (by with_reducible rfl) (w.heap.size+1+1+1) [.int .i64 0,.int .i64 0] [.int .i64 0,.int .i64 0] 30 rfl rfl (H _) N3 rfl (by decide) ?_;intro w5 j G aD;(have E:Below w.heap.size w w5:=Z3 i G fun b e=>(by have:=ZzE e;omega));clear G));refine bodyPost_ret (v:=.tuple #[.agg #[.int .i64 0,.int .i64 0],.int .i64 E1]) ?_ rfl ⟨rfl,E⟩;exact ZaB (p:=6) (u:=7) (ad:=⟨w.heap.size+1+1+1,0,none⟩) (v:=.agg #[.int .i64 0,.int .i64 0]) rfl (by rfl) (Zac (T:=30) (cs:=[.int .i64 0,.int .i64 0]) (aG _) (H _) j)
 case pos=>
  have h2:=Z;unfold ZaD at h2;have hR:BookR ps es:=ZbU.1 (ZbJ.1 h2 _ (by simp));clear h2;rw[Z]at Q;by_cases h3:Za0 C den lev W=0;case neg=>
   have e1:Zck ps es k ag den lev W=Za0 C den lev W:=by unfold Zck;rw[if_neg (by simp[Z]),F,if_pos h3]
   have V:Zb4 ps es k ag den lev W=(0,0):=by unfold Zb4;rw[e1,if_neg h3]
   rw[e1,V];obtain⟨E1,aA⟩:∃x,Za0 C den lev W=x:=⟨_,rfl⟩;rw[aA]at h3 R |-;clear hB hF S F hW U e1 V aA hR Z;have aN:decide (E1=0)=false:=by simpa using h3
   go_enter func43,ntmps43;go_wp2_with (first|(go_at_call 48;refine(Q.out _ (by go_grown)).mono ?_;rintro e w2 ⟨rfl,a⟩;(have M:=Zw a (show (((((w.alloc (.cells #[.slice r y s,.slice m C n] 25 (0,0))).alloc (.cells #[.int .i64 k,.int .i64 ag] 27 (0,0))).alloc (.cells #[.int .i64 den,.int .i64 lev,.slice A g c] 35 (0,0))).alloc (.cells #[.int .i64 0,.int .i64 0] 30 (0,0)))).heap[w.heap.size]?=some (.cells #[.slice r y s,.slice m C n] 25 (0,0))from by(repeat (first|assumption|(refine ZA _ _ ?_;(simp;done))|refine ZD ?_|refine Zz ?_ _|refine ZB ?_ (by simp<;>omega) _))));(have N:=Zw a (show (((((w.alloc (.cells #[.slice r y s,.slice m C n] 25 (0,0))).alloc (.cells #[.int .i64 k,.int .i64 ag] 27 (0,0))).alloc (.cells #[.int .i64 den,.int .i64 lev,.slice A g c] 35 (0,0))).alloc (.cells #[.int .i64 0,.int .i64 0] 30 (0,0)))).heap[w.heap.size+1]?=some (.cells #[.int .i64 k,.int .i64 ag] 27 (0,0))from by(repeat (first|assumption|(refine ZA _ _ ?_;(simp;done))|refine ZD ?_|refine Zz ?_ _|refine ZB ?_ (by simp<;>omega) _))));(have O:=Zw a (show (((((w.alloc (.cells #[.slice r y s,.slice m C n] 25 (0,0))).alloc (.cells #[.int .i64 k,.int .i64 ag] 27 (0,0))).alloc (.cells #[.int .i64 den,.int .i64 lev,.slice A g c] 35 (0,0))).alloc (.cells #[.int .i64 0,.int .i64 0] 30 (0,0)))).heap[w.heap.size+1+1]?=some (.cells #[.int .i64 den,.int .i64 lev,.slice A g c] 35 (0,0))from by(repeat (first|assumption|(refine ZA _ _ ?_;(simp;done))|refine ZD ?_|refine Zz ?_ _|refine ZB ?_ (by simp<;>omega) _))));(have N3:=Zw a (show (((((w.alloc (.cells #[.slice r y s,.slice m C n] 25 (0,0))).alloc (.cells #[.int .i64 k,.int .i64 ag] 27 (0,0))).alloc (.cells #[.int .i64 den,.int .i64 lev,.slice A g c] 35 (0,0))).alloc (.cells #[.int .i64 0,.int .i64 0] 30 (0,0)))).heap[w.heap.size+1+1+1]?=some (.cells #[.int .i64 0,.int .i64 0] 30 (0,0))from by(repeat (first|assumption|(refine ZA _ _ ?_;(simp;done))|refine ZD ?_|refine Zz ?_ _|refine ZB ?_ (by simp<;>omega) _))));(have i:=via (by go_grown:Below w.heap.size w (((((w.alloc (.cells #[.slice r y s,.slice m C n] 25 (0,0))).alloc (.cells #[.int .i64 k,.int .i64 ag] 27 (0,0))).alloc (.cells #[.int .i64 den,.int .i64 lev,.slice A g c] 35 (0,0))).alloc (.cells #[.int .i64 0,.int .i64 0] 30 (0,0))))) a);clear a;(have C0:=bk2 M);(have C1:=bk2 N);(have C2:=bk3 O))|(go_at_call 70;refine(R.out _ i).mono ?_;rintro e w3 ⟨rfl,d⟩;(have M0:=Zw d M);(have M1:=Zw d N);(have M2:=Zw d O);(have M3:=Zw d N3);(have D:=via i d);clear d C0 C1 C2 M N O;(have D0:=bk2 M0);(have D1:=bk2 M1);(have D2:=bk3 M2))|(refine ZaT (by with_reducible rfl) (.tmp 6) (.tmp 21) 30 (by with_reducible rfl) (w.heap.size+1+1+1) [.int .i64 0,.int .i64 0] [.int .i64 0,.int .i64 0] 30 rfl rfl (H _) M3 rfl (by decide) ?_;intro w5 j G aD;(have E:Below w.heap.size w w5:=Z3 D G fun b e=>(by have:=ZzE e;omega));clear G));refine bodyPost_ret (v:=.tuple #[.agg #[.int .i64 0,.int .i64 0],.int .i64 E1]) ?_ rfl ⟨rfl,E⟩;exact ZaB (p:=6) (u:=7) (ad:=⟨w.heap.size+1+1+1,0,none⟩) (v:=.agg #[.int .i64 0,.int .i64 0]) rfl (by rfl) (Zac (T:=30) (cs:=[.int .i64 0,.int .i64 0]) (aG _) (H _) j)
  case pos=>
   have z:=Zfi.1 h3;rw[h3]at R;have sW:ZM 1000000000000 W:=fun x hx=>by have:=z.w x hx;omega
   have J:=Zxi (show ∀x,Below w.heap.size w x->Calls prog 71 #[.agg #[.slice r y s,.slice m C n],.agg #[.int .i64 k,.int .i64 ag],.agg #[.int .i64 den,.int .i64 lev,.slice A C c]] x fun e w'=>e=.returned (.tuple #[.agg (if ZaH (Z0 ps k ag) es den lev W then #[.int .i64 (lev-spentL (exs es) W),.int .i64 den]else #[.int .i64 0,.int .i64 0]),.bool (ZaH (Z0 ps k ag) es den lev W)])/\Below x.heap.size x w' from fun x hb=>(Zlh r m A s n y C c ps es k ag den lev W x (hB.below hb) hF hR S F (hW.below hb) (by rw[z.len,F]) sW (by have:=z.d1;have:=z.dK;omega) z.lK).mono fun e w' h=>⟨Zli h.1,h.2⟩);have aL:(spentL (exs es) W).natAbs<=8*(1000000000000*20):=by have hs:=Zeh (X:=20) (Y:=1000000000000) (exs es) W 8 hR.right.exs_mo sW;rw[ZyX (by rw[Zaf];exact hR.right.n8),ZyX (by rw[z.len,<-F];exact hR.right.n8)]at hs;exact hs
   have aF:=Zxi fun x=>ZkE (lev-spentL (exs es) W) den x (by have:=z.d1;omega) (by have:=z.lK;omega) (by have:=z.d1;have:=z.dK;omega);have aO:g=C:=by rw[<-U];exact z.len
   subst aO;obtain⟨BD,aE⟩:∃b,lev-spentL (exs es) W=b:=⟨_,rfl⟩;have e0:Zck ps es k ag den lev W=if ZaH (Z0 ps k ag) es den lev W then 0 else 20:=by unfold Zck;rw[if_neg (by simp[Z]),F,if_neg (by simp[h3])]
   cases hH:ZaH (Z0 ps k ag) es den lev W with
   |false=>
    rw[hH]at e0 J;simp only[ZwP,if_false]at e0 J;have V:Zb4 ps es k ag den lev W=(0,0):=by unfold Zb4;rw[e0,if_neg (by decide)]
    rw[e0,V];clear hB hF S F hW U e0 V hR Z h3 z sW aL aF hH aE;go_enter func43,ntmps43;go_wp2_with (first|(go_at_call 48;refine(Q.out _ (by go_grown)).mono ?_;rintro e w2 ⟨rfl,a⟩;(have M:=Zw a (show (((((w.alloc (.cells #[.slice r y s,.slice m g n] 25 (0,0))).alloc (.cells #[.int .i64 k,.int .i64 ag] 27 (0,0))).alloc (.cells #[.int .i64 den,.int .i64 lev,.slice A g c] 35 (0,0))).alloc (.cells #[.int .i64 0,.int .i64 0] 30 (0,0)))).heap[w.heap.size]?=some (.cells #[.slice r y s,.slice m g n] 25 (0,0))from by(repeat (first|assumption|(refine ZA _ _ ?_;(simp;done))|refine ZD ?_|refine Zz ?_ _|refine ZB ?_ (by simp<;>omega) _))));(have N:=Zw a (show (((((w.alloc (.cells #[.slice r y s,.slice m g n] 25 (0,0))).alloc (.cells #[.int .i64 k,.int .i64 ag] 27 (0,0))).alloc (.cells #[.int .i64 den,.int .i64 lev,.slice A g c] 35 (0,0))).alloc (.cells #[.int .i64 0,.int .i64 0] 30 (0,0)))).heap[w.heap.size+1]?=some (.cells #[.int .i64 k,.int .i64 ag] 27 (0,0))from by(repeat (first|assumption|(refine ZA _ _ ?_;(simp;done))|refine ZD ?_|refine Zz ?_ _|refine ZB ?_ (by simp<;>omega) _))));(have O:=Zw a (show (((((w.alloc (.cells #[.slice r y s,.slice m g n] 25 (0,0))).alloc (.cells #[.int .i64 k,.int .i64 ag] 27 (0,0))).alloc (.cells #[.int .i64 den,.int .i64 lev,.slice A g c] 35 (0,0))).alloc (.cells #[.int .i64 0,.int .i64 0] 30 (0,0)))).heap[w.heap.size+1+1]?=some (.cells #[.int .i64 den,.int .i64 lev,.slice A g c] 35 (0,0))from by(repeat (first|assumption|(refine ZA _ _ ?_;(simp;done))|refine ZD ?_|refine Zz ?_ _|refine ZB ?_ (by simp<;>omega) _))));(have N3:=Zw a (show (((((w.alloc (.cells #[.slice r y s,.slice m g n] 25 (0,0))).alloc (.cells #[.int .i64 k,.int .i64 ag] 27 (0,0))).alloc (.cells #[.int .i64 den,.int .i64 lev,.slice A g c] 35 (0,0))).alloc (.cells #[.int .i64 0,.int .i64 0] 30 (0,0)))).heap[w.heap.size+1+1+1]?=some (.cells #[.int .i64 0,.int .i64 0] 30 (0,0))from by(repeat (first|assumption|(refine ZA _ _ ?_;(simp;done))|refine ZD ?_|refine Zz ?_ _|refine ZB ?_ (by simp<;>omega) _))));(have i:=via (by go_grown:Below w.heap.size w (((((w.alloc (.cells #[.slice r y s,.slice m g n] 25 (0,0))).alloc (.cells #[.int .i64 k,.int .i64 ag] 27 (0,0))).alloc (.cells #[.int .i64 den,.int .i64 lev,.slice A g c] 35 (0,0))).alloc (.cells #[.int .i64 0,.int .i64 0] 30 (0,0))))) a);clear a;(have C0:=bk2 M);(have C1:=bk2 N);(have C2:=bk3 O))|(go_at_call 70;refine(R.out _ i).mono ?_;rintro e w3 ⟨rfl,d⟩;(have M0:=Zw d M);(have M1:=Zw d N);(have M2:=Zw d O);(have M3:=Zw d N3);(have D:=via i d);clear d C0 C1 C2 M N O;(have D0:=bk2 M0);(have D1:=bk2 M1);(have D2:=bk3 M2))|(go_at_call 71;refine(J.out _ D).mono ?_;rintro e w4 ⟨rfl,K⟩;(have P3:=Zw K M3);(have I:=via D K);clear K)|(refine ZaT (by with_reducible rfl) (.tmp 9) (.tmp 28) 30 (by with_reducible rfl) w4.heap.size [.int .i64 0,.int .i64 0] [.int .i64 0,.int .i64 0] 30 rfl rfl (H _) (ZA _ _ rfl) rfl (by decide) ?_;intro w6 aB L aM;(have Q3:=ZaM L (Zw (ZC _ _) P3) (by have:=ZI P3;simp;omega));(have aC:Below w.heap.size w w6:=Z3 (via I (ZC _ _)) L fun b e=>(by have:=ZzE e;have:=I.size;omega));clear L)|(refine ZaT (by with_reducible rfl) (.tmp 6) (.tmp 32) 30 (by with_reducible rfl) (w.heap.size+1+1+1) [.int .i64 0,.int .i64 0] [.int .i64 0,.int .i64 0] 30 rfl rfl (H _) Q3 rfl (by decide) ?_;intro w5 j G aD;(have E:Below w.heap.size w w5:=Z3 aC G fun b e=>(by have:=ZzE e;omega));clear G));refine bodyPost_ret (v:=.tuple #[.agg #[.int .i64 0,.int .i64 0],.int .i64 20]) ?_ rfl ⟨rfl,E⟩;exact ZaB (p:=6) (u:=7) (ad:=⟨w.heap.size+1+1+1,0,none⟩) (v:=.agg #[.int .i64 0,.int .i64 0]) rfl (by rfl) (Zac (T:=30) (cs:=[.int .i64 0,.int .i64 0]) (aG _) (H _) j)|true=>
    rw[hH]at e0 J;simp only[if_true]at e0 J;have V:Zb4 ps es k ag den lev W=(BD / ZaC BD den,den / ZaC BD den):=by unfold Zb4;rw[e0,if_pos rfl,aE]
    rw[e0,V];rw[aE]at J aF;obtain⟨U1,aI⟩:∃x,BD / ZaC BD den=x:=⟨_,rfl⟩;obtain⟨U2,aJ⟩:∃x,den / ZaC BD den=x:=⟨_,rfl⟩;rw[aI,aJ]at aF |-;clear hB hF S F hW U e0 V hR Z h3 z sW aL hH aE aI aJ;go_enter func43,ntmps43;go_wp2_with (first|(go_at_call 48;refine(Q.out _ (by go_grown)).mono ?_;rintro e w2 ⟨rfl,a⟩;(have M:=Zw a (show (((((w.alloc (.cells #[.slice r y s,.slice m g n] 25 (0,0))).alloc (.cells #[.int .i64 k,.int .i64 ag] 27 (0,0))).alloc (.cells #[.int .i64 den,.int .i64 lev,.slice A g c] 35 (0,0))).alloc (.cells #[.int .i64 0,.int .i64 0] 30 (0,0)))).heap[w.heap.size]?=some (.cells #[.slice r y s,.slice m g n] 25 (0,0))from by(repeat (first|assumption|(refine ZA _ _ ?_;(simp;done))|refine ZD ?_|refine Zz ?_ _|refine ZB ?_ (by simp<;>omega) _))));(have N:=Zw a (show (((((w.alloc (.cells #[.slice r y s,.slice m g n] 25 (0,0))).alloc (.cells #[.int .i64 k,.int .i64 ag] 27 (0,0))).alloc (.cells #[.int .i64 den,.int .i64 lev,.slice A g c] 35 (0,0))).alloc (.cells #[.int .i64 0,.int .i64 0] 30 (0,0)))).heap[w.heap.size+1]?=some (.cells #[.int .i64 k,.int .i64 ag] 27 (0,0))from by(repeat (first|assumption|(refine ZA _ _ ?_;(simp;done))|refine ZD ?_|refine Zz ?_ _|refine ZB ?_ (by simp<;>omega) _))));(have O:=Zw a (show (((((w.alloc (.cells #[.slice r y s,.slice m g n] 25 (0,0))).alloc (.cells #[.int .i64 k,.int .i64 ag] 27 (0,0))).alloc (.cells #[.int .i64 den,.int .i64 lev,.slice A g c] 35 (0,0))).alloc (.cells #[.int .i64 0,.int .i64 0] 30 (0,0)))).heap[w.heap.size+1+1]?=some (.cells #[.int .i64 den,.int .i64 lev,.slice A g c] 35 (0,0))from by(repeat (first|assumption|(refine ZA _ _ ?_;(simp;done))|refine ZD ?_|refine Zz ?_ _|refine ZB ?_ (by simp<;>omega) _))));(have N3:=Zw a (show (((((w.alloc (.cells #[.slice r y s,.slice m g n] 25 (0,0))).alloc (.cells #[.int .i64 k,.int .i64 ag] 27 (0,0))).alloc (.cells #[.int .i64 den,.int .i64 lev,.slice A g c] 35 (0,0))).alloc (.cells #[.int .i64 0,.int .i64 0] 30 (0,0)))).heap[w.heap.size+1+1+1]?=some (.cells #[.int .i64 0,.int .i64 0] 30 (0,0))from by(repeat (first|assumption|(refine ZA _ _ ?_;(simp;done))|refine ZD ?_|refine Zz ?_ _|refine ZB ?_ (by simp<;>omega) _))));(have i:=via (by go_grown:Below w.heap.size w (((((w.alloc (.cells #[.slice r y s,.slice m g n] 25 (0,0))).alloc (.cells #[.int .i64 k,.int .i64 ag] 27 (0,0))).alloc (.cells #[.int .i64 den,.int .i64 lev,.slice A g c] 35 (0,0))).alloc (.cells #[.int .i64 0,.int .i64 0] 30 (0,0))))) a);clear a;(have C0:=bk2 M);(have C1:=bk2 N);(have C2:=bk3 O))|(go_at_call 70;refine(R.out _ i).mono ?_;rintro e w3 ⟨rfl,d⟩;(have M0:=Zw d M);(have M1:=Zw d N);(have M2:=Zw d O);(have M3:=Zw d N3);(have D:=via i d);clear d C0 C1 C2 M N O;(have D0:=bk2 M0);(have D1:=bk2 M1);(have D2:=bk3 M2))|(go_at_call 71;refine(J.out _ D).mono ?_;rintro e w4 ⟨rfl,K⟩;(have P3:=Zw K M3);(have I:=via D K);clear K)|(refine ZaT (by with_reducible rfl) (.tmp 9) (.tmp 28) 30 (by with_reducible rfl) w4.heap.size [.int .i64 BD,.int .i64 den] [.int .i64 0,.int .i64 0] 30 rfl rfl (H _) (ZA _ _ rfl) rfl (by simp[Value.oneCell']) ?_;intro w6 aB L aM;(have Q3:=ZaM L (Zw (ZC _ _) P3) (by have:=ZI P3;simp;omega));(have aC:Below w.heap.size w w6:=Z3 (via I (ZC _ _)) L fun b e=>(by have:=ZzE e;have:=I.size;omega));(have C6:=bk2 aB);clear L)|(go_at_call 51;refine(aF.out _).mono ?_;rintro e w7 ⟨rfl,aH⟩;(have S3:=Zw aH Q3);(have aK:=via aC aH);clear aH)|(refine ZaT (by with_reducible rfl) (.tmp 6) (.tmp 37) 30 (by with_reducible rfl) (w.heap.size+1+1+1) [.int .i64 U1,.int .i64 U2] [.int .i64 0,.int .i64 0] 30 rfl rfl (H _) S3 rfl (by simp[Value.oneCell']) ?_;intro w5 j G aD;(have E:Below w.heap.size w w5:=Z3 aK G fun b e=>(by have:=ZzE e;omega));clear G));refine bodyPost_ret (v:=.tuple #[.agg #[.int .i64 U1,.int .i64 U2],.int .i64 0]) ?_ rfl ⟨rfl,E⟩;exact ZaB (p:=6) (u:=7) (ad:=⟨w.heap.size+1+1+1,0,none⟩) (v:=.agg #[.int .i64 U1,.int .i64 U2]) rfl (by rfl) (Zac (T:=30) (cs:=[.int .i64 U1,.int .i64 U2]) (aG _) (H _) j)
theorem ZtT{w:World} {base m c c2 n:Nat} {A j:Option Addr} {ps:List Pa} {ys:List En} (h:w.ownsRow base 101 5 (.slice A m c) m (ps.flatMap Pa.cs))(a:EnTy w base (.slice j n c2) ys)(hm:ps.length=m)(y:ys.length=n):BookAt w A c ps j c2 ys:=by
 subst hm;subst y;have u:=Zgr h;have g:=Zgr a.own;refine⟨?_,⟨?_,fun x i=>(a.row x i).1⟩,u,g,fun x i=>(a.row x i).2.1⟩;·obtain⟨r,s,d,e⟩:=ZdG (cs:=Pa.cs) (sz:=5) (fun _=>rfl) h;cases d;exact e
 ·obtain⟨r,s,d,e⟩:=ZdG (cs:=En.cs) (sz:=3) (fun _=>rfl) a.own;cases d;exact e
def Z4:List Pa:=[⟨bs [97],10,12,5,6⟩,⟨bs [98],50,60,1,2⟩]
def ZN(B:Option Addr):List En:=[⟨bs [104,97,108,102],B,2,[0,-2],-1⟩]
theorem Zdw(B:Option Addr):BookR Z4 (ZN B):=by have h:BookR Z4 (ZN none):=ZbU.1 (by decide+kernel);exact h.sig rfl
theorem Zg8(w:World):Calls prog 44 #[] w fun e w'=>(∃A i B,e=.returned (.agg #[.slice A 2 2,.slice i 1 1])/\BookAt w' A 2 Z4 i 1 (ZN B)/\∀g,A=some g->w.heap.size<=g.block)/\Below w.heap.size w w':=by
 go_enter func44,ntmps44;go_wp2;obtain⟨W,a⟩:∃W,(((w.alloc (.cells #[.slice (some ⟨(w.heap.size+1),0,none⟩) 2 2,.slice (some ⟨(w.heap.size+1+1+1),0,none⟩) 1 1] 25 (0,0))).alloc (.cells #[.string (bs [97]),.int .i64 10,.int .i64 12,.int .i64 5,.int .i64 6,.string (bs [98]),.int .i64 50,.int .i64 60,.int .i64 1,.int .i64 2] 101 (0,0))).alloc (.cells #[.int .i64 0,.int .i64 (-2)] 3 (0,0))).alloc (.cells #[.string (bs [104,97,108,102]),.slice (some ⟨(w.heap.size+1+1),0,none⟩) 2 2,.int .i64 (-1)] 71 (0,0))=W:=⟨_,rfl⟩;have j:W.heap[w.heap.size]?=some (.cells #[.slice (some ⟨(w.heap.size+1),0,none⟩) 2 2,.slice (some ⟨(w.heap.size+1+1+1),0,none⟩) 1 1] 25 (0,0)):=by rw[<-a];(repeat (first|assumption|(refine ZA _ _ ?_;(simp;done))|refine ZD ?_|refine Zz ?_ _|refine ZB ?_ (by simp<;>omega) _))
 have r:W.heap[(w.heap.size+1)]?=some (.cells #[.string (bs [97]),.int .i64 10,.int .i64 12,.int .i64 5,.int .i64 6,.string (bs [98]),.int .i64 50,.int .i64 60,.int .i64 1,.int .i64 2] 101 (0,0)):=by rw[<-a];(repeat (first|assumption|(refine ZA _ _ ?_;(simp;done))|refine ZD ?_|refine Zz ?_ _|refine ZB ?_ (by simp<;>omega) _))
 have m:W.heap[(w.heap.size+1+1)]?=some (.cells #[.int .i64 0,.int .i64 (-2)] 3 (0,0)):=by rw[<-a];(repeat (first|assumption|(refine ZA _ _ ?_;(simp;done))|refine ZD ?_|refine Zz ?_ _|refine ZB ?_ (by simp<;>omega) _))
 have s:W.heap[(w.heap.size+1+1+1)]?=some (.cells #[.string (bs [104,97,108,102]),.slice (some ⟨(w.heap.size+1+1),0,none⟩) 2 2,.int .i64 (-1)] 71 (0,0)):=by rw[<-a];(repeat (first|assumption|(refine ZA _ _ ?_;(simp;done))|refine ZD ?_|refine Zz ?_ _|refine ZB ?_ (by simp<;>omega) _))
 have c:Below w.heap.size w W:=by rw[<-a];go_grown
 have o1:W.ownsRow w.heap.size 101 5 (.slice (some ⟨(w.heap.size+1),0,none⟩) 2 2) 2 (Z4.flatMap Pa.cs):=⟨rfl,.inr ⟨(w.heap.size+1),2,_,rfl,by omega,r,by omega,by unfold maxLen;omega,rfl,rfl⟩⟩;have o2:W.ownsRow w.heap.size 3 1 (.slice (some ⟨(w.heap.size+1+1),0,none⟩) 2 2) 2 (([0,-2]:List Int).flatMap Zc):=⟨rfl,.inr ⟨(w.heap.size+1+1),2,_,rfl,by omega,m,by omega,by unfold maxLen;omega,rfl,rfl⟩⟩;have o3:W.ownsRow w.heap.size 71 3 (.slice (some ⟨(w.heap.size+1+1+1),0,none⟩) 1 1) 1 ((ZN (some ⟨(w.heap.size+1+1),0,none⟩)).flatMap En.cs):=⟨rfl,.inr ⟨(w.heap.size+1+1+1),1,_,rfl,by omega,s,by omega,by unfold maxLen;omega,rfl,rfl⟩⟩;have n:BookAt W (some ⟨(w.heap.size+1),0,none⟩) 2 Z4 (some ⟨(w.heap.size+1+1+1),0,none⟩) 1 (ZN (some ⟨(w.heap.size+1+1),0,none⟩)):=ZtT o1 ⟨o3,fun x u=>by obtain rfl:=ZyH.1 u;exact⟨ZcS o2 rfl,ZdP o2,fun g e=>by cases e;exact⟨_,_,m⟩⟩⟩ rfl rfl;have h:∀x,(sizeOf 25).run prog x=.ok 2 x:=fun x=>by kernel_rfl
 have d:∀x,(isAgg 25).run prog x=.ok true x:=fun x=>by kernel_rfl
 refine bodyPost_ret (v:=.agg #[.slice (some ⟨(w.heap.size+1),0,none⟩) 2 2,.slice (some ⟨(w.heap.size+1+1+1),0,none⟩) 1 1]) ?_ rfl ⟨⟨some ⟨(w.heap.size+1),0,none⟩,some ⟨(w.heap.size+1+1+1),0,none⟩,some ⟨(w.heap.size+1+1),0,none⟩,rfl,by rw[<-a]at n;exact n,fun g e=>by cases e;dsimp only;omega⟩,by rw[<-a]at c;exact c⟩;rw[<-a]at j;exact ZdM (p:=0) (ad:=⟨w.heap.size,0,none⟩) rfl (by rfl) (Zac (T:=25) (cs:=[.slice (some ⟨(w.heap.size+1),0,none⟩) 2 2,.slice (some ⟨(w.heap.size+1+1+1),0,none⟩) 1 1]) (d _) (h _) j)
theorem ZfP(B:Option Addr):FewB Z4 (ZN B):=⟨by decide,by show 1<=1000;decide,fun p a=>by
 rcases Zyx.1 a with rfl|a;·decide
 ·obtain rfl:=ZyH.1 a;decide,fun x c=>by obtain rfl:=ZyH.1 c;show (bs [104,97,108,102]).size<=1000;decide,fun x c=>by obtain rfl:=ZyH.1 c;show 2<=1000;decide⟩
theorem ZtU(B:Option Addr):ZaD Z4 (ZN B) 0 0=0:=by unfold ZaD;rw[ZbU.2 (Zdw B)];rfl
theorem Znn(B:Option Addr):Zck Z4 (ZN B) 0 0 1 10 [20]=0/\Zb4 Z4 (ZN B) 0 0 1 10 [20]=(30,1):=by
 have h:Zck Z4 (ZN B) 0 0 1 10 [20]=0:=by unfold Zck;rw[if_neg (by rw[ZtU];simp)];rfl
 refine⟨h,?_⟩;unfold Zb4;rw[if_pos h];kernel_rfl
end Go.Proofs
namespace Go.Proofs
open Tryz
open Go.RowKit Go.Twin Go.Conc
variable {w' W w:World}
def codeHd:Code->Code|.seq x _=>x|c=>c
def codeTl:Code->Code|.seq _ y=>y|c=>c
noncomputable def awBody:Code:=Tryz.f8.body.getD .skip
noncomputable def aw1:Code:=codeTl awBody
noncomputable def aw2:Code:=codeTl aw1
noncomputable def aw3:Code:=codeTl aw2
noncomputable def aw4:Code:=codeTl aw3
noncomputable def aw5:Code:=codeTl aw4
def Zg9(A c:Option Addr)(a p1:Nat):Array Value:=#[.bool false,.pointer (some ⟨p1,0,none⟩),.int .i64 0,zu,zu,zu,zu,zu,zu,zu,zu,.tuple #[.agg #[.int .i64 30,.int .i64 1],.int .i64 0],.agg #[.slice A 2 2,.slice c 1 1],.agg #[.int .i64 0,.int .i64 0],.slice (some ⟨a,0,none⟩) 1 1,.agg #[.int .i64 1,.int .i64 10,.slice (some ⟨a,0,none⟩) 1 1],.tuple #[.agg #[.int .i64 30,.int .i64 1],.int .i64 0],.agg #[.int .i64 30,.int .i64 1],.int .i64 0,zu,zu,zu,zu,zu,zu,zu,zu,zu,zu,zu,zu,zu,zu,zu,zu,zu,zu,zu,zu,zu,zu,zu,zu,zu,zu,zu,zu,zu,zu,zu,zu,zu,zu,zu,zu,zu,zu,zu,zu,zu,zu,zu,zu,zu,zu,zu,zu,zu,zu,zu,zu,zu,zu,zu,zu,zu,zu,zu,zu,zu,zu,zu,zu,zu]
theorem ZtV(w:World):(codeHd aw1).wp prog (fun e y w'=>e=.normal/\y.defers=[]/\(∃A m n C,y.tmps=Zg9 A m n C/\w'.heap[C]?=some (.cells #[.int .i64 30,.int .i64 1] 30 (0,0)))/\Below w.heap.size w w') ⟨#[.bool false,zu,zu,zu,zu,zu,zu,zu,zu,zu,zu,zu,zu,zu,zu,zu,zu,zu,zu,zu,zu,zu,zu,zu,zu,zu,zu,zu,zu,zu,zu,zu,zu,zu,zu,zu,zu,zu,zu,zu,zu,zu,zu,zu,zu,zu,zu,zu,zu,zu,zu,zu,zu,zu,zu,zu,zu,zu,zu,zu,zu,zu,zu,zu,zu,zu,zu,zu,zu,zu,zu,zu,zu,zu,zu,zu,zu,zu,zu,zu,zu,zu,zu,zu],[]⟩ w:=by simp only[aw1,codeHd,codeTl,awBody,Tryz.f8,ZzA];have d:=Zxi fun x=>Zg8 x;go_wp2_with (first|(go_at_call 44;refine(d.out _).mono ?_;rintro e w2 ⟨⟨A,m,B,rfl,z,D⟩,g⟩;(have r:=Zxi z);(have i:=Zxi g);clear D z g)|(go_at_call 43;(obtain⟨u,a⟩:∃x,w2.alloc (.cells #[.int .i64 20] 3 (0,0))=x:=⟨_,rfl⟩);(have o2:u.ownsRow w2.heap.size 3 1 (.slice (some ⟨w2.heap.size,0,none⟩) 1 1) 1 (([20]:List Int).flatMap Zc):=⟨rfl,.inr ⟨w2.heap.size,1,_,rfl,by omega,(by rw[<-a];(repeat (first|assumption|(refine ZA _ _ ?_;(simp;done))|refine ZD ?_|refine Zz ?_ _|refine ZB ?_ (by simp<;>omega) _))),by omega,by unfold maxLen;omega,rfl,rfl⟩⟩);(have c:Below w2.heap.size w2 u:=by rw[<-a];go_grown);rw[a];clear a;(have s:=Zp3 A m (some ⟨w2.heap.size,0,none⟩) 2 1 2 1 1 1 Z4 (ZN B) 0 0 1 10 [20] u (r.out.below c) (ZfP B) rfl rfl (ZcS o2 rfl) rfl (by omega));rw[(Znn B).1,(Znn B).2]at s;refine s.mono ?_;rintro e E ⟨rfl,h⟩;(have j:=via (via i.out c) h);clear s o2 h c));exact⟨⟨A,m,_,_,rfl,by(repeat (first|assumption|(refine ZA _ _ ?_;(simp;done))|refine ZD ?_|refine Zz ?_ _|refine ZB ?_ (by simp<;>omega) _))⟩,via j (by go_grown)⟩
theorem Zno(B:Option Addr):solvedL Z4.length (exs (ZN B)) (Z0 Z4 1 50)=some ([1,1],2,⟨2,0,[1]⟩):=by show solvedL 2 [([0,-2],-1)] [0,1]=some ([1,1],2,⟨2,0,[1]⟩);kernel_rfl
theorem ZtW(B:Option Addr):ZaD Z4 (ZN B) 1 50=0:=by unfold ZaD;rw[ZbU.2 (Zdw B)];rfl
def ZbR(X:Option Addr)(x:Nat)(Y:Option Addr)(y:Nat):Value:=.agg #[.int .i64 1,.int .i64 2,.int .i64 2,.slice X 2 x,.int .i64 2,.int .i64 0,.slice Y 1 y]
theorem ZtX{B:Option Addr} {a:Nat} {e:Ending} (h:Zb3 Z4 (ZN B) 1 50 a e w'):∃X x Y y,e=.returned (.tuple #[ZbR X x Y y,.int .i64 0]):=by unfold Zb3 at h;rw[if_neg (by rw[ZtW];simp),Zno]at h;obtain⟨X,x,Y,y,h,_⟩:=h;exact⟨X,x,Y,y,h⟩
def tmps2(A c:Option Addr)(a p1:Nat)(C d X:Option Addr)(x:Nat)(Y:Option Addr)(y p3:Nat):Array Value:=#[.bool false,.pointer (some ⟨p1,0,none⟩),.int .i64 0,.pointer (some ⟨p3,0,none⟩),.int .i64 0,zu,zu,zu,zu,zu,zu,.tuple #[.agg #[.int .i64 30,.int .i64 1],.int .i64 0],.agg #[.slice A 2 2,.slice c 1 1],.agg #[.int .i64 0,.int .i64 0],.slice (some ⟨a,0,none⟩) 1 1,.agg #[.int .i64 1,.int .i64 10,.slice (some ⟨a,0,none⟩) 1 1],.tuple #[.agg #[.int .i64 30,.int .i64 1],.int .i64 0],.agg #[.int .i64 30,.int .i64 1],.int .i64 0,.tuple #[ZbR X x Y y,.int .i64 0],.agg #[.slice C 2 2,.slice d 1 1],.agg #[.int .i64 1,.int .i64 50],.tuple #[ZbR X x Y y,.int .i64 0],ZbR X x Y y,.int .i64 0,zu,zu,zu,zu,zu,zu,zu,zu,zu,zu,zu,zu,zu,zu,zu,zu,zu,zu,zu,zu,zu,zu,zu,zu,zu,zu,zu,zu,zu,zu,zu,zu,zu,zu,zu,zu,zu,zu,zu,zu,zu,zu,zu,zu,zu,zu,zu,zu,zu,zu,zu,zu,zu,zu,zu,zu,zu,zu,zu]
def Zdx(X:Option Addr)(x:Nat)(Y:Option Addr)(y:Nat):Obj:=.cells #[.int .i64 1,.int .i64 2,.int .i64 2,.slice X 2 x,.int .i64 2,.int .i64 0,.slice Y 1 y] 37 (0,0)
theorem ZtY(A r:Option Addr)(c p1:Nat)(w:World):(codeHd aw2).wp prog (fun e s w'=>e=.normal/\s.defers=[]/\(∃C m X x Y y D,s.tmps=tmps2 A r c p1 C m X x Y y D/\w'.heap[D]?=some (Zdx X x Y y))/\Below w.heap.size w w') ⟨Zg9 A r c p1,[]⟩ w:=by
 simp only[aw2,aw1,codeHd,codeTl,awBody,Tryz.f8,ZzA,Zg9];have d:=Zxi fun x=>Zg8 x;have F:∀x,(sizeOf 37).run prog x=.ok 7 x:=fun x=>by kernel_rfl
 go_wp2_with (first|(go_at_call 44;refine(d.out _).mono ?_;rintro e w2 ⟨⟨C,m,B,rfl,u,E⟩,g⟩;(have n:=Zxi u);(have i:=Zxi g);clear E u g)|(go_at_call 10;(have z:=Zgk C m 2 1 2 1 Z4 (ZN B) 1 50 w2 n.out (ZfP B) rfl rfl);refine z.mono ?_;rintro e G ⟨a,h⟩;(obtain⟨X,x,Y,y,rfl⟩:=ZtX a);(have j:=via i.out h);clear z a h;simp only[ZbR]));exact⟨⟨C,m,X,x,Y,y,_,rfl,by(repeat (first|assumption|(refine ZA _ _ ?_;(simp;done))|refine ZD ?_|refine Zz ?_ _|refine ZB ?_ (by simp<;>omega) _))⟩,via j (by go_grown)⟩
structure Old (W w':World):Prop where
 size:W.heap.size<=w'.heap.size
 get:∀b,b<W.heap.size->w'.heap[b]?=W.heap[b]?
theorem Old.refl(W:World):Old W W:=⟨Zza _,fun _ _=>rfl⟩
theorem Old.trans(h:Old W w)(a:Old w w'):Old W w':=⟨Zzb h.size a.size,fun b c=>(a.get b (Zzf c h.size)).trans (h.get b c)⟩
theorem Zp(h:Below w.heap.size w w'):Old w w':=⟨h.size,h.block⟩
theorem Ze{t:Nat->Question->Nat} {d:Nat} (h:Below (w.re t d).heap.size (w.re t d) w'):Old w w':=⟨h.size,h.block⟩
theorem Old.at{b:Nat} {o:Obj} (h:Old W w')(hb:W.heap[b]?=some o):w'.heap[b]?=some o:=(h.get b (Zwm.1 hb).1).trans hb
theorem ZtZ:ZL.code (codeHd aw1)=true:=by kernel_rfl
theorem Zt0:ZL.code (codeHd aw2)=true:=by kernel_rfl
theorem Zb{E:Env} {B:Blk} {xs ys:Array Value} (h:AR E B xs xs)(e:xs=ys):AR E B ys ys:=e▸h
theorem Zt1{Stop:Frame->List Frame->World->Prop} {cs:List Frame} (hS:Halts Stop)(V:GlobOk w)(k:∀A c a p1 C i X x Y y p3 l' D,awB.le D->Self ZL (fun _=>False) D l'->AR ZL D (tmps2 A c a p1 C i X x Y y p3) (tmps2 A c a p1 C i X x Y y p3)->l'.heap[p1]?=some (.cells #[.int .i64 30,.int .i64 1] 30 (0,0))->l'.heap[p3]?=some (Zdx X x Y y)->Old (Z7 w) l'->LG ZO Stop ((Go.Conc.base 8).at ⟨tmps2 A c a p1 C i X x Y y p3,[]⟩ [.code aw3]) cs l'):LG ZO Stop ((Go.Conc.base 8).at ⟨Array.replicate 84 undef,[]⟩ [.code awBody]) cs (Z7 w):=by
 have F:=ZtQ V;have j:awB.le awB:=Blk.le_refl _;have E:AR ZL awB (Array.replicate 84 undef) (Array.replicate 84 undef):=AR.replicate _ undefR;rw[show awBody=.seq (codeHd awBody) aw1 from by kernel_rfl];refine Zah hS ?_;simp only[awBody,codeHd,Tryz.f8,ZzA];refine Zbi hS ?_;simp only[ZyT,Zyd,Zyg,Nat.reduceAdd,Zzw,List.range,List.range.loop];refine Zak hS ZX ZV F (Zb E (by kernel_rfl)) rfl rfl (by decide) (by kernel_rfl) (fun tt T K O Q=>?_);simp only[show ZL.P=prog from rfl];go_simp;first|refine O _ _ ?_|refine Q _ ?_
 clear O Q K tt T;intro D g z n;replace j:=Blk.le_trans j g;clear F E g;have F:=z;have E:=n;clear z n;walk_nrm;refine Zbj hS ?_;rw[show aw1=.seq (codeHd aw1) aw2 from by kernel_rfl];refine Zah hS ?_;refine ZbN (R:=fun m w'=>(∃A c a p1,m.tmps=Zg9 A c a p1/\w'.heap[p1]?=some (.cells #[.int .i64 30,.int .i64 1] 30 (0,0)))/\Old (Z7 w) w') ZV Zbk Zbl ZX F (Zb E (by kernel_rfl)) rfl ZtZ (fun v w t d h=>⟨h.1,h.2.size,h.2.get⟩) (fun t d=>Code.wp_mono (fun e m w' h=>⟨h.1,h.2.1,h.2.2.1,(Ze h.2.2.2).size,(Ze h.2.2.2).get⟩) (ZtV _)) ?_;rintro⟨tm,U⟩ Z B1 ⟨⟨A,c,a,p1,G,n1⟩,L⟩ H r M I;cases G;cases H;rw[show aw2=.seq (codeHd aw2) aw3 from by kernel_rfl];refine Zah hS ?_;refine ZbN (R:=fun m w'=>(∃C i X x Y y p3,m.tmps=tmps2 A c a p1 C i X x Y y p3/\w'.heap[p3]?=some (Zdx X x Y y))/\Old Z w') ZV Zbk Zbl ZX M I rfl Zt0 (fun v w t d h=>⟨h.1,h.2.size,h.2.get⟩) (fun t d=>Code.wp_mono (fun e m w' h=>⟨h.1,h.2.1,h.2.2.1,(Ze h.2.2.2).size,(Ze h.2.2.2).get⟩) (ZtY A c a p1 _)) ?_;rintro⟨tm,U⟩ l2 S ⟨⟨C,i,X,x,Y,y,p3,G,n3⟩,u⟩ H s N J;cases G;cases H;exact k A c a p1 C i X x Y y p3 l2 S (Blk.le_trans (Blk.le_trans j r) s) N J (u.at n1) n3 (L.trans u)
variable {w w':World} {b o:Nat} {v:Value}
theorem At.old{sz:Nat} {α:Type} {cs:α->List Value} {A:Option Addr} {xs:List α} (h:At sz cs w A xs)(a:Old w w'):At sz cs w' A xs:=(h.below (⟨rfl,rfl,rfl,a.size,a.get⟩:Below w.heap.size w {w' with os:=w.os,tape:=w.tape,output:=w.output}):At sz cs {w' with os:=w.os,tape:=w.tape,output:=w.output} A xs)
theorem BookAt.old{d a:Option Addr} {e c:Nat} {ps:List Pa} {es:List En} (hB:BookAt w d e ps a c es)(h:Old w w'):BookAt w' d e ps a c es:=⟨hB.P.old h,⟨hB.E.1.old h,fun x g=>(hB.E.2 x g).old h⟩,hB.pc',hB.ec',hB.nil⟩
noncomputable def shBody:Code:=Tryz.f45.body.getD .skip
noncomputable def shA:Code:=codeTl shBody
noncomputable def shB:Code:=codeTl shA
noncomputable def shC:Code:=codeTl shB
noncomputable def shD:Code:=codeTl shC
noncomputable def shE:Code:=codeTl shD
def ZfQ(A a:Option Addr):Array Value:=#[.agg #[.slice A 2 2,.slice a 1 1],.int .i64 1,zu,zu,zu,zu,zu,zu,zu,zu,zu,zu,zu,zu,zu,zu,zu,zu,zu,zu,zu,zu,zu,zu,zu,zu,zu,zu,zu,zu,zu,zu,zu,zu,zu,zu,zu,zu,zu,zu,zu,zu]
def Zha(A a:Option Addr)(c d:Nat):Array Value:=#[.agg #[.slice A 2 2,.slice a 1 1],.int .i64 1,.pointer (some ⟨c,0,none⟩),undef,.pointer (some ⟨d,0,none⟩),.int .i64 0,zu,zu,zu,zu,zu,zu,zu,zu,zu,zu,zu,zu,zu,zu,zu,zu,zu,zu,zu,zu,zu,zu,zu,zu,zu,zu,zu,zu,zu,zu,zu,zu,zu,zu,zu,zu]
def Zhb(A c:Option Addr)(d e a:Nat):Array Value:=#[.agg #[.slice A 2 2,.slice c 1 1],.int .i64 1,.pointer (some ⟨d,0,none⟩),undef,.pointer (some ⟨e,0,none⟩),.int .i64 0,.int .i64 0,undef,undef,undef,.agg #[.slice A 2 2,.slice c 1 1],.int .i64 0,.int .i64 1,.pointer (some ⟨d,0,none⟩),.slice A 2 2,.int .i64 2,.int .i64 1,.bool true,.int .i64 0,.slice (some ⟨a,0,none⟩) 2 2,.int .i64 0,.int .i64 0,.bool false,zu,zu,zu,zu,zu,zu,zu,zu,zu,zu,zu,zu,zu,zu,zu,zu,zu,zu,zu]
def Zhc(A d:Option Addr)(c g a e:Nat):Array Value:=#[.agg #[.slice A 2 2,.slice d 1 1],.int .i64 1,.pointer (some ⟨c,0,none⟩),undef,.pointer (some ⟨g,0,none⟩),.int .i64 0,.int .i64 0,.slice (some ⟨e,0,none⟩) 2 2,undef,undef,.agg #[.slice A 2 2,.slice d 1 1],.int .i64 0,.int .i64 1,.pointer (some ⟨c,0,none⟩),.slice A 2 2,.int .i64 2,.int .i64 1,.bool true,.int .i64 0,.slice (some ⟨a,0,none⟩) 2 2,.int .i64 0,.int .i64 0,.bool false,undef,undef,.pointer (some ⟨c,0,none⟩),.slice A 2 2,.int .i64 2,.slice (some ⟨e,0,none⟩) 2 2,zu,zu,zu,zu,zu,zu,zu,zu,zu,zu,zu,zu,zu]
def Znp(A e:Option Addr)(d g c a:Nat):Array Value:=#[.agg #[.slice A 2 2,.slice e 1 1],.int .i64 1,.pointer (some ⟨d,0,none⟩),undef,.pointer (some ⟨g,0,none⟩),.int .i64 0,.int .i64 0,.slice (some ⟨a,0,none⟩) 2 2,undef,undef,.agg #[.slice A 2 2,.slice e 1 1],.int .i64 0,.int .i64 1,.pointer (some ⟨d,0,none⟩),.slice A 2 2,.int .i64 2,.int .i64 1,.bool true,.int .i64 0,.slice (some ⟨c,0,none⟩) 2 2,.int .i64 0,.int .i64 0,.bool false,undef,undef,.pointer (some ⟨d,0,none⟩),.slice A 2 2,.int .i64 2,.slice (some ⟨a,0,none⟩) 2 2,.slice (some ⟨a,0,none⟩) 2 2,.int .i64 1,.pointer (some ⟨a,1,none⟩),zu,zu,zu,zu,zu,zu,zu,zu,zu,zu]
theorem Zt2(A a:Option Addr)(w:World):(codeHd shBody).wp prog (fun e d w'=>e=.normal/\d.defers=[]/\(∃g c,d.tmps=Zha A a g c/\w'.heap[g]?=some (.cells #[.slice A 2 2,.slice a 1 1] 25 (0,0))/\w'.heap[c]?=some (.cells #[.int .i64 0,.int .i64 0] 94 (0,0))/\w.heap.size<=c)/\Below w.heap.size w w') ⟨ZfQ A a,[]⟩ w:=by simp only[codeHd,codeTl,shBody,Tryz.f45,ZzA,ZfQ];go_wp2;exact⟨⟨_,_,rfl,by(repeat (first|assumption|(refine ZA _ _ ?_;(simp;done))|refine ZD ?_|refine Zz ?_ _|refine ZB ?_ (by simp<;>omega) _)),by(repeat (first|assumption|(refine ZA _ _ ?_;(simp;done))|refine ZD ?_|refine Zz ?_ _|refine ZB ?_ (by simp<;>omega) _)),by first|omega|simp⟩,by go_grown⟩
theorem Zt3(A c B:Option Addr)(i u:Nat)(w:World)(hB:BookAt w A 2 Z4 c 1 (ZN B))(y:w.heap[i]?=some (.cells #[.slice A 2 2,.slice c 1 1] 25 (0,0))):(codeHd shA).wp prog (fun e s w'=>e=.normal/\s.defers=[]/\(∃h,s.tmps=Zhb A c i u h)/\Below w.heap.size w w') ⟨Zha A c i u,[]⟩ w:=by
 simp only[codeHd,codeTl,shA,shBody,Tryz.f45,ZzA,Zha];have z:=Zxi fun W (C:Below w.heap.size w W)=>(ZbU.2 (Zdw B))▸Zfb A c 2 1 2 1 Z4 (ZN B) W (hB.below C) (ZfP B) rfl rfl;have d:=Zxi fun W=>Zb0 1 0 1 W;rw[show Z2 1 0 1=true from by decide]at d;have D:=bk2 y;have j:Below w.heap.size w w:=ZwJ _ _;clear hB y;refine wp_seq ?_;refine ZaR w 9 (by kernel_rfl) (by kernel_rfl) j ?_;intro m g;simp only[ZyY,Zy0,ZxB,ZxC];repeat (go_big_quiet_step (first
  |(go_at_call 66;with_reducible exact Grew.call (z.out _ (g.out _)))|(go_at_call 69;with_reducible exact Zd (d.out _))|(go_at_call 67;with_reducible exact Zd (Zbn _ _ _))))
 refine wpQuiet_nil ?_;intro E a r n;clear m g;simp only[show unl true 6=0 from rfl];go_wp2_with (go_at_call 65;refine(ZdD _ _ _).mono ?_;rintro e w' ⟨rfl,rfl⟩;simp only[show Z1 [0,0]=0 from rfl]);exact⟨⟨_,rfl⟩,via a (by go_grown)⟩
theorem Zt4(A c:Option Addr)(d i a:Nat)(w:World)(j:w.heap[d]?=some (.cells #[.slice A 2 2,.slice c 1 1] 25 (0,0))):(codeHd shB).wp prog (fun e h w'=>e=.normal/\h.defers=[]/\(∃g,h.tmps=Zhc A c d i a g/\w'.heap[g]?=some (.cells #[.int .i64 0,.int .i64 0] 3 (0,0))/\w.heap.size<=g)/\Below w.heap.size w w') ⟨Zhb A c d i a,[]⟩ w:=by simp only[codeHd,codeTl,shB,shA,shBody,Tryz.f45,ZzA,Zhb];have D:=bk2 j;clear j;have m:∀W,(Instr.makeSlice 31 (.int .i64 2) (.int .i64 2)).run prog W=.ok (.slice (some ⟨W.heap.size,0,none⟩) 2 2) (W.alloc (.cells #[.int .i64 0,.int .i64 0] 3 (0,0))):=fun W=>Zcg 2 (by omega) W;go_wp2;exact⟨⟨_,rfl,by(repeat (first|assumption|(refine ZA _ _ ?_;(simp;done))|refine ZD ?_|refine Zz ?_ _|refine ZB ?_ (by simp<;>omega) _)),Zza _⟩,by go_grown⟩
theorem Zt5{c:Array Value} {T:TypeId} {f:Nat×Nat} (h:w.heap[b]?=some (.cells c T f)):(w.setCell ⟨b,o,none⟩ v).heap[b]?=some (.cells (c.setIfInBounds o v) T f):=by simp[World.setCell,Zwp,h]
theorem Zt6{k:Nat} (hne:k≠b):(w.setCell ⟨b,o,none⟩ v).heap[k]?=w.heap[k]?:=by simp[World.setCell,Zwp,Ne.symm hne]
theorem Zt7(A h:Option Addr)(j m a c:Nat)(w:World)(d:w.heap[c]?=some (.cells #[.int .i64 0,.int .i64 0] 3 (0,0))):(codeHd shC).wp prog (fun e i w'=>e=.normal/\i.defers=[]/\i.tmps=Znp A h j m a c/\w'.heap[c]?=some (.cells #[.int .i64 0,.int .i64 1] 3 (0,0))/\w'.heap.size=w.heap.size/\∀b,b≠c->w'.heap[b]?=w.heap[b]?) ⟨Zhc A h j m a c,[]⟩ w:=by simp only[codeHd,codeTl,shC,shB,shA,shBody,Tryz.f45,ZzA,Zhc];have D:=bk2 d;have g:=Zxi (Zt5 (o:=1) (v:=.int .i64 1) d);clear d;go_wp2;exact⟨rfl,(Zwm.1 g.out).2,fun b n=>Zt6 n⟩
def Znq(A c:Option Addr)(e g d a h:Nat):Array Value:=#[.agg #[.slice A 2 2,.slice c 1 1],.int .i64 1,.pointer (some ⟨e,0,none⟩),undef,.pointer (some ⟨g,0,none⟩),.int .i64 0,.int .i64 0,.slice (some ⟨a,0,none⟩) 2 2,.pointer (some ⟨h,0,none⟩),.bool true,.agg #[.slice A 2 2,.slice c 1 1],.int .i64 0,.int .i64 1,.pointer (some ⟨e,0,none⟩),.slice A 2 2,.int .i64 2,.int .i64 1,.bool true,.int .i64 0,.slice (some ⟨d,0,none⟩) 2 2,.int .i64 0,.int .i64 0,.bool false,undef,undef,.pointer (some ⟨e,0,none⟩),.slice A 2 2,.int .i64 2,.slice (some ⟨a,0,none⟩) 2 2,.slice (some ⟨a,0,none⟩) 2 2,.int .i64 1,.pointer (some ⟨a,1,none⟩),.tuple #[.agg #[.int .i64 500,.int .i64 1000],.bool true],.agg #[.slice A 2 2,.slice c 1 1],.slice (some ⟨a,0,none⟩) 2 2,.slice (some ⟨a,0,none⟩) 2 2,.tuple #[.agg #[.int .i64 500,.int .i64 1000],.bool true],.agg #[.int .i64 500,.int .i64 1000],.bool true,undef,undef,undef]
theorem Zt8(A I:Option Addr)(M g j N G:Nat)(w:World)(h4:w.heap[g]?=some (.cells #[.int .i64 0,.int .i64 0] 94 (0,0)))(m:w.heap[G]?=some (.cells #[.int .i64 500,.int .i64 1000] 94 (0,0))):shE.wp prog (bodyPost prog Tryz.f45 fun e w'=>e=.returned (.tuple #[.agg #[.int .i64 500,.int .i64 1000],.int .i64 0])/\w.heap.size<=w'.heap.size/\∀b,b<w.heap.size->b≠g->w'.heap[b]?=w.heap[b]?) ⟨Znq A I M g j N G,[]⟩ w:=by
 simp only[codeHd,codeTl,shE,shD,shC,shB,shA,shBody,Tryz.f45,ZzA,Znq];have J:=bk2 h4;have K:=bk2 m;have r:Below w.heap.size w w:=ZwJ _ _;have h:∀x,(sizeOf 94).run prog x=.ok 2 x:=fun x=>by kernel_rfl
 have n:∀x,(isAgg 94).run prog x=.ok true x:=fun x=>by kernel_rfl
 refine wp_seq ?_;refine ZaR w 3 (by kernel_rfl) (by kernel_rfl) r ?_;intro z s;simp only[ZyY,Zy0,ZxB,ZxC];repeat (go_big_quiet_step (first|(go_at_call 67;with_reducible exact Zd (Zbn _ _ _))))
 refine wpQuiet_nil ?_;intro O a E c;clear z s;simp only[show unl true 12=0 from rfl];have L:=Zxi (Zw a h4);have F:=Zw a m;have Q:=bk2 F;clear h4 m F J K;go_wp2_with (first|(go_at_call 67;refine(Zbn _ _ _).mono ?_;rintro e w' ⟨rfl,rfl⟩)|(refine ZaT (by with_reducible rfl) (.tmp 4) (.tmp 39) 94 (by with_reducible rfl) g [.int .i64 500,.int .i64 1000] [.int .i64 0,.int .i64 0] 94 rfl rfl (h _) L.out rfl (by decide) ?_;intro R d y i));refine bodyPost_ret (v:=.tuple #[.agg #[.int .i64 500,.int .i64 1000],.int .i64 0]) ?_ rfl ⟨rfl,by rw[i];exact c,fun b H D=>?_⟩;·exact ZaB (p:=4) (u:=5) (ad:=⟨g,0,none⟩) (v:=.agg #[.int .i64 500,.int .i64 1000]) rfl (by rfl) (Zac (T:=94) (cs:=[.int .i64 500,.int .i64 1000]) (n _) (h _) d)
 ·have C:b<O.heap.size:=Zzf H c;exact(y.block b C (fun e=>D (ZzE e))).trans (a.block b H)
end Go.Proofs
namespace Go.Proofs
open Go.RowKit Go.Twin Go.Conc
section
variable {B:Blk} {bs':List Frame} {l w:World}
theorem ST.head{E:Env} {bs:List Frame} {f c:Frame} {cs a:List Frame} (h:ST E B bs bs' (f::cs) (c::a)):FR E B f c:=by cases h with|last _ _ h _=>exact h|cons _ _ _ _ h _ _=>exact h
theorem Zn{E:Env} {xs:Array Value} {v:Value} (h:VR E B (.agg xs) v) {i:Nat} {u:Value} (hu:xs[i]?=some u):∃a,VR E B u a:=by cases h with|agg _ xs' hx hxs=>have c:=(Zwm.1 hu).1;exact⟨_,hxs i u (xs'[i]'(by omega)) hu (Zwk (by omega))⟩
theorem Zj{E:Env} {A:Option Addr} {n c:Nat} {v:Value} (h:VR E B (.slice A n c) v)(hz:E.z0=false:=by rfl):∀b o s,A=some ⟨b,o,s⟩->∃a,B b a:=by rintro b o s rfl;cases h with
 |slice _ _ _ _ ha=>cases ha with|mk _ a _ _ hb=>exact⟨a,hb⟩
 |slice0 _ h=>rw[hz]at h;cases h
theorem Zd7{sz:Nat} {α:Type} {cs:α->List Value} {A:Option Addr} {xs:List α} (h:At sz cs l A xs) {x:α} (hx:xs[0]?=some x) {v:Value} (hv:(cs x)[0]?=some v):∀b o s,A=some ⟨b,o,s⟩->∃c T f,l.heap[b]?=some (.cells c T f):=by rintro b o s rfl;obtain⟨e,g,a,_,d⟩:=h 0 x hx;cases a;exact Znh (d 0 v hv)
theorem Zt9(BB:Option Addr):(solvedL 2 (exs (ZN BB)) (Zal [0,1])).map (fun q=>(q.1,q.2.1))=some ([0,1],1):=by show (solvedL 2 [([0,-2],-1)] [0,-1]).map (fun q=>(q.1,q.2.1))=some ([0,1],1);kernel_rfl
theorem Zd8(BB:Option Addr):exs (ZN BB)=[([0,-2],-1)]:=rfl
theorem Znr(BB:Option Addr):Zaw 2 (ZN BB) [0,1]=(1,2,true):=by unfold Zaw;rw[Zd8];kernel_rfl
theorem Zns(BB:Option Addr):Zaw 2 (ZN BB) (Zal [0,1])=(-1,1,true):=by unfold Zaw;rw[Zd8];kernel_rfl
theorem Zua(BB:Option Addr):ZbO 2 (ZN BB) [0,1] [0,1] 1000=.tuple #[.agg #[.int .i64 500,.int .i64 1000],.bool true]:=by unfold ZbO;rw[Znr,Zns];kernel_rfl
theorem Zdy{a b:Int} {K:Nat} (d:a.natAbs<=K)(e:b.natAbs<=K):ZM K [a,b]:=fun x c=>by
 simp only[Zyx,ZyN,or_false]at c;rcases c with rfl|rfl;·exact d
 ·exact e
theorem Zd9{A:Option Addr} {n c:Nat} (d:∀b o s,A=some ⟨b,o,s⟩->∃a,B b a) (g:∀b o s,A=some ⟨b,o,s⟩->∃c T f,l.heap[b]?=some (.cells c T f)):VR EnvS (idX (Z5 B l)) (.slice A n c) (.slice A n c):=Zju fun b o s e=>⟨d b o s e,g b o s e⟩
theorem Zub{sh:Nat->Prop} {A g BB:Option Addr} {a:Nat} {fa:Frame} {cs cb:List Frame} (hB:BookAt l A 2 Z4 g 1 (ZN BB))(O:l.heap[a]?=some (.cells #[.int .i64 0,.int .i64 1] 3 (0,0)))(h:Rel ZO sh bs' B (Frame.enter ZO.P 83 #[.agg #[.slice A 2 2,.slice g 1 1],.slice (some ⟨a,0,none⟩) 2 2,.slice (some ⟨a,0,none⟩) 2 2,.int .i64 1000] .normal) cs l fa cb w):Zdq Tryz.prog fa w fun v=>v=.tuple #[.agg #[.int .i64 500,.int .i64 1000],.bool true]:=by
 have u:At 1 Zc l (some ⟨a,0,none⟩) [0,1]:=ZcS (⟨rfl,.inr ⟨a,2,_,rfl,Zzx _,O,by omega,by unfold maxLen;omega,rfl,rfl⟩⟩:l.ownsRow 0 3 1 (.slice (some ⟨a,0,none⟩) 2 2) 2 (([0,1]:List Int).flatMap Zc)) rfl;have z:=h.st.head.tmps;have Q:=Zjx (.agg #[.slice A 2 2,.slice g 1 1]) (.slice (some ⟨a,0,none⟩) 2 2) (.slice (some ⟨a,0,none⟩) 2 2) (.int .i64 1000);have K:(Frame.enter ZO.P 83 #[.agg #[.slice A 2 2,.slice g 1 1],.slice (some ⟨a,0,none⟩) 2 2,.slice (some ⟨a,0,none⟩) 2 2,.int .i64 1000] .normal).tmps=#[.agg #[.slice A 2 2,.slice g 1 1],.slice (some ⟨a,0,none⟩) 2 2,.slice (some ⟨a,0,none⟩) 2 2,.int .i64 1000]++Array.replicate 52 undef:=by show (Frame.enter Tryz.prog _ _ _).tmps=_;rw[Q];rfl
 rw[K]at z;have F:=z.getD 0 (undefR (G:=ZO) (B:=B));have J:=z.getD 1 (undefR (G:=ZO) (B:=B));have L:((#[.agg #[.slice A 2 2,.slice g 1 1],.slice (some ⟨a,0,none⟩) 2 2,.slice (some ⟨a,0,none⟩) 2 2,.int .i64 1000]++Array.replicate 52 undef:Array Value).getD 0 undef)=.agg #[.slice A 2 2,.slice g 1 1]:=by simp[Array.getD]
 have M:((#[.agg #[.slice A 2 2,.slice g 1 1],.slice (some ⟨a,0,none⟩) 2 2,.slice (some ⟨a,0,none⟩) 2 2,.int .i64 1000]++Array.replicate 52 undef:Array Value).getD 1 undef)=.slice (some ⟨a,0,none⟩) 2 2:=by simp[Array.getD]
 rw[L]at F;rw[M]at J;obtain⟨u1,C⟩:=Zn F (i:=0) rfl;obtain⟨u2,D⟩:=Zn F (i:=1) rfl;have U:=Zd9 (l:=l) (n:=2) (c:=2) (Zj C) (Zd7 hB.P rfl rfl);have V:=Zd9 (l:=l) (n:=1) (c:=1) (Zj D) (Zd7 hB.E.1 rfl rfl);have I:=Zd9 (l:=l) (n:=2) (c:=2) (Zj J) (Zd7 u rfl rfl);intro H c X Y Z t q N r s T;refine Znj (E1:=ZO) (lows:=[0,1]) (ups:=[0,1]) rfl (fun _=>rfl) rfl (Zdw BB).right hB.E rfl (by decide) (by decide) (fun x S=>by obtain rfl:=ZyH.1 S;simp) ⟨u,rfl,Zdy (by decide) (by decide),fun m d p j=>?_⟩ u rfl (Zdy (by decide) (by decide)) (fun m d p j=>?_) ?_ ?_ U V I I h N r s (fun R=>T (R.trans (show ZbO Z4.length (ZN BB) [0,1] [0,1] 1000=_ from Zua BB)));·have e:solvedL Z4.length (exs (ZN BB)) [0,1]=_:=Zno BB;rw[e]at j;cases j;exact⟨rfl,Zdy (by decide) (by decide)⟩
 ·have e:=Zt9 BB;have y:solvedL 2 (exs (ZN BB)) (Zal [0,1])=some (m,d,p):=j;rw[y]at e;cases e;exact⟨rfl,Zdy (by decide) (by decide)⟩
 ·unfold Zc0;have e:Zaw Z4.length (ZN BB) [0,1]=_:=Znr BB;rw[e];intro _;exact⟨by decide,by decide⟩
 ·unfold Zc0;have e:Zaw Z4.length (ZN BB) (Zal [0,1])=_:=Zns BB;rw[e];intro _;exact⟨by decide,by decide⟩
end
end Go.Proofs
namespace Go.Proofs
open Tryz
open Go.RowKit Go.Twin Go.Conc
variable {w:World}
attribute [local go_sem] Oper.semAt_some Zdl Zdm Zdn ZcF Zdo Zdp
theorem Zhd{P:Program} {fn:Func} {x:Code} {R:Value->World->Prop} {a:Act} {d:Ending->World->Prop} (h:x.wp P (bodyPost P fn d) a w)(j:∀e w,d e w->∃v,e=.returned v/\R v w):x.wp P (fun e m w'=>(e=.ret∨e=.normal)/\m.defers=[]/\∃v,(results fn m.tmps).run P w'=.ok v w'/\R v w') a w:=wp_mono h fun e m w' g=>by cases e with|normal=>obtain⟨n,v,r,s⟩:=g;obtain⟨u,e,i⟩:=j _ _ s;cases e;exact⟨.inr rfl,n,_,r,i⟩|ret=>obtain⟨n,v,r,s⟩:=g;obtain⟨u,e,i⟩:=j _ _ s;cases e;exact⟨.inl rfl,n,_,r,i⟩|panic c=>obtain⟨u,e,i⟩:=j _ _ g.2;cases e|outgrown=>obtain⟨u,e,i⟩:=j _ _ g;cases e|exit id=>exact g.elim|goto id=>exact g.elim
theorem Zuc (A a:Option Addr):Frame.enter prog 45 #[.agg #[.slice A 2 2,.slice a 1 1],.int .i64 1] .normal=(Go.Conc.base 45).at ⟨ZfQ A a,[]⟩ [.code shBody]:=by rw[enter_at (fn:=Tryz.f45) (c:=Tryz.f45.body.getD .skip) _ func45 rfl];kernel_rfl
theorem Old.re{w':World} (h:Old w w')(t:Nat->Question->Nat)(d:Nat):Old w (w'.re t d):=⟨h.size,h.get⟩
theorem Zud{Post:Value->World->Prop} {W l0:World} {E:Blk} {bs':List Frame} (aH:∀b x,E b x->(fun _:Nat=>False) b∨(b=x/\x<l0.heap.size/\l0.heap[x]?=W.heap[x]?/\ZO.sh=false/\ZO.junk=false)) {A u BB:Option Addr} {c:Frame} {cs:List Frame} {l:World} {B:Blk} (hs:Self ZL (fun _=>False) B l)(ha:AR ZL B #[.agg #[.slice A 2 2,.slice u 1 1],.int .i64 1] #[.agg #[.slice A 2 2,.slice u 1 1],.int .i64 1])(hB:BookAt l A 2 Z4 u 1 (ZN BB))(ho:Old l0 l)(k:∀l' G,Old l l'->B.le G->Self ZL (fun _=>False) G l'->LG ZO (StopG ZO Post W l0 E (fun _=>False) bs') (c.finish (.tuple #[.agg #[.int .i64 500,.int .i64 1000],.int .i64 0])) cs l'):LG ZO (StopG ZO Post W l0 E (fun _=>False) bs') (Frame.enter prog 45 #[.agg #[.slice A 2 2,.slice u 1 1],.int .i64 1] .normal) (c::cs) l:=by
 have z:Halts (StopG ZO Post W l0 E (fun _=>False) bs'):=Zd4;rw[Zuc];have aL:AR ZL B (ZfQ A u) (ZfQ A u):=Zb (ha.append (AR.replicate 40 undefR)) (by kernel_rfl);rw[show shBody=.seq (codeHd shBody) shA from by kernel_rfl];refine Zah z ?_;refine ZbN (R:=fun H w'=>(∃J F,H.tmps=Zha A u J F/\w'.heap[J]?=some (.cells #[.slice A 2 2,.slice u 1 1] 25 (0,0))/\w'.heap[F]?=some (.cells #[.int .i64 0,.int .i64 0] 94 (0,0))/\l.heap.size<=F)/\Old l w') ZV Zbk Zbl ZX hs aL rfl (by kernel_rfl) (fun v w t d h=>⟨h.1,h.2.size,h.2.get⟩) (fun t d=>Code.wp_mono (fun e H w' h=>⟨h.1,h.2.1,h.2.2.1,(Ze h.2.2.2).size,(Ze h.2.2.2).get⟩) (Zt2 A u _)) ?_;rintro⟨tm,df⟩ l1 B1 ⟨⟨J,F,T,n2,n4,aX⟩,aF⟩ U aA aR aM;cases T;cases U;have Z:=hB.old aF;rw[show shA=.seq (codeHd shA) shB from by kernel_rfl];refine Zah z ?_;refine ZbN (R:=fun H w'=>(∃D,H.tmps=Zhb A u J F D)/\Old l1 w') ZV Zbk Zbl ZX aR aM rfl (by kernel_rfl) (fun v w t d h=>⟨h.1,h.2.size,h.2.get⟩) (fun t d=>Code.wp_mono (fun e H w' h=>⟨h.1,h.2.1,h.2.2.1,(Ze h.2.2.2).size,(Ze h.2.2.2).get⟩) (Zt3 A u BB J F _ (Z.old ((Old.refl l1).re t d)) n2)) ?_;rintro⟨tm,df⟩ l2 B2 ⟨⟨D,T⟩,M⟩ U aB aS aN;cases T;cases U;have m2:=M.at n2;rw[show shB=.seq (codeHd shB) shC from by kernel_rfl];refine Zah z ?_;refine ZbN (R:=fun H w'=>(∃I,H.tmps=Zhc A u J F D I/\w'.heap[I]?=some (.cells #[.int .i64 0,.int .i64 0] 3 (0,0))/\l2.heap.size<=I)/\Old l2 w') ZV Zbk Zbl ZX aS aN rfl (by kernel_rfl) (fun v w t d h=>⟨h.1,h.2.size,h.2.get⟩) (fun t d=>Code.wp_mono (fun e H w' h=>⟨h.1,h.2.1,h.2.2.1,(Ze h.2.2.2).size,(Ze h.2.2.2).get⟩) (Zt4 A u J F D _ m2)) ?_;rintro⟨tm,df⟩ l3 B3 ⟨⟨I,T,n7,aY⟩,aG⟩ U aC aT aO;cases T;cases U;rw[show shC=.seq (codeHd shC) shD from by kernel_rfl];refine Zah z ?_;refine ZbN (R:=fun H w'=>(H.tmps=Znp A u J F D I/\w'.heap[I]?=some (.cells #[.int .i64 0,.int .i64 1] 3 (0,0))/\w'.heap.size=l3.heap.size/\∀b,b≠I->w'.heap[b]?=l3.heap[b]?)) ZV Zbk Zbl ZX aT aO rfl (by kernel_rfl) (fun v w t d h=>h) (fun t d=>Code.wp_mono (fun e H w' h=>h) (Zt7 A u J F D I (l3.re t d) n7)) ?_;rintro⟨tm,df⟩ Y B4 ⟨T,aV,aW,aI⟩ U aD hs ha;cases T;cases U;have N:Old l2 Y:=⟨by have:=aG.size;omega,fun b hb=>(aI b (by omega)).trans (aG.get b hb)⟩;have m:=Blk.le_trans (Blk.le_trans (Blk.le_trans aA aB) aC) aD;have aK:=(Z.old M).old N;have h2:=N.at m2;have h4:=N.at (M.at n4);have D2:=bk2 h2;rw[show shD=.seq (codeHd shD) shE from by kernel_rfl];refine Zah z ?_;simp only[codeHd,codeTl,shD,shC,shB,shA,shBody,Tryz.f45,ZzA];refine Zbi z ?_;simp only[ZyT,Zyd,Zyg,Nat.reduceAdd,Zzw,List.range,List.range.loop];refine Zak z ZX ZV hs (Zb ha (by kernel_rfl)) rfl rfl (by decide) (by kernel_rfl) (fun C y K r s=>?_);simp only[show ZL.P=prog from rfl];go_simp;first|refine r _ _ ?_|refine s _ ?_
 clear r s K C y;intro G a j i;replace m:=Blk.le_trans m a;clear hs ha a;have hs:=j;have ha:=i;clear j i;walk_nrm;refine Zak z ZX ZV hs (Zb ha (by kernel_rfl)) rfl rfl (by decide) (by kernel_rfl) (fun C y K r s=>?_);simp only[show ZL.P=prog from rfl];go_simp;first|refine r _ _ ?_|refine s _ ?_
 clear r s K C y;intro G a j i;replace m:=Blk.le_trans m a;clear hs ha a;have hs:=j;have ha:=i;clear j i;walk_nrm;refine Zak z ZX ZV hs (Zb ha (by kernel_rfl)) rfl rfl (by decide) (by kernel_rfl) (fun C y K r s=>?_);simp only[show ZL.P=prog from rfl];go_simp;first|refine r _ _ ?_|refine s _ ?_
 clear r s K C y;intro G a j i;replace m:=Blk.le_trans m a;clear hs ha a;have hs:=j;have ha:=i;clear j i;walk_nrm;have X:Old l Y:=aF.trans (M.trans N);refine ZcE (g:=83) (args:=#[.agg #[.slice A 2 2,.slice u 1 1],.slice (some ⟨I,0,none⟩) 2 2,.slice (some ⟨I,0,none⟩) 2 2,.int .i64 1000]) z rfl rfl (by decide) (by kernel_rfl) (fun w'=>by simp only[show ZO.P=prog from rfl];kernel_rfl) ?_;refine .stop _ _ _ (ZmF (R:=fun v=>v=.tuple #[.agg #[.int .i64 500,.int .i64 1000],.bool true]) Zjs aH (by simp) (fun c h=>by cases h) (ho.trans X).get (fun h hO=>Zub aK aV h) (fun v hv=>by subst hv;kernel_rfl) fun v n hv=>?_);subst hv;rw[Frame.finish_at];have hs:=hs.pad n;have ha:=ha.set 36 (VR.closed 8 (.tuple #[.agg #[.int .i64 500,.int .i64 1000],.bool true]) (by kernel_rfl));have O:Old Y (pad Y n):=⟨by rw[Zcm];omega,fun b hb=>Zcn Y n hb⟩;obtain⟨Q,aP⟩:∃Q,pad Y n=Q:=⟨_,rfl⟩;rw[aP]at hs O |-;walk_nrm;refine Zak z ZX ZV hs (Zb ha (by kernel_rfl)) rfl rfl (by decide) (by kernel_rfl) (fun C y K r s=>?_);simp only[show ZL.P=prog from rfl];go_simp;first|refine r _ _ ?_|refine s _ ?_
 clear r s K C y;intro G a j i;replace m:=Blk.le_trans m a;clear hs ha a;have hs:=j;have ha:=i;clear j i;walk_nrm;refine Zak z ZX ZV hs (Zb ha (by kernel_rfl)) rfl rfl (by decide) (by kernel_rfl) (fun C y K r s=>?_);simp only[show ZL.P=prog from rfl];go_simp;first|refine r _ _ ?_|refine s _ ?_
 clear r s K C y;intro G a j i;replace m:=Blk.le_trans m a;clear hs ha a;have hs:=j;have ha:=i;clear j i;walk_nrm;refine Zak z ZX ZV hs (Zb ha (by kernel_rfl)) rfl rfl (by decide) (by kernel_rfl) (fun C y K r s=>?_);simp only[show ZL.P=prog from rfl];go_simp;first|refine r _ _ ?_|refine s _ ?_
 clear r s K C y;intro G a j i;replace m:=Blk.le_trans m a;clear hs ha a;have hs:=j;have ha:=i;clear j i;walk_nrm;refine Zak z ZX ZV hs (Zb ha (by kernel_rfl)) rfl rfl (by decide) (by kernel_rfl) (fun C y K r s=>?_);simp only[show ZL.P=prog from rfl];go_simp;first|refine r _ _ ?_|refine s _ ?_
 clear r s K C y;intro G a j i;replace m:=Blk.le_trans m a;clear hs ha a;have hs:=j;have ha:=i;clear j i;walk_nrm;refine Zak z ZX ZV hs (Zb ha (by kernel_rfl)) rfl rfl (by decide) (by kernel_rfl) (fun C y K r s=>?_);simp only[show ZL.P=prog from rfl];go_simp;first|refine r _ _ ?_|refine s _ ?_
 clear r s K C y;intro G a j i;replace m:=Blk.le_trans m a;clear hs ha a;have hs:=j;have ha:=i;clear j i;walk_nrm;refine Zak z ZX ZV hs (Zb ha (by kernel_rfl)) rfl rfl (by decide) (by kernel_rfl) (fun C y K r s=>?_);simp only[show ZL.P=prog from rfl];go_simp;first|refine r _ _ ?_|refine s _ ?_
 clear r s K C y;intro G a j i;replace m:=Blk.le_trans m a;clear hs ha a;have hs:=j;have ha:=i;clear j i;walk_nrm;refine Zbj z ?_;obtain⟨S,L⟩:∃S,Q.alloc (.cells #[.int .i64 500,.int .i64 1000] 94 (0,0))=S:=⟨_,rfl⟩;have n8:S.heap[Q.heap.size]?=some (.cells #[.int .i64 500,.int .i64 1000] 94 (0,0)):=by rw[<-L];(repeat (first|assumption|(refine ZA _ _ ?_;(simp;done))|refine ZD ?_|refine Zz ?_ _|refine ZB ?_ (by simp<;>omega) _))
 have V:Old Q S:=by rw[<-L];exact Zp (by go_grown:Below Q.heap.size Q _)
 rw[L]at hs |-;clear L;have aJ:=V.at (O.at h4);refine ZmM (fn:=Tryz.f45) (x:=shE) (R:=fun v w=>v=.tuple #[.agg #[.int .i64 500,.int .i64 1000],.int .i64 0]/\S.heap.size<=w.heap.size/\∀b,b<S.heap.size->b≠F->w.heap[b]?=S.heap[b]?) ZV Zbk Zbl ZX hs (Zb ha (by kernel_rfl)) rfl (by kernel_rfl) func45 (fun v w t d h=>h) (fun t d=>Zhd (Zt8 A u J F D I Q.heap.size (S.re t d) aJ n8) fun e w h=>⟨_,h.1,rfl,h.2⟩) ?_;rintro v l7 B7 ⟨rfl,aZ,aQ⟩ aE aU hv;have z1:=X.size;have z2:=O.size;have z3:=V.size;refine k l7 B7 ⟨by omega,fun b hb=>?_⟩ (Blk.le_trans m aE) aU;exact(aQ b (by omega) (by omega)).trans ((V.get b (by omega)).trans ((O.get b (by omega)).trans (X.get b hb)))
variable {B:Blk}
attribute [local go_sem] Oper.semAt_some Zdl Zdm Zdn ZcF Zdo Zdp
def tmps3(A c:Option Addr)(a p1:Nat)(C d X:Option Addr)(x:Nat)(Y:Option Addr)(y p3:Nat)(D e:Option Addr)(g:Nat):Array Value:=#[.bool false,.pointer (some ⟨p1,0,none⟩),.int .i64 0,.pointer (some ⟨p3,0,none⟩),.int .i64 0,.pointer (some ⟨g,0,none⟩),.int .i64 0,undef,undef,undef,undef,.tuple #[.agg #[.int .i64 30,.int .i64 1],.int .i64 0],.agg #[.slice A 2 2,.slice c 1 1],.agg #[.int .i64 0,.int .i64 0],.slice (some ⟨a,0,none⟩) 1 1,.agg #[.int .i64 1,.int .i64 10,.slice (some ⟨a,0,none⟩) 1 1],.tuple #[.agg #[.int .i64 30,.int .i64 1],.int .i64 0],.agg #[.int .i64 30,.int .i64 1],.int .i64 0,.tuple #[ZbR X x Y y,.int .i64 0],.agg #[.slice C 2 2,.slice d 1 1],.agg #[.int .i64 1,.int .i64 50],.tuple #[ZbR X x Y y,.int .i64 0],ZbR X x Y y,.int .i64 0,.tuple #[.agg #[.int .i64 500,.int .i64 1000],.int .i64 0],.agg #[.slice D 2 2,.slice e 1 1],.tuple #[.agg #[.int .i64 500,.int .i64 1000],.int .i64 0],.agg #[.int .i64 500,.int .i64 1000],.int .i64 0,zu,zu,zu,zu,zu,zu,zu,zu,zu,zu,zu,zu,zu,zu,zu,zu,zu,zu,zu,zu,zu,zu,zu,zu,zu,zu,zu,zu,zu,zu,zu,zu,zu,zu,zu,zu,zu,zu,zu,zu,zu,zu,zu,zu,zu,zu,zu,zu,zu,zu,zu,zu,zu,zu]
theorem Zq{E:Env} {xs:Array Value} (h:AR E B xs xs)(i:Nat) {v:Value} (e:xs.getD i undef=v):VR E B v v:=e▸h.getD i undefR
theorem Znt(l:World)(t:Nat->Question->Nat)(d:Nat):Calls ZL.P 44 #[] (l.re t d) fun e w=>∃v,e=.returned v/\((∃A a B,v=.agg #[.slice A 2 2,.slice a 1 1]/\BookAt w A 2 Z4 a 1 (ZN B))/\Old l w):=(Zg8 (l.re t d)).mono fun e w h=>by obtain⟨⟨A,a,B,rfl,c,_⟩,g⟩:=h;exact⟨_,rfl,⟨A,a,B,rfl,c⟩,Ze g⟩
theorem Znu(l:World)(v:Value)(w:World)(t:Nat->Question->Nat)(d:Nat)(h:(∃A a B,v=.agg #[.slice A 2 2,.slice a 1 1]/\BookAt w A 2 Z4 a 1 (ZN B))/\Old l w):(∃A a B,v=.agg #[.slice A 2 2,.slice a 1 1]/\BookAt (w.re t d) A 2 Z4 a 1 (ZN B))/\Old l (w.re t d):=by obtain⟨⟨A,a,B,e,c⟩,g⟩:=h;exact⟨⟨A,a,B,e,c.old ((Old.refl w).re t d)⟩,g.re t d⟩
theorem Zue{Post:Value->World->Prop} {W l0:World} {j:Blk} {bs':List Frame} (L:∀b x,j b x->(fun _:Nat=>False) b∨(b=x/\x<l0.heap.size/\l0.heap[x]?=W.heap[x]?/\ZO.sh=false/\ZO.junk=false)) {A G:Option Addr} {m p1:Nat} {C H X:Option Addr} {x:Nat} {Y:Option Addr} {y p3:Nat} {cs:List Frame} (T:cs≠[]) {l:World} (hs:Self ZL (fun _=>False) B l) (ha:AR ZL B (tmps2 A G m p1 C H X x Y y p3) (tmps2 A G m p1 C H X x Y y p3)) (U:Old l0 l)(k:∀D E N l' u,B.le u->Self ZL (fun _=>False) u l'->AR ZL u (tmps3 A G m p1 C H X x Y y p3 D E N) (tmps3 A G m p1 C H X x Y y p3 D E N)->l'.heap[N]?=some (.cells #[.int .i64 500,.int .i64 1000] 94 (0,0))->Old l l'->LG ZO (StopG ZO Post W l0 j (fun _=>False) bs') ((Go.Conc.base 8).at ⟨tmps3 A G m p1 C H X x Y y p3 D E N,[]⟩ [.code aw4]) cs l'):LG ZO (StopG ZO Post W l0 j (fun _=>False) bs') ((Go.Conc.base 8).at ⟨tmps2 A G m p1 C H X x Y y p3,[]⟩ [.code aw3]) cs l:=by
 have r:Halts (StopG ZO Post W l0 j (fun _=>False) bs'):=Zd4;have e:B.le B:=Blk.le_refl _;rw[show aw3=.seq (codeHd aw3) aw4 from by kernel_rfl];refine Zah r ?_;simp only[codeHd,codeTl,aw3,aw2,aw1,awBody,Tryz.f8,ZzA,tmps2,ZbR];refine Zbi r ?_;simp only[ZyT,Zyd,Zyg,Nat.reduceAdd,Zzw,List.range,List.range.loop];refine ZmL (g:=44) (args:=#[]) r ZV Zbk Zbl ZX hs (Zb ha (by kernel_rfl)) rfl rfl (by decide) (by kernel_rfl) (fun w'=>by simp only[show ZL.P=prog from rfl];kernel_rfl) (by kernel_rfl) (AR.empty) (Znu l) (Znt l) ?_;rintro v l1 V ⟨⟨D,E,BB,rfl,O⟩,J⟩ I S F;clear hs ha;walk_nrm;refine ZcE (g:=45) (args:=#[.agg #[.slice D 2 2,.slice E 1 1],.int .i64 1]) r rfl rfl (by decide) (by kernel_rfl) (fun w'=>by simp only[show ZO.P=prog from rfl];kernel_rfl) ?_;refine Zud L S (Zb (((AR.replicate 2 undefR).set 0 (Zq F 26 (v:=.agg #[.slice D 2 2,.slice E 1 1]) (by kernel_rfl))).set 1 (.int .i64 1)) (by kernel_rfl)) O (U.trans J) fun M Z Q z hs=>?_;have ha:=(F.mono z).set 27 (VR.closed 8 (.tuple #[.agg #[.int .i64 500,.int .i64 1000],.int .i64 0]) (by kernel_rfl));replace e:=Blk.le_trans I z;rw[Frame.finish_at];clear F;walk_nrm;refine Zak r ZX ZV hs (Zb ha (by kernel_rfl)) rfl rfl (by decide) (by kernel_rfl) (fun s n K h i=>?_);simp only[show ZL.P=prog from rfl];go_simp;first|refine h _ _ ?_|refine i _ ?_
 clear h i K s n;intro u a d c;replace e:=Blk.le_trans e a;clear hs ha a;have hs:=d;have ha:=c;clear d c;walk_nrm;refine Zak r ZX ZV hs (Zb ha (by kernel_rfl)) rfl rfl (by decide) (by kernel_rfl) (fun s n K h i=>?_);simp only[show ZL.P=prog from rfl];go_simp;first|refine h _ _ ?_|refine i _ ?_
 clear h i K s n;intro u a d c;replace e:=Blk.le_trans e a;clear hs ha a;have hs:=d;have ha:=c;clear d c;walk_nrm;refine Zak r ZX ZV hs (Zb ha (by kernel_rfl)) rfl rfl (by decide) (by kernel_rfl) (fun s n K h i=>?_);simp only[show ZL.P=prog from rfl];go_simp;first|refine h _ _ ?_|refine i _ ?_
 clear h i K s n;intro u a d c;replace e:=Blk.le_trans e a;clear hs ha a;have hs:=d;have ha:=c;clear d c;walk_nrm;refine Zak r ZX ZV hs (Zb ha (by kernel_rfl)) rfl rfl (by decide) (by kernel_rfl) (fun s n K h i=>?_);simp only[show ZL.P=prog from rfl];go_simp;first|refine h _ _ ?_|refine i _ ?_
 clear h i K s n;intro u a d c;replace e:=Blk.le_trans e a;clear hs ha a;have hs:=d;have ha:=c;clear d c;walk_nrm;refine Zak r ZX ZV hs (Zb ha (by kernel_rfl)) rfl rfl (by decide) (by kernel_rfl) (fun s n K h i=>?_);simp only[show ZL.P=prog from rfl];go_simp;first|refine h _ _ ?_|refine i _ ?_
 clear h i K s n;intro u a d c;replace e:=Blk.le_trans e a;clear hs ha a;have hs:=d;have ha:=c;clear d c;walk_nrm;refine Zak r ZX ZV hs (Zb ha (by kernel_rfl)) rfl rfl (by decide) (by kernel_rfl) (fun s n K h i=>?_);simp only[show ZL.P=prog from rfl];go_simp;first|refine h _ _ ?_|refine i _ ?_
 clear h i K s n;intro u a d c;replace e:=Blk.le_trans e a;clear hs ha a;have hs:=d;have ha:=c;clear d c;walk_nrm;refine Zbj r ?_;have R:Old M (M.alloc (.cells #[.int .i64 500,.int .i64 1000] 94 (0,0))):=Zp (by go_grown:Below M.heap.size M _);refine k D E M.heap.size _ _ e hs (Zb ha (by kernel_rfl)) (by(repeat (first|assumption|(refine ZA _ _ ?_;(simp;done))|refine ZD ?_|refine Zz ?_ _|refine ZB ?_ (by simp<;>omega) _))) (J.trans (Q.trans R))
end Go.Proofs
namespace Go.Proofs
open Go.RowKit Go.Twin Go.Conc
variable {w:World}
theorem Znv(d:GlobOk w):∀b x,awB b x->(fun _:Nat=>False) b∨(b=x/\x<(Z7 w).heap.size/\(Z7 w).heap[x]?=w.heap[x]?/\ZO.sh=false/\ZO.junk=false):=fun b x a=>by obtain⟨rfl,a⟩:=a;obtain⟨e,T,f,c,_⟩:=d.ints b a;refine .inr ⟨rfl,?_,ZeR w (ZeS a).1 (ZeS a).2,rfl,rfl⟩;rw[Zc1];exact(Zwm.1 c).1
theorem Zuf{Post:Value->World->Prop} {cs:List Frame} {bs':List Frame} (u:cs≠[])(F:GlobOk w)(k:∀A e a p1 C g X x Y y p3 D h d l' n,awB.le n->Self ZL (fun _=>False) n l'->AR ZL n (tmps3 A e a p1 C g X x Y y p3 D h d) (tmps3 A e a p1 C g X x Y y p3 D h d)->l'.heap[p1]?=some (.cells #[.int .i64 30,.int .i64 1] 30 (0,0))->l'.heap[p3]?=some (Zdx X x Y y)->l'.heap[d]?=some (.cells #[.int .i64 500,.int .i64 1000] 94 (0,0))->Old (Z7 w) l'->LG ZO (StopG ZO Post w (Z7 w) awB (fun _=>False) bs') ((Go.Conc.base 8).at ⟨tmps3 A e a p1 C g X x Y y p3 D h d,[]⟩ [.code aw4]) cs l'):LG ZO (StopG ZO Post w (Z7 w) awB (fun _=>False) bs') (Frame.enter Tryz.prog 8 #[] .normal) cs (Z7 w):=by rw[Znl];refine Zt1 Zd4 F fun A e a p1 C g X x Y y p3 M L i z r I J m=>?_;exact Zue (Znv F) u z r m fun D h d H G j E s K c=>k A e a p1 C g X x Y y p3 D h d H G (Blk.le_trans i j) E s (c.at I) (c.at J) K (m.trans c)
end Go.Proofs
namespace Go.Proofs
open Tryz
open Go.RowKit
theorem Zug{l:List UInt8} (h:Zam l=true):∀c∈l,c≠32/\c≠10:=fun c e=>by
 unfold Zam ZcJ at h;simp only[ZwL,Zxl,ZyF]at h;obtain⟨i,d⟩:=Zx2 e;have a:=h.2 i (Zx0.1 d).1;rw[ZxS,d]at a;simp only[ZzA]at a;constructor;·rintro rfl;revert a;simp[Zbx,Ze2]
 ·rintro rfl;revert a;simp[Zbx,Ze2]
def Zcp(k ag v den lev:Int)(W:List Int):List Int:=if k=1 then ag::v::den::lev::W else v::den::lev::W
theorem ZjA(nm:List UInt8)(k ag v den lev:Int)(W:List Int):ZbQ nm k ag v den lev W=nm::(if k=1 then Zg7 else Zg6)::(Zcp k ag v den lev W).map Lib.itoa:=by unfold ZbQ Zcp;split<;>simp
theorem Zuh:((bs Zg6).toList==[109,101,97,110])=true/\((bs Zg6).toList==[115,104,97,114,101])=false/\((bs Zg7).toList==[109,101,97,110])=false/\((bs Zg7).toList==[115,104,97,114,101])=true:=by rw[ByteArray.toList_eq,ByteArray.toList_eq,Zey,Zey];decide
theorem Zui(k ag v den lev:Int)(W:List Int):3<=(Zcp k ag v den lev W).length/\(Zcp k ag v den lev W).length=W.length+(if k=1 then 4 else 3):=by unfold Zcp;split<;>simp
theorem Zuj{nm:List UInt8} {k ag v den lev:Int} {W:List Int} (e:Zam nm=true):cutL (Lib.join (ZbQ nm k ag v den lev W) [32])=ZbQ nm k ag v den lev W:=by
 refine ZlA _ (by rw[ZjA];simp) fun x a=>?_;rw[ZjA]at a;rcases Zyx.1 a with rfl|a;·exact fun c d=>(Zug e c d).1
 rcases Zyx.1 a with rfl|a;·split<;>decide
 ·obtain⟨n,-,rfl⟩:=ZyC.1 a;exact fun c d=>((Zqp n).2 c d).1
section
variable {P:Program} {f:Operand->Value} {o:Oper} {t ty:TypeId} {p q:Operand} {b:Nat} {v0 v1 v2 u0 u1 u2 u3 u4 u5 u6:Value} {x:World}
theorem Zuk(g:o.op=.store t p q)(h0:v0.oneCell'=true)(d:v1.oneCell'=true)(e:v2.oneCell'=true)(a:Sem.run P (sizeOf t) x=.ok 3 x)(hp:f p=.pointer (some ⟨b,4,none⟩))(hq:f q=.agg #[v0,v1,v2])(hz:x.heap[b]?=some (.cells #[u0,u1,u2,u3,u4,u5,u6] ty (0,0))):(execOp f o).run P x=.ok .skip (((x.setCell ⟨b,4,none⟩ v0).setCell ⟨b,5,none⟩ v1).setCell ⟨b,6,none⟩ v2):=by have c:=bk7 hz;unfold execOp;rw[g];simp[go_sem,hp,hq,c,a,run_store _ _ _ v0 _ h0,run_store _ _ _ v1 _ d,run_store _ _ _ v2 _ e]
theorem Zul{n:Int} (d:o.op=.store t p q)(a:Sem.run P (sizeOf t) x=.ok 1 x)(hp:f p=.pointer (some ⟨b,3,none⟩))(hq:f q=.int .i64 n)(hz:x.heap[b]?=some (.cells #[u0,u1,u2,u3,u4,u5,u6] ty (0,0))):(execOp f o).run P x=.ok .skip (x.setCell ⟨b,3,none⟩ (.int .i64 n)):=by have c:=bk7 hz;unfold execOp;rw[d];simp[go_sem,hp,hq,c,a]
end
theorem Zum(nm:List UInt8)(v den lev:Int)(W:List Int)(C:Nat)(w:World)(bE:nm.length<=20)(aA:Zam nm=true)(D:NumsR 0 v den lev W)(bK:W.length=C)(ht:Tabs w):Calls prog 47 #[.string (bs (Lib.join (ZbQ nm 0 0 v den lev W) [32]))] w fun e w'=>(∃A c,e=.returned (.tuple #[.agg #[.string (bs nm),.int .i64 0,.int .i64 0,.int .i64 v,.int .i64 den,.int .i64 lev,.slice A C c],.int .i64 0])/\At 1 Zc w' A W)/\Below w.heap.size w w':=by
 have bB:=ZtS (k:=0) bE D;have E:=Zxi fun W' (hb:Below w.heap.size w W')=>Zqu (bs (Lib.join (ZbQ nm 0 0 v den lev W) [32])) W' (by rw[Zgq];omega) (ht.below hb);simp only[Zey,Zuj aA]at E;obtain⟨bZ,cA,-⟩:=Znm (k:=0) bE D;have bD:∀x∈Zcp 0 0 v den lev W,x.natAbs<10^(12+1):=fun x z=>by
  have h1:=D.ag;have h2:=D.v;have h3:=D.den;have h4:=D.lev;unfold Zcp at z;split at z
  ·simp only[Zyx]at z;rcases z with rfl|rfl|rfl|rfl|z;·omega
   ·omega
   ·omega
   ·omega
   ·have:=D.wt x z;omega
  ·simp only[Zyx]at z;rcases z with rfl|rfl|rfl|z;·omega
   ·omega
   ·omega
   ·have:=D.wt x z;omega
 have Z:=Zxi fun(A:Option Addr)(m c:Nat)(W':World)(hb:Below w.heap.size w W')(hA:At 1 Sc W' A ((Zcp 0 0 v den lev W).map Lib.itoa))(hm:(Zcp 0 0 v den lev W).length=m)(h9:m<=900)=>Zqy A (Zcp 0 0 v den lev W) 12 m c W' (by decide) bD hA hm h9 (ht.below hb);obtain⟨S,hS⟩:∃S,bs (Lib.join (ZbQ nm 0 0 v den lev W) [32])=S:=⟨_,rfl⟩;rw[hS]at E |-;rw[ZjA]at E;have aJ:((12+1:Nat):Int)=13:=rfl;simp only[aJ]at Z;have aE:=Zxi D;have cN:=Zxi aA;have aB:∀x,(sizeOf 60).run prog x=.ok 7 x:=fun x=>by kernel_rfl
 have aS:∀x,(isAgg 60).run prog x=.ok true x:=fun x=>by kernel_rfl
 have bG:=Zxi fun W=>Zb0 v 0 1000 W;have bH:=Zxi fun W=>Zb0 den 1 1000000000000 W;have bI:=Zxi fun W=>Zh5 lev 1000000000000 W (by decide);rw[ZaW.2 D.v]at bG;rw[ZaW.2 D.den]at bH;rw[show Za7 lev 1000000000000=true from ZaW.2 (by have:=D.lev;omega)]at bI;have aP:=Zxi fun W=>Ze3 (bs nm) W (by rw[Zgq];omega);rw[Zey,aA]at aP;have aK:=Zxi fun W=>Zh6 0 0 W;rw[ZkK.2 ⟨.inl rfl,D.ag.1,D.ag.2⟩]at aK;clear bB bZ cA bD hS ht D aA;obtain⟨q1,q2,q3,q4⟩:=Zuh;obtain⟨l1,l2⟩:=Zui 0 0 v den lev W;have aR:=aE.out.n;obtain⟨N,hN⟩:∃N,Zcp 0 0 v den lev W=N:=⟨_,rfl⟩;have bP:=Zxi hN;rw[hN]at E Z l1 l2;obtain⟨m,hm⟩:∃m,N.length=m:=⟨_,rfl⟩;have bW:=Zxi hm;obtain⟨n,hn⟩:∃n,m+1+1=n:=⟨_,rfl⟩;simp only[Zyd,Zyf,hm,hn]at E Z;have dB:=Zxi l2;have cR:3<=m:=by omega
 have cI:m<=12:=by split at l2<;>omega
 have cX:¬(n:Int)<2:=by omega
 have cU:(0:Int)<(n:Int):=by omega
 have cV:(1:Int)<(n:Int):=by omega
 have cW:(2:Int)<=(n:Int):=by omega
 have cT:n-2=m:=by omega
 have cS:¬(m:Int)<3:=by omega
 have cJ:(0:Int)<(m:Int):=by omega
 have cK:(1:Int)<(m:Int):=by omega
 have cL:(2:Int)<(m:Int):=by omega
 clear hN hm hn l1 l2 aR aJ;simp only[show ¬((0:Int)=1)by decide,if_false]at E;go_enter func47,ntmps47;go_wp2_with (first|(go_at_call 85;refine(E.out _ (by go_grown)).mono ?_;rintro e w2 ⟨⟨A,c,rfl,Y,cY⟩,aG⟩;(obtain⟨b,o,rfl,bT,aW⟩:=Y 0 _ rfl);(obtain⟨b',o',e1,-,aX⟩:=Y 1 _ rfl);cases e1;(have y0:=aW 0 _ rfl);(have y1:=aX 0 _ rfl);(have aL:=Zxi (Y.tail1 2));simp only[Zy6,Zzy,Nat.one_mul]at y0 y1;(have M0:=Zw aG (ZA w (.cells #[.string (ByteArray.mk #[]),.int .i64 0,.int .i64 0,.int .i64 0,.int .i64 0,.int .i64 0,.slice none 0 0] 60 (0,0)) rfl));(have cZ:=ZI M0);(have Q:=via (ZC w (.cells #[.string (ByteArray.mk #[]),.int .i64 0,.int .i64 0,.int .i64 0,.int .i64 0,.int .i64 0,.slice none 0 0] 60 (0,0))) aG);clear Y aW aX aG)|(go_at_call 86;refine(Z.out _ m _ _ Q (by have:=aL.out;simpa using this) rfl (by omega)).mono ?_;rintro e J ⟨⟨A2,U,rfl,aQ⟩,I⟩;(have z0:=Zde y0 I);(have z1:=Zde y1 I);(have M1:=Zw I M0);(have R:=via Q I);(have H:=Zxi aQ);(have cH:=Zzf bT I.size);clear aQ I y0 y1 M0)|(refine ZaT (by with_reducible rfl) (.tmp 7) (.tmp 40) 60 (by with_reducible rfl) J.heap.size [.string (bs nm),.int .i64 0,.int .i64 0,.int .i64 0,.int .i64 0,.int .i64 0,.slice none 0 0] [.string (ByteArray.mk #[]),.int .i64 0,.int .i64 0,.int .i64 0,.int .i64 0,.int .i64 0,.slice none 0 0] 60 ?sp ?sq (aB _) ?sb rfl (by simp[Value.oneCell']) ?_));case sp=>rfl
 case sq=>rfl
 case sb=>exact ZA _ _ rfl
 intro w4 F aY bF;have cO:=ZI M1;have d:Below J.heap.size J w4:=Z3 (ZC _ _) aY fun b e=>by cases e;exact Zza _
 have x0:=Zde z0 d;have x1:=Zde z1 d;have M2:=Zw d M1;have aT:=via R d;have hL:=Zxi (ZaE H.out);have aN:=Zxi ((ZaE H.out).below d);have bQ:N=v::den::lev::W:=by rw[<-bP.out];rfl
 subst bQ;have cM:m<=U:=ZiC H.out;have bX:m-3=C:=by have:=bW.out;simp at this;omega
 obtain⟨K,o2,rfl,bM,c0⟩:=Zan hL.out (k:=0) (by simp);obtain⟨_,_,ee,-,c1⟩:=Zan hL.out (k:=1) (by simp);cases ee;obtain⟨_,_,ee,-,aC⟩:=Zan hL.out (k:=2) (by simp);cases ee;simp only[ZxR,ZxQ,Zy6]at c0 c1 aC;have e0:=Zde c0 d;have e1:=Zde c1 d;have e2:=Zde aC d;have L:=Zzf bM d.size;have G:K≠J.heap.size:=by omega
 have aM:K≠w.heap.size:=by have:=(H.out.lt K rfl).1;omega
 clear c0 c1 aC;have F0:=bk7 M2;have F4:=bk7 F;clear aY bF d M1 z0 z1 Q;have bR:=aT;have O:=F;have aF:=Zxi (aN.out.tail1 3);simp only[Zzn]at aF;clear aT F aN hL;go_wp2;refine wp_region_any (by kernel_rfl) ?_;refine Zie 15 _ rfl rfl (by kernel_rfl) (by kernel_rfl) (by kernel_rfl) (by kernel_rfl) ?_;simp only[ZyY,Zy0];apply ZlF w 13 J.heap.size (.cells #[.string (bs nm),.int .i64 0,.int .i64 0,.int .i64 0,.int .i64 0,.int .i64 0,.slice none 0 0] 60 (0,0)) (.cells #[.string (bs nm),.int .i64 0,.int .i64 0,.int .i64 v,.int .i64 0,.int .i64 0,.slice none 0 0] 60 (0,0));case hB=>kernel_rfl
 case hB'=>kernel_rfl
 case hS=>kernel_rfl
 case hN=>kernel_rfl
 case hkd=>kernel_rfl
 case hw=>exact bR
 case hb=>exact R.size
 case h4=>exact O
 case hq=>
  intro u hu bA;have cG:=Zzf L hu.2.1;have G0:=(World.cell?_of_block (a:=⟨K,o2,none⟩) (hu.2.2 K L G)).trans e0;have G1:=(World.cell?_of_block (a:=⟨K,o2+1,none⟩) (hu.2.2 K L G)).trans e1;have G2:=(World.cell?_of_block (a:=⟨K,o2+2,none⟩) (hu.2.2 K L G)).trans e2;simp only[mixL,yieldsC,Zxu,Zxx,Nat.reduceAdd,Nat.reduceBEq,Zzw,ZwV,ZwX,ZwQ,ZwY,ZwP,if_true,if_false,ZwW,Nat.reduceEqDiff];repeat (go_big_quiet_step (fail))
  exact wpQuiet_nil rfl
 case hs4=>intro o ho x z hz;simp only[ZxV,ZxW,ZzF]at ho;subst ho;exact⟨_,Zul rfl (by kernel_rfl) rfl rfl hz,(OnlyB.refl _ _).set _ _,ZG hz _ rfl⟩
 intro x z hz;refine Ziw (Zuk rfl rfl rfl rfl (by kernel_rfl) rfl rfl hz) ?_;obtain⟨V,hA9⟩:∃A:Option Addr,(if U=3 then some ⟨K,o2,none⟩else some ⟨K,o2+3,none⟩)=A:=⟨_,rfl⟩;obtain⟨X9,M⟩:∃X,((x.setCell ⟨J.heap.size,4,none⟩ (.int .i64 den)).setCell ⟨J.heap.size,5,none⟩ (.int .i64 lev)).setCell ⟨J.heap.size,6,none⟩ (.slice V C (U-3))=X:=⟨_,rfl⟩;have aD:OnlyB J.heap.size x X9:=by rw[<-M];exact(((OnlyB.refl _ _).set _ _).set _ _).set _ _
 have Z9:X9.heap[J.heap.size]?=some (.cells #[.string (bs nm),.int .i64 0,.int .i64 0,.int .i64 v,.int .i64 den,.int .i64 lev,.slice V C (U-3)] 60 (0,0)):=by rw[<-M];exact ZG (ZG (ZG hz _ rfl) _ rfl) _ rfl
 have cF:x.heap.size=X9.heap.size:=by rw[<-M];simp
 simp only[bX,hA9];rw[M];have aI:∀k,k<w4.heap.size->k≠J.heap.size->X9.heap[k]?=w4.heap[k]?:=fun k h1 h2=>(aD.other k h2).trans (z.2.2 k h1 h2);have aU:Below w.heap.size w X9:=z.1.trans (aD.below _ R.size);have M9:=(aI w.heap.size (ZI M2) (by omega)).trans M2;have aO:=Zxi (show At 1 Zc X9 V W from by
  rw[<-hA9];split
  ·have h0:C=0:=by omega
   rw[ZxE (bK.trans h0)];exact fun k x z=>by simp at z
  ·exact Ziy (aF.out) (by have:=z.2.1;omega) fun g e=>by cases e;exact aI _ L G);have F9:=bk7 Z9;have J0:=bk7 M9;clear M aI aD cF z hz aF e0 e1 e2 O M2;go_wp2_with (first
  |(go_at_call 69;first|(refine Calls.mono (by with_reducible exact bG.out _) ?_;rintro e w' ⟨rfl,rfl⟩)|(refine Calls.mono (by with_reducible exact bH.out _) ?_;rintro e w' ⟨rfl,rfl⟩))|(go_at_call 87;refine(bI.out _).mono ?_;rintro e w' ⟨rfl,rfl⟩));go_loopw [8,105] (fun r i wr=>∃j:Nat,j<=C/\r=.bool true/\i=.int .i64 j/\wr=X9)(fun _ i _=>C-(intOf i).toNat);case atStart=>exact⟨0,Zzx _,rfl,rfl,rfl⟩
 case round=>
  obtain⟨j,hj,rfl,rfl,rfl⟩:=hrel;by_cases bV:j<C
  ·have cQ:(j:Int)<(C:Int):=by omega
   obtain⟨b3,o3,rfl,dA,c4⟩:=Zan aO.out (k:=j) (by rw[bK];exact bV);obtain⟨y,hy⟩:∃y,W.getD j 0=y:=⟨_,rfl⟩;have cE:0<=y/\y<=1000000000000:=by rw[<-hy,ZxS,ZxX (by omega)];exact aE.out.wt _ (Zya _)
   rw[hy]at c4;have bJ:=Zxi fun W=>Zb0 y 0 1000000000000 W;rw[ZaW.2 cE]at bJ;go_wp2_with (go_at_call 69;refine(bJ.out _).mono ?_;rintro e w' ⟨rfl,rfl⟩);go_roundw;case rel=>exact⟨j+1,by omega,by first|rfl|trivial,by go_num,by first|rfl|trivial⟩
   case measure=>simp[intOf]<;>omega
  ·obtain rfl:C=j:=by omega
   have aR:=aE.out.n;have bL:(C:Int)<=8:=by omega
   have cD:decide ((C:Int)<=8)=true:=by simpa using bL
   go_wp2;refine ZaR w 15 (by kernel_rfl) (by kernel_rfl) aU ?_;intro bA bU;simp only[ZyY,Zy0,ZxB,ZxC];repeat (go_big_quiet_step (first|(go_at_call 62;with_reducible exact Grew.call (aP.out _))|(go_at_call 68;with_reducible exact Grew.call (aK.out _))|(go_at_call 67;with_reducible exact Zd (Zbn _ _ _))))
   refine wpQuiet_nil ?_;intro wb s cC bY;clear bA bU;have Q9:=Zw s Z9;have P9:=Zw s M9;have bN:=Zxi (aO.out.below s);have bS:=via aU s;clear Z9 M9 F9 J0;go_wp2_with (first
    |(go_at_call 65;refine(Zcd _ _ _ _ _).mono ?_;rintro e w' ⟨rfl,rfl⟩)|(refine Zen (by with_reducible rfl) (.tmp 7) 60 (by with_reducible rfl) J.heap.size [.string (bs nm),.int .i64 0,.int .i64 0,.int .i64 v,.int .i64 den,.int .i64 lev,.slice V C (U-3)] 60 ?lp (aS _) (aB _) ?lb ?_)|(refine ZaT (by with_reducible rfl) (.tmp 2) (.tmp 136) 60 (by with_reducible rfl) w.heap.size [.string (bs nm),.int .i64 0,.int .i64 0,.int .i64 v,.int .i64 den,.int .i64 lev,.slice V C (U-3)] [.string (ByteArray.mk #[]),.int .i64 0,.int .i64 0,.int .i64 0,.int .i64 0,.int .i64 0,.slice none 0 0] 60 ?sp2 ?sq2 (aB _) ?sb2 rfl (by simp[Value.oneCell']) ?_));case lp=>rfl
   case lb=>exact Zz Q9 _
   all_goals try (case sp2=>rfl)
   all_goals try (case sq2=>rfl)
   case sb2=>exact Zz P9 _
   intro w9 aH aZ cP;have aV:Below w.heap.size w w9:=Z3 (via bS (ZC _ _)) aZ fun b e=>by have:=ZzE e;omega
   have bO:=Zxi (Zix (bN.out.below (ZC _ _)) aZ fun g e=>by rw[<-hA9]at e;split at e<;>(cases e;intro h;exact aM (ZzE h)));go_wp2;refine bodyPost_ret (v:=.tuple #[.agg #[.string (bs nm),.int .i64 0,.int .i64 0,.int .i64 v,.int .i64 den,.int .i64 lev,.slice V C (U-3)],.int .i64 0]) ?_ rfl ⟨⟨V,U-3,rfl,bO.out⟩,aV⟩;exact ZaB (p:=2) (u:=3) (ad:=⟨w.heap.size,0,none⟩) (v:=.agg #[.string (bs nm),.int .i64 0,.int .i64 0,.int .i64 v,.int .i64 den,.int .i64 lev,.slice V C (U-3)]) rfl (by rfl) (Zac (T:=60) (cs:=[.string (bs nm),.int .i64 0,.int .i64 0,.int .i64 v,.int .i64 den,.int .i64 lev,.slice V C (U-3)]) (aS _) (aB _) aH)
end Go.Proofs
namespace Go.Proofs
open Tryz
open Go.RowKit Go.Twin Go.Conc
def ZeT:List UInt8:=[111,108,100,49]
theorem Zun:NumsR 0 30 1 10 [20]:=⟨by decide,by decide,by decide,by decide,by decide,by decide⟩
theorem Zuo(B:Option Addr):Zex Z4 (ZN B) (bs ZeT) 0 0 30 1 10 [20]=0:=by
 have a:exs (ZN B)=exs (ZN none):=rfl;refine ZpW (Zdw B) (by decide+kernel) (ZkK.2 (by decide)) (by decide) ?_ ?_ ?_;·exact Zfi.1 (show Za0 1 1 10 [20]=0 by decide+kernel)
 ·rw[a];decide+kernel
 ·rw[a];decide+kernel
theorem Zup:bs (Lib.join (ZbQ ZeT 0 0 30 1 10 [20]) [32])=ByteArray.mk #[111,108,100,49,32,109,101,97,110,32,51,48,32,49,32,49,48,32,50,48]:=by
 have h:Lib.join (ZbQ ZeT 0 0 30 1 10 [20]) [32]=[111,108,100,49,32,109,101,97,110,32,51,48,32,49,32,49,48,32,50,48]:=by decide+kernel
 rw[h];rfl
def tmps4(A c:Option Addr)(a p1:Nat)(C d X:Option Addr)(x:Nat)(Y:Option Addr)(y p3:Nat)(D e:Option Addr)(h:Nat)(F g:Option Addr):Array Value:=#[.bool false,.pointer (some ⟨p1,0,none⟩),.int .i64 0,.pointer (some ⟨p3,0,none⟩),.int .i64 0,.pointer (some ⟨h,0,none⟩),.int .i64 0,.int .i64 1,.int .i64 0,undef,undef,.tuple #[.agg #[.int .i64 30,.int .i64 1],.int .i64 0],.agg #[.slice A 2 2,.slice c 1 1],.agg #[.int .i64 0,.int .i64 0],.slice (some ⟨a,0,none⟩) 1 1,.agg #[.int .i64 1,.int .i64 10,.slice (some ⟨a,0,none⟩) 1 1],.tuple #[.agg #[.int .i64 30,.int .i64 1],.int .i64 0],.agg #[.int .i64 30,.int .i64 1],.int .i64 0,.tuple #[ZbR X x Y y,.int .i64 0],.agg #[.slice C 2 2,.slice d 1 1],.agg #[.int .i64 1,.int .i64 50],.tuple #[ZbR X x Y y,.int .i64 0],ZbR X x Y y,.int .i64 0,.tuple #[.agg #[.int .i64 500,.int .i64 1000],.int .i64 0],.agg #[.slice D 2 2,.slice e 1 1],.tuple #[.agg #[.int .i64 500,.int .i64 1000],.int .i64 0],.agg #[.int .i64 500,.int .i64 1000],.int .i64 0,.tuple #[.int .i64 1,.int .i64 0],.agg #[.slice F 2 2,.slice g 1 1],.agg #[.int .i64 4,.int .i64 5],.tuple #[.int .i64 1,.int .i64 0],.int .i64 1,.int .i64 0,zu,zu,zu,zu,zu,zu,zu,zu,zu,zu,zu,zu,zu,zu,zu,zu,zu,zu,zu,zu,zu,zu,zu,zu,zu,zu,zu,zu,zu,zu,zu,zu,zu,zu,zu,zu,zu,zu,zu,zu,zu,zu,zu,zu,zu,zu,zu,zu]
theorem Zuq(A O:Option Addr)(S p1:Nat)(C C2 X:Option Addr)(x:Nat)(Y:Option Addr)(y p3:Nat)(D D2:Option Addr)(Z:Nat)(F F2:Option Addr)(w:World)(ht:Tabs w)(n1:w.heap[p1]?=some (.cells #[.int .i64 30,.int .i64 1] 30 (0,0)))(n3:w.heap[p3]?=some (Zdx X x Y y))(n5:w.heap[Z]?=some (.cells #[.int .i64 500,.int .i64 1000] 94 (0,0))):aw5.wp prog (bodyPost prog Tryz.f8 fun e w'=>e=.returned (.bool true)/\Below w.heap.size w w') ⟨tmps4 A O S p1 C C2 X x Y y p3 D D2 Z F F2,[]⟩ w:=by
 simp only[codeHd,codeTl,aw5,aw4,aw3,aw2,aw1,awBody,Tryz.f8,ZzA,tmps4,ZbR];have J:=Zxi fun W (m:Below w.heap.size w W)=>Zum ZeT 30 1 10 [20] 1 W (by decide) (by decide+kernel) Zun rfl (ht.below m);rw[Zup]at J;have V:=Zxi fun W=>Zg8 W;have T:=Zxi fun W A O B C c (hB:BookAt W A 2 Z4 O 1 (ZN B)) (i:At 1 Zc W C [20])=>ZpP A O C 2 1 2 1 c 1 Z4 (ZN B) (bs ZeT) 0 0 30 1 10 [20] W hB (ZfP B) rfl rfl (by decide+kernel) i rfl (by decide);have aG:∀x,(sizeOf 60).run prog x=.ok 7 x:=fun x=>by kernel_rfl
 have Q1:=Zxi n1;have Q3:=Zxi n3;have Q5:=Zxi n5;clear ht n1 n3 n5;go_wp2_with (first|(go_at_call 47;refine(J.out _ (ZwJ _ _)).mono ?_;rintro e w3 ⟨⟨G,c,rfl,i⟩,M⟩;(have H:=Zxi i);clear i));have a:=M;refine Zbf ?_;intro u0 E;have X1:u0.heap[p1]?=some (.cells #[.int .i64 30,.int .i64 1] 30 (0,0)):=by rw[E];exact Zz (Zw a Q1.out) _
 have X3:u0.heap[p3]?=some (Zdx X x Y y):=by rw[E];exact Zz (Zw a Q3.out) _
 have X5:u0.heap[Z]?=some (.cells #[.int .i64 500,.int .i64 1000] 94 (0,0)):=by rw[E];exact Zz (Zw a Q5.out) _
 have X9:u0.heap[w3.heap.size]?=some (.cells #[.string (bs ZeT),.int .i64 0,.int .i64 0,.int .i64 30,.int .i64 1,.int .i64 10,.slice G 1 c] 60 (0,0)):=by rw[E];exact ZA w3 _ rfl
 have N:Below w.heap.size w u0:=by rw[E];exact via a (ZC _ _)
 have U:=Zxi (show At 1 Zc u0 G [20]by rw[E];exact H.out.below (ZC _ _));clear E H M a Q1 Q3 Q5;unfold Zdx at X3;refine wp_region_any (by kernel_rfl) ?_;apply Zgo w (fun y=>Below u0.heap.size u0 y) [39,41] (fun j g=>if j=39 then .agg #[.slice g.a1 2 2,.slice g.a2 1 1]else .int .i64 0)
  (fun L g y=>L 39=true->∃B,BookAt y (g 39).a1 2 Z4 (g 39).a2 1 (ZN B));case hB=>kernel_rfl
 case hB'=>intro g;kernel_rfl
 case hS=>kernel_rfl
 case hN=>kernel_rfl
 case hC0=>exact ZwJ _ _
 case hCs=>exact fun y y' h m=>h.trans (m.mono h.size)
 case hCw=>exact fun y h=>via N h
 case h0=>intro L h d;rw[h 39 (by simp)]at d;cases d
 case hst=>intro L L' g y y' h I m d;obtain⟨B,hB⟩:=I (by rw[<-h 39 (by simp)];exact d);exact⟨B,hB.below m⟩
 case hq=>
  have aD:∀W,(binOp .eql 30 (.agg #[.int .i64 30,.int .i64 1]) (.agg #[.int .i64 30,.int .i64 1])).run prog W=.ok (.bool true) W:=fun W=>by kernel_rfl
  have aA:∀W,(binOp .eql 30 (.agg #[.int .i64 1,.int .i64 2]) (.agg #[.int .i64 1,.int .i64 2])).run prog W=.ok (.bool true) W:=fun W=>by kernel_rfl
  have aB:∀W,(binOp .eql 94 (.agg #[.int .i64 500,.int .i64 1000]) (.agg #[.int .i64 500,.int .i64 1000])).run prog W=.ok (.bool true) W:=fun W=>by kernel_rfl
  intro g u R aF N aE;have D1:=bk2 (Zw R X1);have D3:=bk7 (Zw R X3);have D5:=bk2 (Zw R X5);have D9:=bk7 (Zw R X9);simp only[mixL,yieldsC,Zxu,Zxx,Nat.reduceAdd,Nat.reduceBEq,Zzw,ZwV,ZwX,ZwQ,ZwY,ZwP,if_true,if_false,ZwW,Nat.reduceEqDiff];repeat (go_big_quiet_step (fail))
  exact wpQuiet_nil rfl
 case hind=>intro j s;simp only[Zyx,ZyN,or_false]at s;rcases s with rfl|rfl<;>(intro g h;kernel_rfl)
 case hwa=>intro g j s;simp only[Zyx,ZyN,or_false]at s;rcases s with rfl|rfl<;>(intro o z;simp only[Zx9,ZxV,ZxW,ZzF]at z;subst z;kernel_rfl)
 case hsp=>
  intro j s o z L g y I i K hL r aC;simp only[Zyx,ZyN,or_false]at s;rcases s with rfl|rfl;·simp only[ZxV,ZxW,ZzF]at z;subst z;refine Zb2 (by kernel_rfl) ((V.out y).mono ?_);rintro e y' ⟨⟨A5,A6,Q,rfl,n,-⟩,m⟩;refine⟨_,rfl,i.trans (m.mono i.size),.inr ⟨{Gh.zero with a1:=A5,a2:=A6},rfl,fun _=>?_⟩⟩;rw[Zag];exact⟨Q,n⟩
  ·simp only[ZxV,ZxW,ZzF]at z;subst z;have d:L 39=true:=r ⟨39,.data⟩ (by simp) rfl;obtain⟨Q,n⟩:=I d;refine Zb2 (by kernel_rfl) ((T.out y _ _ Q G c n (U.out.below i)).mono ?_);rw[Zuo];rintro e y' ⟨rfl,m⟩;refine⟨_,rfl,i.trans (m.mono i.size),.inr ⟨Gh.zero,rfl,fun _=>?_⟩⟩;rw[upd_ne (by decide)];exact⟨Q,n.below m⟩
 intro g y I i K;clear I;go_wp2;go_ret;exact⟨rfl,K⟩
theorem Tabs.old{w w':World} (h:Tabs w)(a:Old w w'):Tabs w':=by have:=h.below (⟨rfl,rfl,rfl,a.size,a.get⟩:Below w.heap.size w {w' with os:=w.os,tape:=w.tape,output:=w.output});obtain⟨⟩:=this;constructor<;>assumption
theorem Zur{Stop:Frame->List Frame->World->Prop} {A i:Option Addr} {a p1:Nat} {C j X:Option Addr} {x:Nat} {Y:Option Addr} {y p3:Nat} {D m:Option Addr} {g:Nat} {F n:Option Addr} {l:World} {B:Blk} (hs:Self ZL (fun _=>False) B l) (ha:AR ZL B (tmps4 A i a p1 C j X x Y y p3 D m g F n) (tmps4 A i a p1 C j X x Y y p3 D m g F n)) (G:Tabs l) (H:l.heap[p1]?=some (.cells #[.int .i64 30,.int .i64 1] 30 (0,0))) (I:l.heap[p3]?=some (Zdx X x Y y)) (J:l.heap[g]?=some (.cells #[.int .i64 500,.int .i64 1000] 94 (0,0)))(k:∀f l',Ret prog (fun v _=>v=.bool true) f [ZE prog] l'->f.fn=8->Old l l'->Stop f [ZE prog] l'):LG ZO Stop ((Go.Conc.base 8).at ⟨tmps4 A i a p1 C j X x Y y p3 D m g F n,[]⟩ [.code aw5]) [ZE prog] l:=by refine Zjm (E0:=ZL) (E:=ZO) (fn:=Tryz.f8) (R:=fun v w=>v=.bool true/\Old l w) ZV Zbk ZX hs ha rfl (by kernel_rfl) func8 (fun t d=>Zhd (Zuq A i a p1 C j X x Y y p3 D m g F n (l.re t d) (G.old ((Old.refl l).re t d)) H I J) fun e w h=>⟨_,h.1,rfl,Ze h.2⟩) fun f l' c r=>.stop _ _ _ ?_;obtain⟨u,v,t,d,z,rfl,s⟩:=c;exact k f l' ⟨u,_,t,d,z,rfl⟩ r ⟨s.size,s.get⟩
end Go.Proofs
namespace Go.Proofs
open Go.RowKit Go.Twin Go.Conc
def Aw4:Prop:=∀(Post:Value->World->Prop)(W l0:World)(c:Blk)(bs':List Frame),(∀b x,c b x->(fun _:Nat=>False) b∨(b=x/\x<l0.heap.size/\l0.heap[x]?=W.heap[x]?/\ZO.sh=false/\ZO.junk=false))->∀(A d:Option Addr) (a p1:Nat) (C e X:Option Addr) (x:Nat) (Y:Option Addr) (y p3:Nat) (D g:Option Addr) (h:Nat) (cs:List Frame) (l:World) (B:Blk),cs≠[]->Self ZL (fun _=>False) B l->AR ZL B (tmps3 A d a p1 C e X x Y y p3 D g h) (tmps3 A d a p1 C e X x Y y p3 D g h)->Old l0 l->(∀F j l' i,B.le i->Self ZL (fun _=>False) i l'->AR ZL i (tmps4 A d a p1 C e X x Y y p3 D g h F j) (tmps4 A d a p1 C e X x Y y p3 D g h F j)->Old l l'->LG ZO (StopG ZO Post W l0 c (fun _=>False) bs') ((Go.Conc.base 8).at ⟨tmps4 A d a p1 C e X x Y y p3 D g h F j,[]⟩ [.code aw5]) cs l')->LG ZO (StopG ZO Post W l0 c (fun _=>False) bs') ((Go.Conc.base 8).at ⟨tmps3 A d a p1 C e X x Y y p3 D g h,[]⟩ [.code aw4]) cs l
theorem awake_of(h4:Aw4) {w:World} (r:GlobOk w)(M:Tabs (Z7 w)):Zdq Tryz.prog (Frame.enter Tryz.prog 8 #[] .normal) w fun v=>v=.bool true:=by refine ZtR r (fun e c L g=>?_) rfl;refine Zuf (by simp) r fun A H i T C J X x Y y U D K V O I E u j Q R S d=>?_;refine h4 e w (Z7 w) awB (c::L) (Znv r) A H i T C J X x Y y U D K V _ O I (by simp) u j d fun F F2 l2 Z G z m a=>?_;exact Zur z m (M.old (d.trans a)) (a.at Q) (a.at R) (a.at S) fun f N h n s=>g f N h n (d.trans (a.trans s)).get
theorem Zus(BB:Option Addr):(solvedL 2 (exs (ZN BB)) [5,1]).map (fun q=>(q.1,q.2.1))=some ([0,1],1):=by rw[Zd8];kernel_rfl
theorem Zut(BB:Option Addr):(solvedL 2 (exs (ZN BB)) (Zal [6,2])).map (fun q=>(q.1,q.2.1))=some ([1,1],2):=by rw[Zd8];kernel_rfl
theorem Znw(BB:Option Addr):Zaw 2 (ZN BB) [5,1]=(1,1,true):=by unfold Zaw;rw[Zd8];kernel_rfl
theorem Znx(BB:Option Addr):Zaw 2 (ZN BB) (Zal [6,2])=(-8,2,true):=by unfold Zaw;rw[Zd8];kernel_rfl
theorem Zuu(BB:Option Addr):ZbO 2 (ZN BB) [5,1] [6,2] 1=.tuple #[.agg #[.int .i64 1,.int .i64 4],.bool true]:=by unfold ZbO;rw[Znw,Znx];kernel_rfl
section
variable {B:Blk} {bs':List Frame} {l w:World}
theorem Zuv{sh:Nat->Prop} {A j BB a g:Option Addr} {lc uc:Nat} {fa:Frame} {cs cb:List Frame} (hB:BookAt l A 2 Z4 j 1 (ZN BB))(hL:At 1 Zc l a [5,1])(I:At 1 Zc l g [6,2])(h:Rel ZO sh bs' B (Frame.enter ZO.P 83 #[.agg #[.slice A 2 2,.slice j 1 1],.slice a 2 lc,.slice g 2 uc,.int .i64 1] .normal) cs l fa cb w):Zdq Tryz.prog fa w fun v=>v=.tuple #[.agg #[.int .i64 1,.int .i64 4],.bool true]:=by
 have s:=h.st.head.tmps;have R:=Zjx (.agg #[.slice A 2 2,.slice j 1 1]) (.slice a 2 lc) (.slice g 2 uc) (.int .i64 1);have L:(Frame.enter ZO.P 83 #[.agg #[.slice A 2 2,.slice j 1 1],.slice a 2 lc,.slice g 2 uc,.int .i64 1] .normal).tmps=#[.agg #[.slice A 2 2,.slice j 1 1],.slice a 2 lc,.slice g 2 uc,.int .i64 1]++Array.replicate 52 undef:=by show (Frame.enter Tryz.prog _ _ _).tmps=_;rw[R];rfl
 rw[L]at s;have F:=s.getD 0 (undefR (G:=ZO) (B:=B));have J:=s.getD 1 (undefR (G:=ZO) (B:=B));have K:=s.getD 2 (undefR (G:=ZO) (B:=B));have M:((#[.agg #[.slice A 2 2,.slice j 1 1],.slice a 2 lc,.slice g 2 uc,.int .i64 1]++Array.replicate 52 undef:Array Value).getD 0 undef)=.agg #[.slice A 2 2,.slice j 1 1]:=by simp[Array.getD]
 have N:((#[.agg #[.slice A 2 2,.slice j 1 1],.slice a 2 lc,.slice g 2 uc,.int .i64 1]++Array.replicate 52 undef:Array Value).getD 1 undef)=.slice a 2 lc:=by simp[Array.getD]
 have O:((#[.agg #[.slice A 2 2,.slice j 1 1],.slice a 2 lc,.slice g 2 uc,.int .i64 1]++Array.replicate 52 undef:Array Value).getD 2 undef)=.slice g 2 uc:=by simp[Array.getD]
 rw[M]at F;rw[N]at J;rw[O]at K;obtain⟨u1,C⟩:=Zn F (i:=0) rfl;obtain⟨u2,D⟩:=Zn F (i:=1) rfl;have V:=Zd9 (l:=l) (n:=2) (c:=2) (Zj C) (Zd7 hB.P rfl rfl);have X:=Zd9 (l:=l) (n:=1) (c:=1) (Zj D) (Zd7 hB.E.1 rfl rfl);have Y:=Zd9 (l:=l) (n:=2) (c:=lc) (Zj J) (Zd7 hL rfl rfl);have Z:=Zd9 (l:=l) (n:=2) (c:=uc) (Zj K) (Zd7 I rfl rfl);intro H c ca gs sl t q Q u y U;refine Znj (E1:=ZO) (lows:=[5,1]) (ups:=[6,2]) rfl (fun _=>rfl) rfl (Zdw BB).right hB.E rfl (by decide) (by decide) (fun x T=>by obtain rfl:=ZyH.1 T;simp) ⟨hL,rfl,Zdy (by decide) (by decide),fun m d p z=>?_⟩ I rfl (Zdy (by decide) (by decide)) (fun m d p z=>?_) ?_ ?_ V X Y Z h Q u y (fun S=>U (S.trans (show ZbO Z4.length (ZN BB) [5,1] [6,2] 1=_ from Zuu BB)));·have e:=Zus BB;have r:solvedL 2 (exs (ZN BB)) [5,1]=some (m,d,p):=z;rw[r]at e;cases e;exact⟨rfl,Zdy (by decide) (by decide)⟩
 ·have e:=Zut BB;have r:solvedL 2 (exs (ZN BB)) (Zal [6,2])=some (m,d,p):=z;rw[r]at e;cases e;exact⟨rfl,Zdy (by decide) (by decide)⟩
 ·unfold Zc0;have e:Zaw Z4.length (ZN BB) [5,1]=_:=Znw BB;rw[e];intro _;exact⟨by decide,by decide⟩
 ·unfold Zc0;have e:Zaw Z4.length (ZN BB) (Zal [6,2])=_:=Znx BB;rw[e];intro _;exact⟨by decide,by decide⟩
end
end Go.Proofs
namespace Go.Proofs
open Tryz
open Go.RowKit Go.Twin Go.Conc
variable {es2:List En} {BB:Option Addr}
attribute [local go_sem] Oper.semAt_some Zdl Zdm Zdn ZcF Zdo Zdp
def Zhe(A c:Option Addr)(i j:Nat)(d:Option Addr)(c1:Nat)(e:Option Addr)(c2 r:Nat)(g:Option Addr)(m:Nat)(h:Option Addr)(n:Nat)(u11 u33 u34 u35 u36 u37 u38 u39 u40 u41 u42 u43 u44 u45 u46 u47 u48:Value)(a:Nat):Array Value:=#[.agg #[.slice A 2 2,.slice c 1 1],.agg #[.int .i64 4,.int .i64 5],.pointer (some ⟨i,0,none⟩),.pointer (some ⟨j,0,none⟩),.int .i64 0,.int .i64 0,.pointer (some ⟨r,0,none⟩),.int .i64 0,.slice g 2 m,.slice h 2 n,undef,u11,.pointer (some ⟨a,0,none⟩),.bool true,.tuple #[.agg #[.slice d 2 c1,.slice e 3 c2],.int .i64 0],.agg #[.slice A 2 2,.slice c 1 1],.agg #[.int .i64 4,.int .i64 5],.tuple #[.agg #[.slice d 2 c1,.slice e 3 c2],.int .i64 0],.agg #[.slice d 2 c1,.slice e 3 c2],.int .i64 0,.int .i64 0,.bool false,undef,.agg #[.slice A 2 2,.slice c 1 1],.bool false,.bool false,.agg #[.slice d 2 c1,.slice e 3 c2],.bool false,.bool false,.pointer (some ⟨i,0,none⟩),.slice A 2 2,.int .i64 2,.int .i64 2,u33,u34,u35,u36,u37,u38,u39,u40,u41,u42,u43,u44,u45,u46,u47,u48,.tuple #[.agg #[.int .i64 1,.int .i64 4],.bool true],.agg #[.slice A 2 2,.slice c 1 1],.slice g 2 m,.slice h 2 n,.tuple #[.agg #[.int .i64 1,.int .i64 4],.bool true],.agg #[.int .i64 1,.int .i64 4],.bool true,.bool true,.bool true,.pointer (some ⟨a,0,none⟩),.int .i64 1,.pointer (some ⟨j,0,none⟩),.int .i64 4,.bool false,.bool false,.bool false,zu,zu,zu,zu,zu,.bool false]
theorem Zuw(A g:Option Addr)(r d:Nat)(h:Option Addr)(c1:Nat)(i:Option Addr)(c2 s:Nat)(j:Option Addr)(u:Nat)(m:Option Addr)(y:Nat)(u11 u33 u34 u35 u36 u37 u38 u39 u40 u41 u42 u43 u44 u45 u46 u47 u48:Value)(a:Nat)(w:World)(C:w.heap[d]?=some (.cells #[.int .i64 4,.int .i64 5] 94 (0,0)))(c:w.heap[a]?=some (.cells #[.int .i64 1,.int .i64 4] 94 (0,0))):agY.wp prog (fun e n w'=>e=.normal/\n.defers=[]/\n.tmps=Zhe A g r d h c1 i c2 s j u m y u11 u33 u34 u35 u36 u37 u38 u39 u40 u41 u42 u43 u44 u45 u46 u47 u48 a/\Below w.heap.size w w') ⟨ZlK A g 2 2 1 1 4 5 r d h c1 i c2 s j u m y u11 u33 u34 u35 u36 u37 u38 u39 u40 u41 u42 u43 u44 u45 u46 u47 u48 1 4 a,[]⟩ w:=by simp only[agY,agX,cHd,cTl,ag6,ag5,ag4,ag3,ag2,ag1,agBody,Tryz.f46,ZzA,ZlK];have D:=bk2 C;have z:=bk2 c;go_wp2;exact⟨rfl,ZwJ _ _⟩
theorem Zux(A c:Option Addr)(j m:Nat)(d:Option Addr)(c1:Nat)(g:Option Addr)(c2 n:Nat)(h:Option Addr)(r:Nat)(i:Option Addr)(s:Nat)(u11 u33 u34 u35 u36 u37 u38 u39 u40 u41 u42 u43 u44 u45 u46 u47 u48:Value)(a:Nat)(w:World):ag7.wp prog (bodyPost prog Tryz.f46 fun e w'=>e=.returned (.tuple #[.int .i64 1,.int .i64 0])/\Below w.heap.size w w') ⟨Zhe A c j m d c1 g c2 n h r i s u11 u33 u34 u35 u36 u37 u38 u39 u40 u41 u42 u43 u44 u45 u46 u47 u48 a,[]⟩ w:=by simp only[cHd,cTl,ag7,ag6,ag5,ag4,ag3,ag2,ag1,agBody,Tryz.f46,ZzA,Zhe];go_wp2;go_ret2;exact⟨rfl,ZwJ _ _⟩
theorem Zny(h:es2.map En.sig=(ZN BB).map En.sig++wcL Z4 4 5):exs es2=[([0,-2],-1),([5,1],5),([-6,-2],-4)]:=by
 have e:exs es2=(es2.map En.sig).map fun s=>(s.2.1,s.2.2):=by simp only[exs,Zyq];rfl
 rw[e,h];rfl
theorem Zuy(h:es2.map En.sig=(ZN BB).map En.sig++wcL Z4 4 5):RightE es2 2/\es2.length=3:=by
 have g:es2.length=3:=by have:=congrArg List.length h;simpa [ZN,wcL] using this
 refine⟨⟨by omega,fun x i=>?_⟩,g⟩;have d:x.ex∈exs es2:=List.mem_map_of_mem i;rw[Zny h]at d;have e:x.co.length=2/\(∀n∈x.co,n.natAbs<=20)/\x.mo.natAbs<=20:=by simp only[Zyx,ZyN,or_false,En.ex,Prod.mk.injEq]at d;rcases d with⟨a,c⟩|⟨a,c⟩|⟨a,c⟩<;>rw[a,c]<;>exact⟨rfl,by decide,by decide⟩
 exact e
theorem Zuz(BB:Option Addr):wcE Z4 (ZN BB) 4 5=0:=by
 unfold wcE;rw[ZbJ];intro e a;simp only[Zyx,ZyN,or_false]at a;rcases a with rfl|rfl|rfl|rfl;·exact ZbU.2 (Zdw BB)
 ·decide
 ·have c:ZcB (ZN BB) mostS=false:=by have:ZcB (ZN BB) mostS=ZcB (ZN none) mostS:=rfl;rw[this];decide+kernel
  have d:ZcB (ZN BB) leastS=false:=by have:ZcB (ZN BB) leastS=ZcB (ZN none) leastS:=rfl;rw[this];decide+kernel
  rw[c,d];rfl
 ·rfl
theorem ZuA(BB:Option Addr):ZbA 2 (exs (ZN BB))=false:=by rw[Zd8];kernel_rfl
theorem ZuB(h:es2.map En.sig=(ZN BB).map En.sig++wcL Z4 4 5):ZbA 2 (exs es2)=false:=by rw[Zny h];kernel_rfl
theorem ZuC{sz:Nat} {α:Type} {cs:α->List Value} {l:World} {A:Option Addr} {xs:List α} (h:At sz cs l A xs) {x:α} (hx:xs[0]?=some x):A≠none:=by rintro rfl;obtain⟨b,o,a,_⟩:=h 0 x hx;cases a
end Go.Proofs
namespace Go.Proofs
open Tryz
open Go.RowKit Go.Twin Go.Conc
attribute [local go_sem] Oper.semAt_some Zdl Zdm Zdn ZcF Zdo Zdp
theorem ZuD (A a:Option Addr):Frame.enter prog 46 #[.agg #[.slice A 2 2,.slice a 1 1],.agg #[.int .i64 4,.int .i64 5]] .normal=(Go.Conc.base 46).at ⟨Zfp A a 2 2 1 1 4 5,[]⟩ [.code agBody]:=by rw[enter_at (fn:=Tryz.f46) (c:=Tryz.f46.body.getD .skip) _ func46 rfl];kernel_rfl
theorem BookAt.re{w:World} {e a:Option Addr} {g c:Nat} {ps:List Pa} {es:List En} (h:BookAt w e g ps a c es)(t:Nat->Question->Nat)(d:Nat):BookAt (w.re t d) e g ps a c es:=h.old ((Old.refl w).re t d)
theorem ZuE{Post:Value->World->Prop} {W l0:World} {I:Blk} {bs':List Frame} (aX:∀b x,I b x->(fun _:Nat=>False) b∨(b=x/\x<l0.heap.size/\l0.heap[x]?=W.heap[x]?/\ZO.sh=false/\ZO.junk=false)) {A u BB:Option Addr} {c:Frame} {cs:List Frame} {l:World} {B:Blk} (hs:Self ZL (fun _=>False) B l)(ha:AR ZL B #[.agg #[.slice A 2 2,.slice u 1 1],.agg #[.int .i64 4,.int .i64 5]] #[.agg #[.slice A 2 2,.slice u 1 1],.agg #[.int .i64 4,.int .i64 5]])(hB:BookAt l A 2 Z4 u 1 (ZN BB))(ho:Old l0 l)(k:∀l' T,Old l l'->B.le T->Self ZL (fun _=>False) T l'->LG ZO (StopG ZO Post W l0 I (fun _=>False) bs') (c.finish (.tuple #[.int .i64 1,.int .i64 0])) cs l'):LG ZO (StopG ZO Post W l0 I (fun _=>False) bs') (Frame.enter prog 46 #[.agg #[.slice A 2 2,.slice u 1 1],.agg #[.int .i64 4,.int .i64 5]] .normal) (c::cs) l:=by
 have z:Halts (StopG ZO Post W l0 I (fun _=>False) bs'):=Zd4;rw[ZuD];have aG:AR ZL B (Zfp A u 2 2 1 1 4 5) (Zfp A u 2 2 1 1 4 5):=Zb (ha.append (AR.replicate 69 undefR)) (by kernel_rfl);rw[show agBody=.seq (cHd agBody) ag1 from by kernel_rfl];refine Zah z ?_;refine ZbN (R:=fun y w'=>(∃G H,y.tmps=Zgu A u 2 2 1 1 4 5 G H/\w'.heap[G]?=some (.cells #[.slice A 2 2,.slice u 1 1] 25 (0,0))/\w'.heap[H]?=some (.cells #[.int .i64 4,.int .i64 5] 94 (0,0)))/\Old l w') ZV Zbk Zbl ZX hs aG rfl (by kernel_rfl) (fun v w t d h=>⟨h.1,h.2.size,h.2.get⟩) (fun t d=>Code.wp_mono (fun e y w' h=>⟨h.1,h.2.1,h.2.2.1,(Ze h.2.2.2).size,(Ze h.2.2.2).get⟩) (ZqQ A u 2 2 1 1 4 5 _)) ?_;rintro⟨tm,df⟩ l1 B1 ⟨⟨G,H,Q,m2,m3⟩,aT⟩ S aM aY aH;cases Q;cases S;have aB:=hB.old aT;rw[show ag1=.seq (cHd ag1) ag2 from by kernel_rfl];refine Zah z ?_;refine ZbN (R:=fun y w'=>ZlL A u 2 2 1 1 4 5 Z4 (ZN BB) G H y.tmps w'/\Old l1 w') ZV Zbk Zbl ZX aY aH rfl (by kernel_rfl) (fun v w t d h=>⟨by obtain⟨J,N,L,O,M,es2,g1,g2,g3,g4⟩:=h.1;exact⟨J,N,L,O,M,es2,g1,g2,g3,g4.re t d⟩,h.2.size,h.2.get⟩) (fun t d=>Code.wp_mono (fun e y w' h=>⟨h.1,h.2.1,h.2.2.1,(Ze h.2.2.2).size,(Ze h.2.2.2).get⟩) (ZqR A u 2 2 1 1 4 5 Z4 (ZN BB) G H (l1.re t d) (aB.re t d) (ZfP BB) rfl rfl (fun h=>absurd h (ZuC aB.P rfl)) (Zuz BB) m2 m3)) ?_;rintro⟨tm,df⟩ l2 B2 ⟨⟨J,N,L,O,M,es2,Q,m6,bF,bH⟩,Y⟩ S aN bA aI;cases Q;cases S;obtain⟨bL,bN⟩:=Zuy bF;have aA:=aB.old Y;have aE:=Y.at m2;have bU:=Y.at m3;rw[show ag2=.seq (cHd ag2) ag3 from by kernel_rfl];refine Zah z ?_;refine ZbN (R:=fun y w'=>(y.tmps=Zgv A u 2 2 1 1 4 5 G H J N L O M)/\Old l2 w') ZV Zbk Zbl ZX bA aI rfl (by kernel_rfl) (fun v w t d h=>⟨h.1,h.2.size,h.2.get⟩) (fun t d=>Code.wp_mono (fun e y w' h=>⟨h.1,h.2.1,h.2.2.1,(Ze h.2.2.2).size,(Ze h.2.2.2).get⟩) (ZqS A u 2 2 1 1 4 5 G H J N L O M _)) ?_;rintro⟨tm,df⟩ l3 B3 ⟨Q,U⟩ S aO bB aJ;cases Q;cases S;rw[show ag3=.seq (cHd ag3) ag4 from by kernel_rfl];refine Zah z ?_;refine ZbN (R:=fun y w'=>(y.tmps=Zgw A u 2 2 1 1 4 5 G H J N L O M)/\Old l3 w') ZV Zbk Zbl ZX bB aJ rfl (by kernel_rfl) (fun v w t d h=>⟨h.1,h.2.size,h.2.get⟩) (fun t d=>Code.wp_mono (fun e y w' h=>⟨h.1,h.2.1,h.2.2.1,(Ze h.2.2.2).size,(Ze h.2.2.2).get⟩) (ZqT A u 2 2 1 1 4 5 (ZN BB) es2 G H J N L O M (l3.re t d) (Zdw BB).right ((aA.old U).re t d).E rfl (by decide) (by decide) bL ((bH.old U).re t d).E bN (ZuA BB) (ZuB bF) (U.at aE) (U.at m6))) ?_;rintro⟨tm,df⟩ l4 B4 ⟨Q,bP⟩ S aP bD aK;cases Q;cases S;rw[show ag4=.seq (cHd ag4) ag5 from by kernel_rfl];refine Zah z ?_;refine ZbN (R:=fun y w'=>(y.tmps=Zgx A u 2 2 1 1 4 5 G H J N L O M)/\Old l4 w') ZV Zbk Zbl ZX bD aK rfl (by kernel_rfl) (fun v w t d h=>⟨h.1,h.2.size,h.2.get⟩) (fun t d=>Code.wp_mono (fun e y w' h=>⟨h.1,h.2.1,h.2.2.1,(Ze h.2.2.2).size,(Ze h.2.2.2).get⟩) (ZqU A u 2 2 1 1 4 5 G H J N L O M _)) ?_;rintro⟨tm,df⟩ l5 B5 ⟨Q,bQ⟩ S aQ bE aL;cases Q;cases S;have D:=(U.trans bP).trans bQ;have aF:=aA.old D;rw[show ag5=.seq (cHd ag5) ag6 from by kernel_rfl];refine Zah z ?_;refine ZbN (R:=fun y w'=>ZlM A u 2 2 1 1 4 5 Z4 G H J N L O M l5.heap.size y.tmps w'/\Old l5 w') ZV Zbk Zbl ZX bE aL rfl (by kernel_rfl) (fun v w t d h=>⟨h.1,h.2.size,h.2.get⟩) (fun t d=>Code.wp_mono (fun e y w' h=>⟨h.1,h.2.1,h.2.2.1,(Ze h.2.2.2).size,(Ze h.2.2.2).get⟩) (ZqV A u 2 2 1 1 4 5 Z4 G H J N L O M (l5.re t d) (aF.re t d).P rfl (by decide) (by decide) (D.at aE))) ?_;rintro⟨tm,df⟩ l6 B6 ⟨⟨L1,r,L2,s,u11,u33,u34,u35,u36,u37,u38,u39,u40,u41,u42,u43,u44,u45,u46,u47,u48,Q,o1,o2⟩,Z⟩ S aR hs ha;cases Q;cases S;have m:=Blk.le_trans (Blk.le_trans (Blk.le_trans (Blk.le_trans (Blk.le_trans aM aN) aO) aP) aQ) aR;have bI:=aF.old Z;have n2:=Z.at (D.at aE);have n3:=Z.at (D.at bU);have aW:Old l l6:=aT.trans (Y.trans (D.trans Z));have bJ:At 1 Zc l6 L1 [5,1]:=ZcS o1 rfl;have bK:At 1 Zc l6 L2 [6,2]:=ZcS o2 rfl;have D2:=bk2 n2;clear aY bA bB bD bE aH aI aJ aK aL aG;rw[show ag6=.seq agX ag7 from by kernel_rfl];refine Zah z ?_;rw[show agX=.seq (cHd agX) agY from by kernel_rfl];refine Zah z ?_;simp only[cHd,cTl,agX,ag6,ag5,ag4,ag3,ag2,ag1,agBody,Tryz.f46,ZzA,ZlJ];refine Zbi z ?_;simp only[ZyT,Zyd,Zyg,Nat.reduceAdd,Zzw,List.range,List.range.loop];refine Zak z ZX ZV hs (Zb ha (by kernel_rfl)) rfl rfl (by decide) (by kernel_rfl) (fun F C K r s=>?_);simp only[show ZL.P=prog from rfl];go_simp;first|refine r _ _ ?_|refine s _ ?_
 clear r s K F C;intro T a j i;replace m:=Blk.le_trans m a;clear hs ha a;have hs:=j;have ha:=i;clear j i;walk_nrm;refine Zak z ZX ZV hs (Zb ha (by kernel_rfl)) rfl rfl (by decide) (by kernel_rfl) (fun F C K r s=>?_);simp only[show ZL.P=prog from rfl];go_simp;first|refine r _ _ ?_|refine s _ ?_
 clear r s K F C;intro T a j i;replace m:=Blk.le_trans m a;clear hs ha a;have hs:=j;have ha:=i;clear j i;walk_nrm;refine Zak z ZX ZV hs (Zb ha (by kernel_rfl)) rfl rfl (by decide) (by kernel_rfl) (fun F C K r s=>?_);simp only[show ZL.P=prog from rfl];go_simp;first|refine r _ _ ?_|refine s _ ?_
 clear r s K F C;intro T a j i;replace m:=Blk.le_trans m a;clear hs ha a;have hs:=j;have ha:=i;clear j i;walk_nrm;refine ZcE (g:=83) (args:=#[.agg #[.slice A 2 2,.slice u 1 1],.slice L1 2 r,.slice L2 2 s,.int .i64 1]) z rfl rfl (by decide) (by kernel_rfl) (fun w'=>by simp only[show ZO.P=prog from rfl];kernel_rfl) ?_;refine .stop _ _ _ (ZmF (R:=fun v=>v=.tuple #[.agg #[.int .i64 1,.int .i64 4],.bool true]) Zjs aX (by simp) (fun c h=>by cases h) (ho.trans aW).get (fun h hO=>Zuv bI bJ bK h) (fun v hv=>by subst hv;kernel_rfl) fun v n hv=>?_);subst hv;rw[Frame.finish_at];have hs:=hs.pad n;have ha:=ha.set 53 (VR.closed 8 (.tuple #[.agg #[.int .i64 1,.int .i64 4],.bool true]) (by kernel_rfl));have aD:Old l6 (pad l6 n):=⟨by rw[Zcm];omega,fun b hb=>Zcn l6 n hb⟩;obtain⟨V,bO⟩:∃V,pad l6 n=V:=⟨_,rfl⟩;rw[bO]at hs aD |-;walk_nrm;refine Zak z ZX ZV hs (Zb ha (by kernel_rfl)) rfl rfl (by decide) (by kernel_rfl) (fun F C K r s=>?_);simp only[show ZL.P=prog from rfl];go_simp;first|refine r _ _ ?_|refine s _ ?_
 clear r s K F C;intro T a j i;replace m:=Blk.le_trans m a;clear hs ha a;have hs:=j;have ha:=i;clear j i;walk_nrm;refine Zak z ZX ZV hs (Zb ha (by kernel_rfl)) rfl rfl (by decide) (by kernel_rfl) (fun F C K r s=>?_);simp only[show ZL.P=prog from rfl];go_simp;first|refine r _ _ ?_|refine s _ ?_
 clear r s K F C;intro T a j i;replace m:=Blk.le_trans m a;clear hs ha a;have hs:=j;have ha:=i;clear j i;walk_nrm;refine Zak z ZX ZV hs (Zb ha (by kernel_rfl)) rfl rfl (by decide) (by kernel_rfl) (fun F C K r s=>?_);simp only[show ZL.P=prog from rfl];go_simp;first|refine r _ _ ?_|refine s _ ?_
 clear r s K F C;intro T a j i;replace m:=Blk.le_trans m a;clear hs ha a;have hs:=j;have ha:=i;clear j i;walk_nrm;refine Zak z ZX ZV hs (Zb ha (by kernel_rfl)) rfl rfl (by decide) (by kernel_rfl) (fun F C K r s=>?_);simp only[show ZL.P=prog from rfl];go_simp;first|refine r _ _ ?_|refine s _ ?_
 clear r s K F C;intro T a j i;replace m:=Blk.le_trans m a;clear hs ha a;have hs:=j;have ha:=i;clear j i;walk_nrm;refine Zak z ZX ZV hs (Zb ha (by kernel_rfl)) rfl rfl (by decide) (by kernel_rfl) (fun F C K r s=>?_);simp only[show ZL.P=prog from rfl];go_simp;first|refine r _ _ ?_|refine s _ ?_
 clear r s K F C;intro T a j i;replace m:=Blk.le_trans m a;clear hs ha a;have hs:=j;have ha:=i;clear j i;walk_nrm;refine Zak z ZX ZV hs (Zb ha (by kernel_rfl)) rfl rfl (by decide) (by kernel_rfl) (fun F C K r s=>?_);simp only[show ZL.P=prog from rfl];go_simp;first|refine r _ _ ?_|refine s _ ?_
 clear r s K F C;intro T a j i;replace m:=Blk.le_trans m a;clear hs ha a;have hs:=j;have ha:=i;clear j i;walk_nrm;refine Zbj z ?_;obtain⟨l8,X⟩:∃l8,V.alloc (.cells #[.int .i64 1,.int .i64 4] 94 (0,0))=l8:=⟨_,rfl⟩;have bV:l8.heap[V.heap.size]?=some (.cells #[.int .i64 1,.int .i64 4] 94 (0,0)):=by rw[<-X];(repeat (first|assumption|(refine ZA _ _ ?_;(simp;done))|refine ZD ?_|refine Zz ?_ _|refine ZB ?_ (by simp<;>omega) _))
 have aV:Old V l8:=by rw[<-X];exact Zp (by go_grown:Below V.heap.size V _)
 rw[X]at hs |-;clear X;have bW:=aV.at (aD.at n3);refine ZbN (x:=agY) (R:=fun y w'=>y.tmps=Zhe A u G H J N L O M L1 r L2 s u11 u33 u34 u35 u36 u37 u38 u39 u40 u41 u42 u43 u44 u45 u46 u47 u48 V.heap.size/\Old l8 w') ZV Zbk Zbl ZX hs (Zb ha (by kernel_rfl)) rfl (by kernel_rfl) (fun v w t d h=>⟨h.1,h.2.size,h.2.get⟩) (fun t d=>Code.wp_mono (fun e y w' h=>⟨h.1,h.2.1,h.2.2.1,(Ze h.2.2.2).size,(Ze h.2.2.2).get⟩) (Zuw A u G H J N L O M L1 r L2 s u11 u33 u34 u35 u36 u37 u38 u39 u40 u41 u42 u43 u44 u45 u46 u47 u48 V.heap.size (l8.re t d) bW bV)) ?_;rintro⟨tm,df⟩ l9 B9 ⟨Q,bR⟩ S aS bS bM;cases Q;cases S;refine ZmM (fn:=Tryz.f46) (x:=ag7) (R:=fun v w=>v=.tuple #[.int .i64 1,.int .i64 0]/\Old l9 w) ZV Zbk Zbl ZX bS bM rfl (by kernel_rfl) func46 (fun v w t d h=>⟨h.1,h.2.size,h.2.get⟩) (fun t d=>Zhd (Zux A u G H J N L O M L1 r L2 s u11 u33 u34 u35 u36 u37 u38 u39 u40 u41 u42 u43 u44 u45 u46 u47 u48 V.heap.size (l9.re t d)) fun e w h=>⟨_,h.1,rfl,Ze h.2⟩) ?_;rintro v bT bG ⟨rfl,aU⟩ aC aZ hv;exact k bT bG (aW.trans (aD.trans (aV.trans (bR.trans aU)))) (Blk.le_trans m (Blk.le_trans aS aC)) aZ
theorem ZuF:Aw4:=by
 intro G W Z E bs' M A A2 T p1 C C2 X x Y y p3 D D2 p5 cs l B U i h V k;have r:Halts (StopG ZO G W Z E (fun _=>False) bs'):=Zd4;have e:B.le B:=Blk.le_refl _;rw[show aw4=.seq (codeHd aw4) aw5 from by kernel_rfl];refine Zah r ?_;simp only[codeHd,codeTl,aw4,aw3,aw2,aw1,awBody,Tryz.f8,ZzA,tmps3,ZbR];refine Zbi r ?_;simp only[ZyT,Zyd,Zyg,Nat.reduceAdd,Zzw,List.range,List.range.loop];refine ZmL (g:=44) (args:=#[]) r ZV Zbk Zbl ZX i (Zb h (by kernel_rfl)) rfl rfl (by decide) (by kernel_rfl) (fun w'=>by simp only[show ZL.P=prog from rfl];kernel_rfl) (by kernel_rfl) (AR.empty) (Znu l) (Znt l) ?_;rintro v l1 B1 ⟨⟨F,Q,BB,rfl,R⟩,L⟩ J N H;clear i h;walk_nrm;replace e:=J;have i:=N;have h:=H;clear N H;refine Zak r ZX ZV i (Zb h (by kernel_rfl)) rfl rfl (by decide) (by kernel_rfl) (fun s n K j m=>?_);simp only[show ZL.P=prog from rfl];go_simp;first|refine j _ _ ?_|refine m _ ?_
 clear j m K s n;intro z a d c;replace e:=Blk.le_trans e a;clear i h a;have i:=d;have h:=c;clear d c;walk_nrm;refine ZcE (g:=46) (args:=#[.agg #[.slice F 2 2,.slice Q 1 1],.agg #[.int .i64 4,.int .i64 5]]) r rfl rfl (by decide) (by kernel_rfl) (fun w'=>by simp only[show ZO.P=prog from rfl];kernel_rfl) ?_;refine ZuE M i (Zb (((AR.replicate 2 undefR).set 0 (Zq h 31 (v:=.agg #[.slice F 2 2,.slice Q 1 1]) (by kernel_rfl))).set 1 (Zq h 32 (v:=.agg #[.int .i64 4,.int .i64 5]) (by kernel_rfl))) (by kernel_rfl)) R (V.trans L) fun l2 B2 S u O=>?_;have I:=(h.mono u).set 33 (VR.closed 8 (.tuple #[.int .i64 1,.int .i64 0]) (by kernel_rfl));replace e:=Blk.le_trans e u;rw[Frame.finish_at];clear h i;have i:=O;have h:=I;clear I O;walk_nrm;refine Zak r ZX ZV i (Zb h (by kernel_rfl)) rfl rfl (by decide) (by kernel_rfl) (fun s n K j m=>?_);simp only[show ZL.P=prog from rfl];go_simp;first|refine j _ _ ?_|refine m _ ?_
 clear j m K s n;intro z a d c;replace e:=Blk.le_trans e a;clear i h a;have i:=d;have h:=c;clear d c;walk_nrm;refine Zak r ZX ZV i (Zb h (by kernel_rfl)) rfl rfl (by decide) (by kernel_rfl) (fun s n K j m=>?_);simp only[show ZL.P=prog from rfl];go_simp;first|refine j _ _ ?_|refine m _ ?_
 clear j m K s n;intro z a d c;replace e:=Blk.le_trans e a;clear i h a;have i:=d;have h:=c;clear d c;walk_nrm;refine Zak r ZX ZV i (Zb h (by kernel_rfl)) rfl rfl (by decide) (by kernel_rfl) (fun s n K j m=>?_);simp only[show ZL.P=prog from rfl];go_simp;first|refine j _ _ ?_|refine m _ ?_
 clear j m K s n;intro z a d c;replace e:=Blk.le_trans e a;clear i h a;have i:=d;have h:=c;clear d c;walk_nrm;refine Zak r ZX ZV i (Zb h (by kernel_rfl)) rfl rfl (by decide) (by kernel_rfl) (fun s n K j m=>?_);simp only[show ZL.P=prog from rfl];go_simp;first|refine j _ _ ?_|refine m _ ?_
 clear j m K s n;intro z a d c;replace e:=Blk.le_trans e a;clear i h a;have i:=d;have h:=c;clear d c;walk_nrm;refine Zak r ZX ZV i (Zb h (by kernel_rfl)) rfl rfl (by decide) (by kernel_rfl) (fun s n K j m=>?_);simp only[show ZL.P=prog from rfl];go_simp;first|refine j _ _ ?_|refine m _ ?_
 clear j m K s n;intro z a d c;replace e:=Blk.le_trans e a;clear i h a;have i:=d;have h:=c;clear d c;walk_nrm;refine Zbj r ?_;exact k F Q l2 _ e i (Zb h (by kernel_rfl)) (L.trans S)
theorem ZuG{w:World} (a:GlobOk w)(c:Tabs (Z7 w)):Zdq prog (Frame.enter prog 8 #[] .normal) w fun v=>v=.bool true:=awake_of ZuF a c
end Go.Proofs
namespace Go.Proofs
open Tryz
open Go.RowKit Go.Twin Go.Conc
variable {W w:World} {p:Nat}
noncomputable def rA(n p q:Nat)(s:String):Code:=.region n #[{dst:=some p,op:=.call {callee:=.value (.func 8),args:=#[],argTypes:=#[]},type:=4,pos:=s,after:=#[],guard:=none},{dst:=some q,op:=.unOp .not 4 (.tmp p),type:=4,pos:=s,after:=#[{on:=0,ground:=.data}],guard:=none}] false
theorem ZuH(d:Kept1 W w):Old (Z7 W) (Z7 w):=by
 refine⟨by rw[Zc1,Zc1];exact d.size,fun b a=>?_⟩;rw[Zc1]at a;have c:b<w.heap.size:=Zzf a d.size;unfold Z7;simp only[Zwt,ZwG];by_cases g:4=b;·subst g;simp[a,c]
 ·by_cases e:3=b;·subst e;simp[a,c]
  ·simp[e,g,d.heap b a]
theorem Tabs.kept(h:Tabs (Z7 W))(a:Kept1 W w):Tabs (Z7 w):=h.old (ZuH a)
theorem Old.pad(l:World)(n:Nat):Old l (Twin.pad l n):=⟨by rw[Zcm];omega,fun b a=>Zcn l n a⟩
theorem ZuI(p:Nat):ZaX.op (.unOp .not 4 (.tmp p))=true:=by simp[Env.op,Env.op0,Env.darkOp,Op.operands,Env.operand]
theorem ZuJ{ρ:Operand->Value} {o:Oper} (h:ρ (.tmp p)=.bool true)(a:o.op=.unOp .not 4 (.tmp p))(w:World):(execOp ρ o).run prog w=.ok (.value (.bool false)) w:=by unfold execOp;rw[a];go_simp
noncomputable def ZeV(W:World):World:=ZbY ZaX (fun _=>False) W
theorem ZuK{F:Nat} {fn:Func} {c0 x rest:Code} {n q:Nat} {s:String} {args:Array Value} {Post:Value->World->Prop} {T:Array Value->World->Prop} (hf:prog.funcs[F]?=some fn) (hb:fn.body=some (.seq c0 (.seq (.seq (rA n p q s) (.cond (.tmp q) x .skip)) rest))) (hm:Zao (.seq c0 (.seq (.seq (rA n p q s) (.cond (.tmp q) x .skip)) rest))=true)(Z:ZaX.code c0=true)(aA:ZaX.code rest=true)(hi:prog.inits.idxOf? F=none)(i:GlobOk W)(ht:Tabs (Z7 W))(ha:AR ZaX (idX (ZaP (fun _=>False) W)) args args)(aJ:p≠q)(O:∀c w w',T c w->Old w w'->T c w')(U:∀c w,T c w->p<c.size/\q<c.size)(h0:∀l,Old (ZeV W) l->c0.wp prog (fun e a w'=>e=.normal/\a.defers=[]/\T a.tmps w'/\Below l.heap.size l w') ⟨args++Array.replicate (fn.ntmps-args.size) undef,[]⟩ l)(hr:∀c w,T c w->rest.wp prog (bodyPost prog fn fun e w'=>e=.returned (.bool true)/\Below w.heap.size w w') ⟨(c.setIfInBounds p (.bool true)).setIfInBounds q (.bool false),[]⟩ w)(hk:∀w',Kept1 W w'->Post (.bool true) w'):Fin prog Post #[G (Frame.enter prog F args .normal) []] W none #[]:=by
 have M:prog.globals.size<=W.heap.size:=i.size;refine Ztk (S:=ZaX) (E:=Zco) (D:=fun _=>False) Zm7 Zg1 rfl rfl rfl (fn:=fn) hf hb hm (fun g i=>by cases i) (fun g i=>by cases i) M ha ?_;have r:Halts (StopG Zco Post W (ZbY ZaX (fun _=>False) W) (idX (ZaP (fun _=>False) W)) (ZaP (fun _=>False) W) []):=Zd4;have e0:Frame.enter Zco.P F args .normal=(Go.Conc.base F).at ⟨args++Array.replicate (fn.ntmps-args.size) undef,[]⟩ [.code (.seq c0 (.seq (.seq (rA n p q s) (.cond (.tmp q) x .skip)) rest))]:=enter_at _ hf hb;rw[e0];have hs:=Zth (S:=ZaX) (D:=fun _=>False) (w:=W) rfl (fun g i=>by cases i) (fun g i=>by cases i) M;refine Zah r ?_;refine ZbN (E0:=ZaX) (E:=Zco) (R:=fun a' w'=>T a'.tmps w'/\Old (ZeV W) w') Zjt Zm6 Ztw Zg1 hs (ha.append (AR.replicate _ undefR)) rfl Z (fun v w t d h=>⟨O _ _ _ h.1 ((Old.refl w).re t d),h.2.size,h.2.get⟩) (fun t d=>Code.wp_mono (fun e a' w' h=>⟨h.1,h.2.1,h.2.2.1,Ze h.2.2.2⟩) (h0 _ ((Old.refl (ZeV W)).re t d))) ?_;rintro⟨c,df⟩ N B1 ⟨Q,J⟩ e2 aH j V;cases e2;refine Zah r (Zah r ?_);simp only[rA];refine Zbi r ?_;simp only[ZyT,Zyd,Zyg,Nat.reduceAdd,Zzw,List.range,List.range.loop];refine .stop _ _ _ (Zti (E:=Zco) (g:=8) (R:=fun v=>v=.bool true) Zm7 (fun b x hb=>.inl hb.2) (by simp) rfl rfl (fun a w=>?_) (fun a w=>?_) J.get (fun I=>ZuG (i.kept I) (ht.kept I)) (fun v h=>by subst h;rfl) fun v m hv=>?_);·simp only[show Zco.P=prog from rfl];kernel_rfl
 ·simp only[show Zco.P=prog from rfl];kernel_rfl
 subst hv;have z:Old N (Twin.pad N m):=Old.pad N m;replace j:=j.pad m;obtain⟨A,aC⟩:∃A,Twin.pad N m=A:=⟨_,rfl⟩;rw[aC]at z j |-;have C:=O _ _ _ Q z;have X:AR ZaX B1 (c.setIfInBounds p (.bool true)) (c.setIfInBounds p (.bool true)):=V.set p (.bool true);obtain⟨aE,aF⟩:=U _ _ C;have H:(c.setIfInBounds p (.bool true)).getD p undef=.bool true:=by rw[Zwh,Zwv aE];rfl
 have y:((c.setIfInBounds p (.bool true)).setIfInBounds q (.bool false)).getD q undef=.bool false:=by rw[Zwh,Zwv (by simpa using aF)];rfl
 refine Zak (E0:=ZaX) (a:=⟨c.setIfInBounds p (.bool true),[]⟩) r Zg1 Zjt j X rfl rfl (fun h=>by cases h) (ZuI p) (fun tt dd K k1 k2=>?_);have ev:(⟨c.setIfInBounds p (.bool true),[]⟩:Act).eval (.tmp p)=.bool true:=H;simp only[show ZaX.P=prog from rfl];rw[show (execOp (⟨c.setIfInBounds p (.bool true),[]⟩:Act).eval (#[{dst:=some p,op:=Op.call {callee:=Callee.value (Operand.func 8),args:=#[],argTypes:=#[]},type:=4,pos:=s,after:=#[],guard:=none},{dst:=some q,op:=Op.unOp UnOp.not 4 (Operand.tmp p),type:=4,pos:=s,after:=#[{on:=0,ground:=Ground.data}],guard:=none}][1])).run prog (A.re tt dd)=.ok (.value (.bool false)) (A.re tt dd)from ZuJ ev rfl _];refine k1 _ _ ?_;clear k1 k2 K;intro B2 aI aG Y;refine Zbj r ?_;refine Zjh r (t:=false) rfl y ?_;simp only[ZwP,if_false];refine Zmv r ?_;refine Zjm (E0:=ZaX) (E:=Zco) (fn:=fn) (R:=fun v w=>v=.bool true/\Old A w) Zjt Zm6 Zg1 aG Y rfl aA hf (fun t d=>Zhd (hr _ _ (O _ _ _ C ((Old.refl A).re t d))) fun e w h=>⟨_,h.1,rfl,Ze h.2⟩) fun f l' L aB=>.stop _ _ _ ?_;obtain⟨hc,v,t,d,hl,rfl,ho⟩:=L;refine Ztj (u:=.bool true) (R:=fun v _=>v=.bool true) (by rfl) (by rw[aB];exact hi) ⟨hc,_,t,d,hl,rfl⟩ (fun v t d h=>h) rfl ?_ hk;have aD:Old A l':=⟨ho.size,ho.get⟩;exact(J.trans (z.trans aD)).get
end Go.Proofs
