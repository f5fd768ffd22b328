import Derived.Shelf.Strings.OnBuilder
import Derived.Shelf.Small.Strs
import Derived.Shelf.Small.Wraps
import Derived.Shelf.Strconv.Atoi
import Derived.Shelf.Strconv.Itoa3
import Derived.Shelf.Strings.Shaped
import Derived.Shelf.Strings.SplitShaped
import Derived.Shelf.Unicode.DecodeSlow
import Derived.Shelf.Strings.BuilderCap
import Derived.Test.YtcnkanladpmepaaGreatDoorMg7
import Derived.Lib.AppendIntMem
set_option linter.unusedVariables false
set_option linter.unusedSimpArgs false
set_option maxRecDepth 100000
set_option maxHeartbeats 8000000
namespace Go.Proofs
open Tryz
open Go.Shelf
def Tryz.lays172_ren:Go.Shelf.Ren:=⟨fun|172=>195|244=>212|245=>213|247=>228|279=>229|280=>230|281=>231|282=>232|287=>241|316=>242|171=>173|205=>243|321=>246|322=>247|243=>190|246=>206|283=>219|284=>220|285=>221|286=>222|129=>236|317=>235|318=>237|319=>238|320=>239|337=>244|338=>245|n=>n,fun|9=>9|3=>3|75=>193|76=>205|4=>4|5=>5|167=>299|37=>202|0=>0|85=>300|2=>2|168=>302|53=>293|175=>314|46=>283|210=>318|127=>258|145=>323|143=>321|21=>21|171=>294|173=>296|212=>306|51=>291|20=>20|213=>307|232=>324|233=>325|80=>207|n=>n,fun|15=>5|16=>6|17=>2|18=>7|19=>8|n=>n⟩
theorem Tryz.lays172:Go.Proofs.Lays.n172 prog Tryz.lays172_ren:={
 mixed:=by kernel_rfl
 f129:=func236.trans (congrArg some (by kernel_rfl))
 f171:=func173.trans (congrArg some (by kernel_rfl))
 f172:=func195.trans (congrArg some (by kernel_rfl))
 f205:=func243.trans (congrArg some (by kernel_rfl))
 f243:=func190.trans (congrArg some (by kernel_rfl))
 f244:=func212.trans (congrArg some (by kernel_rfl))
 f245:=func213.trans (congrArg some (by kernel_rfl))
 f246:=func206.trans (congrArg some (by kernel_rfl))
 f247:=func228.trans (congrArg some (by kernel_rfl))
 f279:=func229.trans (congrArg some (by kernel_rfl))
 f280:=func230.trans (congrArg some (by kernel_rfl))
 f281:=func231.trans (congrArg some (by kernel_rfl))
 f282:=func232.trans (congrArg some (by kernel_rfl))
 f283:=func219.trans (congrArg some (by kernel_rfl))
 f284:=func220.trans (congrArg some (by kernel_rfl))
 f285:=func221.trans (congrArg some (by kernel_rfl))
 f286:=func222.trans (congrArg some (by kernel_rfl))
 f287:=func241.trans (congrArg some (by kernel_rfl))
 f316:=func242.trans (congrArg some (by kernel_rfl))
 f317:=func235.trans (congrArg some (by kernel_rfl))
 f318:=func237.trans (congrArg some (by kernel_rfl))
 f319:=func238.trans (congrArg some (by kernel_rfl))
 f320:=func239.trans (congrArg some (by kernel_rfl))
 f321:=func246.trans (congrArg some (by kernel_rfl))
 f322:=func247.trans (congrArg some (by kernel_rfl))
 f337:=func244.trans (congrArg some (by kernel_rfl))
 f338:=func245.trans (congrArg some (by kernel_rfl))
 t0:=underlying0
 a0:=isAgg0
 z0:=sizeOf0
 v0:=zeroValue0
 t2:=underlying2
 a2:=isAgg2
 z2:=sizeOf2
 v2:=zeroValue2
 t3:=underlying3
 a3:=isAgg3
 z3:=sizeOf3
 v3:=zeroValue3
 t4:=underlying4
 a4:=isAgg4
 z4:=sizeOf4
 v4:=zeroValue4
 t5:=underlying5
 a5:=isAgg5
 z5:=sizeOf5
 v5:=zeroValue5
 t9:=underlying9
 a9:=isAgg9
 z9:=sizeOf9
 v9:=zeroValue9
 t20:=underlying20
 a20:=isAgg20
 z20:=sizeOf20
 v20:=zeroValue20
 t21:=underlying21
 a21:=isAgg21
 z21:=sizeOf21
 v21:=zeroValue21
 t37:=underlying202
 a37:=isAgg202
 z37:=sizeOf202
 v37:=zeroValue202
 t46:=underlying283
 a46:=isAgg283
 z46:=sizeOf283
 v46:=zeroValue283
 t51:=underlying291
 a51:=isAgg291
 z51:=sizeOf291
 v51:=zeroValue291
 t53:=underlying293
 a53:=isAgg293
 z53:=sizeOf293
 v53:=zeroValue293
 t75:=underlying193
 a75:=isAgg193
 z75:=sizeOf193
 v75:=zeroValue193
 t76:=underlying205
 a76:=isAgg205
 z76:=sizeOf205
 v76:=zeroValue205
 t85:=underlying300
 a85:=isAgg300
 z85:=sizeOf300
 v85:=zeroValue300
 t127:=underlying258
 a127:=isAgg258
 z127:=sizeOf258
 v127:=zeroValue258
 t143:=underlying321
 a143:=isAgg321
 z143:=sizeOf321
 v143:=zeroValue321
 t145:=underlying323
 a145:=isAgg323
 z145:=sizeOf323
 v145:=zeroValue323
 t167:=underlying299
 a167:=isAgg299
 z167:=sizeOf299
 v167:=zeroValue299
 t168:=underlying302
 a168:=isAgg302
 z168:=sizeOf302
 v168:=zeroValue302
 t171:=underlying294
 a171:=isAgg294
 z171:=sizeOf294
 v171:=zeroValue294
 t173:=underlying296
 a173:=isAgg296
 z173:=sizeOf296
 v173:=zeroValue296
 t175:=underlying314
 a175:=isAgg314
 z175:=sizeOf314
 v175:=zeroValue314
 t210:=underlying318
 a210:=isAgg318
 z210:=sizeOf318
 v210:=zeroValue318
 t212:=underlying306
 a212:=isAgg306
 z212:=sizeOf306
 v212:=zeroValue306
 t213:=underlying307
 a213:=isAgg307
 z213:=sizeOf307
 t232:=underlying324
 a232:=isAgg324
 z232:=sizeOf324
 v232:=zeroValue324
 t233:=underlying325
 a233:=isAgg325
 z233:=sizeOf325
 v233:=zeroValue325
 g15:=by kernel_rfl
 g16:=by kernel_rfl
 g17:=by kernel_rfl
 g18:=by kernel_rfl
 g19:=by kernel_rfl}
open Go.RowKit in theorem Tryz.strconv_Atoi(s:ByteArray)(n:Int)(hl:s.size<=18)(h:Lib.atoi s.data.toList=some n)(w:World):Calls prog 195 #[.string s] w fun e w'=>e=.returned (.tuple #[.int .i64 n,.nilIface])/\∃t,w'=Lib.bytesWorld w 5 t:=Any.strconv_Atoi Tryz.lays172 s n hl h w
def Tryz.laysM171_ren:Go.Shelf.Ren:=⟨fun|171=>173|243=>190|246=>206|283=>219|284=>220|285=>221|286=>222|129=>236|317=>235|318=>237|319=>238|320=>239|337=>244|338=>245|n=>n,fun|3=>3|9=>9|2=>2|4=>4|171=>294|0=>0|53=>293|37=>202|5=>5|173=>296|212=>306|51=>291|20=>20|213=>307|46=>283|232=>324|233=>325|n=>n,fun|17=>2|18=>7|19=>8|n=>n⟩
theorem Tryz.laysM171:Go.Proofs.LaysM.n171 prog Tryz.laysM171_ren:={
 mixed:=by kernel_rfl
 f129:=func236.trans (congrArg some (by kernel_rfl))
 f171:=func173.trans (congrArg some (by kernel_rfl))
 f243:=func190.trans (congrArg some (by kernel_rfl))
 f246:=func206.trans (congrArg some (by kernel_rfl))
 f283:=func219.trans (congrArg some (by kernel_rfl))
 f284:=func220.trans (congrArg some (by kernel_rfl))
 f285:=func221.trans (congrArg some (by kernel_rfl))
 f286:=func222.trans (congrArg some (by kernel_rfl))
 f317:=func235.trans (congrArg some (by kernel_rfl))
 f318:=func237.trans (congrArg some (by kernel_rfl))
 f319:=func238.trans (congrArg some (by kernel_rfl))
 f320:=func239.trans (congrArg some (by kernel_rfl))
 f337:=func244.trans (congrArg some (by kernel_rfl))
 f338:=func245.trans (congrArg some (by kernel_rfl))
 t0:=underlying0
 a0:=isAgg0
 z0:=sizeOf0
 v0:=zeroValue0
 t2:=underlying2
 a2:=isAgg2
 z2:=sizeOf2
 v2:=zeroValue2
 t3:=underlying3
 a3:=isAgg3
 z3:=sizeOf3
 v3:=zeroValue3
 t4:=underlying4
 a4:=isAgg4
 z4:=sizeOf4
 v4:=zeroValue4
 t5:=underlying5
 a5:=isAgg5
 z5:=sizeOf5
 v5:=zeroValue5
 t9:=underlying9
 a9:=isAgg9
 z9:=sizeOf9
 v9:=zeroValue9
 t20:=underlying20
 a20:=isAgg20
 z20:=sizeOf20
 v20:=zeroValue20
 t37:=underlying202
 a37:=isAgg202
 z37:=sizeOf202
 v37:=zeroValue202
 t46:=underlying283
 a46:=isAgg283
 z46:=sizeOf283
 v46:=zeroValue283
 t51:=underlying291
 a51:=isAgg291
 z51:=sizeOf291
 v51:=zeroValue291
 t53:=underlying293
 a53:=isAgg293
 z53:=sizeOf293
 v53:=zeroValue293
 t171:=underlying294
 a171:=isAgg294
 z171:=sizeOf294
 v171:=zeroValue294
 t173:=underlying296
 a173:=isAgg296
 z173:=sizeOf296
 v173:=zeroValue296
 t212:=underlying306
 a212:=isAgg306
 z212:=sizeOf306
 v212:=zeroValue306
 t213:=underlying307
 a213:=isAgg307
 z213:=sizeOf307
 t232:=underlying324
 a232:=isAgg324
 z232:=sizeOf324
 v232:=zeroValue324
 t233:=underlying325
 a233:=isAgg325
 z233:=sizeOf325
 v233:=zeroValue325
 g17:=by kernel_rfl
 g18:=by kernel_rfl
 g19:=by kernel_rfl
 i0:=by kernel_rfl
 i2:=by kernel_rfl
 i3:=by kernel_rfl
 i4:=by kernel_rfl
 i5:=by kernel_rfl
 i9:=by kernel_rfl
 i20:=by kernel_rfl
 i37:=by kernel_rfl
 i46:=by kernel_rfl
 i51:=by kernel_rfl
 i53:=by kernel_rfl
 i171:=by kernel_rfl
 i173:=by kernel_rfl
 i212:=by kernel_rfl
 i232:=by kernel_rfl
 i233:=by kernel_rfl
 m17:=by kernel_rfl
 m18:=by kernel_rfl
 m19:=by kernel_rfl}
open Go.RowKit Go.Sort Go.Lib in theorem Tryz.strconv_Itoa(n:Int)(h0:-9223372036854775808<=n)(h1:n<=9223372036854775807)(w:World)(htab:Lib.TabIs prog w "internal/strconv.uint64pow10" .u64 Lib.pow10Tab):Calls prog 173 #[.int .i64 n] w fun e w'=>e=.returned (.string ⟨(Lib.itoa n).toArray⟩)/\∃k os,w'=grow (w.drewN k) os:=Any.strconv_Itoa Tryz.laysM171 n h0 h1 w htab
def Tryz.lays101_ren:Go.Shelf.Ren:=⟨fun|101=>196|208=>214|206=>233|n=>n,fun|9=>9|4=>4|3=>3|n=>n,fun|n=>n⟩
theorem Tryz.lays101:Go.Proofs.Lays.n101 prog Tryz.lays101_ren:={
 mixed:=by kernel_rfl
 f101:=func196.trans (congrArg some (by kernel_rfl))
 f206:=func233.trans (congrArg some (by kernel_rfl))
 f208:=func214.trans (congrArg some (by kernel_rfl))
 t3:=underlying3
 a3:=isAgg3
 z3:=sizeOf3
 v3:=zeroValue3
 t4:=underlying4
 a4:=isAgg4
 z4:=sizeOf4
 v4:=zeroValue4
 t9:=underlying9
 a9:=isAgg9
 z9:=sizeOf9
 v9:=zeroValue9}
open Go.RowKit Go.Lib in theorem Tryz.strings_TrimPrefix(s p:ByteArray)(w:World):Calls prog 196 #[.string s,.string p] w fun e w'=>e=.returned (.string ⟨(Lib.trimPrefix s.data.toList p.data.toList).toArray⟩)/\w'=w:=Any.strings_TrimPrefix Tryz.lays101 s p w
def Tryz.lays146_ren:Go.Shelf.Ren:=⟨fun|146=>142|221=>175|268=>192|138=>193|143=>194|195=>208|197=>209|218=>210|219=>211|260=>224|217=>215|225=>225|224=>226|267=>227|266=>234|314=>240|n=>n,fun|9=>9|31=>186|3=>3|4=>4|0=>0|105=>286|21=>21|5=>5|46=>283|119=>308|139=>311|138=>310|146=>312|51=>291|n=>n,fun|1=>1|3=>3|4=>4|n=>n⟩
theorem Tryz.lays146:Go.Proofs.Lays.n146 prog Tryz.lays146_ren:={
 mixed:=by kernel_rfl
 f138:=func193.trans (congrArg some (by kernel_rfl))
 f143:=func194.trans (congrArg some (by kernel_rfl))
 f146:=func142.trans (congrArg some (by kernel_rfl))
 f195:=func208.trans (congrArg some (by kernel_rfl))
 f197:=func209.trans (congrArg some (by kernel_rfl))
 f217:=func215.trans (congrArg some (by kernel_rfl))
 f218:=func210.trans (congrArg some (by kernel_rfl))
 f219:=func211.trans (congrArg some (by kernel_rfl))
 f221:=func175.trans (congrArg some (by kernel_rfl))
 f224:=func226.trans (congrArg some (by kernel_rfl))
 f225:=func225.trans (congrArg some (by kernel_rfl))
 f260:=func224.trans (congrArg some (by kernel_rfl))
 f266:=func234.trans (congrArg some (by kernel_rfl))
 f267:=func227.trans (congrArg some (by kernel_rfl))
 f268:=func192.trans (congrArg some (by kernel_rfl))
 f314:=func240.trans (congrArg some (by kernel_rfl))
 t0:=underlying0
 a0:=isAgg0
 z0:=sizeOf0
 v0:=zeroValue0
 t3:=underlying3
 a3:=isAgg3
 z3:=sizeOf3
 v3:=zeroValue3
 t4:=underlying4
 a4:=isAgg4
 z4:=sizeOf4
 v4:=zeroValue4
 t5:=underlying5
 a5:=isAgg5
 z5:=sizeOf5
 v5:=zeroValue5
 t9:=underlying9
 a9:=isAgg9
 z9:=sizeOf9
 v9:=zeroValue9
 t21:=underlying21
 a21:=isAgg21
 z21:=sizeOf21
 v21:=zeroValue21
 t31:=underlying186
 a31:=isAgg186
 z31:=sizeOf186
 v31:=zeroValue186
 t46:=underlying283
 a46:=isAgg283
 z46:=sizeOf283
 v46:=zeroValue283
 t51:=underlying291
 a51:=isAgg291
 z51:=sizeOf291
 v51:=zeroValue291
 t105:=underlying286
 a105:=isAgg286
 z105:=sizeOf286
 v105:=zeroValue286
 t119:=underlying308
 a119:=isAgg308
 z119:=sizeOf308
 t138:=underlying310
 a138:=isAgg310
 z138:=sizeOf310
 v138:=zeroValue310
 t139:=underlying311
 a139:=isAgg311
 z139:=sizeOf311
 v139:=zeroValue311
 t146:=underlying312
 a146:=isAgg312
 z146:=sizeOf312
 v146:=zeroValue312
 g1:=by kernel_rfl
 g3:=by kernel_rfl
 g4:=by kernel_rfl}
open Go.RowKit Go.Lib in theorem Tryz.strings_Split(s sep:ByteArray)(m:Int)(w:World)(hs:s.size<4294967281)(hm:w.cell? ⟨1,0,none⟩=some (.int .i64 m))(h1:1<=sep.size):Calls prog 142 #[.string s,.string sep] w fun e w'=>e=.returned (.slice (some ⟨w.heap.size,0,none⟩) (Lib.countB s sep+1) (Lib.countB s sep+1))/\w'=w.alloc (.cells ((Lib.splitB sep 0 (Lib.countB s sep) s).map Value.string).toArray 9):=Any.strings_Split Tryz.lays146 (by kernel_rfl) s sep m w hs hm h1
end Go.Proofs
namespace Go.Proofs
open Tryz
open Go.RowKit
variable {w w':World}
def bs(l:List UInt8):ByteArray:=⟨l.toArray⟩
def Sc(l:List UInt8):List Value:=[.string (bs l)]
theorem ZeB(l:List UInt8):(bs l).data.toList=l:=by simp[bs]
theorem Zr8(s:ByteArray):bs s.data.toList=s:=by cases s;simp[bs]
theorem Zgx(l:List UInt8):(bs l).size=l.length:=by simp[bs,ByteArray.size]
structure Tabs (w:World):Prop where
 tab:Lib.TabIs prog w "internal/strconv.uint64pow10" .u64 Lib.pow10Tab
 mx:∃m,w.cell? ⟨1,0,none⟩=some (.int .i64 m)
theorem Zdi{p:Addr} {v:Value} (h:w.cell? p=some v)(hb:Below w.heap.size w w'):w'.cell? p=some v:=(hb.cell (World.block_lt_of_cell? _ _ h)).trans h
theorem Tabs.below(h:Tabs w)(hb:Below w.heap.size w w'):Tabs w':=by obtain⟨h1,⟨m,h4⟩⟩:=h;exact⟨Lib.tabBelow_of_tabIs h1 w' hb,⟨m,Zdi h4 hb⟩⟩
theorem Zr9(n:Int)(w:World)(hn:n.natAbs<=9000000000000000000)(ht:Tabs w):Calls prog 173 #[.int .i64 n] w fun e w'=>e=.returned (.string (bs (Lib.itoa n)))/\Below w.heap.size w w':=(Tryz.strconv_Itoa n (by omega) (by omega) w ht.tab).mono fun e w' ⟨he,k,os,hw⟩=>⟨he,hw▸Lib.below_grow w.heap.size w (ZwG _) k os⟩
theorem Zsa(sep:ByteArray)(h1:1<=sep.size):∀(n:Nat)(s:ByteArray),s.size<=n->(Lib.splitB sep 0 (Lib.countB s sep) s).length=Lib.countB s sep+1:=by intro n;induction n with
 |zero=>
  intro s hs;rcases Lib.index_spec s.data.toList sep.data.toList with⟨h,-⟩|⟨i,h,hi,-,-⟩;·rw[Lib.countB_miss s sep h];rfl
  ·have hr:=Lib.index_room s.data.toList sep.data.toList (by omega);have e1:s.data.toList.length=s.size:=by simp
   have e2:sep.data.toList.length=sep.size:=by simp
   omega|succ n ih=>
  intro s hs;rcases Lib.index_spec s.data.toList sep.data.toList with⟨h,-⟩|⟨i,h,hi,-,-⟩;·rw[Lib.countB_miss s sep h];rfl
  ·have hr:=Lib.index_room s.data.toList sep.data.toList (by omega);have e1:s.data.toList.length=s.size:=by simp
   have e2:sep.data.toList.length=sep.size:=by simp
   rw[Lib.countB_hit s sep i h1 h,Zwz 1,Lib.splitB_hit sep 0 _ s i h,ZvS,ih _ (by rw[ByteArray.size_extract];omega)]
theorem Zsb{l:List ByteArray} {m:List (List UInt8)} (h:l.map (·.data.toList)=m):l=m.map bs:=by subst h;rw[Zv3,show (bs ∘ fun x:ByteArray=>x.data.toList)=id from funext fun x=>Zr8 x,List.map_id]
theorem ZlV(s:ByteArray):Lib.splitB ⟨#[32]⟩ 0 (Lib.countB s ⟨#[32]⟩) s=(cutL s.data.toList).map bs:=by refine Zsb ?_;rw[Lib.splitB_data];exact Zr3 _ _ (ZwG _)
theorem Zsc(s:ByteArray)(w:World)(hs:s.size<=100000)(ht:Tabs w):Calls prog 142 #[.string s,.string ⟨#[32]⟩] w fun e w'=>(∃A c,e=.returned (.slice A (cutL s.data.toList).length c)/\At 1 Sc w' A (cutL s.data.toList)/\(cutL s.data.toList).length<=c)/\Below w.heap.size w w':=by obtain⟨m,hm⟩:=ht.mx;refine(Tryz.strings_Split s ⟨#[32]⟩ m w (by omega) hm (by decide)).mono ?_;rintro e w' ⟨rfl,rfl⟩;have hl:=Zsa ⟨#[32]⟩ (by decide) s.size s (ZwG _);rw[ZlV,ZvU]at hl;rw[ZlV,<-hl];refine⟨⟨_,_,rfl,?_,ZwG _⟩,ZB _ _⟩;intro k x hx;refine⟨w.heap.size,0,rfl,by simp,?_⟩;intro j v hv;match j,hv with|0,rfl=>rw[World.cell?_alloc_at _ _ _ _ rfl];simp[hx]
theorem Zsd(n:Int)(w:World)(hn:n.natAbs<10^16):Calls prog 195 #[.string (bs (Lib.itoa n))] w fun e w'=>e=.returned (.tuple #[.int .i64 n,.nilIface])/\Below w.heap.size w w':=by refine(Tryz.strconv_Atoi (bs (Lib.itoa n)) n (by rw[Zgx];have:=(Ziz 15 n hn).1;omega) (by rw[ZeB];exact Zr6 n) w).mono ?_;rintro e w' ⟨rfl,t,rfl⟩;exact⟨rfl,rfl,rfl,rfl,by rw[Lib.bytesWorld_size];omega,fun k hk=>Lib.bytesWorld_at_old w 5 t k hk⟩
theorem Zse(b:List UInt8)(w:World):Calls prog 196 #[.string (bs b),.string ⟨#[45]⟩] w fun e w'=>e=.returned (.string (bs (Zdh b)))/\w=w':=by refine(Tryz.strings_TrimPrefix (bs b) ⟨#[45]⟩ w).mono ?_;rintro e w' ⟨rfl,rfl⟩;refine⟨?_,rfl⟩;rw[ZeB];show _=Ending.returned (.string (bs (Zdh b)));rw[<-Zr5];rfl
theorem At.tail1{α:Type} {sz:Nat} {cs:α->List Value} {w:World} {b o:Nat} {l:List α} (h:At sz cs w (some ⟨b,o,none⟩) l) (n:Nat):At sz cs w (some ⟨b,o+n*sz,none⟩) (l.drop n):=fun k x hx=>by rw[List.getElem?_drop]at hx;obtain⟨b',o',hA,hb,hc⟩:=h (n+k) x hx;cases hA;refine⟨b,o+n*sz,rfl,hb,fun j u hu=>?_⟩;rw[<-hc j u hu,ZwA];congr 2;omega
theorem Zsf(n:Int)(k:Nat)(w:World)(hk:k<=14)(hn:n.natAbs<10^(k+1))(ht:Tabs w):Calls prog 176 #[.string (bs (Lib.itoa n)),.int .i64 ((k+1:Nat):Int)] w fun e w'=>e=.returned (.tuple #[.int .i64 n,.bool true])/\Below w.heap.size w w':=by
 have hbig:(10:Nat)^(k+1)<=10^15:=ZwV (by decide) (by omega);have hAt:=Zsd n w (by omega);have hIt:=Zu3 fun W (hb:Below w.heap.size w W)=>Zr9 n W (by omega) (ht.below hb);have hTr:=Zu3 fun W=>Zse (Lib.itoa n) W;have hm:=(Ziz k n hn).2;obtain⟨S,hS⟩:∃S,bs (Lib.itoa n)=S:=⟨_,rfl⟩;obtain⟨M,hM⟩:∃M,bs (Zdh (Lib.itoa n))=M:=⟨_,rfl⟩;have hMs:M.size<=k+1:=by rw[<-hM,Zgx];exact hm
 have hMi:decide ((M.size:Int)<=((k+1:Nat):Int))=true:=by simp;omega
 have hMi2:(M.size:Int)<=((k+1:Nat):Int):=by omega
 rw[hS]at hAt hIt hTr |-;rw[hM]at hTr;obtain⟨K,hK⟩:∃K:Int,((k+1:Nat):Int)=K:=⟨_,rfl⟩;rw[hK]at hMi hMi2 |-;have hse:(S.toList==S.toList)=true:=by simp
 have hnl:∀W,(binOp .eql 193 .nilIface .nilIface).run prog W=.ok (.bool true) W:=fun W=>by kernel_rfl
 clear hn ht hbig hm hS hM hK hk;go_enter func176,ntmps176;go_wp2_with (first|(go_at_call 195;refine hAt.mono ?_;rintro e w1 ⟨rfl,hb1⟩)|(go_at_call 173;refine(hIt.out _ hb1).mono ?_;rintro e w2 ⟨rfl,hb2⟩)|(go_at_call 196;refine(hTr.out _).mono ?_;rintro e w3 ⟨rfl,rfl⟩));go_ret2;exact⟨rfl,via hb1 hb2⟩
theorem Zsg(A:Option Addr)(l:List Int)(k n c:Nat)(w:World)(hk:k<=14)(hl:∀x∈l,x.natAbs<10^(k+1))(hA:At 1 Sc w A (l.map Lib.itoa))(hn:l.length=n)(h9:n<=900)(ht:Tabs w):Calls prog 143 #[.slice A n c,.int .i64 ((k+1:Nat):Int)] w fun e w'=>(∃A2 c2,e=.returned (.tuple #[.slice A2 n c2,.bool true])/\w'.ownsRow w.heap.size 3 1 (.slice A2 n c2) n (l.map (Value.int .i64)))/\Below w.heap.size w w':=by
 have hNu:=Zu3 fun x (hx:x∈l) W (hb:Below w.heap.size w W)=>Zsf x k W hk (hl x hx) (ht.below hb);have hA':=Zu3 hA;have hn':=Zu3 hn;obtain⟨K,hK⟩:∃K:Int,((k+1:Nat):Int)=K:=⟨_,rfl⟩;rw[hK]at hNu |-;obtain⟨i0,hi,hz0,hz1,hz2⟩:=info_parts info3;clear hk hl hA hn ht hK;go_enter func143,ntmps143;go_wp2;go_loopw [6,13] (fun v i wr=>∃j:Nat,j<=n/\i=.int .i64 j/\Hid (wr.ownsRow w.heap.size 3 1 v j ((l.take j).map (Value.int .i64)))/\Below w.heap.size w wr)(fun _ i _=>n-(intOf i).toNat);case atStart=>exact⟨0,Zw0 _,rfl,Zu3 (World.ownsRow_nil _ _ _ _),ZuC _ _⟩
 case round=>
  obtain⟨j,hj,rfl,hown,hbw⟩:=hrel;obtain⟨A5,c5,rfl⟩:=Z8 hown.out;by_cases hlt:j<n
  ·have hjI:(j:Int)<(n:Int):=by omega
   obtain⟨x,hx⟩:∃x,l[j]?=some x:=⟨_,ZvD (by rw[hn'.out];exact hlt)⟩;obtain⟨b,o,rfl,hbb,hc⟩:=hA'.out.below hbw j (Lib.itoa x) (by rw[ZvH,hx];rfl);have y0:=hc 0 _ rfl;simp only[ZwC,ZwR]at y0;have hCx:=Zu3 (hNu.out x (Zwf hx) wr hbw);have hst:=Zu3 (show (l.take (j+1)).map (Value.int .i64)=(l.take j).map (Value.int .i64)++[.int .i64 x]by rw[Zws,hx];simp);clear hc hx;go_wp2_with (first
    |(go_at_call 176;refine hCx.out.mono ?_;rintro e w2 ⟨rfl,hb2⟩;(have hO2:=Zu3 (ZK hown.out hb2));(have hbw2:=via hbw hb2);clear hb2)|(at_builtin;refine wpList_append_own _ rfl _ _ 31 rfl w.heap.size 3 i0 (.int .i64 0) 1 8 underlying31 hi hz0 hz1 hz2 rfl (by decide) _ _ _ rfl (hO2.out.alloc _) ⟨w2.heap.size,0,none⟩ 1 1 [.int .i64 x] rfl rfl ?c1 ?c2 ?c3 ?c4 ?c5 ?_));try (case c1=>exact ZbS _ [.int .i64 x] _ (by simp))
   case c2=>first|rfl|(intro u hu;simp at hu;subst hu;rfl)
   case c3=>first|omega|(unfold maxLen;omega)
   case c4=>omega
   case c5=>have:=hbw2.size;first|omega|(simp;omega)
   intro v' w3 hown3 hg3 _;have hown4:=Zu3 (show w3.ownsRow w.heap.size 3 1 v' (j+1) ((l.take (j+1)).map (Value.int .i64))from by rw[hst.out,List.map_take];exact hown3);have hbw3:Below w.heap.size w w3:=Z4 (via hbw2 (ZB _ _)) hg3 fun b e=>by have:=(hO2.out.lt b e).1;omega
   clear hown3 hg3;go_wp2;go_roundw;case rel=>exact⟨j+1,by omega,by go_num,hown4.out,hbw3⟩
   case measure=>simp[intOf]<;>omega
  ·obtain rfl:n=j:=by omega
   have hall:=Zu3 (show l.take n=l by rw[<-hn'.out,Zwt]);go_wp2;go_ret2;exact⟨⟨A5,c5,rfl,by have:=hown.out;rwa [hall.out]at this⟩,hbw⟩
end Go.Proofs
namespace Go.Proofs
open Go.RowKit
theorem Zgy{w:World} {base:Nat} {e:TypeId} {size n c:Nat} {A:Option Addr} {xs:List Value} (h:w.ownsRow base e size (.slice A n c) n xs):n<=c:=by
 rcases h.2 with⟨h,h0⟩|⟨g,cap,cur,h1,h2,h3,h4,-⟩;·omega
 ·cases h1;exact h4
end Go.Proofs
namespace Go.Proofs
open Tryz
open Go.RowKit
theorem ZiA{P:Program} {α:Type} {sz:Nat} {cs:α->List Value} (hsz:∀y,(cs y).length=sz)(hp:0<sz) {x:World} {t ty e:TypeId} {i:TypeInfo} {z:Value} {bytes:Nat} (ht:P.underlying t=some (.slice e))(hi:P.info? e=some i)(hz:i.zero=some z)(hs:i.size=sz)(hzs:z.cells.size=sz)(hby:i.bytes=bytes)(hbb:bytes<=1000)(b base:Nat)(hbb2:base<=b)(hblk:x.heap[b]?=some (.cells #[] e (0,0)))(hbs:base<=x.heap.size) {l:List α} {A:Option Addr} (c n:Nat)(hn:l.length=n)(hat:At sz cs x A l)(hl:l.length<=1000):∃A2 c2 x',(Builtin.append_ #[t,t] ty #[.slice (some ⟨b,0,none⟩) 0 0,.slice A n c]).run P x=.ok (.slice A2 n c2) x'/\Below x.heap.size x x'/\x'.ownsRow base e sz (.slice A2 n c2) n (l.flatMap cs):=by subst hn;cases l with
 |nil=>refine⟨some ⟨b,0,none⟩,0,x,?_,ZuC _ _,by simp,.inr ⟨b,0,#[],rfl,hbb2,hblk,ZwG _,Zw0 _,by simp,by simp⟩⟩;cases A with
  |none=>simp[Builtin.append_,run_underlying ht,sizeOf,typeInfo,hi,Builtin.lenOf,Builtin.firstCells,loadCells,loadCellsFrom,storeCells]|some a=>simp[Builtin.append_,run_underlying ht,sizeOf,typeInfo,hi,Builtin.lenOf,Builtin.firstCells,loadCells,loadCellsFrom,storeCells]
 |cons y l'=>
  obtain⟨l,hl'⟩:∃l,y::l'=l:=⟨_,rfl⟩;have hne:0<l.length:=by rw[<-hl'];simp
  rw[hl']at hat hl |-;obtain⟨a,rfl⟩:∃a,A=some a:=by obtain⟨b',o',h,-⟩:=hat 0 y (by rw[<-hl'];rfl);exact⟨_,h⟩
  have hfl:=Zgl cs sz hsz l;have hnews:=Zii hsz hat;have hbt:l.length*bytes<=1000*1000:=ZwP hl hbb;subst hs;subst hby;have hr:=run_append_grow (P:=P) (w:=x) t ty e i z ht hi hz ⟨b,0,none⟩ 0 0 [] (by simp) (by simp) a l.length c (l.flatMap cs) hfl hnews (by omega) (by omega) (growslice_fits (by omega) (by rw[ZwZ];omega));simp only[ZwZ]at hr;have hge:=grownCap_ge x l.length 0 e;have hcm:grownCap x l.length 0 e<=maxLen:=grownCap_le_maxLen x l.length 0 e (by unfold maxLen;omega);have hb':Below x.heap.size x (x.drew.alloc (.cells (([]:List Value).toArray++(l.flatMap cs).toArray++Builtin.zeroCells z.cells (grownCap x l.length 0 e-l.length)) e)):=((ZuC _ x).drew).alloc (by simp) _;refine⟨_,_,_,hr,hb',hfl,.inr ⟨x.heap.size,_,_,rfl,hbs,heap_alloc_new x.drew _,hge,hcm,?_,?_⟩⟩;·simp only[Array.size_append,Zwq,size_zeroCells,hzs,hfl,ZvV,ZwZ,<-ZwA];congr 1;omega
  ·simp only[Array.toList_append,Zwj];rw[<-hfl];exact List.take_left
section
variable {P:Program} {ops:Array Oper}
theorem ZiB{rest:List Oper} {o:Oper} {a:Act} {x x':World} {v1 v2 v':Value} {Q:Exit->Act->World->Prop} (hgd:o.guard=none)(s y:Operand)(t:TypeId)(ho:o.op=.call {callee:=.builtin .append,args:=#[s,y],argTypes:=#[t,t]})(hs:a.eval s=v1)(hy:a.eval y=v2)(hr:(Builtin.append_ #[t,t] o.type #[v1,v2]).run P x=.ok v' x')(h:wpList P ops Q rest (a.put o.dst v') x'):wpList P ops Q (o::rest) a x:=by refine wpList_plain hgd fun K hK=>?_;unfold Oper.wp execOp;simp only[ho,resolve,invoke,builtin,Sem.run_bind,Sem.run_pure,Result.andThen_ok,Zv6,Zv2,Zv4,hs,hy,hr];exact hK _ _ h
end
theorem ZiC(A:Option Addr)(l:List Int)(c n:Nat)(w:World)(hat:At 1 Zc w A l)(hn:l.length=n)(hl:n<=1000):Calls prog 57 #[.slice A n c] w fun e w'=>(∃A2 c2,e=.returned (.slice A2 n c2)/\w'.ownsRow w.heap.size 3 1 (.slice A2 n c2) n (l.flatMap Zc))/\Below w.heap.size w w':=by obtain⟨i0,hi,hz0,hz1,hz2⟩:=info_parts info3;obtain⟨A2,c2,x',hr,hb,hown⟩:=ZiA (P:=prog) (sz:=1) (cs:=Zc) (x:=w.alloc (.cells #[] 3 (0,0))) (t:=31) (ty:=31) (e:=3) (fun _=>rfl) (by decide) underlying31 hi hz0 hz1 rfl hz2 (by decide) w.heap.size w.heap.size (ZwG _) (Zz _ _ rfl) (by simp) c n hn (hat.below (ZB _ _)) (by omega);have hr':=Zu3 hr;have hown':=Zu3 hown;have hbw:=via (ZB _ _) hb;clear hr hown hi hz0 hz1 hz2 hat;go_enter func57,ntmps57;go_wp2_with (at_builtin;refine ZiB rfl _ _ 31 rfl rfl rfl hr'.out ?_);go_ret;exact⟨⟨A2,c2,rfl,hown'.out⟩,hbw⟩
theorem ZlW(pA eA:Option Addr)(pc ec pn en:Nat)(ps:List Pa)(es:List En)(w:World)(hB:BookAt w pA pc ps eA ec es)(hF:FewB ps es)(hpn:ps.length=pn)(hen:es.length=en)(he9:en<=900):Calls prog 21 #[.agg #[.slice pA pn pc,.slice eA en ec]] w fun e w'=>(∃A c A2 c2 es2,e=.returned (.agg #[.slice A pn c,.slice A2 en c2])/\es2.length=en/\es2.map En.sig=es.map En.sig/\w'.ownsRow w.heap.size 149 5 (.slice A pn c) pn (ps.flatMap Pa.cs)/\EnsOwn w' w.heap.size (.slice A2 en c2) es2)/\Below w.heap.size w w':=by
 obtain⟨j0,ji,jz0,jz1,jz2⟩:=info_parts Zij;obtain⟨Ap,cp,w2,hr,hb,hOp⟩:=ZiA (P:=prog) (sz:=5) (cs:=Pa.cs) (x:=((w.alloc (.cells #[.slice pA pn pc,.slice eA en ec] 25 (0,0))).alloc (.cells #[.slice none 0 0,.slice none 0 0] 25 (0,0))).alloc (.cells #[] 149 (0,0))) (t:=22) (ty:=22) (e:=149) (fun _=>rfl) (by decide) (by first|exact underlying22|kernel_rfl) ji jz0 jz1 rfl jz2 (by decide) (w.heap.size+2) (w.heap.size+2) (ZwG _) (Zz _ _ (by simp)) (by simp) pc pn hpn (hB.P.below (by go_grown)) (by have:=hF.p;omega);have hr':=Zu3 hr;have M0:=Zw hb (by(repeat (first|assumption|(refine Zz _ _ ?_;(simp;done))|refine ZC ?_|refine Zy ?_ _|refine ZA ?_ (by simp<;>omega) _)):(((w.alloc (.cells #[.slice pA pn pc,.slice eA en ec] 25 (0,0))).alloc (.cells #[.slice none 0 0,.slice none 0 0] 25 (0,0))).alloc (.cells #[] 149 (0,0))).heap[w.heap.size]?=some (.cells #[.slice pA pn pc,.slice eA en ec] 25 (0,0)));have M1:=Zw hb (by(repeat (first|assumption|(refine Zz _ _ ?_;(simp;done))|refine ZC ?_|refine Zy ?_ _|refine ZA ?_ (by simp<;>omega) _)):(((w.alloc (.cells #[.slice pA pn pc,.slice eA en ec] 25 (0,0))).alloc (.cells #[.slice none 0 0,.slice none 0 0] 25 (0,0))).alloc (.cells #[] 149 (0,0))).heap[w.heap.size+1]?=some (.cells #[.slice none 0 0,.slice none 0 0] 25 (0,0)));have hbw2:Below w.heap.size w w2:=via (by go_grown) hb;have hsz2:=ZI M1;have hsz3:=hb.size;clear hr ji jz0 jz1 jz2 hb;have hec:en<=ec:=by rw[<-hen];exact hB.ec'
 have hE':=Zu3 hB.E;have hnl':=Zu3 hB.nil;have hen':=Zu3 hen;have hco':=Zu3 hF.co;obtain⟨i0,hi,hz0,hz1,hz2⟩:=info_parts Zfl;have hs2:∀x,(sizeOf 25).run prog x=.ok 2 x:=fun x=>by kernel_rfl
 have ha2:∀x,(isAgg 25).run prog x=.ok true x:=fun x=>by kernel_rfl
 clear hB hF hpn hen;go_enter func21,ntmps21;have hOp:=Zu3 hOp;have D0:=bk2 M0;go_wp2_with (at_builtin;refine ZiB rfl _ _ 22 rfl rfl rfl hr'.out ?_);go_loopw [4] (fun i wr=>∃j:Nat,∃v:Value,∃xs:List En,j<=en/\i=.int .i64 j/\wr.heap[w2.heap.size]?=some (.cells #[.slice Ap pn cp,v] 25 (0,0))/\Hid (xs.length=j)/\Hid (xs.map En.sig=(es.take j).map En.sig)/\Hid (EnsOwn wr (w2.heap.size+1) v xs)/\Below w2.heap.size w2 wr)(fun i _=>en-(intOf i).toNat);case atStart=>exact⟨0,.slice none 0 0,[],Zw0 _,rfl,by(repeat (first|assumption|(refine Zz _ _ ?_;(simp;done))|refine ZC ?_|refine Zy ?_ _|refine ZA ?_ (by simp<;>omega) _)),Zu3 rfl,Zu3 rfl,Zu3 (EnsOwn.nil _ _),by go_grown⟩
 case round=>
  obtain⟨j,v,xs,hj,rfl,M3,hxl,hxs,hown,hb2⟩:=hrel;have hown0:=hown.out.own;rw[hxl.out]at hown0;obtain⟨A5,c5,rfl⟩:=Z8 hown0;clear hown0;have hbw:Below w.heap.size w wr:=via hbw2 hb2;have D0:=bk2 (Zw hb2 M0);have D1:=bk2 (Zw hb2 M1);have D3:=bk2 M3;have hsr:=ZI M3;by_cases hlt:j<en
  ·have hjI:(j:Int)<(en:Int):=by omega
   obtain⟨x,hx⟩:∃x,es[j]?=some x:=⟨_,ZvD (by rw[hen'.out];exact hlt)⟩;have hxm:=Zwf hx;obtain⟨b,o,rfl,hbb,hc⟩:=(hE'.out.below hbw).1 j x hx;have y0:=hc 0 _ rfl;have y1:=hc 1 _ rfl;have y2:=hc 2 _ rfl;simp only[ZwC]at y0;obtain⟨L,hL⟩:∃L,x.co.length=L:=⟨_,rfl⟩;have hCi:=Zu3 fun W (hb:Below wr.heap.size wr W)=>ZiC x.A x.co x.c L W (((hE'.out.below hbw).2 x hxm).below hb) hL (by rw[<-hL];exact hco'.out x hxm);have hts:=Zu3 (show (es.take (j+1)).map En.sig=(es.take j).map En.sig++[x.sig]by rw[Zws,hx];simp);have hL':=Zu3 hL;have hy1:wr.cell? ⟨b,o+j*3+1,none⟩=some (.slice x.A L x.c):=by rw[<-hL];exact y1
   clear hc hx hxm y1 hL;go_wp2_with (first
    |(go_at_call 57;refine(hCi.out _ (ZB _ _)).mono ?_;rintro e w5 ⟨⟨A6,c6,rfl,hO6⟩,hb5⟩;(have Q3:=Zw hb5 (Zy M3 (.cells #[.string x.nm,.slice x.A L x.c,.int .i64 x.mo] 91 (0,0))));(have Q5:=Zw hb5 (Zz wr (.cells #[.string x.nm,.slice x.A L x.c,.int .i64 x.mo] 91 (0,0)) rfl));(have E3:=bk2 Q3);(have E5:=bk3 Q5);(have hw65:=via (ZB wr (.cells #[.string x.nm,.slice x.A L x.c,.int .i64 x.mo] 91 (0,0))) hb5);(have hW6:Below wr.heap.size wr ((w5.setCell ⟨wr.heap.size,1,none⟩ (.slice A6 L c6))):=hw65.trans (((OnlyB.refl wr.heap.size w5).set 1 _).below _ (ZwG _)));(have hown7:=Zu3 (hown.out.below (via hW6 (ZB ((w5.setCell ⟨wr.heap.size,1,none⟩ (.slice A6 L c6))) (.cells #[.string x.nm,.slice A6 L c6,.int .i64 x.mo] 91 (0,0))))));(have hO6':=Zu3 hO6);clear hO6 hb5)|(at_builtin;refine Zlj rfl (.tmp 28) (.tmp 30) 23 91 i0 _ (.slice A5 j c5) 48 (w2.heap.size+1) j w5.heap.size 3 (xs.flatMap En.cs) [.string x.nm,.slice A6 L c6,.int .i64 x.mo] 91 rfl rfl rfl (by kernel_rfl) hi hz0 hz1 hz2 rfl (by decide) (by decide) rfl ?c1 ?c2 ?c3 ?c4 ?c5 ?_));case c1=>have:=hown7.out.own;rwa [hxl.out]at this
   case c2=>exact Zz _ _ (by simp)
   case c3=>simp[Value.oneCell']
   case c4=>omega
   case c5=>have:=hown7.out;have:=hW6.size;simp at this |-;omega
   intro v' w8 ho8 hg8 hl8;obtain⟨A8,c8,rfl⟩:=Z8 ho8;have hs6:((w5.setCell ⟨wr.heap.size,1,none⟩ (.slice A6 L c6))).heap.size=w5.heap.size:=ZdQ _ _ _;have hlo:∀g,A6=some g->wr.heap.size+1<=g.block/\g.block<w5.heap.size:=fun g e=>by have:=hO6'.out.lt g.block (by rw[e];rfl);simp only[World.size_alloc]at this;exact this
   have o7:=ZK (Zaf hO6'.out fun r e=>((OnlyB.refl wr.heap.size w5).set 1 (.slice A6 L c6)).other r (by have:=(hO6'.out.lt r e).1;simp at this;omega)) (ZB ((w5.setCell ⟨wr.heap.size,1,none⟩ (.slice A6 L c6))) (.cells #[.string x.nm,.slice A6 L c6,.int .i64 x.mo] 91 (0,0)));have o5:=hown7.out.own;rw[hxl.out]at o5;have hlt5:=fun r e=>(hown.out.own.lt r e).2;have hE8:EnsOwn w8 (w2.heap.size+1) (.slice A8 (j+1) c8) (xs++[⟨x.nm,A6,c6,x.co,x.mo⟩]):=by
    refine EnsOwn.push hown7.out (x:=⟨x.nm,A6,c6,x.co,x.mo⟩) (Zcf o7 hL'.out) (Zde o7) (fun g e=>?_) hg8 ?_ ?_
    ·have h1:=hlo g e;refine⟨by omega,?_,fun h=>?_⟩;·simp;omega
     ·have:=hlt5 _ h.symm;omega
    ·have:=ho8;simp only[hxl.out,En.cs,hL'.out];exact this
    ·rcases hl8 with h|h;·exact .inl h
     ·exact .inr (by rw[h];simp)
   have R3:=ZaI hg8 (Zy (ZdP (i:=1) (u:=.slice A6 L c6) Q3 (show w2.heap.size≠wr.heap.size by omega)) (.cells #[.string x.nm,.slice A6 L c6,.int .i64 x.mo] 91 (0,0))) (Zag o5 (Nat.lt_succ_self _));have hbw8:Below w2.heap.size w2 w8:=Z4 ((hb2.trans (hW6.mono (by omega))).trans ((ZB ((w5.setCell ⟨wr.heap.size,1,none⟩ (.slice A6 L c6))) (.cells #[.string x.nm,.slice A6 L c6,.int .i64 x.mo] 91 (0,0))).mono (by omega))) hg8 fun b e=>by have:=(o5.lt b e).1;omega
   have hE8':=Zu3 hE8;clear hE8 o7 o5 hlt5 hlo hs6 ho8 hg8 hl8 hown7 hO6' hW6 hw65;have F8:=bk2 R3;obtain⟨hx1,hx2⟩:Hid ((xs++[(⟨x.nm,A6,c6,x.co,x.mo⟩:En)]).length=j+1)/\Hid ((xs++[(⟨x.nm,A6,c6,x.co,x.mo⟩:En)]).map En.sig=(es.take (j+1)).map En.sig):=⟨Zu3 (by simp[hxl.out]),Zu3 (by rw[hts.out,Zv1,hxs.out];rfl)⟩;go_wp2;go_roundw;case rel=>exact⟨j+1,_,_,by omega,by go_num,ZD (o:=1) R3 (.slice A8 (j+1) c8) rfl,hx1,hx2,Zu3 (hE8'.out.other (Nat.lt_succ_self _) ((OnlyB.refl _ _).set _ _) (by simp)),hbw8.trans (((OnlyB.refl w2.heap.size w8).set 1 _).below _ (ZwG _))⟩
   case measure=>simp[intOf]<;>omega
  ·obtain rfl:en=j:=by omega
   have hts:xs.map En.sig=es.map En.sig:=by rw[hxs.out,<-hen'.out,Zwt]
   have hts':=Zu3 hts;have ho9:=Zu3 (ZK hOp.out hb2);clear hts;go_wp2;refine bodyPost_ret (v:=.agg #[.slice Ap pn cp,.slice A5 en c5]) ?_ rfl ⟨⟨Ap,cp,A5,c5,xs,rfl,hxl.out,hts'.out,?_,?_⟩,?_⟩;·exact ZdH (p:=2) (ad:=⟨w.heap.size+1,0,none⟩) rfl (by rfl) (Z6 (T:=25) (cs:=[.slice Ap pn cp,.slice A5 en c5]) (ha2 _) (hs2 _) (ZD (ZD (Zw hb2 M1) _ rfl) _ rfl))
   ·exact ZaY (Zaf ho9.out fun r e=>(((OnlyB.refl (w.heap.size+1) wr).set _ _).set _ _).other r (by have:=(ho9.out.lt r e).1;omega)) (by omega)
   ·exact(hown.out.other (k:=w.heap.size+1) (by omega) (((OnlyB.refl _ _).set _ _).set _ _) (by simp)).base (by omega)
   ·go_grown
end Go.Proofs
namespace Go.Proofs
open Go.RowKit
section
variable {P:Program}
def Zdj(w0 w:World)(b4:Nat)(x:World):Prop:=Below w0.heap.size w0 x/\w.heap.size<=x.heap.size/\∀k,k<w.heap.size->k≠b4->x.heap[k]?=w.heap[k]?
theorem Zsh{Q:Exit->Act->World->Prop} {a0:Act} {w:World} {l:List Oper} (w0:World)(p:Nat)(b4:Nat)(y4 z4:Obj)(af:Act)(hB:Zah l.toArray=true) (hB':Zah (mixL [p] (fun _ _=>undef) (fun _=>Gh.zero) 0 l).toArray=true) (hS:Region.noSelect l.toArray=true) (hN:spB l.toArray [p]=true)(hkd:(match l[p]? with|some o=>o.dst.isNone|_=>false)=true)(hw:Below w0.heap.size w0 w)(hb:w0.heap.size<=b4)(h4:w.heap[b4]?=some y4)(hs4:∀o,l[p]?=some o->∀x,Zdj w0 w b4 x->x.heap[b4]?=some y4->∃x',(execOp af.eval o).run P x=.ok .skip x'/\OnlyB b4 x x'/\x'.heap[b4]?=some z4)(hq:∀u,Zdj w0 w b4 u->(∀(x:Grew u)(b o:Nat),b<u.heap.size->x.val.cell? ⟨b,o,none⟩=u.cell? ⟨b,o,none⟩)->wpQuiet P (mixL [p] (fun _ _=>undef) (fun _=>Gh.zero) 0 l).toArray (fun w'=>∃x:Grew u,w'=x.val) (fun a'=>a'=af) (mixL [p] (fun _ _=>undef) (fun _=>Gh.zero) 0 l) a0)(hend:∀x,Zdj w0 w b4 x->x.heap[b4]?=some z4->Q .normal af x):wpAny P .any l.toArray Q l.toArray.size (Array.replicate l.toArray.size false) a0 {w with drawn:=w.drawn+1}:=by
 have hdst:∀j∈[p],∀o,l[j]?=some o->o.dst=none:=by cases h1:l[p]? with
  |none=>rw[h1]at hkd;simp at hkd|some o1=>rw[h1]at hkd;simp only[Option.isNone_iff_eq_none]at hkd;intro j hj o ho;rw[Zwh]at hj;subst hj;rw[h1]at ho;cases ho;exact hkd
 have hkb:∀{x x':World},Zdj w0 w b4 x->OnlyB b4 x x'->Zdj w0 w b4 x':=fun {x x'} h ho=>⟨h.1.trans (ho.below _ hb),ZwH h.2.1 (ho.below 0 (Zw0 _)).size,fun k hk k1=>(ho.other k k1).trans (h.2.2 k hk k1)⟩;have hkB:∀{x x':World},Zdj w0 w b4 x->Below x.heap.size x x'->Zdj w0 w b4 x':=fun {x x'} h hbx=>⟨via h.1 hbx,ZwH h.2.1 hbx.size,fun k hk k1=>(hbx.block k (ZwK hk h.2.1)).trans (h.2.2 k hk k1)⟩;have hmx:∀g g',mixL [p] (fun _ _=>undef) g 0 l=mixL [p] (fun _ _=>undef) g' 0 l:=fun g g'=>by apply Zvq;intro j;have k1:=Zda [p] (fun _ _=>undef) g l 0 j;have k2:=Zda [p] (fun _ _=>undef) g' l 0 j;rw[k1,k2]
 refine ZdM w0 (Zdj w0 w b4) [p] (fun _ _=>undef) (fun L g x=>x.heap[b4]?=some (if L p then z4 else y4)) (fun _=>af) hB (fun g=>by rw[hmx g (fun _=>Gh.zero)];exact hB') hS hN
  ⟨hw,ZwG _,fun _ _ _=>rfl⟩ (fun x x' h hb=>hkB h hb) (fun x h=>h.1) ?_ ?_ (fun g u hu hgc _ _=>by rw[hmx g (fun _=>Gh.zero)];exact hq u hu hgc) (fun _ _ _ _=>rfl) ?_ ?_;·intro L h;rw[h p (by simp)];exact h4
 ·rintro L L' g x x' h k1 hbx;rw[h p (by simp)];exact Zw hbx k1
 ·intro j hj o ho L g x k1 hC hB0 hL hafter hclo;have hd:=hdst j hj o ho;rw[Zwh]at hj;subst hj;rw[hL]at k1;obtain⟨x',r1,r2,r3⟩:=hs4 o ho x hC k1;refine Zcr r1 ⟨hkb hC r2,.inl ⟨hd,?_⟩⟩;rw[Zax];exact r3
 ·rintro g x k1 hC hB0;simp only[if_true]at k1;exact hend x hC k1
end
end Go.Proofs
namespace Go.Proofs
open Tryz
open Go.RowKit
theorem Zsi(A A2:Option Addr)(l:List Int)(c c2 n:Nat)(w:World)(h1:At 1 Zc w A l)(h2:At 1 Zc w A2 l)(hn:l.length=n)(hl:n<=1000):Calls prog 53 #[.slice A n c,.slice A2 n c2] w fun e w'=>e=.returned (.bool true)/\Below w.heap.size w w':=by
 have hn':=Zu3 hn;have h1':=Zu3 h1;have h2':=Zu3 h2;clear hn h1 h2;go_enter func53,ntmps53;go_wp2;go_loopw [5] (fun i wr=>∃k:Nat,k<=n/\i=.int .i64 k/\Below w.heap.size w wr)(fun i _=>n-(intOf i).toNat);case atStart=>exact⟨0,Zw0 _,rfl,by go_grown⟩
 case round=>
  obtain⟨k,hk,rfl,hbw⟩:=hrel;by_cases hlt:k<n
  ·have hkI:(k:Int)<(n:Int):=by omega
   have hk0:(0:Int)<=(k:Int):=by omega
   obtain⟨x,hx⟩:∃x,l[k]?=some x:=⟨_,ZvD (by rw[hn'.out];exact hlt)⟩;obtain⟨b,o,rfl,hbb,hc⟩:=(h1'.out.below hbw) k x hx;obtain⟨b2,o2,rfl,hbb2,hc2⟩:=(h2'.out.below hbw) k x hx;have y0:=hc 0 _ rfl;have z0:=hc2 0 _ rfl;simp only[ZwC,ZwR]at y0 z0;clear hc hc2 hx;go_wp2;refine ZaN w (by kernel_rfl) (by kernel_rfl) (by go_grown) ?_;intro hgc hbx;repeat (go_big_quiet_step (fail))
   refine wpQuiet_nil ?_;intro wb hb_wb hw_wb hs_wb;clear hgc hbx;go_wp2;go_roundw;case rel=>exact⟨k+1,by omega,by go_num,hw_wb⟩
   case measure=>simp[intOf]<;>omega
  ·obtain rfl:n=k:=by omega
   go_wp2;go_ret;exact⟨rfl,by go_grown⟩
theorem Zsj(A A2:Option Addr)(l:List Pa)(c c2 n:Nat)(w:World)(h1:At 5 Pa.cs w A l)(h2:At 5 Pa.cs w A2 l)(hn:l.length=n)(hl:n<=1000):Calls prog 109 #[.slice A n c,.slice A2 n c2] w fun e w'=>e=.returned (.bool true)/\Below w.heap.size w w':=by
 have hn':=Zu3 hn;have h1':=Zu3 h1;have h2':=Zu3 h2;clear hn h1 h2;go_enter func109,ntmps109;go_wp2;go_loopw [5] (fun i wr=>∃k:Nat,k<=n/\i=.int .i64 k/\Below w.heap.size w wr)(fun i _=>n-(intOf i).toNat);case atStart=>exact⟨0,Zw0 _,rfl,by go_grown⟩
 case round=>
  obtain⟨k,hk,rfl,hbw⟩:=hrel;by_cases hlt:k<n
  ·have hkI:(k:Int)<(n:Int):=by omega
   have hk0:(0:Int)<=(k:Int):=by omega
   obtain⟨x,hx⟩:∃x,l[k]?=some x:=⟨_,ZvD (by rw[hn'.out];exact hlt)⟩;obtain⟨b,o,rfl,hbb,hc⟩:=(h1'.out.below hbw) k x hx;obtain⟨b2,o2,rfl,hbb2,hc2⟩:=(h2'.out.below hbw) k x hx;have y0:=hc 0 _ rfl;have z0:=hc2 0 _ rfl;have y1:=hc 1 _ rfl;have z1:=hc2 1 _ rfl;have y2:=hc 2 _ rfl;have z2:=hc2 2 _ rfl;have y3:=hc 3 _ rfl;have z3:=hc2 3 _ rfl;have y4:=hc 4 _ rfl;have z4:=hc2 4 _ rfl;simp only[ZwC]at y0 z0;clear hc hc2 hx;go_wp2;refine ZaN w (by kernel_rfl) (by kernel_rfl) (by go_grown) ?_;intro hgc hbx;repeat (go_big_quiet_step (fail))
   refine wpQuiet_nil ?_;intro wb hb_wb hw_wb hs_wb;clear hgc hbx;go_wp2;go_roundw;case rel=>exact⟨k+1,by omega,by go_num,hw_wb⟩
   case measure=>simp[intOf]<;>omega
  ·obtain rfl:n=k:=by omega
   go_wp2;go_ret;exact⟨rfl,by go_grown⟩
theorem Zsk{es ys:List En} (h:ys.map En.sig=es.map En.sig) {k:Nat} {x y:En} (hx:es[k]?=some x)(hy:ys[k]?=some y):y.nm=x.nm/\y.co=x.co/\y.mo=x.mo:=by
 have h1:(ys.map En.sig)[k]?=(es.map En.sig)[k]?:=by rw[h]
 rw[ZvH,ZvH,hx,hy]at h1;simp only[Zw6,Zw8,En.sig,Prod.mk.injEq]at h1;exact h1
theorem ZlX(pA eA qA fA:Option Addr)(pc ec qc fc pn en:Nat)(ps:List Pa)(es ys:List En)(w:World)(hB:BookAt w pA pc ps eA ec es)(hB2:BookAt w qA qc ps fA fc ys)(hs:ys.map En.sig=es.map En.sig)(hF:FewB ps es)(hpn:ps.length=pn)(hen:es.length=en):Calls prog 38 #[.agg #[.slice pA pn pc,.slice eA en ec],.agg #[.slice qA pn qc,.slice fA en fc]] w fun e w'=>e=.returned (.bool true)/\Below w.heap.size w w':=by
 have hPs:=Zu3 fun W (hb:Below w.heap.size w W)=>Zsj pA qA ps pc qc pn W (hB.P.below hb) (hB2.P.below hb) hpn (by have:=hF.p;omega);have hyn:ys.length=en:=by have:=congrArg List.length hs;simpa [hen] using this
 have hen':=Zu3 hen;have hyn':=Zu3 hyn;have hE:=Zu3 hB.E;have hY:=Zu3 hB2.E;have hs':=Zu3 hs;have hco:=Zu3 hF.co;have hec:en<=ec:=by rw[<-hen];exact hB.ec'
 have hfc:en<=fc:=by rw[<-hyn];exact hB2.ec'
 have he1:en<=1000:=by rw[<-hen];exact hF.e
 clear hB hB2 hs hF hpn hen hyn;go_enter func38,ntmps38;go_wp2_with (go_at_call 109;refine(hPs.out _ (by go_grown)).mono ?_;rintro e w2 ⟨rfl,hb2⟩;(have M0:=Zw hb2 (by(repeat (first|assumption|(refine Zz _ _ ?_;(simp;done))|refine ZC ?_|refine Zy ?_ _|refine ZA ?_ (by simp<;>omega) _)):((w.alloc (.cells #[.slice pA pn pc,.slice eA en ec] 25 (0,0))).alloc (.cells #[.slice qA pn qc,.slice fA en fc] 25 (0,0))).heap[w.heap.size]?=some (.cells #[.slice pA pn pc,.slice eA en ec] 25 (0,0))));(have M1:=Zw hb2 (by(repeat (first|assumption|(refine Zz _ _ ?_;(simp;done))|refine ZC ?_|refine Zy ?_ _|refine ZA ?_ (by simp<;>omega) _)):((w.alloc (.cells #[.slice pA pn pc,.slice eA en ec] 25 (0,0))).alloc (.cells #[.slice qA pn qc,.slice fA en fc] 25 (0,0))).heap[w.heap.size+1]?=some (.cells #[.slice qA pn qc,.slice fA en fc] 25 (0,0))));(have hbw2:Below w.heap.size w w2:=via (by go_grown) hb2);(have D0:=bk2 M0);(have D1:=bk2 M1);clear hb2);clear hPs D0 D1;go_loopw [5] (fun i wr=>∃k:Nat,k<=en/\i=.int .i64 k/\wr.heap[w.heap.size]?=some (.cells #[.slice pA pn pc,.slice eA en ec] 25 (0,0))/\wr.heap[w.heap.size+1]?=some (.cells #[.slice qA pn qc,.slice fA en fc] 25 (0,0))/\Below w.heap.size w wr)(fun i _=>en-(intOf i).toNat);case atStart=>exact⟨0,Zw0 _,rfl,M0,M1,hbw2⟩
 case round=>
  clear M0 M1 hbw2;obtain⟨k,hk,rfl,M0,M1,hbw⟩:=hrel;have D0:=bk2 M0;have D1:=bk2 M1;by_cases hlt:k<en
  ·have hkI:(k:Int)<(en:Int):=by omega
   have hk0:(0:Int)<=(k:Int):=by omega
   obtain⟨x,hx⟩:∃x,es[k]?=some x:=⟨_,ZvD (by rw[hen'.out];exact hlt)⟩;obtain⟨y,hy⟩:∃x,ys[k]?=some x:=⟨_,ZvD (by rw[hyn'.out];exact hlt)⟩;have hxm:=Zwf hx;obtain⟨e1,e2,e3⟩:=Zsk hs'.out hx hy;obtain⟨b,o,rfl,hbb,hc⟩:=(hE.out.below hbw).1 k x hx;obtain⟨b2,o2,rfl,hbb2,hc2⟩:=(hY.out.below hbw).1 k y hy;have y0:=hc 0 _ rfl;have y1:=hc 1 _ rfl;have y2:=hc 2 _ rfl;have z0:=hc2 0 _ rfl;have z1:=hc2 1 _ rfl;have z2:=hc2 2 _ rfl;simp only[ZwC]at y0 z0;obtain⟨L,hL⟩:∃L,x.co.length=L:=⟨_,rfl⟩;have hIt:=Zu3 fun W (hb:Below wr.heap.size wr W)=>Zsi x.A y.A x.co x.c y.c L W (((hE.out.below hbw).2 x hxm).below hb) (by have:=((hY.out.below hbw).2 y (Zwf hy)).below hb;rwa [e2]at this) hL (by rw[<-hL];exact hco.out x hxm);rw[e1]at z0;rw[e2,hL]at z1;rw[e3]at z2;rw[hL]at y1;clear hc hc2 hx hy hxm e1 e2 e3 hL;go_wp2;apply Zp6 w 10 12 11 13 (.cells #[.string (ByteArray.mk #[]),.slice none 0 0,.int .i64 0] 91 (0,0)) (.cells #[.string x.nm,.slice x.A L x.c,.int .i64 x.mo] 91 (0,0)) (.cells #[.string (ByteArray.mk #[]),.slice none 0 0,.int .i64 0] 91 (0,0)) (.cells #[.string x.nm,.slice y.A L y.c,.int .i64 x.mo] 91 (0,0));case hm=>kernel_rfl
   case hB=>kernel_rfl
   case hB'=>intro g;kernel_rfl
   case hS=>kernel_rfl
   case hN=>kernel_rfl
   case hne=>decide
   case ht=>kernel_rfl
   case ht2=>kernel_rfl
   case hw=>exact hbw
   case hal1=>intro o ho;simp at ho;subst ho;intro a x;kernel_rfl
   case hal2=>intro o ho;simp at ho;subst ho;intro a x;kernel_rfl
   case hq=>
    intro g u hu hgc hbx hbX;have D0:=bk2 (Zw hu M0);have D1:=bk2 (Zw hu M1);have y0:=(Zc5 hu _ _ hbb).trans y0;have y1:=(Zc5 hu _ _ hbb).trans y1;have y2:=(Zc5 hu _ _ hbb).trans y2;have z0:=(Zc5 hu _ _ hbb2).trans z0;have z1:=(Zc5 hu _ _ hbb2).trans z1;have z2:=(Zc5 hu _ _ hbb2).trans z2;have hb3:b<u.heap.size:=ZwK hbb hu.size;have hb4:b2<u.heap.size:=ZwK hbb2 hu.size;simp only[mixL,mkP,yieldsC,Zve,Zvh,Nat.reduceAdd,Nat.reduceBEq,ZwZ,ZuO,ZuQ,ZuJ,ZuR,ZuI,if_true,if_false,ZuP];repeat (go_big_quiet_step (fail))
    exact wpQuiet_nil rfl
   case hind=>intro j hj;simp only[Zwa,Zwl,or_false]at hj;rcases hj with rfl|rfl|rfl|rfl<;>(intro g h;kernel_rfl)
   case hs1=>intro o ho g x hx hz;simp only[ZvB,ZvC,Zw8]at ho;subst ho;exact⟨_,ZcI rfl rfl rfl rfl (by kernel_rfl) (by kernel_rfl) (by kernel_rfl) hz,(((OnlyB.refl _ _).set _ _).set _ _).set _ _,ZD (ZD (ZD hz _ rfl) _ rfl) _ rfl⟩
   case hs2=>intro o ho g x hx hz;simp only[ZvB,ZvC,Zw8]at ho;subst ho;exact⟨_,ZcI rfl rfl rfl rfl (by kernel_rfl) (by kernel_rfl) (by kernel_rfl) hz,(((OnlyB.refl _ _).set _ _).set _ _).set _ _,ZD (ZD (ZD hz _ rfl) _ rfl) _ rfl⟩
   case hend=>
   intro g u hB1 hB2 hBne hu hbw5 E1 E2;generalize (g 10).b=B1 at*;generalize (g 11).b=B2 at*;have P0:=Zw hu M0;have P1:=Zw hu M1;clear D0 D1 y0 y1 y2 z0 z1 z2 M0 M1 hbw;have D0:=bk2 P0;have D1:=bk2 P1;have C1:=bk3 E1;have C2:=bk3 E2;go_wp2_with (go_at_call 53;refine(hIt.out _ hu).mono ?_;rintro e w6 ⟨rfl,hb6⟩;(have hbw6:=via hbw5 hb6);(have Q0:=Zw hb6 P0);(have Q1:=Zw hb6 P1));go_roundw;case rel=>exact⟨k+1,by omega,by go_num,Q0,Q1,hbw6⟩
   case measure=>simp[intOf]<;>omega
  ·obtain rfl:en=k:=by omega
   go_wp2;go_ret;exact⟨rfl,by go_grown⟩
end Go.Proofs
namespace Go.Proofs
open Go.RowKit
variable {nm:List UInt8} {k ag v den lev:Int} {W:List Int}
def Zgz:List UInt8:=[109,101,97,110]
def ZgA:List UInt8:=[115,104,97,114,101]
def ZbL(nm:List UInt8)(k ag v den lev:Int)(W:List Int):List (List UInt8):=nm::((if k=1 then [ZgA,Lib.itoa ag]else [Zgz])++(Lib.itoa v::Lib.itoa den::Lib.itoa lev::W.map Lib.itoa))
structure NumsR (ag v den lev:Int)(W:List Int):Prop where
 ag:0<=ag/\ag<=400
 v:0<=v/\v<=1000
 den:1<=den/\den<=1000000000000
 lev:lev.natAbs<=1000000000000
 wt:∀x∈W,0<=x/\x<=1000000000000
 n:W.length<=8
theorem Zfu(n:Int)(h:n.natAbs<=1000000000000):(Lib.itoa n).length<=14:=(Ziz 12 n (by omega)).1
theorem ZlY(hn:nm.length<=20)(hR:NumsR ag v den lev W):(ZbL nm k ag v den lev W).length<=14/\5<=(ZbL nm k ag v den lev W).length/\∀x∈ZbL nm k ag v den lev W,x.length<=20:=by
 have hW8:=hR.n;unfold ZbL;refine⟨?_,?_,fun x hx=>?_⟩;·split<;>simp<;>omega
 ·split<;>simp
 ·rcases Zwa.1 hx with rfl|hx;·exact hn
  rcases Zv7.1 hx with hx|hx
  ·split at hx
   ·simp only[Zwa,Zwl,or_false]at hx;rcases hx with rfl|rfl;·decide
    ·have:=Zfu ag (by have:=hR.ag;omega);omega
   ·simp only[Zwa,Zwl,or_false]at hx;subst hx;decide
  ·simp only[Zwa,Zwe]at hx;rcases hx with rfl|rfl|rfl|⟨y,hy,rfl⟩;·have:=Zfu v (by have:=hR.v;omega);omega
   ·have:=Zfu den (by have:=hR.den;omega);omega
   ·have:=Zfu lev hR.lev;omega
   ·have:=Zfu y (by have:=hR.wt y hy;omega);omega
theorem Zsl(hn:nm.length<=20)(hR:NumsR ag v den lev W):(Lib.join (ZbL nm k ag v den lev W) [32]).length<=1000:=by obtain⟨h1,-,h2⟩:=ZlY (k:=k) hn hR;have:=ZlU 20 _ h2;omega
structure EnTy (w:World)(base:Nat)(v:Value)(xs:List En):Prop where
 own:w.ownsRow base 91 3 v xs.length (xs.flatMap En.cs)
 row:∀x∈xs,At 1 Zc w x.A x.co/\(x.A=none->x.c=0)/\∀g,x.A=some g->∃cur fr,w.heap[g.block]?=some (.cells cur 3 fr)
end Go.Proofs
namespace Go.Proofs
open Tryz
open Go.RowKit
def Zcg(ps:List Pa)(es:List En)(k ag den lev:Int)(W:List Int):Int:=if Za9 ps es k ag≠0 then Za9 ps es k ag else if Zbp es.length den lev W≠0 then Zbp es.length den lev W else if Zbf (ZW ps k ag) es den lev W then 0 else 20
def Zb4(ps:List Pa)(es:List En)(k ag den lev:Int)(W:List Int):Int×Int:=if Zcg ps es k ag den lev W=0 then ((lev-spentL (exs es) W) / Zay (lev-spentL (exs es) W) den,den / Zay (lev-spentL (exs es) W) den)else (0,0)
theorem Zsm(pA eA A:Option Addr)(pc ec pn en c wn:Nat)(ps:List Pa)(es:List En)(k ag den lev:Int)(W:List Int)(w:World)(hB:BookAt w pA pc ps eA ec es)(hF:FewB ps es)(hpn:ps.length=pn)(hen:es.length=en)(hW:At 1 Zc w A W)(hwn:W.length=wn)(hl:wn<=1000000):Calls prog 66 #[.agg #[.slice pA pn pc,.slice eA en ec],.agg #[.int .i64 k,.int .i64 ag],.agg #[.int .i64 den,.int .i64 lev,.slice A wn c]] w fun e w'=>e=.returned (.tuple #[.agg #[.int .i64 (Zb4 ps es k ag den lev W).1,.int .i64 (Zb4 ps es k ag den lev W).2],.int .i64 (Zcg ps es k ag den lev W)])/\Below w.heap.size w w':=by
 have hBo:=Zu3 fun W (hb:Below w.heap.size w W)=>ZkB pA eA pc ec pn en ps es k ag W (hB.below hb) hF hpn hen;have hWe:=Zu3 fun x (hb:Below w.heap.size w x)=>by have h:=Zlb pA eA A pc ec pn en c den lev W x (hW.below hb) (by omega) (by rw[<-hen];exact hF.e);rw[hwn]at h;exact h
 have hs2:∀x,(sizeOf 30).run prog x=.ok 2 x:=fun x=>by kernel_rfl
 have ha2:∀x,(isAgg 30).run prog x=.ok true x:=fun x=>by kernel_rfl
 by_cases h1:Za9 ps es k ag=0;case neg=>
  have e1:Zcg ps es k ag den lev W=Za9 ps es k ag:=by unfold Zcg;rw[if_pos h1]
  have e2:Zb4 ps es k ag den lev W=(0,0):=by unfold Zb4;rw[e1,if_neg h1]
  rw[e1,e2];obtain⟨E1,hE1⟩:∃x,Za9 ps es k ag=x:=⟨_,rfl⟩;rw[hE1]at h1 hBo |-;clear hB hF hpn hen hW hwn e1 e2 hE1 hWe;have h1':decide (E1=0)=false:=by simpa using h1
  go_enter func66,ntmps66;go_wp2_with (first|(go_at_call 89;refine(hBo.out _ (by go_grown)).mono ?_;rintro e w2 ⟨rfl,hb2⟩;(have N0:=Zw hb2 (show (((((w.alloc (.cells #[.slice pA pn pc,.slice eA en ec] 25 (0,0))).alloc (.cells #[.int .i64 k,.int .i64 ag] 27 (0,0))).alloc (.cells #[.int .i64 den,.int .i64 lev,.slice A wn c] 35 (0,0))).alloc (.cells #[.int .i64 0,.int .i64 0] 30 (0,0)))).heap[w.heap.size]?=some (.cells #[.slice pA pn pc,.slice eA en ec] 25 (0,0))from by(repeat (first|assumption|(refine Zz _ _ ?_;(simp;done))|refine ZC ?_|refine Zy ?_ _|refine ZA ?_ (by simp<;>omega) _))));(have N1:=Zw hb2 (show (((((w.alloc (.cells #[.slice pA pn pc,.slice eA en ec] 25 (0,0))).alloc (.cells #[.int .i64 k,.int .i64 ag] 27 (0,0))).alloc (.cells #[.int .i64 den,.int .i64 lev,.slice A wn c] 35 (0,0))).alloc (.cells #[.int .i64 0,.int .i64 0] 30 (0,0)))).heap[w.heap.size+1]?=some (.cells #[.int .i64 k,.int .i64 ag] 27 (0,0))from by(repeat (first|assumption|(refine Zz _ _ ?_;(simp;done))|refine ZC ?_|refine Zy ?_ _|refine ZA ?_ (by simp<;>omega) _))));(have N2:=Zw hb2 (show (((((w.alloc (.cells #[.slice pA pn pc,.slice eA en ec] 25 (0,0))).alloc (.cells #[.int .i64 k,.int .i64 ag] 27 (0,0))).alloc (.cells #[.int .i64 den,.int .i64 lev,.slice A wn c] 35 (0,0))).alloc (.cells #[.int .i64 0,.int .i64 0] 30 (0,0)))).heap[w.heap.size+1+1]?=some (.cells #[.int .i64 den,.int .i64 lev,.slice A wn c] 35 (0,0))from by(repeat (first|assumption|(refine Zz _ _ ?_;(simp;done))|refine ZC ?_|refine Zy ?_ _|refine ZA ?_ (by simp<;>omega) _))));(have N3:=Zw hb2 (show (((((w.alloc (.cells #[.slice pA pn pc,.slice eA en ec] 25 (0,0))).alloc (.cells #[.int .i64 k,.int .i64 ag] 27 (0,0))).alloc (.cells #[.int .i64 den,.int .i64 lev,.slice A wn c] 35 (0,0))).alloc (.cells #[.int .i64 0,.int .i64 0] 30 (0,0)))).heap[w.heap.size+1+1+1]?=some (.cells #[.int .i64 0,.int .i64 0] 30 (0,0))from by(repeat (first|assumption|(refine Zz _ _ ?_;(simp;done))|refine ZC ?_|refine Zy ?_ _|refine ZA ?_ (by simp<;>omega) _))));(have hbw2:=via (by go_grown:Below w.heap.size w (((((w.alloc (.cells #[.slice pA pn pc,.slice eA en ec] 25 (0,0))).alloc (.cells #[.int .i64 k,.int .i64 ag] 27 (0,0))).alloc (.cells #[.int .i64 den,.int .i64 lev,.slice A wn c] 35 (0,0))).alloc (.cells #[.int .i64 0,.int .i64 0] 30 (0,0))))) hb2);clear hb2;(have C0:=bk2 N0);(have C1:=bk2 N1);(have C2:=bk3 N2))|(refine Zbc (by with_reducible rfl) (.tmp 6) (.tmp 21) 30 (by with_reducible rfl) (w.heap.size+1+1+1) [.int .i64 0,.int .i64 0] [.int .i64 0,.int .i64 0] 30 rfl rfl (hs2 _) N3 rfl (by decide) ?_;intro w5 hblk5 hg5 hsz5;(have hbw5:Below w.heap.size w w5:=Z4 hbw2 hg5 fun b e=>(by have:=Zw7 e;omega));clear hg5));refine bodyPost_ret (v:=.tuple #[.agg #[.int .i64 0,.int .i64 0],.int .i64 E1]) ?_ rfl ⟨rfl,hbw5⟩;exact Zaw (p:=6) (u:=7) (ad:=⟨w.heap.size+1+1+1,0,none⟩) (v:=.agg #[.int .i64 0,.int .i64 0]) rfl (by rfl) (Z6 (T:=30) (cs:=[.int .i64 0,.int .i64 0]) (ha2 _) (hs2 _) hblk5)
 case pos=>
  have h2:=h1;unfold Za9 at h2;have hR:BookR ps es:=Zbz.1 (Zby.1 h2 _ (by simp));clear h2;rw[h1]at hBo;by_cases h3:Zbp en den lev W=0;case neg=>
   have e1:Zcg ps es k ag den lev W=Zbp en den lev W:=by unfold Zcg;rw[if_neg (by simp[h1]),hen,if_pos h3]
   have e2:Zb4 ps es k ag den lev W=(0,0):=by unfold Zb4;rw[e1,if_neg h3]
   rw[e1,e2];obtain⟨E1,hE1⟩:∃x,Zbp en den lev W=x:=⟨_,rfl⟩;rw[hE1]at h3 hWe |-;clear hB hF hpn hen hW hwn e1 e2 hE1 hR h1;have h1':decide (E1=0)=false:=by simpa using h3
   go_enter func66,ntmps66;go_wp2_with (first|(go_at_call 89;refine(hBo.out _ (by go_grown)).mono ?_;rintro e w2 ⟨rfl,hb2⟩;(have N0:=Zw hb2 (show (((((w.alloc (.cells #[.slice pA pn pc,.slice eA en ec] 25 (0,0))).alloc (.cells #[.int .i64 k,.int .i64 ag] 27 (0,0))).alloc (.cells #[.int .i64 den,.int .i64 lev,.slice A wn c] 35 (0,0))).alloc (.cells #[.int .i64 0,.int .i64 0] 30 (0,0)))).heap[w.heap.size]?=some (.cells #[.slice pA pn pc,.slice eA en ec] 25 (0,0))from by(repeat (first|assumption|(refine Zz _ _ ?_;(simp;done))|refine ZC ?_|refine Zy ?_ _|refine ZA ?_ (by simp<;>omega) _))));(have N1:=Zw hb2 (show (((((w.alloc (.cells #[.slice pA pn pc,.slice eA en ec] 25 (0,0))).alloc (.cells #[.int .i64 k,.int .i64 ag] 27 (0,0))).alloc (.cells #[.int .i64 den,.int .i64 lev,.slice A wn c] 35 (0,0))).alloc (.cells #[.int .i64 0,.int .i64 0] 30 (0,0)))).heap[w.heap.size+1]?=some (.cells #[.int .i64 k,.int .i64 ag] 27 (0,0))from by(repeat (first|assumption|(refine Zz _ _ ?_;(simp;done))|refine ZC ?_|refine Zy ?_ _|refine ZA ?_ (by simp<;>omega) _))));(have N2:=Zw hb2 (show (((((w.alloc (.cells #[.slice pA pn pc,.slice eA en ec] 25 (0,0))).alloc (.cells #[.int .i64 k,.int .i64 ag] 27 (0,0))).alloc (.cells #[.int .i64 den,.int .i64 lev,.slice A wn c] 35 (0,0))).alloc (.cells #[.int .i64 0,.int .i64 0] 30 (0,0)))).heap[w.heap.size+1+1]?=some (.cells #[.int .i64 den,.int .i64 lev,.slice A wn c] 35 (0,0))from by(repeat (first|assumption|(refine Zz _ _ ?_;(simp;done))|refine ZC ?_|refine Zy ?_ _|refine ZA ?_ (by simp<;>omega) _))));(have N3:=Zw hb2 (show (((((w.alloc (.cells #[.slice pA pn pc,.slice eA en ec] 25 (0,0))).alloc (.cells #[.int .i64 k,.int .i64 ag] 27 (0,0))).alloc (.cells #[.int .i64 den,.int .i64 lev,.slice A wn c] 35 (0,0))).alloc (.cells #[.int .i64 0,.int .i64 0] 30 (0,0)))).heap[w.heap.size+1+1+1]?=some (.cells #[.int .i64 0,.int .i64 0] 30 (0,0))from by(repeat (first|assumption|(refine Zz _ _ ?_;(simp;done))|refine ZC ?_|refine Zy ?_ _|refine ZA ?_ (by simp<;>omega) _))));(have hbw2:=via (by go_grown:Below w.heap.size w (((((w.alloc (.cells #[.slice pA pn pc,.slice eA en ec] 25 (0,0))).alloc (.cells #[.int .i64 k,.int .i64 ag] 27 (0,0))).alloc (.cells #[.int .i64 den,.int .i64 lev,.slice A wn c] 35 (0,0))).alloc (.cells #[.int .i64 0,.int .i64 0] 30 (0,0))))) hb2);clear hb2;(have C0:=bk2 N0);(have C1:=bk2 N1);(have C2:=bk3 N2))|(go_at_call 115;refine(hWe.out _ hbw2).mono ?_;rintro e w3 ⟨rfl,hb3⟩;(have M0:=Zw hb3 N0);(have M1:=Zw hb3 N1);(have M2:=Zw hb3 N2);(have M3:=Zw hb3 N3);(have hbw3:=via hbw2 hb3);clear hb3 C0 C1 C2 N0 N1 N2;(have D0:=bk2 M0);(have D1:=bk2 M1);(have D2:=bk3 M2))|(refine Zbc (by with_reducible rfl) (.tmp 6) (.tmp 21) 30 (by with_reducible rfl) (w.heap.size+1+1+1) [.int .i64 0,.int .i64 0] [.int .i64 0,.int .i64 0] 30 rfl rfl (hs2 _) M3 rfl (by decide) ?_;intro w5 hblk5 hg5 hsz5;(have hbw5:Below w.heap.size w w5:=Z4 hbw3 hg5 fun b e=>(by have:=Zw7 e;omega));clear hg5));refine bodyPost_ret (v:=.tuple #[.agg #[.int .i64 0,.int .i64 0],.int .i64 E1]) ?_ rfl ⟨rfl,hbw5⟩;exact Zaw (p:=6) (u:=7) (ad:=⟨w.heap.size+1+1+1,0,none⟩) (v:=.agg #[.int .i64 0,.int .i64 0]) rfl (by rfl) (Z6 (T:=30) (cs:=[.int .i64 0,.int .i64 0]) (ha2 _) (hs2 _) hblk5)
  case pos=>
   have hwr:=Zgk.1 h3;rw[h3]at hWe;have sW:Small 1000000000000 W:=fun x hx=>by have:=hwr.w x hx;omega
   have hBd:=Zu3 (show ∀x,Below w.heap.size w x->Calls prog 116 #[.agg #[.slice pA pn pc,.slice eA en ec],.agg #[.int .i64 k,.int .i64 ag],.agg #[.int .i64 den,.int .i64 lev,.slice A en c]] x fun e w'=>e=.returned (.tuple #[.agg (if Zbf (ZW ps k ag) es den lev W then #[.int .i64 (lev-spentL (exs es) W),.int .i64 den]else #[.int .i64 0,.int .i64 0]),.bool (Zbf (ZW ps k ag) es den lev W)])/\Below x.heap.size x w' from fun x hb=>(Zlc pA eA A pc ec pn en c ps es k ag den lev W x (hB.below hb) hF hR hpn hen (hW.below hb) (by rw[hwr.len,hen]) sW (by have:=hwr.d1;have:=hwr.dK;omega) hwr.lK).mono fun e w' h=>⟨Zld h.1,h.2⟩);have hs8:(spentL (exs es) W).natAbs<=8*(1000000000000*20):=by have hs:=Ze8 (X:=20) (Y:=1000000000000) (exs es) W 8 hR.right.exs_mo sW;rw[Zwu (by rw[ZaU];exact hR.right.n8),Zwu (by rw[hwr.len,<-hen];exact hR.right.n8)]at hs;exact hs
   have hLo:=Zu3 fun x=>Zkx (lev-spentL (exs es) W) den x (by have:=hwr.d1;omega) (by have:=hwr.lK;omega) (by have:=hwr.d1;have:=hwr.dK;omega);have hws:wn=en:=by rw[<-hwn];exact hwr.len
   subst hws;obtain⟨BD,eBD⟩:∃b,lev-spentL (exs es) W=b:=⟨_,rfl⟩;have e0:Zcg ps es k ag den lev W=if Zbf (ZW ps k ag) es den lev W then 0 else 20:=by unfold Zcg;rw[if_neg (by simp[h1]),hen,if_neg (by simp[h3])]
   cases hH:Zbf (ZW ps k ag) es den lev W with
   |false=>
    rw[hH]at e0 hBd;simp only[ZuI,if_false]at e0 hBd;have e2:Zb4 ps es k ag den lev W=(0,0):=by unfold Zb4;rw[e0,if_neg (by decide)]
    rw[e0,e2];clear hB hF hpn hen hW hwn e0 e2 hR h1 h3 hwr sW hs8 hLo hH eBD;go_enter func66,ntmps66;go_wp2_with (first|(go_at_call 89;refine(hBo.out _ (by go_grown)).mono ?_;rintro e w2 ⟨rfl,hb2⟩;(have N0:=Zw hb2 (show (((((w.alloc (.cells #[.slice pA pn pc,.slice eA wn ec] 25 (0,0))).alloc (.cells #[.int .i64 k,.int .i64 ag] 27 (0,0))).alloc (.cells #[.int .i64 den,.int .i64 lev,.slice A wn c] 35 (0,0))).alloc (.cells #[.int .i64 0,.int .i64 0] 30 (0,0)))).heap[w.heap.size]?=some (.cells #[.slice pA pn pc,.slice eA wn ec] 25 (0,0))from by(repeat (first|assumption|(refine Zz _ _ ?_;(simp;done))|refine ZC ?_|refine Zy ?_ _|refine ZA ?_ (by simp<;>omega) _))));(have N1:=Zw hb2 (show (((((w.alloc (.cells #[.slice pA pn pc,.slice eA wn ec] 25 (0,0))).alloc (.cells #[.int .i64 k,.int .i64 ag] 27 (0,0))).alloc (.cells #[.int .i64 den,.int .i64 lev,.slice A wn c] 35 (0,0))).alloc (.cells #[.int .i64 0,.int .i64 0] 30 (0,0)))).heap[w.heap.size+1]?=some (.cells #[.int .i64 k,.int .i64 ag] 27 (0,0))from by(repeat (first|assumption|(refine Zz _ _ ?_;(simp;done))|refine ZC ?_|refine Zy ?_ _|refine ZA ?_ (by simp<;>omega) _))));(have N2:=Zw hb2 (show (((((w.alloc (.cells #[.slice pA pn pc,.slice eA wn ec] 25 (0,0))).alloc (.cells #[.int .i64 k,.int .i64 ag] 27 (0,0))).alloc (.cells #[.int .i64 den,.int .i64 lev,.slice A wn c] 35 (0,0))).alloc (.cells #[.int .i64 0,.int .i64 0] 30 (0,0)))).heap[w.heap.size+1+1]?=some (.cells #[.int .i64 den,.int .i64 lev,.slice A wn c] 35 (0,0))from by(repeat (first|assumption|(refine Zz _ _ ?_;(simp;done))|refine ZC ?_|refine Zy ?_ _|refine ZA ?_ (by simp<;>omega) _))));(have N3:=Zw hb2 (show (((((w.alloc (.cells #[.slice pA pn pc,.slice eA wn ec] 25 (0,0))).alloc (.cells #[.int .i64 k,.int .i64 ag] 27 (0,0))).alloc (.cells #[.int .i64 den,.int .i64 lev,.slice A wn c] 35 (0,0))).alloc (.cells #[.int .i64 0,.int .i64 0] 30 (0,0)))).heap[w.heap.size+1+1+1]?=some (.cells #[.int .i64 0,.int .i64 0] 30 (0,0))from by(repeat (first|assumption|(refine Zz _ _ ?_;(simp;done))|refine ZC ?_|refine Zy ?_ _|refine ZA ?_ (by simp<;>omega) _))));(have hbw2:=via (by go_grown:Below w.heap.size w (((((w.alloc (.cells #[.slice pA pn pc,.slice eA wn ec] 25 (0,0))).alloc (.cells #[.int .i64 k,.int .i64 ag] 27 (0,0))).alloc (.cells #[.int .i64 den,.int .i64 lev,.slice A wn c] 35 (0,0))).alloc (.cells #[.int .i64 0,.int .i64 0] 30 (0,0))))) hb2);clear hb2;(have C0:=bk2 N0);(have C1:=bk2 N1);(have C2:=bk3 N2))|(go_at_call 115;refine(hWe.out _ hbw2).mono ?_;rintro e w3 ⟨rfl,hb3⟩;(have M0:=Zw hb3 N0);(have M1:=Zw hb3 N1);(have M2:=Zw hb3 N2);(have M3:=Zw hb3 N3);(have hbw3:=via hbw2 hb3);clear hb3 C0 C1 C2 N0 N1 N2;(have D0:=bk2 M0);(have D1:=bk2 M1);(have D2:=bk3 M2))|(go_at_call 116;refine(hBd.out _ hbw3).mono ?_;rintro e w4 ⟨rfl,hb4⟩;(have P3:=Zw hb4 M3);(have hbw4:=via hbw3 hb4);clear hb4)|(refine Zbc (by with_reducible rfl) (.tmp 9) (.tmp 28) 30 (by with_reducible rfl) w4.heap.size [.int .i64 0,.int .i64 0] [.int .i64 0,.int .i64 0] 30 rfl rfl (hs2 _) (Zz _ _ rfl) rfl (by decide) ?_;intro w6 hblk6 hg6 hsz6;(have Q3:=ZaI hg6 (Zw (ZB _ _) P3) (by have:=ZI P3;simp;omega));(have hbw6:Below w.heap.size w w6:=Z4 (via hbw4 (ZB _ _)) hg6 fun b e=>(by have:=Zw7 e;have:=hbw4.size;omega));clear hg6)|(refine Zbc (by with_reducible rfl) (.tmp 6) (.tmp 32) 30 (by with_reducible rfl) (w.heap.size+1+1+1) [.int .i64 0,.int .i64 0] [.int .i64 0,.int .i64 0] 30 rfl rfl (hs2 _) Q3 rfl (by decide) ?_;intro w5 hblk5 hg5 hsz5;(have hbw5:Below w.heap.size w w5:=Z4 hbw6 hg5 fun b e=>(by have:=Zw7 e;omega));clear hg5));refine bodyPost_ret (v:=.tuple #[.agg #[.int .i64 0,.int .i64 0],.int .i64 20]) ?_ rfl ⟨rfl,hbw5⟩;exact Zaw (p:=6) (u:=7) (ad:=⟨w.heap.size+1+1+1,0,none⟩) (v:=.agg #[.int .i64 0,.int .i64 0]) rfl (by rfl) (Z6 (T:=30) (cs:=[.int .i64 0,.int .i64 0]) (ha2 _) (hs2 _) hblk5)|true=>
    rw[hH]at e0 hBd;simp only[if_true]at e0 hBd;have e2:Zb4 ps es k ag den lev W=(BD / Zay BD den,den / Zay BD den):=by unfold Zb4;rw[e0,if_pos rfl,eBD]
    rw[e0,e2];rw[eBD]at hBd hLo;obtain⟨U1,hU1⟩:∃x,BD / Zay BD den=x:=⟨_,rfl⟩;obtain⟨U2,hU2⟩:∃x,den / Zay BD den=x:=⟨_,rfl⟩;rw[hU1,hU2]at hLo |-;clear hB hF hpn hen hW hwn e0 e2 hR h1 h3 hwr sW hs8 hH eBD hU1 hU2;go_enter func66,ntmps66;go_wp2_with (first|(go_at_call 89;refine(hBo.out _ (by go_grown)).mono ?_;rintro e w2 ⟨rfl,hb2⟩;(have N0:=Zw hb2 (show (((((w.alloc (.cells #[.slice pA pn pc,.slice eA wn ec] 25 (0,0))).alloc (.cells #[.int .i64 k,.int .i64 ag] 27 (0,0))).alloc (.cells #[.int .i64 den,.int .i64 lev,.slice A wn c] 35 (0,0))).alloc (.cells #[.int .i64 0,.int .i64 0] 30 (0,0)))).heap[w.heap.size]?=some (.cells #[.slice pA pn pc,.slice eA wn ec] 25 (0,0))from by(repeat (first|assumption|(refine Zz _ _ ?_;(simp;done))|refine ZC ?_|refine Zy ?_ _|refine ZA ?_ (by simp<;>omega) _))));(have N1:=Zw hb2 (show (((((w.alloc (.cells #[.slice pA pn pc,.slice eA wn ec] 25 (0,0))).alloc (.cells #[.int .i64 k,.int .i64 ag] 27 (0,0))).alloc (.cells #[.int .i64 den,.int .i64 lev,.slice A wn c] 35 (0,0))).alloc (.cells #[.int .i64 0,.int .i64 0] 30 (0,0)))).heap[w.heap.size+1]?=some (.cells #[.int .i64 k,.int .i64 ag] 27 (0,0))from by(repeat (first|assumption|(refine Zz _ _ ?_;(simp;done))|refine ZC ?_|refine Zy ?_ _|refine ZA ?_ (by simp<;>omega) _))));(have N2:=Zw hb2 (show (((((w.alloc (.cells #[.slice pA pn pc,.slice eA wn ec] 25 (0,0))).alloc (.cells #[.int .i64 k,.int .i64 ag] 27 (0,0))).alloc (.cells #[.int .i64 den,.int .i64 lev,.slice A wn c] 35 (0,0))).alloc (.cells #[.int .i64 0,.int .i64 0] 30 (0,0)))).heap[w.heap.size+1+1]?=some (.cells #[.int .i64 den,.int .i64 lev,.slice A wn c] 35 (0,0))from by(repeat (first|assumption|(refine Zz _ _ ?_;(simp;done))|refine ZC ?_|refine Zy ?_ _|refine ZA ?_ (by simp<;>omega) _))));(have N3:=Zw hb2 (show (((((w.alloc (.cells #[.slice pA pn pc,.slice eA wn ec] 25 (0,0))).alloc (.cells #[.int .i64 k,.int .i64 ag] 27 (0,0))).alloc (.cells #[.int .i64 den,.int .i64 lev,.slice A wn c] 35 (0,0))).alloc (.cells #[.int .i64 0,.int .i64 0] 30 (0,0)))).heap[w.heap.size+1+1+1]?=some (.cells #[.int .i64 0,.int .i64 0] 30 (0,0))from by(repeat (first|assumption|(refine Zz _ _ ?_;(simp;done))|refine ZC ?_|refine Zy ?_ _|refine ZA ?_ (by simp<;>omega) _))));(have hbw2:=via (by go_grown:Below w.heap.size w (((((w.alloc (.cells #[.slice pA pn pc,.slice eA wn ec] 25 (0,0))).alloc (.cells #[.int .i64 k,.int .i64 ag] 27 (0,0))).alloc (.cells #[.int .i64 den,.int .i64 lev,.slice A wn c] 35 (0,0))).alloc (.cells #[.int .i64 0,.int .i64 0] 30 (0,0))))) hb2);clear hb2;(have C0:=bk2 N0);(have C1:=bk2 N1);(have C2:=bk3 N2))|(go_at_call 115;refine(hWe.out _ hbw2).mono ?_;rintro e w3 ⟨rfl,hb3⟩;(have M0:=Zw hb3 N0);(have M1:=Zw hb3 N1);(have M2:=Zw hb3 N2);(have M3:=Zw hb3 N3);(have hbw3:=via hbw2 hb3);clear hb3 C0 C1 C2 N0 N1 N2;(have D0:=bk2 M0);(have D1:=bk2 M1);(have D2:=bk3 M2))|(go_at_call 116;refine(hBd.out _ hbw3).mono ?_;rintro e w4 ⟨rfl,hb4⟩;(have P3:=Zw hb4 M3);(have hbw4:=via hbw3 hb4);clear hb4)|(refine Zbc (by with_reducible rfl) (.tmp 9) (.tmp 28) 30 (by with_reducible rfl) w4.heap.size [.int .i64 BD,.int .i64 den] [.int .i64 0,.int .i64 0] 30 rfl rfl (hs2 _) (Zz _ _ rfl) rfl (by simp[Value.oneCell']) ?_;intro w6 hblk6 hg6 hsz6;(have Q3:=ZaI hg6 (Zw (ZB _ _) P3) (by have:=ZI P3;simp;omega));(have hbw6:Below w.heap.size w w6:=Z4 (via hbw4 (ZB _ _)) hg6 fun b e=>(by have:=Zw7 e;have:=hbw4.size;omega));(have C6:=bk2 hblk6);clear hg6)|(go_at_call 92;refine(hLo.out _).mono ?_;rintro e w7 ⟨rfl,hb7⟩;(have S3:=Zw hb7 Q3);(have hbw7:=via hbw6 hb7);clear hb7)|(refine Zbc (by with_reducible rfl) (.tmp 6) (.tmp 37) 30 (by with_reducible rfl) (w.heap.size+1+1+1) [.int .i64 U1,.int .i64 U2] [.int .i64 0,.int .i64 0] 30 rfl rfl (hs2 _) S3 rfl (by simp[Value.oneCell']) ?_;intro w5 hblk5 hg5 hsz5;(have hbw5:Below w.heap.size w w5:=Z4 hbw7 hg5 fun b e=>(by have:=Zw7 e;omega));clear hg5));refine bodyPost_ret (v:=.tuple #[.agg #[.int .i64 U1,.int .i64 U2],.int .i64 0]) ?_ rfl ⟨rfl,hbw5⟩;exact Zaw (p:=6) (u:=7) (ad:=⟨w.heap.size+1+1+1,0,none⟩) (v:=.agg #[.int .i64 U1,.int .i64 U2]) rfl (by rfl) (Z6 (T:=30) (cs:=[.int .i64 U1,.int .i64 U2]) (ha2 _) (hs2 _) hblk5)
theorem Zsn{w:World} {base m c c2 n2:Nat} {A A2:Option Addr} {ps:List Pa} {ys:List En} (h:w.ownsRow base 149 5 (.slice A m c) m (ps.flatMap Pa.cs))(h2:EnTy w base (.slice A2 n2 c2) ys)(hm:ps.length=m)(hn:ys.length=n2):BookAt w A c ps A2 c2 ys:=by
 subst hm;subst hn;have hc:=Zgy h;have hc2:=Zgy h2.own;refine⟨?_,⟨?_,fun x hx=>(h2.row x hx).1⟩,hc,hc2,fun x hx=>(h2.row x hx).2.1⟩;·obtain⟨A',c',e',h1⟩:=Zb2 (cs:=Pa.cs) (sz:=5) (fun _=>rfl) h;cases e';exact h1
 ·obtain⟨A',c',e',h1⟩:=Zb2 (cs:=En.cs) (sz:=3) (fun _=>rfl) h2.own;cases e';exact h1
def ZV:List Pa:=[⟨bs [97],10,12,5,6⟩,⟨bs [98],50,60,1,2⟩]
def ZM(B:Option Addr):List En:=[⟨bs [104,97,108,102],B,2,[0,-2],-1⟩]
theorem Zdk(B:Option Addr):BookR ZV (ZM B):=by have h:BookR ZV (ZM none):=Zbz.1 (by decide+kernel);exact h.sig rfl
theorem ZgB(w:World):Calls prog 88 #[] w fun e w'=>(∃A A2 B,e=.returned (.agg #[.slice A 2 2,.slice A2 1 1])/\BookAt w' A 2 ZV A2 1 (ZM B)/\∀g,A=some g->w.heap.size<=g.block)/\Below w.heap.size w w':=by
 go_enter func88,ntmps88;go_wp2;obtain⟨W,hW⟩:∃W,(((w.alloc (.cells #[.slice (some ⟨(w.heap.size+1),0,none⟩) 2 2,.slice (some ⟨(w.heap.size+1+1+1),0,none⟩) 1 1] 25 (0,0))).alloc (.cells #[.string (bs [97]),.int .i64 10,.int .i64 12,.int .i64 5,.int .i64 6,.string (bs [98]),.int .i64 50,.int .i64 60,.int .i64 1,.int .i64 2] 149 (0,0))).alloc (.cells #[.int .i64 0,.int .i64 (-2)] 3 (0,0))).alloc (.cells #[.string (bs [104,97,108,102]),.slice (some ⟨(w.heap.size+1+1),0,none⟩) 2 2,.int .i64 (-1)] 91 (0,0))=W:=⟨_,rfl⟩;have N0:W.heap[w.heap.size]?=some (.cells #[.slice (some ⟨(w.heap.size+1),0,none⟩) 2 2,.slice (some ⟨(w.heap.size+1+1+1),0,none⟩) 1 1] 25 (0,0)):=by rw[<-hW];(repeat (first|assumption|(refine Zz _ _ ?_;(simp;done))|refine ZC ?_|refine Zy ?_ _|refine ZA ?_ (by simp<;>omega) _))
 have N1:W.heap[(w.heap.size+1)]?=some (.cells #[.string (bs [97]),.int .i64 10,.int .i64 12,.int .i64 5,.int .i64 6,.string (bs [98]),.int .i64 50,.int .i64 60,.int .i64 1,.int .i64 2] 149 (0,0)):=by rw[<-hW];(repeat (first|assumption|(refine Zz _ _ ?_;(simp;done))|refine ZC ?_|refine Zy ?_ _|refine ZA ?_ (by simp<;>omega) _))
 have N2:W.heap[(w.heap.size+1+1)]?=some (.cells #[.int .i64 0,.int .i64 (-2)] 3 (0,0)):=by rw[<-hW];(repeat (first|assumption|(refine Zz _ _ ?_;(simp;done))|refine ZC ?_|refine Zy ?_ _|refine ZA ?_ (by simp<;>omega) _))
 have N3:W.heap[(w.heap.size+1+1+1)]?=some (.cells #[.string (bs [104,97,108,102]),.slice (some ⟨(w.heap.size+1+1),0,none⟩) 2 2,.int .i64 (-1)] 91 (0,0)):=by rw[<-hW];(repeat (first|assumption|(refine Zz _ _ ?_;(simp;done))|refine ZC ?_|refine Zy ?_ _|refine ZA ?_ (by simp<;>omega) _))
 have hbW:Below w.heap.size w W:=by rw[<-hW];go_grown
 have o1:W.ownsRow w.heap.size 149 5 (.slice (some ⟨(w.heap.size+1),0,none⟩) 2 2) 2 (ZV.flatMap Pa.cs):=⟨rfl,.inr ⟨(w.heap.size+1),2,_,rfl,by omega,N1,by omega,by unfold maxLen;omega,rfl,rfl⟩⟩;have o2:W.ownsRow w.heap.size 3 1 (.slice (some ⟨(w.heap.size+1+1),0,none⟩) 2 2) 2 (([0,-2]:List Int).flatMap Zc):=⟨rfl,.inr ⟨(w.heap.size+1+1),2,_,rfl,by omega,N2,by omega,by unfold maxLen;omega,rfl,rfl⟩⟩;have o3:W.ownsRow w.heap.size 91 3 (.slice (some ⟨(w.heap.size+1+1+1),0,none⟩) 1 1) 1 ((ZM (some ⟨(w.heap.size+1+1),0,none⟩)).flatMap En.cs):=⟨rfl,.inr ⟨(w.heap.size+1+1+1),1,_,rfl,by omega,N3,by omega,by unfold maxLen;omega,rfl,rfl⟩⟩;have hB:BookAt W (some ⟨(w.heap.size+1),0,none⟩) 2 ZV (some ⟨(w.heap.size+1+1+1),0,none⟩) 1 (ZM (some ⟨(w.heap.size+1+1),0,none⟩)):=Zsn o1 ⟨o3,fun x hx=>by obtain rfl:=Zwh.1 hx;exact⟨Zcf o2 rfl,Zde o2,fun g e=>by cases e;exact⟨_,_,N2⟩⟩⟩ rfl rfl;have hs2:∀x,(sizeOf 25).run prog x=.ok 2 x:=fun x=>by kernel_rfl
 have ha2:∀x,(isAgg 25).run prog x=.ok true x:=fun x=>by kernel_rfl
 refine bodyPost_ret (v:=.agg #[.slice (some ⟨(w.heap.size+1),0,none⟩) 2 2,.slice (some ⟨(w.heap.size+1+1+1),0,none⟩) 1 1]) ?_ rfl ⟨⟨some ⟨(w.heap.size+1),0,none⟩,some ⟨(w.heap.size+1+1+1),0,none⟩,some ⟨(w.heap.size+1+1),0,none⟩,rfl,by rw[<-hW]at hB;exact hB,fun g e=>by cases e;dsimp only;omega⟩,by rw[<-hW]at hbW;exact hbW⟩;rw[<-hW]at N0;exact ZdH (p:=0) (ad:=⟨w.heap.size,0,none⟩) rfl (by rfl) (Z6 (T:=25) (cs:=[.slice (some ⟨(w.heap.size+1),0,none⟩) 2 2,.slice (some ⟨(w.heap.size+1+1+1),0,none⟩) 1 1]) (ha2 _) (hs2 _) N0)
theorem Zfv(B:Option Addr):FewB ZV (ZM B):=⟨by decide,by show 1<=1000;decide,fun p hp=>by
 rcases Zwa.1 hp with rfl|hp;·decide
 ·obtain rfl:=Zwh.1 hp;decide,fun x hx=>by obtain rfl:=Zwh.1 hx;show (bs [104,97,108,102]).size<=1000;decide,fun x hx=>by obtain rfl:=Zwh.1 hx;show 2<=1000;decide⟩
theorem Zso(B:Option Addr):Za9 ZV (ZM B) 0 0=0:=by unfold Za9;rw[Zbz.2 (Zdk B)];rfl
theorem ZlZ(B:Option Addr):Zcg ZV (ZM B) 0 0 1 10 [20]=0/\Zb4 ZV (ZM B) 0 0 1 10 [20]=(30,1):=by
 have h:Zcg ZV (ZM B) 0 0 1 10 [20]=0:=by unfold Zcg;rw[if_neg (by rw[Zso];simp)];rfl
 refine⟨h,?_⟩;unfold Zb4;rw[if_pos h];kernel_rfl
end Go.Proofs
namespace Go.Proofs
open Tryz
open Go.RowKit Go.Twin Go.Conc
variable {w' W w:World}
def codeHd:Code->Code|.seq x _=>x|c=>c
def codeTl:Code->Code|.seq _ y=>y|c=>c
noncomputable def awBody:Code:=Tryz.f18.body.getD .skip
noncomputable def aw1:Code:=codeTl awBody
noncomputable def aw2:Code:=codeTl aw1
noncomputable def aw3:Code:=codeTl aw2
noncomputable def aw4:Code:=codeTl aw3
noncomputable def aw5:Code:=codeTl aw4
def ZgC(A A2:Option Addr)(b14 p1:Nat):Array Value:=#[.bool false,.pointer (some ⟨p1,0,none⟩),.int .i64 0,zu,zu,zu,zu,zu,zu,zu,zu,.tuple #[.agg #[.int .i64 30,.int .i64 1],.int .i64 0],.agg #[.slice A 2 2,.slice A2 1 1],.agg #[.int .i64 0,.int .i64 0],.slice (some ⟨b14,0,none⟩) 1 1,.agg #[.int .i64 1,.int .i64 10,.slice (some ⟨b14,0,none⟩) 1 1],.tuple #[.agg #[.int .i64 30,.int .i64 1],.int .i64 0],.agg #[.int .i64 30,.int .i64 1],.int .i64 0,zu,zu,zu,zu,zu,zu,zu,zu,zu,zu,zu,zu,zu,zu,zu,zu,zu,zu,zu,zu,zu,zu,zu,zu,zu,zu,zu,zu,zu,zu,zu,zu,zu,zu,zu,zu,zu,zu,zu,zu,zu,zu,zu,zu,zu,zu,zu,zu,zu,zu,zu,zu,zu,zu,zu,zu,zu,zu,zu,zu,zu,zu,zu,zu,zu]
theorem Zsp(w:World):(codeHd aw1).wp prog (fun e a' w'=>e=.normal/\a'.defers=[]/\(∃A A2 b14 p1,a'.tmps=ZgC A A2 b14 p1/\w'.heap[p1]?=some (.cells #[.int .i64 30,.int .i64 1] 30 (0,0)))/\Below w.heap.size w w') ⟨#[.bool false,zu,zu,zu,zu,zu,zu,zu,zu,zu,zu,zu,zu,zu,zu,zu,zu,zu,zu,zu,zu,zu,zu,zu,zu,zu,zu,zu,zu,zu,zu,zu,zu,zu,zu,zu,zu,zu,zu,zu,zu,zu,zu,zu,zu,zu,zu,zu,zu,zu,zu,zu,zu,zu,zu,zu,zu,zu,zu,zu,zu,zu,zu,zu,zu,zu,zu,zu,zu,zu,zu,zu,zu,zu,zu,zu,zu,zu,zu,zu,zu,zu,zu,zu],[]⟩ w:=by simp only[aw1,codeHd,codeTl,awBody,Tryz.f18,Zw3];have hOld:=Zu3 fun x=>ZgB x;go_wp2_with (first|(go_at_call 88;refine(hOld.out _).mono ?_;rintro e w2 ⟨⟨A,A2,B,rfl,hB,hA⟩,hb2⟩;(have hB':=Zu3 hB);(have hbw2:=Zu3 hb2);clear hA hB hb2)|(go_at_call 66;(obtain⟨w3,hw3⟩:∃x,w2.alloc (.cells #[.int .i64 20] 3 (0,0))=x:=⟨_,rfl⟩);(have o2:w3.ownsRow w2.heap.size 3 1 (.slice (some ⟨w2.heap.size,0,none⟩) 1 1) 1 (([20]:List Int).flatMap Zc):=⟨rfl,.inr ⟨w2.heap.size,1,_,rfl,by omega,(by rw[<-hw3];(repeat (first|assumption|(refine Zz _ _ ?_;(simp;done))|refine ZC ?_|refine Zy ?_ _|refine ZA ?_ (by simp<;>omega) _))),by omega,by unfold maxLen;omega,rfl,rfl⟩⟩);(have hg3:Below w2.heap.size w2 w3:=by rw[<-hw3];go_grown);rw[hw3];clear hw3;(have hP:=Zsm A A2 (some ⟨w2.heap.size,0,none⟩) 2 1 2 1 1 1 ZV (ZM B) 0 0 1 10 [20] w3 (hB'.out.below hg3) (Zfv B) rfl rfl (Zcf o2 rfl) rfl (by omega));rw[(ZlZ B).1,(ZlZ B).2]at hP;refine hP.mono ?_;rintro e w4 ⟨rfl,hb4⟩;(have hbw4:=via (via hbw2.out hg3) hb4);clear hP o2 hb4 hg3));exact⟨⟨A,A2,_,_,rfl,by(repeat (first|assumption|(refine Zz _ _ ?_;(simp;done))|refine ZC ?_|refine Zy ?_ _|refine ZA ?_ (by simp<;>omega) _))⟩,via hbw4 (by go_grown)⟩
theorem Zl0(B:Option Addr):solvedL ZV.length (exs (ZM B)) (ZW ZV 1 50)=some ([1,1],2,⟨2,0,[1]⟩):=by show solvedL 2 [([0,-2],-1)] [0,1]=some ([1,1],2,⟨2,0,[1]⟩);kernel_rfl
theorem Zsq(B:Option Addr):Za9 ZV (ZM B) 1 50=0:=by unfold Za9;rw[Zbz.2 (Zdk B)];rfl
def ZbM(X:Option Addr)(x:Nat)(Y:Option Addr)(y:Nat):Value:=.agg #[.int .i64 1,.int .i64 2,.int .i64 2,.slice X 2 x,.int .i64 2,.int .i64 0,.slice Y 1 y]
theorem Zsr{B:Option Addr} {n0:Nat} {e:Ending} (h:ZcM ZV (ZM B) 1 50 n0 e w'):∃X x Y y,e=.returned (.tuple #[ZbM X x Y y,.int .i64 0]):=by unfold ZcM at h;rw[if_neg (by rw[Zsq];simp),Zl0]at h;obtain⟨X,x,Y,y,h,_⟩:=h;exact⟨X,x,Y,y,h⟩
def tmps2(A A2:Option Addr)(b14 p1:Nat)(C C2 X:Option Addr)(x:Nat)(Y:Option Addr)(y p3:Nat):Array Value:=#[.bool false,.pointer (some ⟨p1,0,none⟩),.int .i64 0,.pointer (some ⟨p3,0,none⟩),.int .i64 0,zu,zu,zu,zu,zu,zu,.tuple #[.agg #[.int .i64 30,.int .i64 1],.int .i64 0],.agg #[.slice A 2 2,.slice A2 1 1],.agg #[.int .i64 0,.int .i64 0],.slice (some ⟨b14,0,none⟩) 1 1,.agg #[.int .i64 1,.int .i64 10,.slice (some ⟨b14,0,none⟩) 1 1],.tuple #[.agg #[.int .i64 30,.int .i64 1],.int .i64 0],.agg #[.int .i64 30,.int .i64 1],.int .i64 0,.tuple #[ZbM X x Y y,.int .i64 0],.agg #[.slice C 2 2,.slice C2 1 1],.agg #[.int .i64 1,.int .i64 50],.tuple #[ZbM X x Y y,.int .i64 0],ZbM X x Y y,.int .i64 0,zu,zu,zu,zu,zu,zu,zu,zu,zu,zu,zu,zu,zu,zu,zu,zu,zu,zu,zu,zu,zu,zu,zu,zu,zu,zu,zu,zu,zu,zu,zu,zu,zu,zu,zu,zu,zu,zu,zu,zu,zu,zu,zu,zu,zu,zu,zu,zu,zu,zu,zu,zu,zu,zu,zu,zu,zu,zu,zu]
def Zdl(X:Option Addr)(x:Nat)(Y:Option Addr)(y:Nat):Obj:=.cells #[.int .i64 1,.int .i64 2,.int .i64 2,.slice X 2 x,.int .i64 2,.int .i64 0,.slice Y 1 y] 37 (0,0)
theorem Zss(A A2:Option Addr)(b14 p1:Nat)(w:World):(codeHd aw2).wp prog (fun e a' w'=>e=.normal/\a'.defers=[]/\(∃C C2 X x Y y p3,a'.tmps=tmps2 A A2 b14 p1 C C2 X x Y y p3/\w'.heap[p3]?=some (Zdl X x Y y))/\Below w.heap.size w w') ⟨ZgC A A2 b14 p1,[]⟩ w:=by
 simp only[aw2,aw1,codeHd,codeTl,awBody,Tryz.f18,Zw3,ZgC];have hOld:=Zu3 fun x=>ZgB x;have hs7:∀x,(sizeOf 37).run prog x=.ok 7 x:=fun x=>by kernel_rfl
 go_wp2_with (first|(go_at_call 88;refine(hOld.out _).mono ?_;rintro e w2 ⟨⟨C,C2,B,rfl,hB,hA⟩,hb2⟩;(have hB':=Zu3 hB);(have hbw2:=Zu3 hb2);clear hA hB hb2)|(go_at_call 20;(have hP:=Zrh C C2 2 1 2 1 ZV (ZM B) 1 50 w2 hB'.out (Zfv B) rfl rfl);refine hP.mono ?_;rintro e w4 ⟨hgot,hb4⟩;(obtain⟨X,x,Y,y,rfl⟩:=Zsr hgot);(have hbw4:=via hbw2.out hb4);clear hP hgot hb4;simp only[ZbM]));exact⟨⟨C,C2,X,x,Y,y,_,rfl,by(repeat (first|assumption|(refine Zz _ _ ?_;(simp;done))|refine ZC ?_|refine Zy ?_ _|refine ZA ?_ (by simp<;>omega) _))⟩,via hbw4 (by go_grown)⟩
structure Old (W w':World):Prop where
 size:W.heap.size<=w'.heap.size
 get:∀b,b<W.heap.size->w'.heap[b]?=W.heap[b]?
theorem Old.refl(W:World):Old W W:=⟨ZwG _,fun _ _=>rfl⟩
theorem Old.trans(h:Old W w)(h2:Old w w'):Old W w':=⟨ZwH h.size h2.size,fun b hb=>(h2.get b (ZwK hb h.size)).trans (h.get b hb)⟩
theorem Zp(h:Below w.heap.size w w'):Old w w':=⟨h.size,h.block⟩
theorem Ze{t:Nat->Question->Nat} {d:Nat} (h:Below (w.re t d).heap.size (w.re t d) w'):Old w w':=⟨h.size,h.block⟩
theorem Old.at{b:Nat} {o:Obj} (h:Old W w')(hb:W.heap[b]?=some o):w'.heap[b]?=some o:=(h.get b (Zug.1 hb).1).trans hb
theorem Zst:ZJ.code (codeHd aw1)=true:=by kernel_rfl
theorem Zsu:ZJ.code (codeHd aw2)=true:=by kernel_rfl
theorem Zb{E:Env} {B:Blk} {xs ys:Array Value} (h:AR E B xs xs)(e:xs=ys):AR E B ys ys:=e▸h
theorem Zsv{Stop:Frame->List Frame->World->Prop} {cs:List Frame} (hS:Halts Stop)(hg:GlobOk w)(k:∀A A2 b14 p1 C C2 X x Y y p3 l' B',awB.le B'->Self ZJ (fun _=>False) B' l'->AR ZJ B' (tmps2 A A2 b14 p1 C C2 X x Y y p3) (tmps2 A A2 b14 p1 C C2 X x Y y p3)->l'.heap[p1]?=some (.cells #[.int .i64 30,.int .i64 1] 30 (0,0))->l'.heap[p3]?=some (Zdl X x Y y)->Old (Z0 w) l'->LG ZN Stop ((Go.Conc.base 18).at ⟨tmps2 A A2 b14 p1 C C2 X x Y y p3,[]⟩ [.code aw3]) cs l'):LG ZN Stop ((Go.Conc.base 18).at ⟨Array.replicate 84 undef,[]⟩ [.code awBody]) cs (Z0 w):=by
 have hs:=Zr0 hg;have hle:awB.le awB:=Blk.le_refl _;have ha:AR ZJ awB (Array.replicate 84 undef) (Array.replicate 84 undef):=AR.replicate _ undefR;rw[show awBody=.seq (codeHd awBody) aw1 from by kernel_rfl];refine Zac hS ?_;simp only[awBody,codeHd,Tryz.f18,Zw3];refine Za4 hS ?_;simp only[Zwq,ZvS,ZvV,Nat.reduceAdd,ZwZ,List.range,List.range.loop];refine Zae hS ZS ZR hs (Zb ha (by kernel_rfl)) rfl rfl (by decide) (by kernel_rfl) (fun tt dd K k1 k2=>?_);simp only[show ZJ.P=prog from rfl];go_simp;first|refine k1 _ _ ?_|refine k2 _ ?_
 clear k1 k2 K tt dd;intro B' hle' hs' ha';replace hle:=Blk.le_trans hle hle';clear hs ha hle';have hs:=hs';have ha:=ha';clear hs' ha';walk_nrm;refine Za5 hS ?_;rw[show aw1=.seq (codeHd aw1) aw2 from by kernel_rfl];refine Zac hS ?_;refine ZbE (R:=fun a' w'=>(∃A A2 b14 p1,a'.tmps=ZgC A A2 b14 p1/\w'.heap[p1]?=some (.cells #[.int .i64 30,.int .i64 1] 30 (0,0)))/\Old (Z0 w) w') ZR Za6 Zba ZS hs (Zb ha (by kernel_rfl)) rfl Zst (fun v w t d h=>⟨h.1,h.2.size,h.2.get⟩) (fun t d=>Code.wp_mono (fun e a' w' h=>⟨h.1,h.2.1,h.2.2.1,(Ze h.2.2.2).size,(Ze h.2.2.2).get⟩) (Zsp _)) ?_;rintro⟨tm,df⟩ l1 B1 ⟨⟨A,A2,b14,p1,e1,n1⟩,ho1⟩ e2 hle1 hs1 ha1;cases e1;cases e2;rw[show aw2=.seq (codeHd aw2) aw3 from by kernel_rfl];refine Zac hS ?_;refine ZbE (R:=fun a' w'=>(∃C C2 X x Y y p3,a'.tmps=tmps2 A A2 b14 p1 C C2 X x Y y p3/\w'.heap[p3]?=some (Zdl X x Y y))/\Old l1 w') ZR Za6 Zba ZS hs1 ha1 rfl Zsu (fun v w t d h=>⟨h.1,h.2.size,h.2.get⟩) (fun t d=>Code.wp_mono (fun e a' w' h=>⟨h.1,h.2.1,h.2.2.1,(Ze h.2.2.2).size,(Ze h.2.2.2).get⟩) (Zss A A2 b14 p1 _)) ?_;rintro⟨tm,df⟩ l2 B2 ⟨⟨C,C2,X,x,Y,y,p3,e1,n3⟩,ho2⟩ e2 hle2 hs2 ha2;cases e1;cases e2;exact k A A2 b14 p1 C C2 X x Y y p3 l2 B2 (Blk.le_trans (Blk.le_trans hle hle1) hle2) hs2 ha2 (ho2.at n1) n3 (ho1.trans ho2)
variable {w w':World} {b o:Nat} {v:Value}
theorem At.old{sz:Nat} {α:Type} {cs:α->List Value} {A:Option Addr} {xs:List α} (h:At sz cs w A xs)(ho:Old w w'):At sz cs w' A xs:=(h.below (⟨rfl,rfl,rfl,ho.size,ho.get⟩:Below w.heap.size w {w' with os:=w.os,tape:=w.tape,output:=w.output}):At sz cs {w' with os:=w.os,tape:=w.tape,output:=w.output} A xs)
theorem BookAt.old{pA eA:Option Addr} {pc ec:Nat} {ps:List Pa} {es:List En} (hB:BookAt w pA pc ps eA ec es)(h:Old w w'):BookAt w' pA pc ps eA ec es:=⟨hB.P.old h,⟨hB.E.1.old h,fun x hx=>(hB.E.2 x hx).old h⟩,hB.pc',hB.ec',hB.nil⟩
noncomputable def shBody:Code:=Tryz.f40.body.getD .skip
noncomputable def shA:Code:=codeTl shBody
noncomputable def shB:Code:=codeTl shA
noncomputable def shC:Code:=codeTl shB
noncomputable def shD:Code:=codeTl shC
noncomputable def shE:Code:=codeTl shD
def Zfw(A A2:Option Addr):Array Value:=#[.agg #[.slice A 2 2,.slice A2 1 1],.int .i64 1,zu,zu,zu,zu,zu,zu,zu,zu,zu,zu,zu,zu,zu,zu,zu,zu,zu,zu,zu,zu,zu,zu,zu,zu,zu,zu,zu,zu,zu,zu,zu,zu,zu,zu,zu,zu,zu,zu,zu,zu]
def ZgD(A A2:Option Addr)(b2 b4:Nat):Array Value:=#[.agg #[.slice A 2 2,.slice A2 1 1],.int .i64 1,.pointer (some ⟨b2,0,none⟩),undef,.pointer (some ⟨b4,0,none⟩),.int .i64 0,zu,zu,zu,zu,zu,zu,zu,zu,zu,zu,zu,zu,zu,zu,zu,zu,zu,zu,zu,zu,zu,zu,zu,zu,zu,zu,zu,zu,zu,zu,zu,zu,zu,zu,zu,zu]
def ZgE(A A2:Option Addr)(b2 b4 b19:Nat):Array Value:=#[.agg #[.slice A 2 2,.slice A2 1 1],.int .i64 1,.pointer (some ⟨b2,0,none⟩),undef,.pointer (some ⟨b4,0,none⟩),.int .i64 0,.int .i64 0,undef,undef,undef,.agg #[.slice A 2 2,.slice A2 1 1],.int .i64 0,.int .i64 1,.pointer (some ⟨b2,0,none⟩),.slice A 2 2,.int .i64 2,.int .i64 1,.bool true,.int .i64 0,.slice (some ⟨b19,0,none⟩) 2 2,.int .i64 0,.int .i64 0,.bool false,zu,zu,zu,zu,zu,zu,zu,zu,zu,zu,zu,zu,zu,zu,zu,zu,zu,zu,zu]
def ZgF(A A2:Option Addr)(b2 b4 b19 b7:Nat):Array Value:=#[.agg #[.slice A 2 2,.slice A2 1 1],.int .i64 1,.pointer (some ⟨b2,0,none⟩),undef,.pointer (some ⟨b4,0,none⟩),.int .i64 0,.int .i64 0,.slice (some ⟨b7,0,none⟩) 2 2,undef,undef,.agg #[.slice A 2 2,.slice A2 1 1],.int .i64 0,.int .i64 1,.pointer (some ⟨b2,0,none⟩),.slice A 2 2,.int .i64 2,.int .i64 1,.bool true,.int .i64 0,.slice (some ⟨b19,0,none⟩) 2 2,.int .i64 0,.int .i64 0,.bool false,undef,undef,.pointer (some ⟨b2,0,none⟩),.slice A 2 2,.int .i64 2,.slice (some ⟨b7,0,none⟩) 2 2,zu,zu,zu,zu,zu,zu,zu,zu,zu,zu,zu,zu,zu]
def Zl1(A A2:Option Addr)(b2 b4 b19 b7:Nat):Array Value:=#[.agg #[.slice A 2 2,.slice A2 1 1],.int .i64 1,.pointer (some ⟨b2,0,none⟩),undef,.pointer (some ⟨b4,0,none⟩),.int .i64 0,.int .i64 0,.slice (some ⟨b7,0,none⟩) 2 2,undef,undef,.agg #[.slice A 2 2,.slice A2 1 1],.int .i64 0,.int .i64 1,.pointer (some ⟨b2,0,none⟩),.slice A 2 2,.int .i64 2,.int .i64 1,.bool true,.int .i64 0,.slice (some ⟨b19,0,none⟩) 2 2,.int .i64 0,.int .i64 0,.bool false,undef,undef,.pointer (some ⟨b2,0,none⟩),.slice A 2 2,.int .i64 2,.slice (some ⟨b7,0,none⟩) 2 2,.slice (some ⟨b7,0,none⟩) 2 2,.int .i64 1,.pointer (some ⟨b7,1,none⟩),zu,zu,zu,zu,zu,zu,zu,zu,zu,zu]
theorem Zsw(A A2:Option Addr)(w:World):(codeHd shBody).wp prog (fun e a' w'=>e=.normal/\a'.defers=[]/\(∃b2 b4,a'.tmps=ZgD A A2 b2 b4/\w'.heap[b2]?=some (.cells #[.slice A 2 2,.slice A2 1 1] 25 (0,0))/\w'.heap[b4]?=some (.cells #[.int .i64 0,.int .i64 0] 60 (0,0))/\w.heap.size<=b4)/\Below w.heap.size w w') ⟨Zfw A A2,[]⟩ w:=by simp only[codeHd,codeTl,shBody,Tryz.f40,Zw3,Zfw];go_wp2;exact⟨⟨_,_,rfl,by(repeat (first|assumption|(refine Zz _ _ ?_;(simp;done))|refine ZC ?_|refine Zy ?_ _|refine ZA ?_ (by simp<;>omega) _)),by(repeat (first|assumption|(refine Zz _ _ ?_;(simp;done))|refine ZC ?_|refine Zy ?_ _|refine ZA ?_ (by simp<;>omega) _)),by first|omega|simp⟩,by go_grown⟩
theorem Zsx(A A2 B:Option Addr)(b2 b4:Nat)(w:World)(hB:BookAt w A 2 ZV A2 1 (ZM B))(h2:w.heap[b2]?=some (.cells #[.slice A 2 2,.slice A2 1 1] 25 (0,0))):(codeHd shA).wp prog (fun e a' w'=>e=.normal/\a'.defers=[]/\(∃b19,a'.tmps=ZgE A A2 b2 b4 b19)/\Below w.heap.size w w') ⟨ZgD A A2 b2 b4,[]⟩ w:=by
 simp only[codeHd,codeTl,shA,shBody,Tryz.f40,Zw3,ZgD];have hC:=Zu3 fun W (hb:Below w.heap.size w W)=>(Zbz.2 (Zdk B))▸ZdK A A2 2 1 2 1 ZV (ZM B) W (hB.below hb) (Zfv B) rfl rfl;have hWi:=Zu3 fun W=>Zbx 1 0 1 W;rw[show Zap 1 0 1=true from by decide]at hWi;have D:=bk2 h2;have hb1:Below w.heap.size w w:=ZuC _ _;clear hB h2;refine wp_seq ?_;refine ZaM w 9 (by kernel_rfl) (by kernel_rfl) hb1 ?_;intro hgc hbx;simp only[Zwv,Zwx,Zvk,Zvl];repeat (go_big_quiet_step (first
  |(go_at_call 101;with_reducible exact Grew.call (hC.out _ (hbx.out _)))|(go_at_call 110;with_reducible exact Zd (hWi.out _))|(go_at_call 103;with_reducible exact Zd (ZaK _ _ _))))
 refine wpQuiet_nil ?_;intro wb hb_wb hw_wb hs_wb;clear hgc hbx;simp only[show unl true 6=0 from rfl];go_wp2_with (go_at_call 100;refine(ZbR _ _ _).mono ?_;rintro e w' ⟨rfl,rfl⟩;simp only[show ZT [0,0]=0 from rfl]);exact⟨⟨_,rfl⟩,via hb_wb (by go_grown)⟩
theorem Zsy(A A2:Option Addr)(b2 b4 b19:Nat)(w:World)(h2:w.heap[b2]?=some (.cells #[.slice A 2 2,.slice A2 1 1] 25 (0,0))):(codeHd shB).wp prog (fun e a' w'=>e=.normal/\a'.defers=[]/\(∃b7,a'.tmps=ZgF A A2 b2 b4 b19 b7/\w'.heap[b7]?=some (.cells #[.int .i64 0,.int .i64 0] 3 (0,0))/\w.heap.size<=b7)/\Below w.heap.size w w') ⟨ZgE A A2 b2 b4 b19,[]⟩ w:=by simp only[codeHd,codeTl,shB,shA,shBody,Tryz.f40,Zw3,ZgE];have D:=bk2 h2;clear h2;have hmk:∀W,(Instr.makeSlice 31 (.int .i64 2) (.int .i64 2)).run prog W=.ok (.slice (some ⟨W.heap.size,0,none⟩) 2 2) (W.alloc (.cells #[.int .i64 0,.int .i64 0] 3 (0,0))):=fun W=>Zee 2 (by omega) W;go_wp2;exact⟨⟨_,rfl,by(repeat (first|assumption|(refine Zz _ _ ?_;(simp;done))|refine ZC ?_|refine Zy ?_ _|refine ZA ?_ (by simp<;>omega) _)),ZwG _⟩,by go_grown⟩
theorem Zsz{c:Array Value} {T:TypeId} {f:Nat×Nat} (h:w.heap[b]?=some (.cells c T f)):(w.setCell ⟨b,o,none⟩ v).heap[b]?=some (.cells (c.setIfInBounds o v) T f):=by simp[World.setCell,Zuj,h]
theorem ZsA{k:Nat} (hne:k≠b):(w.setCell ⟨b,o,none⟩ v).heap[k]?=w.heap[k]?:=by simp[World.setCell,Zuj,Ne.symm hne]
theorem ZsB(A A2:Option Addr)(b2 b4 b19 b7:Nat)(w:World)(h7:w.heap[b7]?=some (.cells #[.int .i64 0,.int .i64 0] 3 (0,0))):(codeHd shC).wp prog (fun e a' w'=>e=.normal/\a'.defers=[]/\a'.tmps=Zl1 A A2 b2 b4 b19 b7/\w'.heap[b7]?=some (.cells #[.int .i64 0,.int .i64 1] 3 (0,0))/\w'.heap.size=w.heap.size/\∀b,b≠b7->w'.heap[b]?=w.heap[b]?) ⟨ZgF A A2 b2 b4 b19 b7,[]⟩ w:=by simp only[codeHd,codeTl,shC,shB,shA,shBody,Tryz.f40,Zw3,ZgF];have D:=bk2 h7;have key:=Zu3 (Zsz (o:=1) (v:=.int .i64 1) h7);clear h7;go_wp2;exact⟨rfl,(Zug.1 key.out).2,fun b hb=>ZsA hb⟩
def Zl2(A A2:Option Addr)(b2 b4 b19 b7 b8:Nat):Array Value:=#[.agg #[.slice A 2 2,.slice A2 1 1],.int .i64 1,.pointer (some ⟨b2,0,none⟩),undef,.pointer (some ⟨b4,0,none⟩),.int .i64 0,.int .i64 0,.slice (some ⟨b7,0,none⟩) 2 2,.pointer (some ⟨b8,0,none⟩),.bool true,.agg #[.slice A 2 2,.slice A2 1 1],.int .i64 0,.int .i64 1,.pointer (some ⟨b2,0,none⟩),.slice A 2 2,.int .i64 2,.int .i64 1,.bool true,.int .i64 0,.slice (some ⟨b19,0,none⟩) 2 2,.int .i64 0,.int .i64 0,.bool false,undef,undef,.pointer (some ⟨b2,0,none⟩),.slice A 2 2,.int .i64 2,.slice (some ⟨b7,0,none⟩) 2 2,.slice (some ⟨b7,0,none⟩) 2 2,.int .i64 1,.pointer (some ⟨b7,1,none⟩),.tuple #[.agg #[.int .i64 500,.int .i64 1000],.bool true],.agg #[.slice A 2 2,.slice A2 1 1],.slice (some ⟨b7,0,none⟩) 2 2,.slice (some ⟨b7,0,none⟩) 2 2,.tuple #[.agg #[.int .i64 500,.int .i64 1000],.bool true],.agg #[.int .i64 500,.int .i64 1000],.bool true,undef,undef,undef]
theorem ZsC(A A2:Option Addr)(b2 b4 b19 b7 b8:Nat)(w:World)(h4:w.heap[b4]?=some (.cells #[.int .i64 0,.int .i64 0] 60 (0,0)))(h8:w.heap[b8]?=some (.cells #[.int .i64 500,.int .i64 1000] 60 (0,0))):shE.wp prog (bodyPost prog Tryz.f40 fun e w'=>e=.returned (.tuple #[.agg #[.int .i64 500,.int .i64 1000],.int .i64 0])/\w.heap.size<=w'.heap.size/\∀b,b<w.heap.size->b≠b4->w'.heap[b]?=w.heap[b]?) ⟨Zl2 A A2 b2 b4 b19 b7 b8,[]⟩ w:=by
 simp only[codeHd,codeTl,shE,shD,shC,shB,shA,shBody,Tryz.f40,Zw3,Zl2];have D4:=bk2 h4;have D8:=bk2 h8;have hb1:Below w.heap.size w w:=ZuC _ _;have hs2:∀x,(sizeOf 60).run prog x=.ok 2 x:=fun x=>by kernel_rfl
 have ha2:∀x,(isAgg 60).run prog x=.ok true x:=fun x=>by kernel_rfl
 refine wp_seq ?_;refine ZaM w 3 (by kernel_rfl) (by kernel_rfl) hb1 ?_;intro hgc hbx;simp only[Zwv,Zwx,Zvk,Zvl];repeat (go_big_quiet_step (first|(go_at_call 103;with_reducible exact Zd (ZaK _ _ _))))
 refine wpQuiet_nil ?_;intro wb hb_wb hw_wb hs_wb;clear hgc hbx;simp only[show unl true 12=0 from rfl];have M4:=Zu3 (Zw hb_wb h4);have M8:=Zw hb_wb h8;have E8:=bk2 M8;clear h4 h8 M8 D4 D8;go_wp2_with (first|(go_at_call 103;refine(ZaK _ _ _).mono ?_;rintro e w' ⟨rfl,rfl⟩)|(refine Zbc (by with_reducible rfl) (.tmp 4) (.tmp 39) 60 (by with_reducible rfl) b4 [.int .i64 500,.int .i64 1000] [.int .i64 0,.int .i64 0] 60 rfl rfl (hs2 _) M4.out rfl (by decide) ?_;intro w5 hblk5 hg5 hsz5));refine bodyPost_ret (v:=.tuple #[.agg #[.int .i64 500,.int .i64 1000],.int .i64 0]) ?_ rfl ⟨rfl,by rw[hsz5];exact hs_wb,fun b hb hne=>?_⟩;·exact Zaw (p:=4) (u:=5) (ad:=⟨b4,0,none⟩) (v:=.agg #[.int .i64 500,.int .i64 1000]) rfl (by rfl) (Z6 (T:=60) (cs:=[.int .i64 500,.int .i64 1000]) (ha2 _) (hs2 _) hblk5)
 ·have hlt:b<wb.heap.size:=ZwK hb hs_wb;exact(hg5.block b hlt (fun e=>hne (Zw7 e))).trans (hb_wb.block b hb)
end Go.Proofs
namespace Go.Proofs
open Go.RowKit Go.Twin Go.Conc
section
variable {B:Blk} {bs':List Frame} {l w:World}
theorem ST.head{E:Env} {bs:List Frame} {f f':Frame} {cs cs':List Frame} (h:ST E B bs bs' (f::cs) (f'::cs')):FR E B f f':=by cases h with|last _ _ h _=>exact h|cons _ _ _ _ h _ _=>exact h
theorem Zn{E:Env} {xs:Array Value} {v:Value} (h:VR E B (.agg xs) v) {i:Nat} {u:Value} (hu:xs[i]?=some u):∃u',VR E B u u':=by cases h with|agg _ xs' hx hxs=>have hi:=(Zug.1 hu).1;exact⟨_,hxs i u (xs'[i]'(by omega)) hu (Zue (by omega))⟩
theorem Zj{E:Env} {A:Option Addr} {n c:Nat} {v:Value} (h:VR E B (.slice A n c) v)(hz:E.z0=false:=by rfl):∀b o s,A=some ⟨b,o,s⟩->∃b',B b b':=by rintro b o s rfl;cases h with
 |slice _ _ _ _ ha=>cases ha with|mk _ b' _ _ hb=>exact⟨b',hb⟩
 |slice0 _ h=>rw[hz]at h;cases h
theorem ZdS{sz:Nat} {α:Type} {cs:α->List Value} {A:Option Addr} {xs:List α} (h:At sz cs l A xs) {x:α} (hx:xs[0]?=some x) {v:Value} (hv:(cs x)[0]?=some v):∀b o s,A=some ⟨b,o,s⟩->∃c T f,l.heap[b]?=some (.cells c T f):=by rintro b o s rfl;obtain⟨b',o',h1,_,h3⟩:=h 0 x hx;cases h1;exact ZlE (h3 0 v hv)
theorem ZsD(BB:Option Addr):(solvedL 2 (exs (ZM BB)) (Zai [0,1])).map (fun q=>(q.1,q.2.1))=some ([0,1],1):=by show (solvedL 2 [([0,-2],-1)] [0,-1]).map (fun q=>(q.1,q.2.1))=some ([0,1],1);kernel_rfl
theorem ZdT(BB:Option Addr):exs (ZM BB)=[([0,-2],-1)]:=rfl
theorem Zl3(BB:Option Addr):Zav 2 (ZM BB) [0,1]=(1,2,true):=by unfold Zav;rw[ZdT];kernel_rfl
theorem Zl4(BB:Option Addr):Zav 2 (ZM BB) (Zai [0,1])=(-1,1,true):=by unfold Zav;rw[ZdT];kernel_rfl
theorem ZsE(BB:Option Addr):ZbJ 2 (ZM BB) [0,1] [0,1] 1000=.tuple #[.agg #[.int .i64 500,.int .i64 1000],.bool true]:=by unfold ZbJ;rw[Zl3,Zl4];kernel_rfl
theorem Zdm{a b:Int} {K:Nat} (h1:a.natAbs<=K)(h2:b.natAbs<=K):Small K [a,b]:=fun x hx=>by
 simp only[Zwa,Zwl,or_false]at hx;rcases hx with rfl|rfl;·exact h1
 ·exact h2
theorem ZdU{A:Option Addr} {n c:Nat} (h1:∀b o s,A=some ⟨b,o,s⟩->∃b',B b b') (h2:∀b o s,A=some ⟨b,o,s⟩->∃c T f,l.heap[b]?=some (.cells c T f)):VR EnvS (idX (ZX B l)) (.slice A n c) (.slice A n c):=Zio fun b o s e=>⟨h1 b o s e,h2 b o s e⟩
theorem ZsF{sh:Nat->Prop} {A A2 BB:Option Addr} {b7:Nat} {fa:Frame} {cs cb:List Frame} (hB:BookAt l A 2 ZV A2 1 (ZM BB))(h7:l.heap[b7]?=some (.cells #[.int .i64 0,.int .i64 1] 3 (0,0)))(h:Rel ZN sh bs' B (Frame.enter ZN.P 107 #[.agg #[.slice A 2 2,.slice A2 1 1],.slice (some ⟨b7,0,none⟩) 2 2,.slice (some ⟨b7,0,none⟩) 2 2,.int .i64 1000] .normal) cs l fa cb w):Zc1 Tryz.prog fa w fun v=>v=.tuple #[.agg #[.int .i64 500,.int .i64 1000],.bool true]:=by
 have hW:At 1 Zc l (some ⟨b7,0,none⟩) [0,1]:=Zcf (⟨rfl,.inr ⟨b7,2,_,rfl,Zw0 _,h7,by omega,by unfold maxLen;omega,rfl,rfl⟩⟩:l.ownsRow 0 3 1 (.slice (some ⟨b7,0,none⟩) 2 2) 2 (([0,1]:List Int).flatMap Zc)) rfl;have ht:=h.st.head.tmps;have hf:=Zir (.agg #[.slice A 2 2,.slice A2 1 1]) (.slice (some ⟨b7,0,none⟩) 2 2) (.slice (some ⟨b7,0,none⟩) 2 2) (.int .i64 1000);have e0:(Frame.enter ZN.P 107 #[.agg #[.slice A 2 2,.slice A2 1 1],.slice (some ⟨b7,0,none⟩) 2 2,.slice (some ⟨b7,0,none⟩) 2 2,.int .i64 1000] .normal).tmps=#[.agg #[.slice A 2 2,.slice A2 1 1],.slice (some ⟨b7,0,none⟩) 2 2,.slice (some ⟨b7,0,none⟩) 2 2,.int .i64 1000]++Array.replicate 52 undef:=by show (Frame.enter Tryz.prog _ _ _).tmps=_;rw[hf];rfl
 rw[e0]at ht;have t0:=ht.getD 0 (undefR (G:=ZN) (B:=B));have t1:=ht.getD 1 (undefR (G:=ZN) (B:=B));have g0:((#[.agg #[.slice A 2 2,.slice A2 1 1],.slice (some ⟨b7,0,none⟩) 2 2,.slice (some ⟨b7,0,none⟩) 2 2,.int .i64 1000]++Array.replicate 52 undef:Array Value).getD 0 undef)=.agg #[.slice A 2 2,.slice A2 1 1]:=by simp[Array.getD]
 have g1:((#[.agg #[.slice A 2 2,.slice A2 1 1],.slice (some ⟨b7,0,none⟩) 2 2,.slice (some ⟨b7,0,none⟩) 2 2,.int .i64 1000]++Array.replicate 52 undef:Array Value).getD 1 undef)=.slice (some ⟨b7,0,none⟩) 2 2:=by simp[Array.getD]
 rw[g0]at t0;rw[g1]at t1;obtain⟨u1,hu1⟩:=Zn t0 (i:=0) rfl;obtain⟨u2,hu2⟩:=Zn t0 (i:=1) rfl;have nA:=ZdU (l:=l) (n:=2) (c:=2) (Zj hu1) (ZdS hB.P rfl rfl);have nE:=ZdU (l:=l) (n:=1) (c:=1) (Zj hu2) (ZdS hB.E.1 rfl rfl);have nL:=ZdU (l:=l) (n:=2) (c:=2) (Zj t1) (ZdS hW rfl rfl);intro Post c ca gs sl t q h0 hLv hPa kk;refine ZlG (E1:=ZN) (lows:=[0,1]) (ups:=[0,1]) rfl (fun _=>rfl) rfl (Zdk BB).right hB.E rfl (by decide) (by decide) (fun x hx=>by obtain rfl:=Zwh.1 hx;simp) ⟨hW,rfl,Zdm (by decide) (by decide),fun m d p hm=>?_⟩ hW rfl (Zdm (by decide) (by decide)) (fun m d p hm=>?_) ?_ ?_ nA nE nL nL h h0 hLv hPa (fun hv=>kk (hv.trans (show ZbJ ZV.length (ZM BB) [0,1] [0,1] 1000=_ from ZsE BB)));·have e:solvedL ZV.length (exs (ZM BB)) [0,1]=_:=Zl0 BB;rw[e]at hm;cases hm;exact⟨rfl,Zdm (by decide) (by decide)⟩
 ·have e:=ZsD BB;have hm':solvedL 2 (exs (ZM BB)) (Zai [0,1])=some (m,d,p):=hm;rw[hm']at e;cases e;exact⟨rfl,Zdm (by decide) (by decide)⟩
 ·unfold ZcP;have e:Zav ZV.length (ZM BB) [0,1]=_:=Zl3 BB;rw[e];intro _;exact⟨by decide,by decide⟩
 ·unfold ZcP;have e:Zav ZV.length (ZM BB) (Zai [0,1])=_:=Zl4 BB;rw[e];intro _;exact⟨by decide,by decide⟩
end
end Go.Proofs
namespace Go.Proofs
open Tryz
open Go.RowKit Go.Twin Go.Conc
attribute [local go_sem] Oper.semAt_some ZcW ZcX ZcY Zcm ZcZ Zc0
variable {w:World}
theorem ZgG{P:Program} {fn:Func} {x:Code} {R:Value->World->Prop} {a:Act} {post:Ending->World->Prop} (h:x.wp P (bodyPost P fn post) a w)(hR:∀e w,post e w->∃v,e=.returned v/\R v w):x.wp P (fun e a' w'=>(e=.ret∨e=.normal)/\a'.defers=[]/\∃v,(results fn a'.tmps).run P w'=.ok v w'/\R v w') a w:=wp_mono h fun e a' w' hb=>by cases e with|normal=>obtain⟨h1,v,h2,h3⟩:=hb;obtain⟨v',e,h4⟩:=hR _ _ h3;cases e;exact⟨.inr rfl,h1,_,h2,h4⟩|ret=>obtain⟨h1,v,h2,h3⟩:=hb;obtain⟨v',e,h4⟩:=hR _ _ h3;cases e;exact⟨.inl rfl,h1,_,h2,h4⟩|panic c=>obtain⟨v',e,h4⟩:=hR _ _ hb.2;cases e|outgrown=>obtain⟨v',e,h4⟩:=hR _ _ hb;cases e|exit id=>exact hb.elim|goto id=>exact hb.elim
theorem ZsG (A A2:Option Addr):Frame.enter prog 40 #[.agg #[.slice A 2 2,.slice A2 1 1],.int .i64 1] .normal=(Go.Conc.base 40).at ⟨Zfw A A2,[]⟩ [.code shBody]:=by rw[enter_at (fn:=Tryz.f40) (c:=Tryz.f40.body.getD .skip) _ func40 rfl];kernel_rfl
theorem Old.re{w':World} (h:Old w w')(t:Nat->Question->Nat)(d:Nat):Old w (w'.re t d):=⟨h.size,h.get⟩
theorem ZsH{Post:Value->World->Prop} {W l0:World} {OldB:Blk} {bs':List Frame} (hold:∀b x,OldB b x->(fun _:Nat=>False) b∨(b=x/\x<l0.heap.size/\l0.heap[x]?=W.heap[x]?/\ZN.sh=false/\ZN.junk=false)) {A A2 BB:Option Addr} {c:Frame} {cs:List Frame} {l:World} {B:Blk} (hs:Self ZJ (fun _=>False) B l)(ha:AR ZJ B #[.agg #[.slice A 2 2,.slice A2 1 1],.int .i64 1] #[.agg #[.slice A 2 2,.slice A2 1 1],.int .i64 1])(hB:BookAt l A 2 ZV A2 1 (ZM BB))(ho:Old l0 l)(k:∀l' B',Old l l'->B.le B'->Self ZJ (fun _=>False) B' l'->LG ZN (StopG ZN Post W l0 OldB (fun _=>False) bs') (c.finish (.tuple #[.agg #[.int .i64 500,.int .i64 1000],.int .i64 0])) cs l'):LG ZN (StopG ZN Post W l0 OldB (fun _=>False) bs') (Frame.enter prog 40 #[.agg #[.slice A 2 2,.slice A2 1 1],.int .i64 1] .normal) (c::cs) l:=by
 have hS:Halts (StopG ZN Post W l0 OldB (fun _=>False) bs'):=ZdA;rw[ZsG];have ha0:AR ZJ B (Zfw A A2) (Zfw A A2):=Zb (ha.append (AR.replicate 40 undefR)) (by kernel_rfl);rw[show shBody=.seq (codeHd shBody) shA from by kernel_rfl];refine Zac hS ?_;refine ZbE (R:=fun a' w'=>(∃b2 b4,a'.tmps=ZgD A A2 b2 b4/\w'.heap[b2]?=some (.cells #[.slice A 2 2,.slice A2 1 1] 25 (0,0))/\w'.heap[b4]?=some (.cells #[.int .i64 0,.int .i64 0] 60 (0,0))/\l.heap.size<=b4)/\Old l w') ZR Za6 Zba ZS hs ha0 rfl (by kernel_rfl) (fun v w t d h=>⟨h.1,h.2.size,h.2.get⟩) (fun t d=>Code.wp_mono (fun e a' w' h=>⟨h.1,h.2.1,h.2.2.1,(Ze h.2.2.2).size,(Ze h.2.2.2).get⟩) (Zsw A A2 _)) ?_;rintro⟨tm,df⟩ l1 B1 ⟨⟨b2,b4,e1,n2,n4,hb4⟩,ho1⟩ e2 hle1 hs1 ha1;cases e1;cases e2;have hB1:=hB.old ho1;rw[show shA=.seq (codeHd shA) shB from by kernel_rfl];refine Zac hS ?_;refine ZbE (R:=fun a' w'=>(∃b19,a'.tmps=ZgE A A2 b2 b4 b19)/\Old l1 w') ZR Za6 Zba ZS hs1 ha1 rfl (by kernel_rfl) (fun v w t d h=>⟨h.1,h.2.size,h.2.get⟩) (fun t d=>Code.wp_mono (fun e a' w' h=>⟨h.1,h.2.1,h.2.2.1,(Ze h.2.2.2).size,(Ze h.2.2.2).get⟩) (Zsx A A2 BB b2 b4 _ (hB1.old ((Old.refl l1).re t d)) n2)) ?_;rintro⟨tm,df⟩ l2 B2 ⟨⟨b19,e1⟩,ho2⟩ e2 hle2 hs2 ha2;cases e1;cases e2;have m2:=ho2.at n2;rw[show shB=.seq (codeHd shB) shC from by kernel_rfl];refine Zac hS ?_;refine ZbE (R:=fun a' w'=>(∃b7,a'.tmps=ZgF A A2 b2 b4 b19 b7/\w'.heap[b7]?=some (.cells #[.int .i64 0,.int .i64 0] 3 (0,0))/\l2.heap.size<=b7)/\Old l2 w') ZR Za6 Zba ZS hs2 ha2 rfl (by kernel_rfl) (fun v w t d h=>⟨h.1,h.2.size,h.2.get⟩) (fun t d=>Code.wp_mono (fun e a' w' h=>⟨h.1,h.2.1,h.2.2.1,(Ze h.2.2.2).size,(Ze h.2.2.2).get⟩) (Zsy A A2 b2 b4 b19 _ m2)) ?_;rintro⟨tm,df⟩ l3 B3 ⟨⟨b7,e1,n7,hb7⟩,ho3⟩ e2 hle3 hs3 ha3;cases e1;cases e2;rw[show shC=.seq (codeHd shC) shD from by kernel_rfl];refine Zac hS ?_;refine ZbE (R:=fun a' w'=>(a'.tmps=Zl1 A A2 b2 b4 b19 b7/\w'.heap[b7]?=some (.cells #[.int .i64 0,.int .i64 1] 3 (0,0))/\w'.heap.size=l3.heap.size/\∀b,b≠b7->w'.heap[b]?=l3.heap[b]?)) ZR Za6 Zba ZS hs3 ha3 rfl (by kernel_rfl) (fun v w t d h=>h) (fun t d=>Code.wp_mono (fun e a' w' h=>h) (ZsB A A2 b2 b4 b19 b7 (l3.re t d) n7)) ?_;rintro⟨tm,df⟩ l4 B4 ⟨e1,n7',hsz4,hot4⟩ e2 hle4 hs ha;cases e1;cases e2;have ho4:Old l2 l4:=⟨by have:=ho3.size;omega,fun b hb=>(hot4 b (by omega)).trans (ho3.get b hb)⟩;have hle:=Blk.le_trans (Blk.le_trans (Blk.le_trans hle1 hle2) hle3) hle4;have hB4:=(hB1.old ho2).old ho4;have h2:=ho4.at m2;have h4:=ho4.at (ho2.at n4);have D2:=bk2 h2;rw[show shD=.seq (codeHd shD) shE from by kernel_rfl];refine Zac hS ?_;simp only[codeHd,codeTl,shD,shC,shB,shA,shBody,Tryz.f40,Zw3];refine Za4 hS ?_;simp only[Zwq,ZvS,ZvV,Nat.reduceAdd,ZwZ,List.range,List.range.loop];refine Zae hS ZS ZR hs (Zb ha (by kernel_rfl)) rfl rfl (by decide) (by kernel_rfl) (fun tt dd K k1 k2=>?_);simp only[show ZJ.P=prog from rfl];go_simp;first|refine k1 _ _ ?_|refine k2 _ ?_
 clear k1 k2 K tt dd;intro B' hle' hs' ha';replace hle:=Blk.le_trans hle hle';clear hs ha hle';have hs:=hs';have ha:=ha';clear hs' ha';walk_nrm;refine Zae hS ZS ZR hs (Zb ha (by kernel_rfl)) rfl rfl (by decide) (by kernel_rfl) (fun tt dd K k1 k2=>?_);simp only[show ZJ.P=prog from rfl];go_simp;first|refine k1 _ _ ?_|refine k2 _ ?_
 clear k1 k2 K tt dd;intro B' hle' hs' ha';replace hle:=Blk.le_trans hle hle';clear hs ha hle';have hs:=hs';have ha:=ha';clear hs' ha';walk_nrm;refine Zae hS ZS ZR hs (Zb ha (by kernel_rfl)) rfl rfl (by decide) (by kernel_rfl) (fun tt dd K k1 k2=>?_);simp only[show ZJ.P=prog from rfl];go_simp;first|refine k1 _ _ ?_|refine k2 _ ?_
 clear k1 k2 K tt dd;intro B' hle' hs' ha';replace hle:=Blk.le_trans hle hle';clear hs ha hle';have hs:=hs';have ha:=ha';clear hs' ha';walk_nrm;have hoA:Old l l4:=ho1.trans (ho2.trans ho4);refine Zcl (g:=107) (args:=#[.agg #[.slice A 2 2,.slice A2 1 1],.slice (some ⟨b7,0,none⟩) 2 2,.slice (some ⟨b7,0,none⟩) 2 2,.int .i64 1000]) hS rfl rfl (by decide) (by kernel_rfl) (fun w'=>by simp only[show ZN.P=prog from rfl];kernel_rfl) ?_;refine .stop _ _ _ (Zjz (R:=fun v=>v=.tuple #[.agg #[.int .i64 500,.int .i64 1000],.bool true]) Zhs hold (by simp) (fun c h=>by cases h) (ho.trans hoA).get (fun h hO=>ZsF hB4 n7' h) (fun v hv=>by subst hv;kernel_rfl) fun v n hv=>?_);subst hv;rw[Frame.finish_at];have hs:=hs.pad n;have ha:=ha.set 36 (VR.closed 8 (.tuple #[.agg #[.int .i64 500,.int .i64 1000],.bool true]) (by kernel_rfl));have hoP:Old l4 (pad l4 n):=⟨by rw[Zb7];omega,fun b hb=>Zb8 l4 n hb⟩;obtain⟨l5,hl5⟩:∃l5,pad l4 n=l5:=⟨_,rfl⟩;rw[hl5]at hs hoP |-;walk_nrm;refine Zae hS ZS ZR hs (Zb ha (by kernel_rfl)) rfl rfl (by decide) (by kernel_rfl) (fun tt dd K k1 k2=>?_);simp only[show ZJ.P=prog from rfl];go_simp;first|refine k1 _ _ ?_|refine k2 _ ?_
 clear k1 k2 K tt dd;intro B' hle' hs' ha';replace hle:=Blk.le_trans hle hle';clear hs ha hle';have hs:=hs';have ha:=ha';clear hs' ha';walk_nrm;refine Zae hS ZS ZR hs (Zb ha (by kernel_rfl)) rfl rfl (by decide) (by kernel_rfl) (fun tt dd K k1 k2=>?_);simp only[show ZJ.P=prog from rfl];go_simp;first|refine k1 _ _ ?_|refine k2 _ ?_
 clear k1 k2 K tt dd;intro B' hle' hs' ha';replace hle:=Blk.le_trans hle hle';clear hs ha hle';have hs:=hs';have ha:=ha';clear hs' ha';walk_nrm;refine Zae hS ZS ZR hs (Zb ha (by kernel_rfl)) rfl rfl (by decide) (by kernel_rfl) (fun tt dd K k1 k2=>?_);simp only[show ZJ.P=prog from rfl];go_simp;first|refine k1 _ _ ?_|refine k2 _ ?_
 clear k1 k2 K tt dd;intro B' hle' hs' ha';replace hle:=Blk.le_trans hle hle';clear hs ha hle';have hs:=hs';have ha:=ha';clear hs' ha';walk_nrm;refine Zae hS ZS ZR hs (Zb ha (by kernel_rfl)) rfl rfl (by decide) (by kernel_rfl) (fun tt dd K k1 k2=>?_);simp only[show ZJ.P=prog from rfl];go_simp;first|refine k1 _ _ ?_|refine k2 _ ?_
 clear k1 k2 K tt dd;intro B' hle' hs' ha';replace hle:=Blk.le_trans hle hle';clear hs ha hle';have hs:=hs';have ha:=ha';clear hs' ha';walk_nrm;refine Zae hS ZS ZR hs (Zb ha (by kernel_rfl)) rfl rfl (by decide) (by kernel_rfl) (fun tt dd K k1 k2=>?_);simp only[show ZJ.P=prog from rfl];go_simp;first|refine k1 _ _ ?_|refine k2 _ ?_
 clear k1 k2 K tt dd;intro B' hle' hs' ha';replace hle:=Blk.le_trans hle hle';clear hs ha hle';have hs:=hs';have ha:=ha';clear hs' ha';walk_nrm;refine Zae hS ZS ZR hs (Zb ha (by kernel_rfl)) rfl rfl (by decide) (by kernel_rfl) (fun tt dd K k1 k2=>?_);simp only[show ZJ.P=prog from rfl];go_simp;first|refine k1 _ _ ?_|refine k2 _ ?_
 clear k1 k2 K tt dd;intro B' hle' hs' ha';replace hle:=Blk.le_trans hle hle';clear hs ha hle';have hs:=hs';have ha:=ha';clear hs' ha';walk_nrm;refine Za5 hS ?_;obtain⟨l6,hl6⟩:∃l6,l5.alloc (.cells #[.int .i64 500,.int .i64 1000] 60 (0,0))=l6:=⟨_,rfl⟩;have n8:l6.heap[l5.heap.size]?=some (.cells #[.int .i64 500,.int .i64 1000] 60 (0,0)):=by rw[<-hl6];(repeat (first|assumption|(refine Zz _ _ ?_;(simp;done))|refine ZC ?_|refine Zy ?_ _|refine ZA ?_ (by simp<;>omega) _))
 have ho6:Old l5 l6:=by rw[<-hl6];exact Zp (by go_grown:Below l5.heap.size l5 _)
 rw[hl6]at hs |-;clear hl6;have h4':=ho6.at (hoP.at h4);refine ZjG (fn:=Tryz.f40) (x:=shE) (R:=fun v w=>v=.tuple #[.agg #[.int .i64 500,.int .i64 1000],.int .i64 0]/\l6.heap.size<=w.heap.size/\∀b,b<l6.heap.size->b≠b4->w.heap[b]?=l6.heap[b]?) ZR Za6 Zba ZS hs (Zb ha (by kernel_rfl)) rfl (by kernel_rfl) func40 (fun v w t d h=>h) (fun t d=>ZgG (ZsC A A2 b2 b4 b19 b7 l5.heap.size (l6.re t d) h4' n8) fun e w h=>⟨_,h.1,rfl,h.2⟩) ?_;rintro v l7 B7 ⟨rfl,hsz,hot⟩ hle7 hs7 hv;have z1:=hoA.size;have z2:=hoP.size;have z3:=ho6.size;refine k l7 B7 ⟨by omega,fun b hb=>?_⟩ (Blk.le_trans hle hle7) hs7;exact(hot b (by omega) (by omega)).trans ((ho6.get b (by omega)).trans ((hoP.get b (by omega)).trans (hoA.get b hb)))
variable {B:Blk}
def tmps3(A A2:Option Addr)(b14 p1:Nat)(C C2 X:Option Addr)(x:Nat)(Y:Option Addr)(y p3:Nat)(D D2:Option Addr)(p5:Nat):Array Value:=#[.bool false,.pointer (some ⟨p1,0,none⟩),.int .i64 0,.pointer (some ⟨p3,0,none⟩),.int .i64 0,.pointer (some ⟨p5,0,none⟩),.int .i64 0,undef,undef,undef,undef,.tuple #[.agg #[.int .i64 30,.int .i64 1],.int .i64 0],.agg #[.slice A 2 2,.slice A2 1 1],.agg #[.int .i64 0,.int .i64 0],.slice (some ⟨b14,0,none⟩) 1 1,.agg #[.int .i64 1,.int .i64 10,.slice (some ⟨b14,0,none⟩) 1 1],.tuple #[.agg #[.int .i64 30,.int .i64 1],.int .i64 0],.agg #[.int .i64 30,.int .i64 1],.int .i64 0,.tuple #[ZbM X x Y y,.int .i64 0],.agg #[.slice C 2 2,.slice C2 1 1],.agg #[.int .i64 1,.int .i64 50],.tuple #[ZbM X x Y y,.int .i64 0],ZbM X x Y y,.int .i64 0,.tuple #[.agg #[.int .i64 500,.int .i64 1000],.int .i64 0],.agg #[.slice D 2 2,.slice D2 1 1],.tuple #[.agg #[.int .i64 500,.int .i64 1000],.int .i64 0],.agg #[.int .i64 500,.int .i64 1000],.int .i64 0,zu,zu,zu,zu,zu,zu,zu,zu,zu,zu,zu,zu,zu,zu,zu,zu,zu,zu,zu,zu,zu,zu,zu,zu,zu,zu,zu,zu,zu,zu,zu,zu,zu,zu,zu,zu,zu,zu,zu,zu,zu,zu,zu,zu,zu,zu,zu,zu,zu,zu,zu,zu,zu,zu]
theorem Zq{E:Env} {xs:Array Value} (h:AR E B xs xs)(i:Nat) {v:Value} (e:xs.getD i undef=v):VR E B v v:=e▸h.getD i undefR
theorem Zl5(l:World)(t:Nat->Question->Nat)(d:Nat):Calls ZJ.P 88 #[] (l.re t d) fun e w=>∃v,e=.returned v/\((∃A A2 B,v=.agg #[.slice A 2 2,.slice A2 1 1]/\BookAt w A 2 ZV A2 1 (ZM B))/\Old l w):=(ZgB (l.re t d)).mono fun e w h=>by obtain⟨⟨A,A2,B,rfl,hB,_⟩,hb⟩:=h;exact⟨_,rfl,⟨A,A2,B,rfl,hB⟩,Ze hb⟩
theorem Zl6(l:World)(v:Value)(w:World)(t:Nat->Question->Nat)(d:Nat)(h:(∃A A2 B,v=.agg #[.slice A 2 2,.slice A2 1 1]/\BookAt w A 2 ZV A2 1 (ZM B))/\Old l w):(∃A A2 B,v=.agg #[.slice A 2 2,.slice A2 1 1]/\BookAt (w.re t d) A 2 ZV A2 1 (ZM B))/\Old l (w.re t d):=by obtain⟨⟨A,A2,B,e,hB⟩,ho⟩:=h;exact⟨⟨A,A2,B,e,hB.old ((Old.refl w).re t d)⟩,ho.re t d⟩
theorem ZsI{Post:Value->World->Prop} {W l0:World} {OldB:Blk} {bs':List Frame} (hold:∀b x,OldB b x->(fun _:Nat=>False) b∨(b=x/\x<l0.heap.size/\l0.heap[x]?=W.heap[x]?/\ZN.sh=false/\ZN.junk=false)) {A A2:Option Addr} {b14 p1:Nat} {C C2 X:Option Addr} {x:Nat} {Y:Option Addr} {y p3:Nat} {cs:List Frame} (hcs:cs≠[]) {l:World} (hs:Self ZJ (fun _=>False) B l) (ha:AR ZJ B (tmps2 A A2 b14 p1 C C2 X x Y y p3) (tmps2 A A2 b14 p1 C C2 X x Y y p3)) (ho:Old l0 l)(k:∀D D2 p5 l' B',B.le B'->Self ZJ (fun _=>False) B' l'->AR ZJ B' (tmps3 A A2 b14 p1 C C2 X x Y y p3 D D2 p5) (tmps3 A A2 b14 p1 C C2 X x Y y p3 D D2 p5)->l'.heap[p5]?=some (.cells #[.int .i64 500,.int .i64 1000] 60 (0,0))->Old l l'->LG ZN (StopG ZN Post W l0 OldB (fun _=>False) bs') ((Go.Conc.base 18).at ⟨tmps3 A A2 b14 p1 C C2 X x Y y p3 D D2 p5,[]⟩ [.code aw4]) cs l'):LG ZN (StopG ZN Post W l0 OldB (fun _=>False) bs') ((Go.Conc.base 18).at ⟨tmps2 A A2 b14 p1 C C2 X x Y y p3,[]⟩ [.code aw3]) cs l:=by
 have hS:Halts (StopG ZN Post W l0 OldB (fun _=>False) bs'):=ZdA;have hle:B.le B:=Blk.le_refl _;rw[show aw3=.seq (codeHd aw3) aw4 from by kernel_rfl];refine Zac hS ?_;simp only[codeHd,codeTl,aw3,aw2,aw1,awBody,Tryz.f18,Zw3,tmps2,ZbM];refine Za4 hS ?_;simp only[Zwq,ZvS,ZvV,Nat.reduceAdd,ZwZ,List.range,List.range.loop];refine ZjF (g:=88) (args:=#[]) hS ZR Za6 Zba ZS hs (Zb ha (by kernel_rfl)) rfl rfl (by decide) (by kernel_rfl) (fun w'=>by simp only[show ZJ.P=prog from rfl];kernel_rfl) (by kernel_rfl) (AR.empty) (Zl6 l) (Zl5 l) ?_;rintro v l1 B1 ⟨⟨D,D2,BB,rfl,hB1⟩,ho1⟩ hle1 hs1 ha1;clear hs ha;walk_nrm;refine Zcl (g:=40) (args:=#[.agg #[.slice D 2 2,.slice D2 1 1],.int .i64 1]) hS rfl rfl (by decide) (by kernel_rfl) (fun w'=>by simp only[show ZN.P=prog from rfl];kernel_rfl) ?_;refine ZsH hold hs1 (Zb (((AR.replicate 2 undefR).set 0 (Zq ha1 26 (v:=.agg #[.slice D 2 2,.slice D2 1 1]) (by kernel_rfl))).set 1 (.int .i64 1)) (by kernel_rfl)) hB1 (ho.trans ho1) fun l2 B2 ho2 hle2 hs=>?_;have ha:=(ha1.mono hle2).set 27 (VR.closed 8 (.tuple #[.agg #[.int .i64 500,.int .i64 1000],.int .i64 0]) (by kernel_rfl));replace hle:=Blk.le_trans hle1 hle2;rw[Frame.finish_at];clear ha1;walk_nrm;refine Zae hS ZS ZR hs (Zb ha (by kernel_rfl)) rfl rfl (by decide) (by kernel_rfl) (fun tt dd K k1 k2=>?_);simp only[show ZJ.P=prog from rfl];go_simp;first|refine k1 _ _ ?_|refine k2 _ ?_
 clear k1 k2 K tt dd;intro B' hle' hs' ha';replace hle:=Blk.le_trans hle hle';clear hs ha hle';have hs:=hs';have ha:=ha';clear hs' ha';walk_nrm;refine Zae hS ZS ZR hs (Zb ha (by kernel_rfl)) rfl rfl (by decide) (by kernel_rfl) (fun tt dd K k1 k2=>?_);simp only[show ZJ.P=prog from rfl];go_simp;first|refine k1 _ _ ?_|refine k2 _ ?_
 clear k1 k2 K tt dd;intro B' hle' hs' ha';replace hle:=Blk.le_trans hle hle';clear hs ha hle';have hs:=hs';have ha:=ha';clear hs' ha';walk_nrm;refine Zae hS ZS ZR hs (Zb ha (by kernel_rfl)) rfl rfl (by decide) (by kernel_rfl) (fun tt dd K k1 k2=>?_);simp only[show ZJ.P=prog from rfl];go_simp;first|refine k1 _ _ ?_|refine k2 _ ?_
 clear k1 k2 K tt dd;intro B' hle' hs' ha';replace hle:=Blk.le_trans hle hle';clear hs ha hle';have hs:=hs';have ha:=ha';clear hs' ha';walk_nrm;refine Zae hS ZS ZR hs (Zb ha (by kernel_rfl)) rfl rfl (by decide) (by kernel_rfl) (fun tt dd K k1 k2=>?_);simp only[show ZJ.P=prog from rfl];go_simp;first|refine k1 _ _ ?_|refine k2 _ ?_
 clear k1 k2 K tt dd;intro B' hle' hs' ha';replace hle:=Blk.le_trans hle hle';clear hs ha hle';have hs:=hs';have ha:=ha';clear hs' ha';walk_nrm;refine Zae hS ZS ZR hs (Zb ha (by kernel_rfl)) rfl rfl (by decide) (by kernel_rfl) (fun tt dd K k1 k2=>?_);simp only[show ZJ.P=prog from rfl];go_simp;first|refine k1 _ _ ?_|refine k2 _ ?_
 clear k1 k2 K tt dd;intro B' hle' hs' ha';replace hle:=Blk.le_trans hle hle';clear hs ha hle';have hs:=hs';have ha:=ha';clear hs' ha';walk_nrm;refine Zae hS ZS ZR hs (Zb ha (by kernel_rfl)) rfl rfl (by decide) (by kernel_rfl) (fun tt dd K k1 k2=>?_);simp only[show ZJ.P=prog from rfl];go_simp;first|refine k1 _ _ ?_|refine k2 _ ?_
 clear k1 k2 K tt dd;intro B' hle' hs' ha';replace hle:=Blk.le_trans hle hle';clear hs ha hle';have hs:=hs';have ha:=ha';clear hs' ha';walk_nrm;refine Za5 hS ?_;have ho6:Old l2 (l2.alloc (.cells #[.int .i64 500,.int .i64 1000] 60 (0,0))):=Zp (by go_grown:Below l2.heap.size l2 _);refine k D D2 l2.heap.size _ _ hle hs (Zb ha (by kernel_rfl)) (by(repeat (first|assumption|(refine Zz _ _ ?_;(simp;done))|refine ZC ?_|refine Zy ?_ _|refine ZA ?_ (by simp<;>omega) _))) (ho1.trans (ho2.trans ho6))
end Go.Proofs
namespace Go.Proofs
open Go.RowKit Go.Twin Go.Conc
variable {w:World}
theorem Zl7(hg:GlobOk w):∀b x,awB b x->(fun _:Nat=>False) b∨(b=x/\x<(Z0 w).heap.size/\(Z0 w).heap[x]?=w.heap[x]?/\ZN.sh=false/\ZN.junk=false):=fun b x hb=>by obtain⟨rfl,hb⟩:=hb;obtain⟨cc,T,f,h1,_⟩:=hg.ints b hb;refine .inr ⟨rfl,?_,Zez w (ZeA hb).1 (ZeA hb).2,rfl,rfl⟩;rw[ZcQ];exact(Zug.1 h1).1
theorem ZsJ{Post:Value->World->Prop} {cs:List Frame} {bs':List Frame} (hcs:cs≠[])(hg:GlobOk w)(k:∀A A2 b14 p1 C C2 X x Y y p3 D D2 p5 l' B',awB.le B'->Self ZJ (fun _=>False) B' l'->AR ZJ B' (tmps3 A A2 b14 p1 C C2 X x Y y p3 D D2 p5) (tmps3 A A2 b14 p1 C C2 X x Y y p3 D D2 p5)->l'.heap[p1]?=some (.cells #[.int .i64 30,.int .i64 1] 30 (0,0))->l'.heap[p3]?=some (Zdl X x Y y)->l'.heap[p5]?=some (.cells #[.int .i64 500,.int .i64 1000] 60 (0,0))->Old (Z0 w) l'->LG ZN (StopG ZN Post w (Z0 w) awB (fun _=>False) bs') ((Go.Conc.base 18).at ⟨tmps3 A A2 b14 p1 C C2 X x Y y p3 D D2 p5,[]⟩ [.code aw4]) cs l'):LG ZN (StopG ZN Post w (Z0 w) awB (fun _=>False) bs') (Frame.enter Tryz.prog 18 #[] .normal) cs (Z0 w):=by rw[ZlI];refine Zsv ZdA hg fun A A2 b14 p1 C C2 X x Y y p3 l1 B1 hle1 hs1 ha1 n1 n3 ho1=>?_;exact ZsI (Zl7 hg) hcs hs1 ha1 ho1 fun D D2 p5 l2 B2 hle2 hs2 ha2 n5 ho2=>k A A2 b14 p1 C C2 X x Y y p3 D D2 p5 l2 B2 (Blk.le_trans hle1 hle2) hs2 ha2 (ho2.at n1) (ho2.at n3) n5 (ho1.trans ho2)
end Go.Proofs
namespace Go.Proofs
open Tryz
open Go.RowKit
theorem ZsK{l:List UInt8} (h:Zam l=true):∀c∈l,c≠32/\c≠10:=fun c hc=>by
 unfold Zam ZcF at h;simp only[ZuE,Zu5,Zwg]at h;obtain⟨i,hi⟩:=ZvI hc;have h1:=h.2 i (ZvG.1 hi).1;rw[Zvy,hi]at h1;simp only[Zw3]at h1;constructor;·rintro rfl;revert h1;simp[Zbw,Ze1]
 ·rintro rfl;revert h1;simp[Zbw,Ze1]
def Zch(k ag v den lev:Int)(W:List Int):List Int:=if k=1 then ag::v::den::lev::W else v::den::lev::W
theorem ZiD(nm:List UInt8)(k ag v den lev:Int)(W:List Int):ZbL nm k ag v den lev W=nm::(if k=1 then ZgA else Zgz)::(Zch k ag v den lev W).map Lib.itoa:=by unfold ZbL Zch;split<;>simp
theorem ZsL:((bs Zgz).toList==[109,101,97,110])=true/\((bs Zgz).toList==[115,104,97,114,101])=false/\((bs ZgA).toList==[109,101,97,110])=false/\((bs ZgA).toList==[115,104,97,114,101])=true:=by rw[ByteArray.toList_eq,ByteArray.toList_eq,ZeB,ZeB];decide
theorem ZsM(k ag v den lev:Int)(W:List Int):3<=(Zch k ag v den lev W).length/\(Zch k ag v den lev W).length=W.length+(if k=1 then 4 else 3):=by unfold Zch;split<;>simp
theorem ZsN{nm:List UInt8} {k ag v den lev:Int} {W:List Int} (hn:Zam nm=true):cutL (Lib.join (ZbL nm k ag v den lev W) [32])=ZbL nm k ag v den lev W:=by
 refine ZlT _ (by rw[ZiD];simp) fun x hx=>?_;rw[ZiD]at hx;rcases Zwa.1 hx with rfl|hx;·exact fun c hc=>(ZsK hn c hc).1
 rcases Zwa.1 hx with rfl|hx;·split<;>decide
 ·obtain⟨n,-,rfl⟩:=Zwe.1 hx;exact fun c hc=>((Zr7 n).2 c hc).1
section
variable {P:Program} {f:Operand->Value} {o:Oper} {t ty:TypeId} {p q:Operand} {b:Nat} {v0 v1 v2 u0 u1 u2 u3 u4 u5 u6:Value} {x:World}
theorem ZsO(ho:o.op=.store t p q)(h0:v0.oneCell'=true)(h1:v1.oneCell'=true)(h2:v2.oneCell'=true)(hsz:Sem.run P (sizeOf t) x=.ok 3 x)(hp:f p=.pointer (some ⟨b,4,none⟩))(hq:f q=.agg #[v0,v1,v2])(hz:x.heap[b]?=some (.cells #[u0,u1,u2,u3,u4,u5,u6] ty (0,0))):(execOp f o).run P x=.ok .skip (((x.setCell ⟨b,4,none⟩ v0).setCell ⟨b,5,none⟩ v1).setCell ⟨b,6,none⟩ v2):=by have Cz:=bk7 hz;unfold execOp;rw[ho];simp[go_sem,hp,hq,Cz,hsz,run_store _ _ _ v0 _ h0,run_store _ _ _ v1 _ h1,run_store _ _ _ v2 _ h2]
theorem ZsP{n:Int} (ho:o.op=.store t p q)(hsz:Sem.run P (sizeOf t) x=.ok 1 x)(hp:f p=.pointer (some ⟨b,3,none⟩))(hq:f q=.int .i64 n)(hz:x.heap[b]?=some (.cells #[u0,u1,u2,u3,u4,u5,u6] ty (0,0))):(execOp f o).run P x=.ok .skip (x.setCell ⟨b,3,none⟩ (.int .i64 n)):=by have Cz:=bk7 hz;unfold execOp;rw[ho];simp[go_sem,hp,hq,Cz,hsz]
end
theorem ZsQ(nm:List UInt8)(v den lev:Int)(W:List Int)(wn:Nat)(w:World)(hnm:nm.length<=20)(hnb:Zam nm=true)(hR:NumsR 0 v den lev W)(hwn:W.length=wn)(ht:Tabs w):Calls prog 78 #[.string (bs (Lib.join (ZbL nm 0 0 v den lev W) [32]))] w fun e w'=>(∃A c,e=.returned (.tuple #[.agg #[.string (bs nm),.int .i64 0,.int .i64 0,.int .i64 v,.int .i64 den,.int .i64 lev,.slice A wn c],.int .i64 0])/\At 1 Zc w' A W)/\Below w.heap.size w w':=by
 have hlen:=Zsl (k:=0) hnm hR;have hSp:=Zu3 fun W' (hb:Below w.heap.size w W')=>Zsc (bs (Lib.join (ZbL nm 0 0 v den lev W) [32])) W' (by rw[Zgx];omega) (ht.below hb);simp only[ZeB,ZsN hnb]at hSp;obtain⟨hw1,hw2,-⟩:=ZlY (k:=0) hnm hR;have hnN:∀x∈Zch 0 0 v den lev W,x.natAbs<10^(12+1):=fun x hx=>by
  have h1:=hR.ag;have h2:=hR.v;have h3:=hR.den;have h4:=hR.lev;unfold Zch at hx;split at hx
  ·simp only[Zwa]at hx;rcases hx with rfl|rfl|rfl|rfl|hx;·omega
   ·omega
   ·omega
   ·omega
   ·have:=hR.wt x hx;omega
  ·simp only[Zwa]at hx;rcases hx with rfl|rfl|rfl|hx;·omega
   ·omega
   ·omega
   ·have:=hR.wt x hx;omega
 have hNu:=Zu3 fun(A:Option Addr)(m c:Nat)(W':World)(hb:Below w.heap.size w W')(hA:At 1 Sc W' A ((Zch 0 0 v den lev W).map Lib.itoa))(hm:(Zch 0 0 v den lev W).length=m)(h9:m<=900)=>Zsg A (Zch 0 0 v den lev W) 12 m c W' (by decide) hnN hA hm h9 (ht.below hb);obtain⟨S,hS⟩:∃S,bs (Lib.join (ZbL nm 0 0 v den lev W) [32])=S:=⟨_,rfl⟩;rw[hS]at hSp |-;rw[ZiD]at hSp;have e13:((12+1:Nat):Int)=13:=rfl;simp only[e13]at hNu;have hR':=Zu3 hR;have hnb':=Zu3 hnb;have hs7:∀x,(sizeOf 80).run prog x=.ok 7 x:=fun x=>by kernel_rfl
 have ha7:∀x,(isAgg 80).run prog x=.ok true x:=fun x=>by kernel_rfl
 have hv1:=Zu3 fun W=>Zbx v 0 1000 W;have hv2:=Zu3 fun W=>Zbx den 1 1000000000000 W;have hv3:=Zu3 fun W=>ZhZ lev 1000000000000 W (by decide);rw[Zbe.2 hR.v]at hv1;rw[Zbe.2 hR.den]at hv2;rw[show Zbd lev 1000000000000=true from Zbe.2 (by have:=hR.lev;omega)]at hv3;have hNm:=Zu3 fun W=>Ze2 (bs nm) W (by rw[Zgx];omega);rw[ZeB,hnb]at hNm;have hAs:=Zu3 fun W=>Zff 0 0 W;rw[ZkD.2 ⟨.inl rfl,hR.ag.1,hR.ag.2⟩]at hAs;clear hlen hw1 hw2 hnN hS ht hR hnb;obtain⟨q1,q2,q3,q4⟩:=ZsL;obtain⟨l1,l2⟩:=ZsM 0 0 v den lev W;have hW8:=hR'.out.n;obtain⟨N,hN⟩:∃N,Zch 0 0 v den lev W=N:=⟨_,rfl⟩;have hN':=Zu3 hN;rw[hN]at hSp hNu l1 l2;obtain⟨m,hm⟩:∃m,N.length=m:=⟨_,rfl⟩;have hm':=Zu3 hm;obtain⟨n,hn⟩:∃n,m+1+1=n:=⟨_,rfl⟩;simp only[ZvS,ZvU,hm,hn]at hSp hNu;have l2':=Zu3 l2;have hm3:3<=m:=by omega
 have hm12:m<=12:=by split at l2<;>omega
 have hnI:¬(n:Int)<2:=by omega
 have hn0:(0:Int)<(n:Int):=by omega
 have hn1:(1:Int)<(n:Int):=by omega
 have hn2:(2:Int)<=(n:Int):=by omega
 have hmn:n-2=m:=by omega
 have hmI:¬(m:Int)<3:=by omega
 have hmI0:(0:Int)<(m:Int):=by omega
 have hmI1:(1:Int)<(m:Int):=by omega
 have hmI2:(2:Int)<(m:Int):=by omega
 clear hN hm hn l1 l2 hW8 e13;simp only[show ¬((0:Int)=1)by decide,if_false]at hSp;go_enter func78,ntmps78;go_wp2_with (first|(go_at_call 142;refine(hSp.out _ (by go_grown)).mono ?_;rintro e w2 ⟨⟨A,c,rfl,hAt,hnc⟩,hb2⟩;(obtain⟨b,o,rfl,hbs,hc0⟩:=hAt 0 _ rfl);(obtain⟨b',o',e1,-,hc1⟩:=hAt 1 _ rfl);cases e1;(have y0:=hc0 0 _ rfl);(have y1:=hc1 0 _ rfl);(have hAt2:=Zu3 (hAt.tail1 2));simp only[ZwC,Zw1,Nat.one_mul]at y0 y1;(have M0:=Zw hb2 (Zz w (.cells #[.string (ByteArray.mk #[]),.int .i64 0,.int .i64 0,.int .i64 0,.int .i64 0,.int .i64 0,.slice none 0 0] 80 (0,0)) rfl));(have hs2:=ZI M0);(have hbw2:=via (ZB w (.cells #[.string (ByteArray.mk #[]),.int .i64 0,.int .i64 0,.int .i64 0,.int .i64 0,.int .i64 0,.slice none 0 0] 80 (0,0))) hb2);clear hAt hc0 hc1 hb2)|(go_at_call 143;refine(hNu.out _ m _ _ hbw2 (by have:=hAt2.out;simpa using this) rfl (by omega)).mono ?_;rintro e w3 ⟨⟨A2,c2,rfl,hO3⟩,hb3⟩;(have z0:=Zdi y0 hb3);(have z1:=Zdi y1 hb3);(have M1:=Zw hb3 M0);(have hbw3:=via hbw2 hb3);(have hO3':=Zu3 hO3);(have hbs3:=ZwK hbs hb3.size);clear hO3 hb3 y0 y1 M0)|(refine Zbc (by with_reducible rfl) (.tmp 7) (.tmp 40) 80 (by with_reducible rfl) w3.heap.size [.string (bs nm),.int .i64 0,.int .i64 0,.int .i64 0,.int .i64 0,.int .i64 0,.slice none 0 0] [.string (ByteArray.mk #[]),.int .i64 0,.int .i64 0,.int .i64 0,.int .i64 0,.int .i64 0,.slice none 0 0] 80 ?sp ?sq (hs7 _) ?sb rfl (by simp[Value.oneCell']) ?_));case sp=>rfl
 case sq=>rfl
 case sb=>exact Zz _ _ rfl
 intro w4 hblk4 hg4 hsz4;have hs03:=ZI M1;have hb34:Below w3.heap.size w3 w4:=Z4 (ZB _ _) hg4 fun b e=>by cases e;exact ZwG _
 have x0:=Zdi z0 hb34;have x1:=Zdi z1 hb34;have M2:=Zw hb34 M1;have hb4:=via hbw3 hb34;have hL:=Zu3 (ZaZ hO3'.out);have hL4:=Zu3 ((ZaZ hO3'.out).below hb34);have hNe:N=v::den::lev::W:=by rw[<-hN'.out];rfl
 subst hNe;have hmc2:m<=c2:=Zcx hO3'.out;have hmw:m-3=wn:=by have:=hm'.out;simp at this;omega
 obtain⟨B2,o2,rfl,hB3,c0⟩:=Zar hL.out (k:=0) (by simp);obtain⟨_,_,ee,-,c1⟩:=Zar hL.out (k:=1) (by simp);cases ee;obtain⟨_,_,ee,-,c2'⟩:=Zar hL.out (k:=2) (by simp);cases ee;simp only[Zvx,Zvw,ZwC]at c0 c1 c2';have e0:=Zdi c0 hb34;have e1:=Zdi c1 hb34;have e2:=Zdi c2' hb34;have hB2:=ZwK hB3 hb34.size;have hB2n:B2≠w3.heap.size:=by omega
 have hB2w:B2≠w.heap.size:=by have:=(hO3'.out.lt B2 rfl).1;omega
 clear c0 c1 c2';have F0:=bk7 M2;have F4:=bk7 hblk4;clear hg4 hsz4 hb34 M1 z0 z1 hbw2;have hbX:=hb4;have hblkX:=hblk4;have hTl:=Zu3 (hL4.out.tail1 3);simp only[ZwR]at hTl;clear hb4 hblk4 hL4 hL;go_wp2;refine wp_region_any (by kernel_rfl) ?_;refine Zgh 15 _ rfl rfl (by kernel_rfl) (by kernel_rfl) (by kernel_rfl) (by kernel_rfl) ?_;simp only[Zwv,Zwx];apply Zsh w 13 w3.heap.size (.cells #[.string (bs nm),.int .i64 0,.int .i64 0,.int .i64 0,.int .i64 0,.int .i64 0,.slice none 0 0] 80 (0,0)) (.cells #[.string (bs nm),.int .i64 0,.int .i64 0,.int .i64 v,.int .i64 0,.int .i64 0,.slice none 0 0] 80 (0,0));case hB=>kernel_rfl
 case hB'=>kernel_rfl
 case hS=>kernel_rfl
 case hN=>kernel_rfl
 case hkd=>kernel_rfl
 case hw=>exact hbX
 case hb=>exact hbw3.size
 case h4=>exact hblkX
 case hq=>
  intro u hu hgc;have hB2u:=ZwK hB2 hu.2.1;have G0:=(World.cell?_of_block (a:=⟨B2,o2,none⟩) (hu.2.2 B2 hB2 hB2n)).trans e0;have G1:=(World.cell?_of_block (a:=⟨B2,o2+1,none⟩) (hu.2.2 B2 hB2 hB2n)).trans e1;have G2:=(World.cell?_of_block (a:=⟨B2,o2+2,none⟩) (hu.2.2 B2 hB2 hB2n)).trans e2;simp only[mixL,yieldsC,Zve,Zvh,Nat.reduceAdd,Nat.reduceBEq,ZwZ,ZuO,ZuQ,ZuJ,ZuR,ZuI,if_true,if_false,ZuP,Nat.reduceEqDiff];repeat (go_big_quiet_step (fail))
  exact wpQuiet_nil rfl
 case hs4=>intro o ho x hx hz;simp only[ZvB,ZvC,Zw8]at ho;subst ho;exact⟨_,ZsP rfl (by kernel_rfl) rfl rfl hz,(OnlyB.refl _ _).set _ _,ZD hz _ rfl⟩
 intro x hx hz;refine Zfm (ZsO rfl rfl rfl rfl (by kernel_rfl) rfl rfl hz) ?_;obtain⟨A9,hA9⟩:∃A:Option Addr,(if c2=3 then some ⟨B2,o2,none⟩else some ⟨B2,o2+3,none⟩)=A:=⟨_,rfl⟩;obtain⟨X9,hX9⟩:∃X,((x.setCell ⟨w3.heap.size,4,none⟩ (.int .i64 den)).setCell ⟨w3.heap.size,5,none⟩ (.int .i64 lev)).setCell ⟨w3.heap.size,6,none⟩ (.slice A9 wn (c2-3))=X:=⟨_,rfl⟩;have hO9:OnlyB w3.heap.size x X9:=by rw[<-hX9];exact(((OnlyB.refl _ _).set _ _).set _ _).set _ _
 have Z9:X9.heap[w3.heap.size]?=some (.cells #[.string (bs nm),.int .i64 0,.int .i64 0,.int .i64 v,.int .i64 den,.int .i64 lev,.slice A9 wn (c2-3)] 80 (0,0)):=by rw[<-hX9];exact ZD (ZD (ZD hz _ rfl) _ rfl) _ rfl
 have hz9:x.heap.size=X9.heap.size:=by rw[<-hX9];simp
 simp only[hmw,hA9];rw[hX9];have hk9:∀k,k<w4.heap.size->k≠w3.heap.size->X9.heap[k]?=w4.heap[k]?:=fun k h1 h2=>(hO9.other k h2).trans (hx.2.2 k h1 h2);have hb9:Below w.heap.size w X9:=hx.1.trans (hO9.below _ hbw3.size);have M9:=(hk9 w.heap.size (ZI M2) (by omega)).trans M2;have hL9:=Zu3 (show At 1 Zc X9 A9 W from by
  rw[<-hA9];split
  ·have h0:wn=0:=by omega
   rw[Zvn (hwn.trans h0)];exact fun k x hx=>by simp at hx
  ·exact Zil (hTl.out) (by have:=hx.2.1;omega) fun g e=>by cases e;exact hk9 _ hB2 hB2n);have F9:=bk7 Z9;have J0:=bk7 M9;clear hX9 hk9 hO9 hz9 hx hz hTl e0 e1 e2 hblkX M2;go_wp2_with (first
  |(go_at_call 110;first|(refine Calls.mono (by with_reducible exact hv1.out _) ?_;rintro e w' ⟨rfl,rfl⟩)|(refine Calls.mono (by with_reducible exact hv2.out _) ?_;rintro e w' ⟨rfl,rfl⟩))|(go_at_call 125;refine(hv3.out _).mono ?_;rintro e w' ⟨rfl,rfl⟩));go_loopw [8,105] (fun r i wr=>∃j:Nat,j<=wn/\r=.bool true/\i=.int .i64 j/\wr=X9)(fun _ i _=>wn-(intOf i).toNat);case atStart=>exact⟨0,Zw0 _,rfl,rfl,rfl⟩
 case round=>
  obtain⟨j,hj,rfl,rfl,rfl⟩:=hrel;by_cases hlt:j<wn
  ·have hjI:(j:Int)<(wn:Int):=by omega
   obtain⟨b3,o3,rfl,hs3,c4⟩:=Zar hL9.out (k:=j) (by rw[hwn];exact hlt);obtain⟨y,hy⟩:∃y,W.getD j 0=y:=⟨_,rfl⟩;have hyb:0<=y/\y<=1000000000000:=by rw[<-hy,Zvy,ZvD (by omega)];exact hR'.out.wt _ (ZvP _)
   rw[hy]at c4;have hvy:=Zu3 fun W=>Zbx y 0 1000000000000 W;rw[Zbe.2 hyb]at hvy;go_wp2_with (go_at_call 110;refine(hvy.out _).mono ?_;rintro e w' ⟨rfl,rfl⟩);go_roundw;case rel=>exact⟨j+1,by omega,by first|rfl|trivial,by go_num,by first|rfl|trivial⟩
   case measure=>simp[intOf]<;>omega
  ·obtain rfl:wn=j:=by omega
   have hW8:=hR'.out.n;have hwn8:(wn:Int)<=8:=by omega
   have hwn8b:decide ((wn:Int)<=8)=true:=by simpa using hwn8
   go_wp2;refine ZaM w 15 (by kernel_rfl) (by kernel_rfl) hb9 ?_;intro hgc hbx;simp only[Zwv,Zwx,Zvk,Zvl];repeat (go_big_quiet_step (first|(go_at_call 112;with_reducible exact Grew.call (hNm.out _))|(go_at_call 59;with_reducible exact Grew.call (hAs.out _))|(go_at_call 103;with_reducible exact Zd (ZaK _ _ _))))
   refine wpQuiet_nil ?_;intro wb hb_wb hw_wb hs_wb;clear hgc hbx;have Q9:=Zw hb_wb Z9;have P9:=Zw hb_wb M9;have hLb:=Zu3 (hL9.out.below hb_wb);have hbb:=via hb9 hb_wb;clear Z9 M9 F9 J0;go_wp2_with (first
    |(go_at_call 100;refine(Zcb _ _ _ _ _).mono ?_;rintro e w' ⟨rfl,rfl⟩)|(refine Zep (by with_reducible rfl) (.tmp 7) 80 (by with_reducible rfl) w3.heap.size [.string (bs nm),.int .i64 0,.int .i64 0,.int .i64 v,.int .i64 den,.int .i64 lev,.slice A9 wn (c2-3)] 80 ?lp (ha7 _) (hs7 _) ?lb ?_)|(refine Zbc (by with_reducible rfl) (.tmp 2) (.tmp 136) 80 (by with_reducible rfl) w.heap.size [.string (bs nm),.int .i64 0,.int .i64 0,.int .i64 v,.int .i64 den,.int .i64 lev,.slice A9 wn (c2-3)] [.string (ByteArray.mk #[]),.int .i64 0,.int .i64 0,.int .i64 0,.int .i64 0,.int .i64 0,.slice none 0 0] 80 ?sp2 ?sq2 (hs7 _) ?sb2 rfl (by simp[Value.oneCell']) ?_));case lp=>rfl
   case lb=>exact Zy Q9 _
   all_goals try (case sp2=>rfl)
   all_goals try (case sq2=>rfl)
   case sb2=>exact Zy P9 _
   intro w9 hblk9 hg9 hsz9;have hb9f:Below w.heap.size w w9:=Z4 (via hbb (ZB _ _)) hg9 fun b e=>by have:=Zw7 e;omega
   have hLf:=Zu3 (Zik (hLb.out.below (ZB _ _)) hg9 fun g e=>by rw[<-hA9]at e;split at e<;>(cases e;intro h;exact hB2w (Zw7 h)));go_wp2;refine bodyPost_ret (v:=.tuple #[.agg #[.string (bs nm),.int .i64 0,.int .i64 0,.int .i64 v,.int .i64 den,.int .i64 lev,.slice A9 wn (c2-3)],.int .i64 0]) ?_ rfl ⟨⟨A9,c2-3,rfl,hLf.out⟩,hb9f⟩;exact Zaw (p:=2) (u:=3) (ad:=⟨w.heap.size,0,none⟩) (v:=.agg #[.string (bs nm),.int .i64 0,.int .i64 0,.int .i64 v,.int .i64 den,.int .i64 lev,.slice A9 wn (c2-3)]) rfl (by rfl) (Z6 (T:=80) (cs:=[.string (bs nm),.int .i64 0,.int .i64 0,.int .i64 v,.int .i64 den,.int .i64 lev,.slice A9 wn (c2-3)]) (ha7 _) (hs7 _) hblk9)
end Go.Proofs
namespace Go.Proofs
open Tryz
open Go.RowKit Go.Twin Go.Conc
def ZeC:List UInt8:=[111,108,100,49]
theorem ZsR:NumsR 0 30 1 10 [20]:=⟨by decide,by decide,by decide,by decide,by decide,by decide⟩
theorem ZsS(B:Option Addr):Zev ZV (ZM B) (bs ZeC) 0 0 30 1 10 [20]=0:=by
 have hx:exs (ZM B)=exs (ZM none):=rfl;refine Zrw (Zdk B) (by decide+kernel) (ZkD.2 (by decide)) (by decide) ?_ ?_ ?_;·exact Zgk.1 (show Zbp 1 1 10 [20]=0 by decide+kernel)
 ·rw[hx];decide+kernel
 ·rw[hx];decide+kernel
theorem ZsT:bs (Lib.join (ZbL ZeC 0 0 30 1 10 [20]) [32])=ByteArray.mk #[111,108,100,49,32,109,101,97,110,32,51,48,32,49,32,49,48,32,50,48]:=by
 have h:Lib.join (ZbL ZeC 0 0 30 1 10 [20]) [32]=[111,108,100,49,32,109,101,97,110,32,51,48,32,49,32,49,48,32,50,48]:=by decide+kernel
 rw[h];rfl
def tmps4(A A2:Option Addr)(b14 p1:Nat)(C C2 X:Option Addr)(x:Nat)(Y:Option Addr)(y p3:Nat)(D D2:Option Addr)(p5:Nat)(F F2:Option Addr):Array Value:=#[.bool false,.pointer (some ⟨p1,0,none⟩),.int .i64 0,.pointer (some ⟨p3,0,none⟩),.int .i64 0,.pointer (some ⟨p5,0,none⟩),.int .i64 0,.int .i64 1,.int .i64 0,undef,undef,.tuple #[.agg #[.int .i64 30,.int .i64 1],.int .i64 0],.agg #[.slice A 2 2,.slice A2 1 1],.agg #[.int .i64 0,.int .i64 0],.slice (some ⟨b14,0,none⟩) 1 1,.agg #[.int .i64 1,.int .i64 10,.slice (some ⟨b14,0,none⟩) 1 1],.tuple #[.agg #[.int .i64 30,.int .i64 1],.int .i64 0],.agg #[.int .i64 30,.int .i64 1],.int .i64 0,.tuple #[ZbM X x Y y,.int .i64 0],.agg #[.slice C 2 2,.slice C2 1 1],.agg #[.int .i64 1,.int .i64 50],.tuple #[ZbM X x Y y,.int .i64 0],ZbM X x Y y,.int .i64 0,.tuple #[.agg #[.int .i64 500,.int .i64 1000],.int .i64 0],.agg #[.slice D 2 2,.slice D2 1 1],.tuple #[.agg #[.int .i64 500,.int .i64 1000],.int .i64 0],.agg #[.int .i64 500,.int .i64 1000],.int .i64 0,.tuple #[.int .i64 1,.int .i64 0],.agg #[.slice F 2 2,.slice F2 1 1],.agg #[.int .i64 4,.int .i64 5],.tuple #[.int .i64 1,.int .i64 0],.int .i64 1,.int .i64 0,zu,zu,zu,zu,zu,zu,zu,zu,zu,zu,zu,zu,zu,zu,zu,zu,zu,zu,zu,zu,zu,zu,zu,zu,zu,zu,zu,zu,zu,zu,zu,zu,zu,zu,zu,zu,zu,zu,zu,zu,zu,zu,zu,zu,zu,zu,zu,zu]
theorem ZsU(A A2:Option Addr)(b14 p1:Nat)(C C2 X:Option Addr)(x:Nat)(Y:Option Addr)(y p3:Nat)(D D2:Option Addr)(p5:Nat)(F F2:Option Addr)(w:World)(ht:Tabs w)(n1:w.heap[p1]?=some (.cells #[.int .i64 30,.int .i64 1] 30 (0,0)))(n3:w.heap[p3]?=some (Zdl X x Y y))(n5:w.heap[p5]?=some (.cells #[.int .i64 500,.int .i64 1000] 60 (0,0))):aw5.wp prog (bodyPost prog Tryz.f18 fun e w'=>e=.returned (.bool true)/\Below w.heap.size w w') ⟨tmps4 A A2 b14 p1 C C2 X x Y y p3 D D2 p5 F F2,[]⟩ w:=by
 simp only[codeHd,codeTl,aw5,aw4,aw3,aw2,aw1,awBody,Tryz.f18,Zw3,tmps4,ZbM];have hPa:=Zu3 fun W (hb:Below w.heap.size w W)=>ZsQ ZeC 30 1 10 [20] 1 W (by decide) (by decide+kernel) ZsR rfl (ht.below hb);rw[ZsT]at hPa;have hOl:=Zu3 fun W=>ZgB W;have hCk:=Zu3 fun W A A2 B C c (hB:BookAt W A 2 ZV A2 1 (ZM B)) (hC:At 1 Zc W C [20])=>Zrl A A2 C 2 1 2 1 c 1 ZV (ZM B) (bs ZeC) 0 0 30 1 10 [20] W hB (Zfv B) rfl rfl (by decide+kernel) hC rfl (by decide);have hs7:∀x,(sizeOf 80).run prog x=.ok 7 x:=fun x=>by kernel_rfl
 have Q1:=Zu3 n1;have Q3:=Zu3 n3;have Q5:=Zu3 n5;clear ht n1 n3 n5;go_wp2_with (first|(go_at_call 78;refine(hPa.out _ (ZuC _ _)).mono ?_;rintro e w3 ⟨⟨G,c,rfl,hC⟩,hb3⟩;(have hC':=Zu3 hC);clear hC));have hbw3:=hb3;refine Zbn ?_;intro u0 hx;have X1:u0.heap[p1]?=some (.cells #[.int .i64 30,.int .i64 1] 30 (0,0)):=by rw[hx];exact Zy (Zw hbw3 Q1.out) _
 have X3:u0.heap[p3]?=some (Zdl X x Y y):=by rw[hx];exact Zy (Zw hbw3 Q3.out) _
 have X5:u0.heap[p5]?=some (.cells #[.int .i64 500,.int .i64 1000] 60 (0,0)):=by rw[hx];exact Zy (Zw hbw3 Q5.out) _
 have X9:u0.heap[w3.heap.size]?=some (.cells #[.string (bs ZeC),.int .i64 0,.int .i64 0,.int .i64 30,.int .i64 1,.int .i64 10,.slice G 1 c] 80 (0,0)):=by rw[hx];exact Zz w3 _ rfl
 have hbx:Below w.heap.size w u0:=by rw[hx];exact via hbw3 (ZB _ _)
 have hCx:=Zu3 (show At 1 Zc u0 G [20]by rw[hx];exact hC'.out.below (ZB _ _));clear hx hC' hb3 hbw3 Q1 Q3 Q5;unfold Zdl at X3;refine wp_region_any (by kernel_rfl) ?_;apply ZlJ w (fun y=>Below u0.heap.size u0 y) [39,41] (fun j g=>if j=39 then .agg #[.slice g.a1 2 2,.slice g.a2 1 1]else .int .i64 0)
  (fun L g y=>L 39=true->∃B,BookAt y (g 39).a1 2 ZV (g 39).a2 1 (ZM B));case hB=>kernel_rfl
 case hB'=>intro g;kernel_rfl
 case hS=>kernel_rfl
 case hN=>kernel_rfl
 case hC0=>exact ZuC _ _
 case hCs=>exact fun y y' h hb=>h.trans (hb.mono h.size)
 case hCw=>exact fun y h=>via hbx h
 case h0=>intro L h h13;rw[h 39 (by simp)]at h13;cases h13
 case hst=>intro L L' g y y' h hJ hb h13;obtain⟨B,hB⟩:=hJ (by rw[<-h 39 (by simp)];exact h13);exact⟨B,hB.below hb⟩
 case hq=>
  have hEq:∀W,(binOp .eql 30 (.agg #[.int .i64 30,.int .i64 1]) (.agg #[.int .i64 30,.int .i64 1])).run prog W=.ok (.bool true) W:=fun W=>by kernel_rfl
  have hEq2:∀W,(binOp .eql 30 (.agg #[.int .i64 1,.int .i64 2]) (.agg #[.int .i64 1,.int .i64 2])).run prog W=.ok (.bool true) W:=fun W=>by kernel_rfl
  have hEq3:∀W,(binOp .eql 60 (.agg #[.int .i64 500,.int .i64 1000]) (.agg #[.int .i64 500,.int .i64 1000])).run prog W=.ok (.bool true) W:=fun W=>by kernel_rfl
  intro g u hu hgc hbx hbX;have D1:=bk2 (Zw hu X1);have D3:=bk7 (Zw hu X3);have D5:=bk2 (Zw hu X5);have D9:=bk7 (Zw hu X9);simp only[mixL,yieldsC,Zve,Zvh,Nat.reduceAdd,Nat.reduceBEq,ZwZ,ZuO,ZuQ,ZuJ,ZuR,ZuI,if_true,if_false,ZuP,Nat.reduceEqDiff];repeat (go_big_quiet_step (fail))
  exact wpQuiet_nil rfl
 case hind=>intro j hj;simp only[Zwa,Zwl,or_false]at hj;rcases hj with rfl|rfl<;>(intro g h;kernel_rfl)
 case hwa=>intro g j hj;simp only[Zwa,Zwl,or_false]at hj;rcases hj with rfl|rfl<;>(intro o ho;simp only[List.getElem?_toArray,ZvB,ZvC,Zw8]at ho;subst ho;kernel_rfl)
 case hsp=>
  intro j hj o ho L g y hJ hC hb0 hL hafter hclo;simp only[Zwa,Zwl,or_false]at hj;rcases hj with rfl|rfl;·simp only[ZvB,ZvC,Zw8]at ho;subst ho;refine Zce (by kernel_rfl) ((hOl.out y).mono ?_);rintro e y' ⟨⟨A5,A6,B5,rfl,hB5,-⟩,hb⟩;refine⟨_,rfl,hC.trans (hb.mono hC.size),.inr ⟨{Gh.zero with a1:=A5,a2:=A6},rfl,fun _=>?_⟩⟩;rw[Z5];exact⟨B5,hB5⟩
  ·simp only[ZvB,ZvC,Zw8]at ho;subst ho;have h13:L 39=true:=hafter ⟨39,.data⟩ (by simp) rfl;obtain⟨B5,hB5⟩:=hJ h13;refine Zce (by kernel_rfl) ((hCk.out y _ _ B5 G c hB5 (hCx.out.below hC)).mono ?_);rw[ZsS];rintro e y' ⟨rfl,hb⟩;refine⟨_,rfl,hC.trans (hb.mono hC.size),.inr ⟨Gh.zero,rfl,fun _=>?_⟩⟩;rw[upd_ne (by decide)];exact⟨B5,hB5.below hb⟩
 intro g y hJ hC hb0;clear hJ;go_wp2;go_ret;exact⟨rfl,hb0⟩
theorem Tabs.old{w w':World} (h:Tabs w)(ho:Old w w'):Tabs w':=by have:=h.below (⟨rfl,rfl,rfl,ho.size,ho.get⟩:Below w.heap.size w {w' with os:=w.os,tape:=w.tape,output:=w.output});obtain⟨⟩:=this;constructor<;>assumption
theorem ZsV{Stop:Frame->List Frame->World->Prop} {A A2:Option Addr} {b14 p1:Nat} {C C2 X:Option Addr} {x:Nat} {Y:Option Addr} {y p3:Nat} {D D2:Option Addr} {p5:Nat} {F F2:Option Addr} {l:World} {B:Blk} (hs:Self ZJ (fun _=>False) B l) (ha:AR ZJ B (tmps4 A A2 b14 p1 C C2 X x Y y p3 D D2 p5 F F2) (tmps4 A A2 b14 p1 C C2 X x Y y p3 D D2 p5 F F2)) (ht:Tabs l) (n1:l.heap[p1]?=some (.cells #[.int .i64 30,.int .i64 1] 30 (0,0))) (n3:l.heap[p3]?=some (Zdl X x Y y)) (n5:l.heap[p5]?=some (.cells #[.int .i64 500,.int .i64 1000] 60 (0,0)))(k:∀f l',Ret prog (fun v _=>v=.bool true) f [ZE prog] l'->f.fn=18->Old l l'->Stop f [ZE prog] l'):LG ZN Stop ((Go.Conc.base 18).at ⟨tmps4 A A2 b14 p1 C C2 X x Y y p3 D D2 p5 F F2,[]⟩ [.code aw5]) [ZE prog] l:=by refine Zhm (E0:=ZJ) (E:=ZN) (fn:=Tryz.f18) (R:=fun v w=>v=.bool true/\Old l w) ZR Za6 ZS hs ha rfl (by kernel_rfl) func18 (fun t d=>ZgG (ZsU A A2 b14 p1 C C2 X x Y y p3 D D2 p5 F F2 (l.re t d) (ht.old ((Old.refl l).re t d)) n1 n3 n5) fun e w h=>⟨_,h.1,rfl,Ze h.2⟩) fun f l' hret hfn=>.stop _ _ _ ?_;obtain⟨hc,v,t,d,hl,rfl,ho⟩:=hret;exact k f l' ⟨hc,_,t,d,hl,rfl⟩ hfn ⟨ho.size,ho.get⟩
end Go.Proofs
namespace Go.Proofs
open Go.RowKit Go.Twin Go.Conc
def Aw4:Prop:=∀(Post:Value->World->Prop)(W l0:World)(OldB:Blk)(bs':List Frame),(∀b x,OldB b x->(fun _:Nat=>False) b∨(b=x/\x<l0.heap.size/\l0.heap[x]?=W.heap[x]?/\ZN.sh=false/\ZN.junk=false))->∀(A A2:Option Addr) (b14 p1:Nat) (C C2 X:Option Addr) (x:Nat) (Y:Option Addr) (y p3:Nat) (D D2:Option Addr) (p5:Nat) (cs:List Frame) (l:World) (B:Blk),cs≠[]->Self ZJ (fun _=>False) B l->AR ZJ B (tmps3 A A2 b14 p1 C C2 X x Y y p3 D D2 p5) (tmps3 A A2 b14 p1 C C2 X x Y y p3 D D2 p5)->Old l0 l->(∀F F2 l' B',B.le B'->Self ZJ (fun _=>False) B' l'->AR ZJ B' (tmps4 A A2 b14 p1 C C2 X x Y y p3 D D2 p5 F F2) (tmps4 A A2 b14 p1 C C2 X x Y y p3 D D2 p5 F F2)->Old l l'->LG ZN (StopG ZN Post W l0 OldB (fun _=>False) bs') ((Go.Conc.base 18).at ⟨tmps4 A A2 b14 p1 C C2 X x Y y p3 D D2 p5 F F2,[]⟩ [.code aw5]) cs l')->LG ZN (StopG ZN Post W l0 OldB (fun _=>False) bs') ((Go.Conc.base 18).at ⟨tmps3 A A2 b14 p1 C C2 X x Y y p3 D D2 p5,[]⟩ [.code aw4]) cs l
theorem awake_of(h4:Aw4) {w:World} (hg:GlobOk w)(ht:Tabs (Z0 w)):Zc1 Tryz.prog (Frame.enter Tryz.prog 18 #[] .normal) w fun v=>v=.bool true:=by refine Zr1 hg (fun Post c ca hend=>?_) rfl;refine ZsJ (by simp) hg fun A A2 b14 p1 C C2 X x Y y p3 D D2 p5 l1 B1 hle1 hs1 ha1 n1 n3 n5 ho1=>?_;refine h4 Post w (Z0 w) awB (c::ca) (Zl7 hg) A A2 b14 p1 C C2 X x Y y p3 D D2 p5 _ l1 B1 (by simp) hs1 ha1 ho1 fun F F2 l2 B2 hle2 hs2 ha2 ho2=>?_;exact ZsV hs2 ha2 (ht.old (ho1.trans ho2)) (ho2.at n1) (ho2.at n3) (ho2.at n5) fun f l' hret hfn ho3=>hend f l' hret hfn (ho1.trans (ho2.trans ho3)).get
theorem ZsW(BB:Option Addr):(solvedL 2 (exs (ZM BB)) [5,1]).map (fun q=>(q.1,q.2.1))=some ([0,1],1):=by rw[ZdT];kernel_rfl
theorem ZsX(BB:Option Addr):(solvedL 2 (exs (ZM BB)) (Zai [6,2])).map (fun q=>(q.1,q.2.1))=some ([1,1],2):=by rw[ZdT];kernel_rfl
theorem Zl8(BB:Option Addr):Zav 2 (ZM BB) [5,1]=(1,1,true):=by unfold Zav;rw[ZdT];kernel_rfl
theorem Zl9(BB:Option Addr):Zav 2 (ZM BB) (Zai [6,2])=(-8,2,true):=by unfold Zav;rw[ZdT];kernel_rfl
theorem ZsY(BB:Option Addr):ZbJ 2 (ZM BB) [5,1] [6,2] 1=.tuple #[.agg #[.int .i64 1,.int .i64 4],.bool true]:=by unfold ZbJ;rw[Zl8,Zl9];kernel_rfl
section
variable {B:Blk} {bs':List Frame} {l w:World}
theorem ZsZ{sh:Nat->Prop} {A A2 BB loA upA:Option Addr} {lc uc:Nat} {fa:Frame} {cs cb:List Frame} (hB:BookAt l A 2 ZV A2 1 (ZM BB))(hL:At 1 Zc l loA [5,1])(hU:At 1 Zc l upA [6,2])(h:Rel ZN sh bs' B (Frame.enter ZN.P 107 #[.agg #[.slice A 2 2,.slice A2 1 1],.slice loA 2 lc,.slice upA 2 uc,.int .i64 1] .normal) cs l fa cb w):Zc1 Tryz.prog fa w fun v=>v=.tuple #[.agg #[.int .i64 1,.int .i64 4],.bool true]:=by
 have ht:=h.st.head.tmps;have hf:=Zir (.agg #[.slice A 2 2,.slice A2 1 1]) (.slice loA 2 lc) (.slice upA 2 uc) (.int .i64 1);have e0:(Frame.enter ZN.P 107 #[.agg #[.slice A 2 2,.slice A2 1 1],.slice loA 2 lc,.slice upA 2 uc,.int .i64 1] .normal).tmps=#[.agg #[.slice A 2 2,.slice A2 1 1],.slice loA 2 lc,.slice upA 2 uc,.int .i64 1]++Array.replicate 52 undef:=by show (Frame.enter Tryz.prog _ _ _).tmps=_;rw[hf];rfl
 rw[e0]at ht;have t0:=ht.getD 0 (undefR (G:=ZN) (B:=B));have t1:=ht.getD 1 (undefR (G:=ZN) (B:=B));have t2:=ht.getD 2 (undefR (G:=ZN) (B:=B));have g0:((#[.agg #[.slice A 2 2,.slice A2 1 1],.slice loA 2 lc,.slice upA 2 uc,.int .i64 1]++Array.replicate 52 undef:Array Value).getD 0 undef)=.agg #[.slice A 2 2,.slice A2 1 1]:=by simp[Array.getD]
 have g1:((#[.agg #[.slice A 2 2,.slice A2 1 1],.slice loA 2 lc,.slice upA 2 uc,.int .i64 1]++Array.replicate 52 undef:Array Value).getD 1 undef)=.slice loA 2 lc:=by simp[Array.getD]
 have g2:((#[.agg #[.slice A 2 2,.slice A2 1 1],.slice loA 2 lc,.slice upA 2 uc,.int .i64 1]++Array.replicate 52 undef:Array Value).getD 2 undef)=.slice upA 2 uc:=by simp[Array.getD]
 rw[g0]at t0;rw[g1]at t1;rw[g2]at t2;obtain⟨u1,hu1⟩:=Zn t0 (i:=0) rfl;obtain⟨u2,hu2⟩:=Zn t0 (i:=1) rfl;have nA:=ZdU (l:=l) (n:=2) (c:=2) (Zj hu1) (ZdS hB.P rfl rfl);have nE:=ZdU (l:=l) (n:=1) (c:=1) (Zj hu2) (ZdS hB.E.1 rfl rfl);have nL:=ZdU (l:=l) (n:=2) (c:=lc) (Zj t1) (ZdS hL rfl rfl);have nU:=ZdU (l:=l) (n:=2) (c:=uc) (Zj t2) (ZdS hU rfl rfl);intro Post c ca gs sl t q h0 hLv hPa kk;refine ZlG (E1:=ZN) (lows:=[5,1]) (ups:=[6,2]) rfl (fun _=>rfl) rfl (Zdk BB).right hB.E rfl (by decide) (by decide) (fun x hx=>by obtain rfl:=Zwh.1 hx;simp) ⟨hL,rfl,Zdm (by decide) (by decide),fun m d p hm=>?_⟩ hU rfl (Zdm (by decide) (by decide)) (fun m d p hm=>?_) ?_ ?_ nA nE nL nU h h0 hLv hPa (fun hv=>kk (hv.trans (show ZbJ ZV.length (ZM BB) [5,1] [6,2] 1=_ from ZsY BB)));·have e:=ZsW BB;have hm':solvedL 2 (exs (ZM BB)) [5,1]=some (m,d,p):=hm;rw[hm']at e;cases e;exact⟨rfl,Zdm (by decide) (by decide)⟩
 ·have e:=ZsX BB;have hm':solvedL 2 (exs (ZM BB)) (Zai [6,2])=some (m,d,p):=hm;rw[hm']at e;cases e;exact⟨rfl,Zdm (by decide) (by decide)⟩
 ·unfold ZcP;have e:Zav ZV.length (ZM BB) [5,1]=_:=Zl8 BB;rw[e];intro _;exact⟨by decide,by decide⟩
 ·unfold ZcP;have e:Zav ZV.length (ZM BB) (Zai [6,2])=_:=Zl9 BB;rw[e];intro _;exact⟨by decide,by decide⟩
end
end Go.Proofs
namespace Go.Proofs
open Tryz
open Go.RowKit Go.Twin Go.Conc
attribute [local go_sem] Oper.semAt_some ZcW ZcX ZcY Zcm ZcZ Zc0
variable {es2:List En} {BB:Option Addr}
def ZgH(A A2:Option Addr)(b2 b3:Nat)(C1:Option Addr)(c1:Nat)(C2:Option Addr)(c2 b6:Nat)(L1:Option Addr)(k1:Nat)(L2:Option Addr)(k2:Nat)(u11 u33 u34 u35 u36 u37 u38 u39 u40 u41 u42 u43 u44 u45 u46 u47 u48:Value)(b12:Nat):Array Value:=#[.agg #[.slice A 2 2,.slice A2 1 1],.agg #[.int .i64 4,.int .i64 5],.pointer (some ⟨b2,0,none⟩),.pointer (some ⟨b3,0,none⟩),.int .i64 0,.int .i64 0,.pointer (some ⟨b6,0,none⟩),.int .i64 0,.slice L1 2 k1,.slice L2 2 k2,undef,u11,.pointer (some ⟨b12,0,none⟩),.bool true,.tuple #[.agg #[.slice C1 2 c1,.slice C2 3 c2],.int .i64 0],.agg #[.slice A 2 2,.slice A2 1 1],.agg #[.int .i64 4,.int .i64 5],.tuple #[.agg #[.slice C1 2 c1,.slice C2 3 c2],.int .i64 0],.agg #[.slice C1 2 c1,.slice C2 3 c2],.int .i64 0,.int .i64 0,.bool false,undef,.agg #[.slice A 2 2,.slice A2 1 1],.bool false,.bool false,.agg #[.slice C1 2 c1,.slice C2 3 c2],.bool false,.bool false,.pointer (some ⟨b2,0,none⟩),.slice A 2 2,.int .i64 2,.int .i64 2,u33,u34,u35,u36,u37,u38,u39,u40,u41,u42,u43,u44,u45,u46,u47,u48,.tuple #[.agg #[.int .i64 1,.int .i64 4],.bool true],.agg #[.slice A 2 2,.slice A2 1 1],.slice L1 2 k1,.slice L2 2 k2,.tuple #[.agg #[.int .i64 1,.int .i64 4],.bool true],.agg #[.int .i64 1,.int .i64 4],.bool true,.bool true,.bool true,.pointer (some ⟨b12,0,none⟩),.int .i64 1,.pointer (some ⟨b3,0,none⟩),.int .i64 4,.bool false,.bool false,.bool false,zu,zu,zu,zu,zu,.bool false]
theorem Zs0(A A2:Option Addr)(b2 b3:Nat)(C1:Option Addr)(c1:Nat)(C2:Option Addr)(c2 b6:Nat)(L1:Option Addr)(k1:Nat)(L2:Option Addr)(k2:Nat)(u11 u33 u34 u35 u36 u37 u38 u39 u40 u41 u42 u43 u44 u45 u46 u47 u48:Value)(b12:Nat)(w:World)(M3:w.heap[b3]?=some (.cells #[.int .i64 4,.int .i64 5] 60 (0,0)))(M12:w.heap[b12]?=some (.cells #[.int .i64 1,.int .i64 4] 60 (0,0))):agY.wp prog (fun e a' w'=>e=.normal/\a'.defers=[]/\a'.tmps=ZgH A A2 b2 b3 C1 c1 C2 c2 b6 L1 k1 L2 k2 u11 u33 u34 u35 u36 u37 u38 u39 u40 u41 u42 u43 u44 u45 u46 u47 u48 b12/\Below w.heap.size w w') ⟨Zls A A2 2 2 1 1 4 5 b2 b3 C1 c1 C2 c2 b6 L1 k1 L2 k2 u11 u33 u34 u35 u36 u37 u38 u39 u40 u41 u42 u43 u44 u45 u46 u47 u48 1 4 b12,[]⟩ w:=by simp only[agY,agX,cHd,cTl,ag6,ag5,ag4,ag3,ag2,ag1,agBody,Tryz.f35,Zw3,Zls];have D3:=bk2 M3;have D12:=bk2 M12;go_wp2;exact⟨rfl,ZuC _ _⟩
theorem Zs1(A A2:Option Addr)(b2 b3:Nat)(C1:Option Addr)(c1:Nat)(C2:Option Addr)(c2 b6:Nat)(L1:Option Addr)(k1:Nat)(L2:Option Addr)(k2:Nat)(u11 u33 u34 u35 u36 u37 u38 u39 u40 u41 u42 u43 u44 u45 u46 u47 u48:Value)(b12:Nat)(w:World):ag7.wp prog (bodyPost prog Tryz.f35 fun e w'=>e=.returned (.tuple #[.int .i64 1,.int .i64 0])/\Below w.heap.size w w') ⟨ZgH A A2 b2 b3 C1 c1 C2 c2 b6 L1 k1 L2 k2 u11 u33 u34 u35 u36 u37 u38 u39 u40 u41 u42 u43 u44 u45 u46 u47 u48 b12,[]⟩ w:=by simp only[cHd,cTl,ag7,ag6,ag5,ag4,ag3,ag2,ag1,agBody,Tryz.f35,Zw3,ZgH];go_wp2;go_ret2;exact⟨rfl,ZuC _ _⟩
theorem Zma(h:es2.map En.sig=(ZM BB).map En.sig++wcL ZV 4 5):exs es2=[([0,-2],-1),([5,1],5),([-6,-2],-4)]:=by
 have e:exs es2=(es2.map En.sig).map fun s=>(s.2.1,s.2.2):=by simp only[exs,Zv3];rfl
 rw[e,h];rfl
theorem Zs2(h:es2.map En.sig=(ZM BB).map En.sig++wcL ZV 4 5):RightE es2 2/\es2.length=3:=by
 have hl:es2.length=3:=by have:=congrArg List.length h;simpa [ZM,wcL] using this
 refine⟨⟨by omega,fun x hx=>?_⟩,hl⟩;have hm:x.ex∈exs es2:=List.mem_map_of_mem hx;rw[Zma h]at hm;have key:x.co.length=2/\(∀n∈x.co,n.natAbs<=20)/\x.mo.natAbs<=20:=by simp only[Zwa,Zwl,or_false,En.ex,Prod.mk.injEq]at hm;rcases hm with⟨h1,h2⟩|⟨h1,h2⟩|⟨h1,h2⟩<;>rw[h1,h2]<;>exact⟨rfl,by decide,by decide⟩
 exact key
theorem Zs3(BB:Option Addr):wcE ZV (ZM BB) 4 5=0:=by
 unfold wcE;rw[Zby];intro e he;simp only[Zwa,Zwl,or_false]at he;rcases he with rfl|rfl|rfl|rfl;·exact Zbz.2 (Zdk BB)
 ·decide
 ·have h1:Zcv (ZM BB) mostS=false:=by have:Zcv (ZM BB) mostS=Zcv (ZM none) mostS:=rfl;rw[this];decide+kernel
  have h2:Zcv (ZM BB) leastS=false:=by have:Zcv (ZM BB) leastS=Zcv (ZM none) leastS:=rfl;rw[this];decide+kernel
  rw[h1,h2];rfl
 ·rfl
theorem Zs4(BB:Option Addr):ZdO 2 (exs (ZM BB))=false:=by rw[ZdT];kernel_rfl
theorem Zs5(h:es2.map En.sig=(ZM BB).map En.sig++wcL ZV 4 5):ZdO 2 (exs es2)=false:=by rw[Zma h];kernel_rfl
theorem Zs6{sz:Nat} {α:Type} {cs:α->List Value} {l:World} {A:Option Addr} {xs:List α} (h:At sz cs l A xs) {x:α} (hx:xs[0]?=some x):A≠none:=by rintro rfl;obtain⟨b,o,h1,_⟩:=h 0 x hx;cases h1
theorem Zs7 (A A2:Option Addr):Frame.enter prog 35 #[.agg #[.slice A 2 2,.slice A2 1 1],.agg #[.int .i64 4,.int .i64 5]] .normal=(Go.Conc.base 35).at ⟨Zfp A A2 2 2 1 1 4 5,[]⟩ [.code agBody]:=by rw[enter_at (fn:=Tryz.f35) (c:=Tryz.f35.body.getD .skip) _ func35 rfl];kernel_rfl
theorem BookAt.re{w:World} {pA eA:Option Addr} {pc ec:Nat} {ps:List Pa} {es:List En} (h:BookAt w pA pc ps eA ec es)(t:Nat->Question->Nat)(d:Nat):BookAt (w.re t d) pA pc ps eA ec es:=h.old ((Old.refl w).re t d)
theorem Zs8{Post:Value->World->Prop} {W l0:World} {OldB:Blk} {bs':List Frame} (hold:∀b x,OldB b x->(fun _:Nat=>False) b∨(b=x/\x<l0.heap.size/\l0.heap[x]?=W.heap[x]?/\ZN.sh=false/\ZN.junk=false)) {A A2 BB:Option Addr} {c:Frame} {cs:List Frame} {l:World} {B:Blk} (hs:Self ZJ (fun _=>False) B l)(ha:AR ZJ B #[.agg #[.slice A 2 2,.slice A2 1 1],.agg #[.int .i64 4,.int .i64 5]] #[.agg #[.slice A 2 2,.slice A2 1 1],.agg #[.int .i64 4,.int .i64 5]])(hB:BookAt l A 2 ZV A2 1 (ZM BB))(ho:Old l0 l)(k:∀l' B',Old l l'->B.le B'->Self ZJ (fun _=>False) B' l'->LG ZN (StopG ZN Post W l0 OldB (fun _=>False) bs') (c.finish (.tuple #[.int .i64 1,.int .i64 0])) cs l'):LG ZN (StopG ZN Post W l0 OldB (fun _=>False) bs') (Frame.enter prog 35 #[.agg #[.slice A 2 2,.slice A2 1 1],.agg #[.int .i64 4,.int .i64 5]] .normal) (c::cs) l:=by
 have hS:Halts (StopG ZN Post W l0 OldB (fun _=>False) bs'):=ZdA;rw[Zs7];have ha0:AR ZJ B (Zfp A A2 2 2 1 1 4 5) (Zfp A A2 2 2 1 1 4 5):=Zb (ha.append (AR.replicate 69 undefR)) (by kernel_rfl);rw[show agBody=.seq (cHd agBody) ag1 from by kernel_rfl];refine Zac hS ?_;refine ZbE (R:=fun a' w'=>(∃b2 b3,a'.tmps=Zgp A A2 2 2 1 1 4 5 b2 b3/\w'.heap[b2]?=some (.cells #[.slice A 2 2,.slice A2 1 1] 25 (0,0))/\w'.heap[b3]?=some (.cells #[.int .i64 4,.int .i64 5] 60 (0,0)))/\Old l w') ZR Za6 Zba ZS hs ha0 rfl (by kernel_rfl) (fun v w t d h=>⟨h.1,h.2.size,h.2.get⟩) (fun t d=>Code.wp_mono (fun e a' w' h=>⟨h.1,h.2.1,h.2.2.1,(Ze h.2.2.2).size,(Ze h.2.2.2).get⟩) (ZrB A A2 2 2 1 1 4 5 _)) ?_;rintro⟨tm,df⟩ l1 B1 ⟨⟨b2,b3,e1,m2,m3⟩,ho1⟩ e2 hle1 hs1 ha1;cases e1;cases e2;have hB1:=hB.old ho1;rw[show ag1=.seq (cHd ag1) ag2 from by kernel_rfl];refine Zac hS ?_;refine ZbE (R:=fun a' w'=>Zlt A A2 2 2 1 1 4 5 ZV (ZM BB) b2 b3 a'.tmps w'/\Old l1 w') ZR Za6 Zba ZS hs1 ha1 rfl (by kernel_rfl) (fun v w t d h=>⟨by obtain⟨C1,c1,C2,c2,b6,es2,g1,g2,g3,g4⟩:=h.1;exact⟨C1,c1,C2,c2,b6,es2,g1,g2,g3,g4.re t d⟩,h.2.size,h.2.get⟩) (fun t d=>Code.wp_mono (fun e a' w' h=>⟨h.1,h.2.1,h.2.2.1,(Ze h.2.2.2).size,(Ze h.2.2.2).get⟩) (ZrC A A2 2 2 1 1 4 5 ZV (ZM BB) b2 b3 (l1.re t d) (hB1.re t d) (Zfv BB) rfl rfl (fun h=>absurd h (Zs6 hB1.P rfl)) (Zs3 BB) m2 m3)) ?_;rintro⟨tm,df⟩ l2 B2 ⟨⟨C1,c1,C2,c2,b6,es2,e1,m6,hsg,hB2⟩,ho2⟩ e2 hle2 hs2 ha2;cases e1;cases e2;obtain⟨hR2,hl2⟩:=Zs2 hsg;have hBo2:=hB1.old ho2;have m2':=ho2.at m2;have m3':=ho2.at m3;rw[show ag2=.seq (cHd ag2) ag3 from by kernel_rfl];refine Zac hS ?_;refine ZbE (R:=fun a' w'=>(a'.tmps=Zgq A A2 2 2 1 1 4 5 b2 b3 C1 c1 C2 c2 b6)/\Old l2 w') ZR Za6 Zba ZS hs2 ha2 rfl (by kernel_rfl) (fun v w t d h=>⟨h.1,h.2.size,h.2.get⟩) (fun t d=>Code.wp_mono (fun e a' w' h=>⟨h.1,h.2.1,h.2.2.1,(Ze h.2.2.2).size,(Ze h.2.2.2).get⟩) (ZrD A A2 2 2 1 1 4 5 b2 b3 C1 c1 C2 c2 b6 _)) ?_;rintro⟨tm,df⟩ l3 B3 ⟨e1,ho3⟩ e2 hle3 hs3 ha3;cases e1;cases e2;rw[show ag3=.seq (cHd ag3) ag4 from by kernel_rfl];refine Zac hS ?_;refine ZbE (R:=fun a' w'=>(a'.tmps=Zgr A A2 2 2 1 1 4 5 b2 b3 C1 c1 C2 c2 b6)/\Old l3 w') ZR Za6 Zba ZS hs3 ha3 rfl (by kernel_rfl) (fun v w t d h=>⟨h.1,h.2.size,h.2.get⟩) (fun t d=>Code.wp_mono (fun e a' w' h=>⟨h.1,h.2.1,h.2.2.1,(Ze h.2.2.2).size,(Ze h.2.2.2).get⟩) (ZrE A A2 2 2 1 1 4 5 (ZM BB) es2 b2 b3 C1 c1 C2 c2 b6 (l3.re t d) (Zdk BB).right ((hBo2.old ho3).re t d).E rfl (by decide) (by decide) hR2 ((hB2.old ho3).re t d).E hl2 (Zs4 BB) (Zs5 hsg) (ho3.at m2') (ho3.at m6))) ?_;rintro⟨tm,df⟩ l4 B4 ⟨e1,ho4⟩ e2 hle4 hs4 ha4;cases e1;cases e2;rw[show ag4=.seq (cHd ag4) ag5 from by kernel_rfl];refine Zac hS ?_;refine ZbE (R:=fun a' w'=>(a'.tmps=Zgs A A2 2 2 1 1 4 5 b2 b3 C1 c1 C2 c2 b6)/\Old l4 w') ZR Za6 Zba ZS hs4 ha4 rfl (by kernel_rfl) (fun v w t d h=>⟨h.1,h.2.size,h.2.get⟩) (fun t d=>Code.wp_mono (fun e a' w' h=>⟨h.1,h.2.1,h.2.2.1,(Ze h.2.2.2).size,(Ze h.2.2.2).get⟩) (ZrF A A2 2 2 1 1 4 5 b2 b3 C1 c1 C2 c2 b6 _)) ?_;rintro⟨tm,df⟩ l5 B5 ⟨e1,ho5⟩ e2 hle5 hs5 ha5;cases e1;cases e2;have ho25:=(ho3.trans ho4).trans ho5;have hB5:=hBo2.old ho25;rw[show ag5=.seq (cHd ag5) ag6 from by kernel_rfl];refine Zac hS ?_;refine ZbE (R:=fun a' w'=>Zlu A A2 2 2 1 1 4 5 ZV b2 b3 C1 c1 C2 c2 b6 l5.heap.size a'.tmps w'/\Old l5 w') ZR Za6 Zba ZS hs5 ha5 rfl (by kernel_rfl) (fun v w t d h=>⟨h.1,h.2.size,h.2.get⟩) (fun t d=>Code.wp_mono (fun e a' w' h=>⟨h.1,h.2.1,h.2.2.1,(Ze h.2.2.2).size,(Ze h.2.2.2).get⟩) (ZrG A A2 2 2 1 1 4 5 ZV b2 b3 C1 c1 C2 c2 b6 (l5.re t d) (hB5.re t d).P rfl (by decide) (by decide) (ho25.at m2'))) ?_;rintro⟨tm,df⟩ l6 B6 ⟨⟨L1,k1,L2,k2,u11,u33,u34,u35,u36,u37,u38,u39,u40,u41,u42,u43,u44,u45,u46,u47,u48,e1,o1,o2⟩,ho6⟩ e2 hle6 hs ha;cases e1;cases e2;have hle:=Blk.le_trans (Blk.le_trans (Blk.le_trans (Blk.le_trans (Blk.le_trans hle1 hle2) hle3) hle4) hle5) hle6;have hB6:=hB5.old ho6;have n2:=ho6.at (ho25.at m2');have n3:=ho6.at (ho25.at m3');have hoA:Old l l6:=ho1.trans (ho2.trans (ho25.trans ho6));have hL1:At 1 Zc l6 L1 [5,1]:=Zcf o1 rfl;have hL2:At 1 Zc l6 L2 [6,2]:=Zcf o2 rfl;have D2:=bk2 n2;clear hs1 hs2 hs3 hs4 hs5 ha1 ha2 ha3 ha4 ha5 ha0;rw[show ag6=.seq agX ag7 from by kernel_rfl];refine Zac hS ?_;rw[show agX=.seq (cHd agX) agY from by kernel_rfl];refine Zac hS ?_;simp only[cHd,cTl,agX,ag6,ag5,ag4,ag3,ag2,ag1,agBody,Tryz.f35,Zw3,Zlr];refine Za4 hS ?_;simp only[Zwq,ZvS,ZvV,Nat.reduceAdd,ZwZ,List.range,List.range.loop];refine Zae hS ZS ZR hs (Zb ha (by kernel_rfl)) rfl rfl (by decide) (by kernel_rfl) (fun tt dd K k1 k2=>?_);simp only[show ZJ.P=prog from rfl];go_simp;first|refine k1 _ _ ?_|refine k2 _ ?_
 clear k1 k2 K tt dd;intro B' hle' hs' ha';replace hle:=Blk.le_trans hle hle';clear hs ha hle';have hs:=hs';have ha:=ha';clear hs' ha';walk_nrm;refine Zae hS ZS ZR hs (Zb ha (by kernel_rfl)) rfl rfl (by decide) (by kernel_rfl) (fun tt dd K k1 k2=>?_);simp only[show ZJ.P=prog from rfl];go_simp;first|refine k1 _ _ ?_|refine k2 _ ?_
 clear k1 k2 K tt dd;intro B' hle' hs' ha';replace hle:=Blk.le_trans hle hle';clear hs ha hle';have hs:=hs';have ha:=ha';clear hs' ha';walk_nrm;refine Zae hS ZS ZR hs (Zb ha (by kernel_rfl)) rfl rfl (by decide) (by kernel_rfl) (fun tt dd K k1 k2=>?_);simp only[show ZJ.P=prog from rfl];go_simp;first|refine k1 _ _ ?_|refine k2 _ ?_
 clear k1 k2 K tt dd;intro B' hle' hs' ha';replace hle:=Blk.le_trans hle hle';clear hs ha hle';have hs:=hs';have ha:=ha';clear hs' ha';walk_nrm;refine Zcl (g:=107) (args:=#[.agg #[.slice A 2 2,.slice A2 1 1],.slice L1 2 k1,.slice L2 2 k2,.int .i64 1]) hS rfl rfl (by decide) (by kernel_rfl) (fun w'=>by simp only[show ZN.P=prog from rfl];kernel_rfl) ?_;refine .stop _ _ _ (Zjz (R:=fun v=>v=.tuple #[.agg #[.int .i64 1,.int .i64 4],.bool true]) Zhs hold (by simp) (fun c h=>by cases h) (ho.trans hoA).get (fun h hO=>ZsZ hB6 hL1 hL2 h) (fun v hv=>by subst hv;kernel_rfl) fun v n hv=>?_);subst hv;rw[Frame.finish_at];have hs:=hs.pad n;have ha:=ha.set 53 (VR.closed 8 (.tuple #[.agg #[.int .i64 1,.int .i64 4],.bool true]) (by kernel_rfl));have hoP:Old l6 (pad l6 n):=⟨by rw[Zb7];omega,fun b hb=>Zb8 l6 n hb⟩;obtain⟨l7,hl7⟩:∃l7,pad l6 n=l7:=⟨_,rfl⟩;rw[hl7]at hs hoP |-;walk_nrm;refine Zae hS ZS ZR hs (Zb ha (by kernel_rfl)) rfl rfl (by decide) (by kernel_rfl) (fun tt dd K k1 k2=>?_);simp only[show ZJ.P=prog from rfl];go_simp;first|refine k1 _ _ ?_|refine k2 _ ?_
 clear k1 k2 K tt dd;intro B' hle' hs' ha';replace hle:=Blk.le_trans hle hle';clear hs ha hle';have hs:=hs';have ha:=ha';clear hs' ha';walk_nrm;refine Zae hS ZS ZR hs (Zb ha (by kernel_rfl)) rfl rfl (by decide) (by kernel_rfl) (fun tt dd K k1 k2=>?_);simp only[show ZJ.P=prog from rfl];go_simp;first|refine k1 _ _ ?_|refine k2 _ ?_
 clear k1 k2 K tt dd;intro B' hle' hs' ha';replace hle:=Blk.le_trans hle hle';clear hs ha hle';have hs:=hs';have ha:=ha';clear hs' ha';walk_nrm;refine Zae hS ZS ZR hs (Zb ha (by kernel_rfl)) rfl rfl (by decide) (by kernel_rfl) (fun tt dd K k1 k2=>?_);simp only[show ZJ.P=prog from rfl];go_simp;first|refine k1 _ _ ?_|refine k2 _ ?_
 clear k1 k2 K tt dd;intro B' hle' hs' ha';replace hle:=Blk.le_trans hle hle';clear hs ha hle';have hs:=hs';have ha:=ha';clear hs' ha';walk_nrm;refine Zae hS ZS ZR hs (Zb ha (by kernel_rfl)) rfl rfl (by decide) (by kernel_rfl) (fun tt dd K k1 k2=>?_);simp only[show ZJ.P=prog from rfl];go_simp;first|refine k1 _ _ ?_|refine k2 _ ?_
 clear k1 k2 K tt dd;intro B' hle' hs' ha';replace hle:=Blk.le_trans hle hle';clear hs ha hle';have hs:=hs';have ha:=ha';clear hs' ha';walk_nrm;refine Zae hS ZS ZR hs (Zb ha (by kernel_rfl)) rfl rfl (by decide) (by kernel_rfl) (fun tt dd K k1 k2=>?_);simp only[show ZJ.P=prog from rfl];go_simp;first|refine k1 _ _ ?_|refine k2 _ ?_
 clear k1 k2 K tt dd;intro B' hle' hs' ha';replace hle:=Blk.le_trans hle hle';clear hs ha hle';have hs:=hs';have ha:=ha';clear hs' ha';walk_nrm;refine Zae hS ZS ZR hs (Zb ha (by kernel_rfl)) rfl rfl (by decide) (by kernel_rfl) (fun tt dd K k1 k2=>?_);simp only[show ZJ.P=prog from rfl];go_simp;first|refine k1 _ _ ?_|refine k2 _ ?_
 clear k1 k2 K tt dd;intro B' hle' hs' ha';replace hle:=Blk.le_trans hle hle';clear hs ha hle';have hs:=hs';have ha:=ha';clear hs' ha';walk_nrm;refine Za5 hS ?_;obtain⟨l8,hl8⟩:∃l8,l7.alloc (.cells #[.int .i64 1,.int .i64 4] 60 (0,0))=l8:=⟨_,rfl⟩;have n12:l8.heap[l7.heap.size]?=some (.cells #[.int .i64 1,.int .i64 4] 60 (0,0)):=by rw[<-hl8];(repeat (first|assumption|(refine Zz _ _ ?_;(simp;done))|refine ZC ?_|refine Zy ?_ _|refine ZA ?_ (by simp<;>omega) _))
 have ho8:Old l7 l8:=by rw[<-hl8];exact Zp (by go_grown:Below l7.heap.size l7 _)
 rw[hl8]at hs |-;clear hl8;have n3':=ho8.at (hoP.at n3);refine ZbE (x:=agY) (R:=fun a' w'=>a'.tmps=ZgH A A2 b2 b3 C1 c1 C2 c2 b6 L1 k1 L2 k2 u11 u33 u34 u35 u36 u37 u38 u39 u40 u41 u42 u43 u44 u45 u46 u47 u48 l7.heap.size/\Old l8 w') ZR Za6 Zba ZS hs (Zb ha (by kernel_rfl)) rfl (by kernel_rfl) (fun v w t d h=>⟨h.1,h.2.size,h.2.get⟩) (fun t d=>Code.wp_mono (fun e a' w' h=>⟨h.1,h.2.1,h.2.2.1,(Ze h.2.2.2).size,(Ze h.2.2.2).get⟩) (Zs0 A A2 b2 b3 C1 c1 C2 c2 b6 L1 k1 L2 k2 u11 u33 u34 u35 u36 u37 u38 u39 u40 u41 u42 u43 u44 u45 u46 u47 u48 l7.heap.size (l8.re t d) n3' n12)) ?_;rintro⟨tm,df⟩ l9 B9 ⟨e1,ho9⟩ e2 hle9 hs9 ha9;cases e1;cases e2;refine ZjG (fn:=Tryz.f35) (x:=ag7) (R:=fun v w=>v=.tuple #[.int .i64 1,.int .i64 0]/\Old l9 w) ZR Za6 Zba ZS hs9 ha9 rfl (by kernel_rfl) func35 (fun v w t d h=>⟨h.1,h.2.size,h.2.get⟩) (fun t d=>ZgG (Zs1 A A2 b2 b3 C1 c1 C2 c2 b6 L1 k1 L2 k2 u11 u33 u34 u35 u36 u37 u38 u39 u40 u41 u42 u43 u44 u45 u46 u47 u48 l7.heap.size (l9.re t d)) fun e w h=>⟨_,h.1,rfl,Ze h.2⟩) ?_;rintro v l10 B10 ⟨rfl,ho10⟩ hle10 hs10 hv;exact k l10 B10 (hoA.trans (hoP.trans (ho8.trans (ho9.trans ho10)))) (Blk.le_trans hle (Blk.le_trans hle9 hle10)) hs10
theorem Zs9:Aw4:=by
 intro Post W l0 OldB bs' hold A A2 b14 p1 C C2 X x Y y p3 D D2 p5 cs l B hcs hs ha ho k;have hS:Halts (StopG ZN Post W l0 OldB (fun _=>False) bs'):=ZdA;have hle:B.le B:=Blk.le_refl _;rw[show aw4=.seq (codeHd aw4) aw5 from by kernel_rfl];refine Zac hS ?_;simp only[codeHd,codeTl,aw4,aw3,aw2,aw1,awBody,Tryz.f18,Zw3,tmps3,ZbM];refine Za4 hS ?_;simp only[Zwq,ZvS,ZvV,Nat.reduceAdd,ZwZ,List.range,List.range.loop];refine ZjF (g:=88) (args:=#[]) hS ZR Za6 Zba ZS hs (Zb ha (by kernel_rfl)) rfl rfl (by decide) (by kernel_rfl) (fun w'=>by simp only[show ZJ.P=prog from rfl];kernel_rfl) (by kernel_rfl) (AR.empty) (Zl6 l) (Zl5 l) ?_;rintro v l1 B1 ⟨⟨F,F2,BB,rfl,hB1⟩,ho1⟩ hle1 hs1 ha1;clear hs ha;walk_nrm;replace hle:=hle1;have hs:=hs1;have ha:=ha1;clear hs1 ha1;refine Zae hS ZS ZR hs (Zb ha (by kernel_rfl)) rfl rfl (by decide) (by kernel_rfl) (fun tt dd K k1 k2=>?_);simp only[show ZJ.P=prog from rfl];go_simp;first|refine k1 _ _ ?_|refine k2 _ ?_
 clear k1 k2 K tt dd;intro B' hle' hs' ha';replace hle:=Blk.le_trans hle hle';clear hs ha hle';have hs:=hs';have ha:=ha';clear hs' ha';walk_nrm;refine Zcl (g:=35) (args:=#[.agg #[.slice F 2 2,.slice F2 1 1],.agg #[.int .i64 4,.int .i64 5]]) hS rfl rfl (by decide) (by kernel_rfl) (fun w'=>by simp only[show ZN.P=prog from rfl];kernel_rfl) ?_;refine Zs8 hold hs (Zb (((AR.replicate 2 undefR).set 0 (Zq ha 31 (v:=.agg #[.slice F 2 2,.slice F2 1 1]) (by kernel_rfl))).set 1 (Zq ha 32 (v:=.agg #[.int .i64 4,.int .i64 5]) (by kernel_rfl))) (by kernel_rfl)) hB1 (ho.trans ho1) fun l2 B2 ho2 hle2 hs2=>?_;have ha2:=(ha.mono hle2).set 33 (VR.closed 8 (.tuple #[.int .i64 1,.int .i64 0]) (by kernel_rfl));replace hle:=Blk.le_trans hle hle2;rw[Frame.finish_at];clear ha hs;have hs:=hs2;have ha:=ha2;clear ha2 hs2;walk_nrm;refine Zae hS ZS ZR hs (Zb ha (by kernel_rfl)) rfl rfl (by decide) (by kernel_rfl) (fun tt dd K k1 k2=>?_);simp only[show ZJ.P=prog from rfl];go_simp;first|refine k1 _ _ ?_|refine k2 _ ?_
 clear k1 k2 K tt dd;intro B' hle' hs' ha';replace hle:=Blk.le_trans hle hle';clear hs ha hle';have hs:=hs';have ha:=ha';clear hs' ha';walk_nrm;refine Zae hS ZS ZR hs (Zb ha (by kernel_rfl)) rfl rfl (by decide) (by kernel_rfl) (fun tt dd K k1 k2=>?_);simp only[show ZJ.P=prog from rfl];go_simp;first|refine k1 _ _ ?_|refine k2 _ ?_
 clear k1 k2 K tt dd;intro B' hle' hs' ha';replace hle:=Blk.le_trans hle hle';clear hs ha hle';have hs:=hs';have ha:=ha';clear hs' ha';walk_nrm;refine Zae hS ZS ZR hs (Zb ha (by kernel_rfl)) rfl rfl (by decide) (by kernel_rfl) (fun tt dd K k1 k2=>?_);simp only[show ZJ.P=prog from rfl];go_simp;first|refine k1 _ _ ?_|refine k2 _ ?_
 clear k1 k2 K tt dd;intro B' hle' hs' ha';replace hle:=Blk.le_trans hle hle';clear hs ha hle';have hs:=hs';have ha:=ha';clear hs' ha';walk_nrm;refine Zae hS ZS ZR hs (Zb ha (by kernel_rfl)) rfl rfl (by decide) (by kernel_rfl) (fun tt dd K k1 k2=>?_);simp only[show ZJ.P=prog from rfl];go_simp;first|refine k1 _ _ ?_|refine k2 _ ?_
 clear k1 k2 K tt dd;intro B' hle' hs' ha';replace hle:=Blk.le_trans hle hle';clear hs ha hle';have hs:=hs';have ha:=ha';clear hs' ha';walk_nrm;refine Zae hS ZS ZR hs (Zb ha (by kernel_rfl)) rfl rfl (by decide) (by kernel_rfl) (fun tt dd K k1 k2=>?_);simp only[show ZJ.P=prog from rfl];go_simp;first|refine k1 _ _ ?_|refine k2 _ ?_
 clear k1 k2 K tt dd;intro B' hle' hs' ha';replace hle:=Blk.le_trans hle hle';clear hs ha hle';have hs:=hs';have ha:=ha';clear hs' ha';walk_nrm;refine Za5 hS ?_;exact k F F2 l2 _ hle hs (Zb ha (by kernel_rfl)) (ho1.trans ho2)
theorem Zta{w:World} (hg:GlobOk w)(ht:Tabs (Z0 w)):Zc1 prog (Frame.enter prog 18 #[] .normal) w fun v=>v=.bool true:=awake_of Zs9 hg ht
end Go.Proofs
namespace Go.Proofs
open Tryz
open Go.RowKit Go.Twin Go.Conc
variable {W w:World} {p:Nat}
noncomputable def rA(n p q:Nat)(s:String):Code:=.region n #[{dst:=some p,op:=.call {callee:=.value (.func 18),args:=#[],argTypes:=#[]},type:=4,pos:=s,after:=#[],guard:=none},{dst:=some q,op:=.unOp .not 4 (.tmp p),type:=4,pos:=s,after:=#[{on:=0,ground:=.data}],guard:=none}] false
theorem Ztb(hk:Kept1 W w):Old (Z0 W) (Z0 w):=by
 refine⟨by rw[ZcQ,ZcQ];exact hk.size,fun b hb=>?_⟩;rw[ZcQ]at hb;have hb2:b<w.heap.size:=ZwK hb hk.size;unfold Z0;simp only[Zun,Zuz];by_cases h6:6=b;·subst h6;simp[hb,hb2]
 ·by_cases h5:5=b;·subst h5;simp[hb,hb2]
  ·simp[h5,h6,hk.heap b hb]
theorem Tabs.kept(h:Tabs (Z0 W))(hk:Kept1 W w):Tabs (Z0 w):=h.old (Ztb hk)
theorem Old.pad(l:World)(n:Nat):Old l (Twin.pad l n):=⟨by rw[Zb7];omega,fun b hb=>Zb8 l n hb⟩
theorem Ztc(p:Nat):ZaL.op (.unOp .not 4 (.tmp p))=true:=by simp[Env.op,Env.op0,Env.darkOp,Op.operands,Env.operand]
theorem Ztd{ρ:Operand->Value} {o:Oper} (h:ρ (.tmp p)=.bool true)(ho:o.op=.unOp .not 4 (.tmp p))(w:World):(execOp ρ o).run prog w=.ok (.value (.bool false)) w:=by unfold execOp;rw[ho];go_simp
noncomputable def ZeE(W:World):World:=ZbQ ZaL (fun _=>False) W
theorem Zte{F:Nat} {fn:Func} {c0 x rest:Code} {n q:Nat} {s:String} {args:Array Value} {Post:Value->World->Prop} {T:Array Value->World->Prop} (hf:prog.funcs[F]?=some fn) (hb:fn.body=some (.seq c0 (.seq (.seq (rA n p q s) (.cond (.tmp q) x .skip)) rest))) (hm:Zal (.seq c0 (.seq (.seq (rA n p q s) (.cond (.tmp q) x .skip)) rest))=true)(hc0:ZaL.code c0=true)(hcr:ZaL.code rest=true)(hi:prog.inits.idxOf? F=none)(hg:GlobOk W)(ht:Tabs (Z0 W))(ha:AR ZaL (idX (ZaF (fun _=>False) W)) args args)(hpq:p≠q)(hT:∀tm w w',T tm w->Old w w'->T tm w')(hTs:∀tm w,T tm w->p<tm.size/\q<tm.size)(h0:∀l,Old (ZeE W) l->c0.wp prog (fun e a w'=>e=.normal/\a.defers=[]/\T a.tmps w'/\Below l.heap.size l w') ⟨args++Array.replicate (fn.ntmps-args.size) undef,[]⟩ l)(hr:∀tm w,T tm w->rest.wp prog (bodyPost prog fn fun e w'=>e=.returned (.bool true)/\Below w.heap.size w w') ⟨(tm.setIfInBounds p (.bool true)).setIfInBounds q (.bool false),[]⟩ w)(hk:∀w',Kept1 W w'->Post (.bool true) w'):Fin prog Post #[G (Frame.enter prog F args .normal) []] W none #[]:=by
 have hsz:prog.globals.size<=W.heap.size:=hg.size;refine ZoM (S:=ZaL) (E:=Zb9) (D:=fun _=>False) Zj1 Zf2 rfl rfl rfl (fn:=fn) hf hb hm (fun g hg=>by cases hg) (fun g hg=>by cases hg) hsz ha ?_;have hS:Halts (StopG Zb9 Post W (ZbQ ZaL (fun _=>False) W) (idX (ZaF (fun _=>False) W)) (ZaF (fun _=>False) W) []):=ZdA;have e0:Frame.enter Zb9.P F args .normal=(Go.Conc.base F).at ⟨args++Array.replicate (fn.ntmps-args.size) undef,[]⟩ [.code (.seq c0 (.seq (.seq (rA n p q s) (.cond (.tmp q) x .skip)) rest))]:=enter_at _ hf hb;rw[e0];have hs:=ZoJ (S:=ZaL) (D:=fun _=>False) (w:=W) rfl (fun g hg=>by cases hg) (fun g hg=>by cases hg) hsz;refine Zac hS ?_;refine ZbE (E0:=ZaL) (E:=Zb9) (R:=fun a' w'=>T a'.tmps w'/\Old (ZeE W) w') Zht Zj0 ZoY Zf2 hs (ha.append (AR.replicate _ undefR)) rfl hc0 (fun v w t d h=>⟨hT _ _ _ h.1 ((Old.refl w).re t d),h.2.size,h.2.get⟩) (fun t d=>Code.wp_mono (fun e a' w' h=>⟨h.1,h.2.1,h.2.2.1,Ze h.2.2.2⟩) (h0 _ ((Old.refl (ZeE W)).re t d))) ?_;rintro⟨tm,df⟩ l1 B1 ⟨hT1,ho1⟩ e2 hle1 hs1 ha1;cases e2;refine Zac hS (Zac hS ?_);simp only[rA];refine Za4 hS ?_;simp only[Zwq,ZvS,ZvV,Nat.reduceAdd,ZwZ,List.range,List.range.loop];refine .stop _ _ _ (ZoK (E:=Zb9) (g:=18) (R:=fun v=>v=.bool true) Zj1 (fun b x hb=>.inl hb.2) (by simp) rfl rfl (fun a w=>?_) (fun a w=>?_) ho1.get (fun hk1=>Zta (hg.kept hk1) (ht.kept hk1)) (fun v h=>by subst h;rfl) fun v m hv=>?_);·simp only[show Zb9.P=prog from rfl];kernel_rfl
 ·simp only[show Zb9.P=prog from rfl];kernel_rfl
 subst hv;have ho2:Old l1 (Twin.pad l1 m):=Old.pad l1 m;replace hs1:=hs1.pad m;obtain⟨l2,hl2⟩:∃l2,Twin.pad l1 m=l2:=⟨_,rfl⟩;rw[hl2]at ho2 hs1 |-;have hT2:=hT _ _ _ hT1 ho2;have ha2:AR ZaL B1 (tm.setIfInBounds p (.bool true)) (tm.setIfInBounds p (.bool true)):=ha1.set p (.bool true);obtain⟨hp1,hq1⟩:=hTs _ _ hT2;have hget:(tm.setIfInBounds p (.bool true)).getD p undef=.bool true:=by rw[Zub,Zup hp1];rfl
 have hget2:((tm.setIfInBounds p (.bool true)).setIfInBounds q (.bool false)).getD q undef=.bool false:=by rw[Zub,Zup (by simpa using hq1)];rfl
 refine Zae (E0:=ZaL) (a:=⟨tm.setIfInBounds p (.bool true),[]⟩) hS Zf2 Zht hs1 ha2 rfl rfl (fun h=>by cases h) (Ztc p) (fun tt dd K k1 k2=>?_);have ev:(⟨tm.setIfInBounds p (.bool true),[]⟩:Act).eval (.tmp p)=.bool true:=hget;simp only[show ZaL.P=prog from rfl];rw[show (execOp (⟨tm.setIfInBounds p (.bool true),[]⟩:Act).eval (#[{dst:=some p,op:=Op.call {callee:=Callee.value (Operand.func 18),args:=#[],argTypes:=#[]},type:=4,pos:=s,after:=#[],guard:=none},{dst:=some q,op:=Op.unOp UnOp.not 4 (Operand.tmp p),type:=4,pos:=s,after:=#[{on:=0,ground:=Ground.data}],guard:=none}][1])).run prog (l2.re tt dd)=.ok (.value (.bool false)) (l2.re tt dd)from Ztd ev rfl _];refine k1 _ _ ?_;clear k1 k2 K;intro B2 hle2 hs2 ha3;refine Za5 hS ?_;refine Zhh hS (t:=false) rfl hget2 ?_;simp only[ZuI,if_false];refine Zjp hS ?_;refine Zhm (E0:=ZaL) (E:=Zb9) (fn:=fn) (R:=fun v w=>v=.bool true/\Old l2 w) Zht Zj0 Zf2 hs2 ha3 rfl hcr hf (fun t d=>ZgG (hr _ _ (hT _ _ _ hT2 ((Old.refl l2).re t d))) fun e w h=>⟨_,h.1,rfl,Ze h.2⟩) fun f l' hret hfn=>.stop _ _ _ ?_;obtain⟨hc,v,t,d,hl,rfl,ho⟩:=hret;refine ZoL (u:=.bool true) (R:=fun v _=>v=.bool true) (by rfl) (by rw[hfn];exact hi) ⟨hc,_,t,d,hl,rfl⟩ (fun v t d h=>h) rfl ?_ hk;have ho3:Old l2 l':=⟨ho.size,ho.get⟩;exact(ho1.trans (ho2.trans ho3)).get
end Go.Proofs
