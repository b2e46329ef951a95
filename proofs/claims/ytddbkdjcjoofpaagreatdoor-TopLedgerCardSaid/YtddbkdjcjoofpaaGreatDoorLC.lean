import Derived.Test.YtddbkdjcjoofpaaGreatDoorLA
import Derived.Test.YtddbkdjcjoofpaaGreatDoorLD
import Derived.Shelf.Small.Wraps
import Derived.Shelf.LaysM
import Derived.Shelf.Strconv.Itoa4
import Derived.Shelf.LaysC
import Derived.Shelf.Strconv.ParseIntPublic10
import Derived.Shelf.Strconv.ErrVarParseInt
import Derived.Shelf.Strings.SplitShaped
import Derived.Test.YtddbkdjcjoofpaaGreatDoorRows
import Derived.Stop.LaidErr
import Derived.Lib.LaidTab
import Derived.ShapedOpen
import Derived.Deep.RegionWith
import Derived.IntWalk
import Derived.Laws.BitsAllLaws
import Derived.Lib.OthersKept
import Derived.Laws.RangeAny
import Derived.Lib.TrailingZeros
import Derived.Lib.ConvBytes
import Derived.Lib.SplitLaws
import Derived.Lib.CountLaws
import Derived.Laws.BytesArg
import Derived.Lib.SlicesS
import Derived.Lib.AppendStr
import Derived.Lib.Slices
import Derived.Lib.Walk
import Derived.Lib.Builder
import Derived.Lib.UnsafeStr
import Derived.Lib.MakeNoZero
import Derived.Laws.Externs
import Derived.Laws.IdiomCopy
import Derived.Laws.BitsLemmas
import Derived.StillTailTactics
import Derived.StillTactics
import Derived.OwnWalk
import Derived.Laws.Pointers
import Derived.Deep.AppendLies
import Derived.Shelf.RegionOpen
import Derived.OwnWalkIn
import Derived.TacticsInMore
import Derived.LoopNIn
import Derived.LoopIn
import Derived.Shelf.SlIterI.Sorted
import Derived.Ground.GgzProg
import Derived.Lib.SlicesCompact
import Derived.Lib.SlKeysI
import Derived.OpenShut
import Derived.OneCell
import Derived.Test.YtddbkdjcjoofpaaGreatDoorChecked
import Derived.Laws.EntriesVeiled
import Derived.ProofKit
import Derived.DataReads
import Derived.ChangeSame
import Derived.Lib.SmallJoins
namespace Go.Proofs.YtddbkdjcjoofpaaGreatDoor
set_option linter.unusedVariables false
set_option linter.unusedSimpArgs false
set_option maxRecDepth 100000
set_option maxHeartbeats 20000000
open _root_.Go.Proofs.Tryz Go.RowKit
open Go renaming World→ab
open _root_.Go.Proofs.Tryz renaming prog→au
open Option renaming none→U,some→R
open _root_.Go.Value renaming int→I,pointer→af,slice→aA,bool→aE,agg→bm,tuple→bD
open _root_.Go.IntKind renaming i64→J,u64→ah,wrap_u64→nT
open _root_.Go.Obj renaming cells→av
open _root_.Go.Ending renaming returned→aK
open _root_.Nat renaming le_refl→bM,le_trans→cJ,lt_of_lt_of_le→dm,zero_add→mq,mul_le_mul_right→o5,add_mul→pc,lt_or_ge→nd,pow_le_pow_right→r0,zero_le→hq,lt_of_le_of_lt→o6,reduceSub→jG,reduceAdd→jH
open _root_.Array renaming getElem?_eq_some_iff→iQ,replicate_zero→jA,replicate_succ→jB
open _root_.Go.World renaming cell?_of_block→lH,alloc→j_,cell?_setCell_other→jz,cell?_setCell_same'→p3,frozen?_setCell→p7,size_alloc→k4,block_lt_of_cell?→j7
open _root_.Go renaming World→ab
open _root_.List renaming getElem?_eq_getElem→b6,getElem?_map→dP,map_cons→j9,length_eq_zero_iff→nM,drop_eq_getElem_cons→o3,getElem?_eq_some_iff→bE,length_cons→dY,length_append→eZ,isEmpty_iff→o8,take_of_length_le→ub,mem_map→e0,mem_cons→gu,cons_append→gQ,mem_iff_getElem?→mm,getD_eq_getElem?_getD→dD,getElem?_toArray→ff,mem_of_getElem?→ea,length_map→ep,map_append→h4,range→gh,replicate→gR,nodup_iff_pairwise_ne→p2,mem_range→o9,length_set→ef,mem_iff_getElem→uc,range_succ→nU,length_nil→hJ,nil_append→iU,append_toArray→jC,size_toArray→jE,push_toArray→jF,take_length→h3,length_take→ix,pairwise_iff_getElem→p4,set_append_right→nO
open _root_.UInt8 renaming toNat→pb
open _root_.Bool renaming eq_iff_iff→hK,and_eq_true→iy,or_eq_true→nW
open _root_.And renaming intro→bx
open _root_.Int renaming toNat_natCast→cd,eq_ofNat_of_zero_le→dW,tmod_eq_emod_of_nonneg→rY
variable {b n g p j c:Nat} {w w':ab} {v:Value} {a:Option Addr} {zs:List Int}
section
open Go.Shelf
def uj:String:=(YtddbkdjcjoofpaaGreatDoor.Rows.topLedgerRow.laid.getD 2 ("",.nil)).1
def Dg:Go.Shelf.Ren:=⟨λ|104=>67|211=>122|207=>180|n=>n,λ|9=>9|4=>4|24=>133|3=>3|n=>n,λ|n=>n⟩
theorem Dh:Go.Proofs.Lays.n104 au Dg:={
 mixed:=by kernel_rfl
 f104:=func67.trans (congrArg R (by kernel_rfl))
 f207:=func180.trans (congrArg R (by kernel_rfl))
 f211:=func122.trans (congrArg R (by kernel_rfl))
 t3:=underlying3
 a3:=isAgg3
 z3:=sizeOf3
 v3:=zeroValue3
 t4:=underlying4
 a4:=isAgg4
 z4:=sizeOf4
 v4:=zeroValue4
 t9:=underlying9
 a9:=isAgg9
 z9:=sizeOf9
 v9:=zeroValue9
 t24:=underlying133
 a24:=isAgg133
 z24:=sizeOf133
 v24:=zeroValue133}
open Go.RowKit in
theorem strings_CutSuffix (s p:ByteArray) (w:ab) (a:s.size<=9223372036854775807):Calls au 67 #[.string s,.string p] w λb w'=>b=aK (bD #[.string ⟨(Lib.trimSuffix s.data.toList p.data.toList).toArray⟩,aE (Lib.hasSuffix s.data.toList p.data.toList)])∧w'=w:=Any.strings_CutSuffix Dh s p w a
def Di:Go.Shelf.Ren:=⟨λ|174=>228|247=>250|245=>251|287=>267|279=>268|280=>269|281=>270|282=>271|321=>287|322=>288|316=>289|171=>291|205=>290|243=>301|246=>252|283=>272|284=>273|285=>274|286=>275|129=>232|317=>292|318=>293|319=>294|320=>295|337=>302|338=>303|n=>n,λ|9=>9|3=>3|2=>2|75=>301|85=>327|4=>4|167=>356|5=>5|53=>31|175=>357|46=>92|168=>359|37=>365|0=>0|210=>380|21=>21|127=>390|145=>393|143=>391|171=>363|173=>366|212=>383|51=>353|20=>20|213=>384|232=>397|233=>398|80=>399|n=>n,λ|15=>5|16=>6|17=>7|18=>8|19=>9|n=>n⟩
theorem uk:Go.Proofs.LaysC.n174 au Di:={
 mixed:=by kernel_rfl
 f129:=func232.trans (congrArg R (by kernel_rfl))
 f171:=func291.trans (congrArg R (by kernel_rfl))
 f174:=func228.trans (congrArg R (by kernel_rfl))
 f205:=func290.trans (congrArg R (by kernel_rfl))
 f243:=func301.trans (congrArg R (by kernel_rfl))
 f245:=func251.trans (congrArg R (by kernel_rfl))
 f246:=func252.trans (congrArg R (by kernel_rfl))
 f247:=func250.trans (congrArg R (by kernel_rfl))
 f279:=func268.trans (congrArg R (by kernel_rfl))
 f280:=func269.trans (congrArg R (by kernel_rfl))
 f281:=func270.trans (congrArg R (by kernel_rfl))
 f282:=func271.trans (congrArg R (by kernel_rfl))
 f283:=func272.trans (congrArg R (by kernel_rfl))
 f284:=func273.trans (congrArg R (by kernel_rfl))
 f285:=func274.trans (congrArg R (by kernel_rfl))
 f286:=func275.trans (congrArg R (by kernel_rfl))
 f287:=func267.trans (congrArg R (by kernel_rfl))
 f316:=func289.trans (congrArg R (by kernel_rfl))
 f317:=func292.trans (congrArg R (by kernel_rfl))
 f318:=func293.trans (congrArg R (by kernel_rfl))
 f319:=func294.trans (congrArg R (by kernel_rfl))
 f320:=func295.trans (congrArg R (by kernel_rfl))
 f321:=func287.trans (congrArg R (by kernel_rfl))
 f322:=func288.trans (congrArg R (by kernel_rfl))
 f337:=func302.trans (congrArg R (by kernel_rfl))
 f338:=func303.trans (congrArg R (by kernel_rfl))
 t0:=underlying0
 a0:=isAgg0
 z0:=sizeOf0
 v0:=zeroValue0
 t2:=underlying2
 a2:=isAgg2
 z2:=sizeOf2
 v2:=zeroValue2
 t3:=underlying3
 a3:=isAgg3
 z3:=sizeOf3
 v3:=zeroValue3
 t4:=underlying4
 a4:=isAgg4
 z4:=sizeOf4
 v4:=zeroValue4
 t5:=underlying5
 a5:=isAgg5
 z5:=sizeOf5
 v5:=zeroValue5
 t9:=underlying9
 a9:=isAgg9
 z9:=sizeOf9
 v9:=zeroValue9
 t20:=underlying20
 a20:=isAgg20
 z20:=sizeOf20
 v20:=zeroValue20
 t21:=underlying21
 a21:=isAgg21
 z21:=sizeOf21
 v21:=zeroValue21
 t37:=underlying365
 a37:=isAgg365
 z37:=sizeOf365
 v37:=zeroValue365
 t46:=underlying92
 a46:=isAgg92
 z46:=sizeOf92
 v46:=zeroValue92
 t51:=underlying353
 a51:=isAgg353
 z51:=sizeOf353
 v51:=zeroValue353
 t53:=underlying31
 a53:=isAgg31
 z53:=sizeOf31
 v53:=zeroValue31
 t75:=underlying301
 a75:=isAgg301
 z75:=sizeOf301
 v75:=zeroValue301
 t85:=underlying327
 a85:=isAgg327
 z85:=sizeOf327
 v85:=zeroValue327
 t127:=underlying390
 a127:=isAgg390
 z127:=sizeOf390
 v127:=zeroValue390
 t143:=underlying391
 a143:=isAgg391
 z143:=sizeOf391
 v143:=zeroValue391
 t145:=underlying393
 a145:=isAgg393
 z145:=sizeOf393
 v145:=zeroValue393
 t167:=underlying356
 a167:=isAgg356
 z167:=sizeOf356
 v167:=zeroValue356
 t168:=underlying359
 a168:=isAgg359
 z168:=sizeOf359
 v168:=zeroValue359
 t171:=underlying363
 a171:=isAgg363
 z171:=sizeOf363
 v171:=zeroValue363
 t173:=underlying366
 a173:=isAgg366
 z173:=sizeOf366
 v173:=zeroValue366
 t175:=underlying357
 a175:=isAgg357
 z175:=sizeOf357
 v175:=zeroValue357
 t210:=underlying380
 a210:=isAgg380
 z210:=sizeOf380
 v210:=zeroValue380
 t212:=underlying383
 a212:=isAgg383
 z212:=sizeOf383
 v212:=zeroValue383
 t213:=underlying384
 a213:=isAgg384
 z213:=sizeOf384
 t232:=underlying397
 a232:=isAgg397
 z232:=sizeOf397
 v232:=zeroValue397
 t233:=underlying398
 a233:=isAgg398
 z233:=sizeOf398
 v233:=zeroValue398
 g15:=by kernel_rfl
 g16:=by kernel_rfl
 g17:=by kernel_rfl
 g18:=by kernel_rfl
 g19:=by kernel_rfl
 t80:=underlying399
 a80:=isAgg399
 z80:=sizeOf399
 v80:=zeroValue399
 i0:=by kernel_rfl
 i2:=by kernel_rfl
 i3:=by kernel_rfl
 i4:=by kernel_rfl
 i5:=by kernel_rfl
 i9:=by kernel_rfl
 i20:=by kernel_rfl
 i21:=by kernel_rfl
 i37:=by kernel_rfl
 i46:=by kernel_rfl
 i51:=by kernel_rfl
 i53:=by kernel_rfl
 i75:=by kernel_rfl
 i80:=by kernel_rfl
 i85:=by kernel_rfl
 i127:=by kernel_rfl
 i143:=by kernel_rfl
 i145:=by kernel_rfl
 i167:=by kernel_rfl
 i168:=by kernel_rfl
 i171:=by kernel_rfl
 i173:=by kernel_rfl
 i175:=by kernel_rfl
 i210:=by kernel_rfl
 i212:=by kernel_rfl
 i232:=by kernel_rfl
 i233:=by kernel_rfl
 m15:=by kernel_rfl
 m16:=by kernel_rfl
 m17:=by kernel_rfl
 m18:=by kernel_rfl
 m19:=by kernel_rfl
 c0:=by kernel_rfl
 c2:=by kernel_rfl
 c3:=by kernel_rfl
 c4:=by kernel_rfl
 c5:=by kernel_rfl
 c9:=by kernel_rfl
 c20:=by kernel_rfl
 c21:=by kernel_rfl
 c37:=by kernel_rfl
 c46:=by kernel_rfl
 c51:=by kernel_rfl
 c53:=by kernel_rfl
 c75:=by kernel_rfl
 c80:=by kernel_rfl
 c85:=by kernel_rfl
 c127:=by kernel_rfl
 c143:=by kernel_rfl
 c145:=by kernel_rfl
 c167:=by kernel_rfl
 c168:=by kernel_rfl
 c171:=by kernel_rfl
 c173:=by kernel_rfl
 c175:=by kernel_rfl
 c210:=by kernel_rfl
 c212:=by kernel_rfl
 c213:=by kernel_rfl
 c232:=by kernel_rfl
 c233:=by kernel_rfl}
open Go.RowKit in
theorem strconv_ParseInt_10_at64_ok (s:ByteArray) (a:s.size<=9223372036854775806) (v:Int) (h:Lib.parseIntB 64 s.data.toList= .ok v) (w:ab):Calls au 228 #[.string s,I J 10,I J 64] w λb w'=>b=aK (bD #[I J v,.nilIface])∧(w'=w∨∃c,w'=Lib.bytesWorld w 5 c):=Any.strconv_ParseInt_10_at64_ok uk s a v h w
open Go.RowKit in
theorem strconv_ParseInt_10_at64_syntax_var (s:ByteArray) (c:s.size<=281474976710656) (h:Lib.parseIntB 64 s.data.toList= .«syntax») (a:TypeId) (p:Value) (w:ab) (d:w.var? au "strconv.ErrSyntax"=R #[.iface a p]):Calls au 228 #[.string s,I J 10,I J 64] w λe w'=>∃b,e=aK (bD #[I J (0),.iface 359 (af (R ⟨b,0,U⟩))])∧w.heap.size<=b∧w'.heap[b]?=R (av #[.string ⟨#[80,97,114,115,101,73,110,116]⟩,.string s,.iface a p] 380 (0,0))∧Below w.heap.size w w':=Any.strconv_ParseInt_10_at64_syntax_var uk s c h a p w d
open Go.RowKit in
theorem strconv_ParseInt_10_at64_range_var (s:ByteArray) (c:s.size<=281474976710656) (h:Lib.parseIntB 64 s.data.toList= .range) (a:TypeId) (p:Value) (w:ab) (d:w.var? au "strconv.ErrRange"=R #[.iface a p]):Calls au 228 #[.string s,I J 10,I J 64] w λe w'=>∃b,e=aK (bD #[I J (Lib.intSat 64 s.data.toList),.iface 359 (af (R ⟨b,0,U⟩))])∧w.heap.size<=b∧w'.heap[b]?=R (av #[.string ⟨#[80,97,114,115,101,73,110,116]⟩,.string s,.iface a p] 380 (0,0))∧Below w.heap.size w w':=Any.strconv_ParseInt_10_at64_range_var uk s c h a p w d
def Dj:Go.Shelf.Ren:=⟨λ|146=>68|221=>123|268=>181|138=>182|143=>183|195=>222|197=>223|218=>224|219=>225|260=>243|217=>244|225=>245|224=>246|267=>247|266=>265|314=>266|n=>n,λ|9=>9|31=>135|3=>3|4=>4|0=>0|105=>320|21=>21|5=>5|46=>92|119=>349|139=>352|138=>351|146=>354|51=>353|n=>n,λ|1=>2|3=>3|4=>4|n=>n⟩
theorem um:Go.Proofs.LaysM.n146 au Dj:={
 mixed:=by kernel_rfl
 f138:=func182.trans (congrArg R (by kernel_rfl))
 f143:=func183.trans (congrArg R (by kernel_rfl))
 f146:=func68.trans (congrArg R (by kernel_rfl))
 f195:=func222.trans (congrArg R (by kernel_rfl))
 f197:=func223.trans (congrArg R (by kernel_rfl))
 f217:=func244.trans (congrArg R (by kernel_rfl))
 f218:=func224.trans (congrArg R (by kernel_rfl))
 f219:=func225.trans (congrArg R (by kernel_rfl))
 f221:=func123.trans (congrArg R (by kernel_rfl))
 f224:=func246.trans (congrArg R (by kernel_rfl))
 f225:=func245.trans (congrArg R (by kernel_rfl))
 f260:=func243.trans (congrArg R (by kernel_rfl))
 f266:=func265.trans (congrArg R (by kernel_rfl))
 f267:=func247.trans (congrArg R (by kernel_rfl))
 f268:=func181.trans (congrArg R (by kernel_rfl))
 f314:=func266.trans (congrArg R (by kernel_rfl))
 t0:=underlying0
 a0:=isAgg0
 z0:=sizeOf0
 v0:=zeroValue0
 t3:=underlying3
 a3:=isAgg3
 z3:=sizeOf3
 v3:=zeroValue3
 t4:=underlying4
 a4:=isAgg4
 z4:=sizeOf4
 v4:=zeroValue4
 t5:=underlying5
 a5:=isAgg5
 z5:=sizeOf5
 v5:=zeroValue5
 t9:=underlying9
 a9:=isAgg9
 z9:=sizeOf9
 v9:=zeroValue9
 t21:=underlying21
 a21:=isAgg21
 z21:=sizeOf21
 v21:=zeroValue21
 t31:=underlying135
 a31:=isAgg135
 z31:=sizeOf135
 v31:=zeroValue135
 t46:=underlying92
 a46:=isAgg92
 z46:=sizeOf92
 v46:=zeroValue92
 t51:=underlying353
 a51:=isAgg353
 z51:=sizeOf353
 v51:=zeroValue353
 t105:=underlying320
 a105:=isAgg320
 z105:=sizeOf320
 v105:=zeroValue320
 t119:=underlying349
 a119:=isAgg349
 z119:=sizeOf349
 t138:=underlying351
 a138:=isAgg351
 z138:=sizeOf351
 v138:=zeroValue351
 t139:=underlying352
 a139:=isAgg352
 z139:=sizeOf352
 v139:=zeroValue352
 t146:=underlying354
 a146:=isAgg354
 z146:=sizeOf354
 v146:=zeroValue354
 g1:=by kernel_rfl
 g3:=by kernel_rfl
 g4:=by kernel_rfl
 i0:=by kernel_rfl
 i3:=by kernel_rfl
 i4:=by kernel_rfl
 i5:=by kernel_rfl
 i9:=by kernel_rfl
 i21:=by kernel_rfl
 i31:=by kernel_rfl
 i46:=by kernel_rfl
 i51:=by kernel_rfl
 i105:=by kernel_rfl
 i138:=by kernel_rfl
 i139:=by kernel_rfl
 i146:=by kernel_rfl
 m1:=by kernel_rfl
 s1_3:=λw h=>Go.Proofs.cell_of_shapedOpen_int (zero:=#[.int .i64 0]) (t:=3) h (of_decide_eq_true (by kernel_rfl)) (by kernel_rfl) rfl (by kernel_rfl) (by kernel_rfl) underlying3
 m3:=by kernel_rfl
 m4:=by kernel_rfl}
def Dk:Go.Shelf.Ren:=⟨λ|109=>124|n=>n,λ|31=>135|9=>9|3=>3|0=>0|4=>4|n=>n,λ|n=>n⟩
theorem Dl:Go.Proofs.Lays.n109 au Dk:={
 mixed:=by kernel_rfl
 f109:=func124.trans (congrArg R (by kernel_rfl))
 t0:=underlying0
 a0:=isAgg0
 z0:=sizeOf0
 v0:=zeroValue0
 t3:=underlying3
 a3:=isAgg3
 z3:=sizeOf3
 v3:=zeroValue3
 t4:=underlying4
 a4:=isAgg4
 z4:=sizeOf4
 v4:=zeroValue4
 t9:=underlying9
 a9:=isAgg9
 z9:=sizeOf9
 v9:=zeroValue9
 t31:=underlying135
 a31:=isAgg135
 z31:=sizeOf135
 v31:=zeroValue135}
open Go.Lib in
theorem slices_Index_string (b a n c:Nat) (zs:List ByteArray) (x:ByteArray) (w:ab) (d:n<=zs.length) (e:n<=9223372036854775807) (f:∀j,j<zs.length->w.cell? ⟨b,a+j,U⟩=R (.string (zs.getD j ByteArray.empty))):Calls au 124 #[aA (R ⟨b,a,U⟩) n c,.string x] w λg w'=>g=aK (I J (Lib.idxOfS (zs.take n) x))∧w'=w:=Any.slices_Index_string Dl b a n c zs x w d e f
def Dm:Go.Shelf.Ren:=⟨λ|173=>229|246=>252|283=>272|284=>273|285=>274|286=>275|129=>232|317=>292|318=>293|319=>294|320=>295|337=>302|338=>303|n=>n,λ|2=>2|3=>3|9=>9|4=>4|171=>363|0=>0|53=>31|37=>365|5=>5|173=>366|212=>383|51=>353|20=>20|213=>384|46=>92|232=>397|233=>398|n=>n,λ|17=>7|18=>8|19=>9|n=>n⟩
theorem Dn:Go.Proofs.LaysM.n173 au Dm:={
 mixed:=by kernel_rfl
 f129:=func232.trans (congrArg R (by kernel_rfl))
 f173:=func229.trans (congrArg R (by kernel_rfl))
 f246:=func252.trans (congrArg R (by kernel_rfl))
 f283:=func272.trans (congrArg R (by kernel_rfl))
 f284:=func273.trans (congrArg R (by kernel_rfl))
 f285:=func274.trans (congrArg R (by kernel_rfl))
 f286:=func275.trans (congrArg R (by kernel_rfl))
 f317:=func292.trans (congrArg R (by kernel_rfl))
 f318:=func293.trans (congrArg R (by kernel_rfl))
 f319:=func294.trans (congrArg R (by kernel_rfl))
 f320:=func295.trans (congrArg R (by kernel_rfl))
 f337:=func302.trans (congrArg R (by kernel_rfl))
 f338:=func303.trans (congrArg R (by kernel_rfl))
 t0:=underlying0
 a0:=isAgg0
 z0:=sizeOf0
 v0:=zeroValue0
 t2:=underlying2
 a2:=isAgg2
 z2:=sizeOf2
 v2:=zeroValue2
 t3:=underlying3
 a3:=isAgg3
 z3:=sizeOf3
 v3:=zeroValue3
 t4:=underlying4
 a4:=isAgg4
 z4:=sizeOf4
 v4:=zeroValue4
 t5:=underlying5
 a5:=isAgg5
 z5:=sizeOf5
 v5:=zeroValue5
 t9:=underlying9
 a9:=isAgg9
 z9:=sizeOf9
 v9:=zeroValue9
 t20:=underlying20
 a20:=isAgg20
 z20:=sizeOf20
 v20:=zeroValue20
 t37:=underlying365
 a37:=isAgg365
 z37:=sizeOf365
 v37:=zeroValue365
 t46:=underlying92
 a46:=isAgg92
 z46:=sizeOf92
 v46:=zeroValue92
 t51:=underlying353
 a51:=isAgg353
 z51:=sizeOf353
 v51:=zeroValue353
 t53:=underlying31
 a53:=isAgg31
 z53:=sizeOf31
 v53:=zeroValue31
 t171:=underlying363
 a171:=isAgg363
 z171:=sizeOf363
 v171:=zeroValue363
 t173:=underlying366
 a173:=isAgg366
 z173:=sizeOf366
 v173:=zeroValue366
 t212:=underlying383
 a212:=isAgg383
 z212:=sizeOf383
 v212:=zeroValue383
 t213:=underlying384
 a213:=isAgg384
 z213:=sizeOf384
 t232:=underlying397
 a232:=isAgg397
 z232:=sizeOf397
 v232:=zeroValue397
 t233:=underlying398
 a233:=isAgg398
 z233:=sizeOf398
 v233:=zeroValue398
 g17:=by kernel_rfl
 g18:=by kernel_rfl
 g19:=by kernel_rfl
 i0:=by kernel_rfl
 i2:=by kernel_rfl
 i3:=by kernel_rfl
 i4:=by kernel_rfl
 i5:=by kernel_rfl
 i9:=by kernel_rfl
 i20:=by kernel_rfl
 i37:=by kernel_rfl
 i46:=by kernel_rfl
 i51:=by kernel_rfl
 i53:=by kernel_rfl
 i171:=by kernel_rfl
 i173:=by kernel_rfl
 i212:=by kernel_rfl
 i232:=by kernel_rfl
 i233:=by kernel_rfl
 m17:=by kernel_rfl
 m18:=by kernel_rfl
 m19:=by kernel_rfl}
open Go.RowKit Go.Sort Go.Lib in
theorem strconv_FormatInt_10 (n:Int) (h0:-9223372036854775808<=n) (a:n<=9223372036854775807) (w:ab) (b:Lib.TabIs au w uj ah Lib.pow10Tab):Calls au 229 #[I J n,I J 10] w λc w'=>c=aK (.string ⟨(Lib.itoa n).toArray⟩)∧∃d e,w'=grow (w.drewN d) e:=Any.strconv_FormatInt_10 Dn n h0 a w b
end
variable {i B m:Nat} {W W':ab} {P:List (List Nat)}
theorem xS:prog.globalNamed uj=R 7:=by kernel_rfl
theorem xT:prog.globalNamed "strconv.ErrSyntax"=R 5:=by kernel_rfl
theorem xU:prog.globalNamed "strconv.ErrRange"=R 6:=by kernel_rfl
theorem uu {P:Program} {n:String} {cs:Array Value} (h:Below B W W') (a:P.globalNamed n=R g) (b:g<B) (hv:W.var? P n=R cs):W'.var? P n=R cs:=by unfold World.var? at hv⊢;rw[a] at hv⊢;simp only[Option.bind_some] at hv⊢;rw[h.block g b];exact hv
structure gS (w:ab):Prop where
 lo:10<=w.heap.size
 tab:Df w
 len:∃m:Int,w.cell? ⟨2,0,U⟩=R (I J m)
 pow:Lib.TabIs au w uj ah Lib.pow10Tab
 syn:∃nX p,w.var? au "strconv.ErrSyntax"=R #[.iface nX p]
 rng:∃nX p,w.var? au "strconv.ErrRange"=R #[.iface nX p]
theorem gS.of (h:gS w) (a:Below B w w') (f:10<=B):gS w' where
 lo:=cJ h.lo a.size
 tab:=λj d=>(a.cell (p:=⟨9,j,U⟩) (by show(9:Nat)<B;omega)).trans (h.tab j d)
 len:=by obtain⟨m,e⟩:=h.len;exact⟨m,(a.cell (p:=⟨2,0,U⟩) (by show(2:Nat)<B;omega)).trans e⟩
 pow:=uu a xS (by omega) h.pow
 syn:=by obtain⟨b,p,c⟩:=h.syn;exact⟨b,p,uu a xT (by omega) c⟩
 rng:=by obtain⟨b,p,c⟩:=h.rng;exact⟨b,p,uu a xU (by omega) c⟩
theorem gS.next (h:gS w) (a:Below w.heap.size w w'):gS w':=h.of a h.lo
theorem Dw (k:Nat) (os:Array Obj):Below w.heap.size w (Go.Sort.grow (w.drewN k) os):=⟨rfl,rfl,rfl,by show w.heap.size<=(w.heap++os).size;rw[Array.size_append];omega,λi a=>by show(w.heap++os)[i]?=w.heap[i]?;rw[Array.getElem?_append_left a]⟩
theorem Dx (n:Int):(⟨(Lib.itoa n).toArray⟩:ByteArray)=str (dec n):=by rw[<-xR];unfold str;rw[r4]
theorem Dy (n:Int) (h0:-9223372036854775808<=n) (b:n<=9223372036854775807) (w:ab) (c:gS w):Calls au 229 #[I J n,I J 10] w λa w'=>a=aK (.string (str (dec n)))∧Below w.heap.size w w':=(strconv_FormatInt_10 n h0 b w c.pow).mono λa w' ⟨d,e,f,g⟩=>⟨by rw[d,Dx],by rw[g];exact Dw e f⟩
theorem Dz (s a:ByteArray) (w:ab) (b:gS w) (c:s.size<4294967281) (d:1<=a.size):Calls au 68 #[.string s,.string a] w λe w'=>e=aK (aA (R ⟨w.heap.size,0,U⟩) (Lib.countB s a+1) (Lib.countB s a+1))∧w'=w.alloc (av ((Lib.splitB a 0 (Lib.countB s a) s).map Value.string).toArray 9):=by obtain⟨m,f⟩:=b.len;exact Any.strings_Split {um with} um.i9 s a m w c f d
variable {o:Nat} {u:Value} {ar:Array Value} {l:List Int} {L:List ByteArray}
def eb (k:Int):List Nat:=if k=1∨k=4∨k=11∨k=14 then[97,110] else if k=3 then[97,98] else if k=5 then[97,110,109] else if k=6 then[97,110,115] else if k=15 then[97,115] else[97]
def pd (b c:Nat):Value:=if c=97 then .iface 277 (bm #[af (R ⟨b,1,U⟩)]) else if c=98 then .iface 277 (bm #[af (R ⟨b,2,U⟩)]) else if c=110 then .iface 279 (bm #[af (R ⟨b,3,U⟩)]) else if c=109 then .iface 279 (bm #[af (R ⟨b,4,U⟩)]) else .iface 282 (bm #[af (R ⟨b,5,U⟩)])
def k8 (b:Nat) (k:Int) (w:ab) (e:Ending) (w':ab):Prop:=∃N,e=aK (aA (R ⟨N,0,U⟩) (eb k).length (eb k).length)∧w'.heap[N]?=R (av ((eb k).map (pd b)).toArray 20 (0,0))∧w.heap.size<=N∧Below w.heap.size w w'
theorem h5 {k:Int} {a c:Obj} {l:Nat} {L:List Nat} (d:eb k=L) (e:ar=(L.map (pd b)).toArray) (f:l=L.length) (n:Nat) (g:w'=(((w.alloc a).alloc c).alloc (av ar 20)).drewN n):k8 b k w (aK (aA (R ⟨w.heap.size+1+1,0,U⟩) (l:Nat) (l:Nat))) w':=by
 subst g e f d;have h:((w.alloc a).alloc c).heap.size=w.heap.size+1+1:=by simp
 refine⟨w.heap.size+1+1,rfl,?_,by omega,?_⟩;·rw[<-h];exact lL ((w.alloc a).alloc c) _
 ·exact below_drewN (((bz w a).alloc (by simp) c).alloc (by simp;omega) _) n
theorem DA (b:Nat) (k:Int) (w:ab) (c:b<w.heap.size) (d:w.cell? ⟨b,0,U⟩=R (I J k)) (hk:k=1):Calls au 126 #[af (R ⟨b,0,U⟩)] w (k8 b k w):=by
 have a:=C (by subst hk;rfl:eb k=[97,110]);subst hk;go_enter func126,ntmps126;go_upto_region 1 with fail;go_region;all_goals go_wp2;try go_region
 all_goals go_wp2;go_ret;first
  |exact h5 a rfl rfl 1 rfl
  |exact h5 a rfl rfl 2 rfl
theorem DB (b:Nat) (k:Int) (w:ab) (c:b<w.heap.size) (d:w.cell? ⟨b,0,U⟩=R (I J k)) (hk:k=4):Calls au 126 #[af (R ⟨b,0,U⟩)] w (k8 b k w):=by
 have a:=C (by subst hk;rfl:eb k=[97,110]);subst hk;go_enter func126,ntmps126;go_upto_region 1 with fail;go_region;all_goals go_wp2;try go_region
 all_goals go_wp2;go_ret;first
  |exact h5 a rfl rfl 1 rfl
  |exact h5 a rfl rfl 2 rfl
theorem DC (b:Nat) (k:Int) (w:ab) (c:b<w.heap.size) (d:w.cell? ⟨b,0,U⟩=R (I J k)) (hk:k=11):Calls au 126 #[af (R ⟨b,0,U⟩)] w (k8 b k w):=by
 have a:=C (by subst hk;rfl:eb k=[97,110]);subst hk;go_enter func126,ntmps126;go_upto_region 1 with fail;go_region;all_goals go_wp2;try go_region
 all_goals go_wp2;go_ret;first
  |exact h5 a rfl rfl 1 rfl
  |exact h5 a rfl rfl 2 rfl
theorem DD (b:Nat) (k:Int) (w:ab) (c:b<w.heap.size) (d:w.cell? ⟨b,0,U⟩=R (I J k)) (hk:k=14):Calls au 126 #[af (R ⟨b,0,U⟩)] w (k8 b k w):=by
 have a:=C (by subst hk;rfl:eb k=[97,110]);subst hk;go_enter func126,ntmps126;go_upto_region 1 with fail;go_region;all_goals go_wp2;try go_region
 all_goals go_wp2;go_ret;first
  |exact h5 a rfl rfl 1 rfl
  |exact h5 a rfl rfl 2 rfl
theorem DE (b:Nat) (k:Int) (w:ab) (c:b<w.heap.size) (d:w.cell? ⟨b,0,U⟩=R (I J k)) (hk:k=3):Calls au 126 #[af (R ⟨b,0,U⟩)] w (k8 b k w):=by
 have a:=C (by subst hk;rfl:eb k=[97,98]);subst hk;go_enter func126,ntmps126;go_upto_region 1 with fail;go_region;all_goals go_wp2;try go_region
 all_goals go_wp2;go_ret;first
  |exact h5 a rfl rfl 1 rfl
  |exact h5 a rfl rfl 2 rfl
theorem DF (b:Nat) (k:Int) (w:ab) (c:b<w.heap.size) (d:w.cell? ⟨b,0,U⟩=R (I J k)) (hk:k=5):Calls au 126 #[af (R ⟨b,0,U⟩)] w (k8 b k w):=by
 have a:=C (by subst hk;rfl:eb k=[97,110,109]);subst hk;go_enter func126,ntmps126;go_upto_region 1 with fail;go_region;all_goals go_wp2;try go_region
 all_goals go_wp2;go_ret;first
  |exact h5 a rfl rfl 1 rfl
  |exact h5 a rfl rfl 2 rfl
theorem DG (b:Nat) (k:Int) (w:ab) (c:b<w.heap.size) (d:w.cell? ⟨b,0,U⟩=R (I J k)) (hk:k=6):Calls au 126 #[af (R ⟨b,0,U⟩)] w (k8 b k w):=by
 have a:=C (by subst hk;rfl:eb k=[97,110,115]);subst hk;go_enter func126,ntmps126;go_upto_region 1 with fail;go_region;all_goals go_wp2;try go_region
 all_goals go_wp2;go_ret;first
  |exact h5 a rfl rfl 1 rfl
  |exact h5 a rfl rfl 2 rfl
theorem DH (b:Nat) (k:Int) (w:ab) (c:b<w.heap.size) (d:w.cell? ⟨b,0,U⟩=R (I J k)) (hk:k=15):Calls au 126 #[af (R ⟨b,0,U⟩)] w (k8 b k w):=by
 have a:=C (by subst hk;rfl:eb k=[97,115]);subst hk;go_enter func126,ntmps126;go_upto_region 1 with fail;go_region;all_goals go_wp2;try go_region
 all_goals go_wp2;go_ret;first
  |exact h5 a rfl rfl 1 rfl
  |exact h5 a rfl rfl 2 rfl
theorem DI (b:Nat) (k:Int) (w:ab) (l:b<w.heap.size) (m:w.cell? ⟨b,0,U⟩=R (I J k)) (g:k≠1) (h:k≠4) (i:k≠11) (j:k≠14) (a:k≠3) (c:k≠5) (d:k≠6) (e:k≠15):Calls au 126 #[af (R ⟨b,0,U⟩)] w (k8 b k w):=by
 have f:=C (by unfold eb;rw[z0 (by omega),z0 a,z0 c,z0 d,z0 e]:eb k=[97]);have n:(k==1)=false:=beq_eq_false_iff_ne.2 g;have o:(k==4)=false:=beq_eq_false_iff_ne.2 h;have p:(k==11)=false:=beq_eq_false_iff_ne.2 i;have q:(k==14)=false:=beq_eq_false_iff_ne.2 j;have r:(k==3)=false:=beq_eq_false_iff_ne.2 a;have s:(k==5)=false:=beq_eq_false_iff_ne.2 c;have t:(k==6)=false:=beq_eq_false_iff_ne.2 d;have u:(k==15)=false:=beq_eq_false_iff_ne.2 e;go_enter func126,ntmps126;go_upto_region 1 with fail;go_region;all_goals go_wp2;try go_region
 all_goals go_wp2;go_ret;first
  |exact h5 f rfl rfl 1 rfl
  |exact h5 f rfl rfl 2 rfl
theorem DJ (b:Nat) (k:Int) (w:ab) (a:b<w.heap.size) (c:w.cell? ⟨b,0,U⟩=R (I J k)):Calls au 126 #[af (R ⟨b,0,U⟩)] w (k8 b k w):=by
 by_cases d:k=1;·exact DA b k w a c d
 by_cases e:k=4;·exact DB b k w a c e
 by_cases f:k=11;·exact DC b k w a c f
 by_cases g:k=14;·exact DD b k w a c g
 by_cases h:k=3;·exact DE b k w a c h
 by_cases i:k=5;·exact DF b k w a c i
 by_cases j:k=6;·exact DG b k w a c j
 by_cases l:k=15;·exact DH b k w a c l
 exact DI b k w a c d e f g h i j l
variable {y:ab}
def hM (a b:Nat):Nat->Nat
 |0=>0
 |p+1=>hM a b p+if a<=p∧p<=b then 2^p else 0
def span (a b:Nat):Nat:=hM a b 64
theorem qg (a b k:Nat):hM a b k<2^k:=by
 induction k with
 |zero=>simp[hM]
 |succ p c=>
  unfold hM;have:2^(p+1)=2^p+2^p:=by rw[Nat.pow_succ];omega
  split<;>omega
theorem xV {x:Nat} (h:x<2^p):x+2^p=x|||2^p:=by rw[Nat.add_comm,Nat.or_comm];have:=Nat.two_pow_add_eq_or_of_lt h 1;simpa using this
theorem uv (a b k p:Nat):(hM a b k).testBit p=(decide (p<k)&&(decide (a<=p)&&decide (p<=b))):=by
 induction k with
 |zero=>simp[hM]
 |succ k c=>
  unfold hM;by_cases d:a<=k∧k<=b;·rw[aj d,xV (qg a b k),Nat.testBit_or,c,Nat.testBit_two_pow];rw[hK];simp only[nW,iy,decide_eq_true_eq];omega
  ·rw[z0 d,Nat.add_zero,c,hK];simp only[iy,decide_eq_true_eq];omega
theorem DK (a b p:Nat):(span a b).testBit p=(decide (p<64)&&(decide (a<=p)&&decide (p<=b))):=uv a b 64 p
theorem DL (a b:Nat):span a b<18446744073709551616:=qg a b 64
theorem uw {x y:Nat} (a:x<18446744073709551616) (b:y<18446744073709551616):x|||y<18446744073709551616:=Nat.or_lt_two_pow (n:=64) a b
structure ec where
 set:Nat
 fr:Nat
 n:Nat
 figs:Nat
 dashed:Bool
 over:Bool
def ng (r:ec) (c:Nat):Option ec:=if r.figs=2∨(r.figs=1∧r.n=0) then U else R {r with n:=10*r.n+(c-48),figs:=r.figs+1}
def nY (r:ec):ec:={r with over:=r.over||decide (64<=r.n),figs:=0}
def jJ (r:ec) (f:Nat) (o:Bool):ec:={set:=if o=true then r.set else r.set|||span f r.n,fr:=f,n:=0,figs:=0,dashed:=false,over:=o}
def part (r:ec):Option ec:=if r.figs=0 then U else R (jJ r (if r.dashed=true then r.fr else r.n) ((r.over||decide (64<=r.n))||decide (r.n<if r.dashed=true then r.fr else r.n)))
def hN (r:ec) (c:Nat):Option ec:=if 48<=c∧c<=57 then ng r c else if c=44 then part r else if c=45∧r.dashed=false∧r.figs≠0 then R {nY r with fr:=r.n,n:=0,dashed:=true} else U
def kx:ec->List Nat->Option ec
 |r,[]=>R r
 |r,c::l=>(hN r c).bind λq=>kx q l
def nh:ec:=⟨0,0,0,0,false,false⟩
def fin:Option ec->Nat×Nat
 |none=>(0,11)
 |some r=>if r.over=true then(0,1) else(r.set,0)
theorem DM {q:ec} (h:q.over=true):fin (R q)=(0,1):=aj h
theorem DN {q:ec} (h:q.over=false):fin (R q)=(q.set,0):=z0 (by rw[h];decide)
def fg (l:List Nat):Nat×Nat:=if l=[] then(0,0) else fin ((kx nh l).bind part)
theorem xW (r:ec) (x y:List Nat):kx r (x++y)=(kx r x).bind λa=>kx a y:=by
 induction x generalizing r with
 |nil=>rfl
 |cons c x b=>show((hN r c).bind λa=>kx a (x++y))=_;rw[kx,Option.bind_assoc];congr 1;funext a;exact b a
theorem DO (l:List Nat):fg l=(0,11)∨fg l=(0,1)∨∃m,fg l=(m,0):=by
 unfold fg;by_cases a:l=[];·rw[aj a];exact .inr (.inr ⟨_,rfl⟩)
 ·rw[z0 a];cases(kx nh l).bind part with
  |none=>exact .inl rfl
  |some q=>
   by_cases b:q.over=true;·exact .inr (.inl (by simp[fin,b]))
   ·exact .inr (.inr ⟨q.set,by simp[fin,b]⟩)
variable {S Z:Nat->Prop} {A:ab} {V:List (Int×Int)->ab->Prop} {aJ:Bool}
def ky (r:ec):Array Value:=#[I ah r.set,I J r.fr,I J r.n,I J r.figs,aE r.dashed,aE r.over]
def hO (w:ab) (b:Nat) (r:ec):Prop:=w.heap[b]?=R (av (ky r) 325 (0,0))
def qh (b:Nat) (w:ab) (o:Option ec) (e:Ending) (w':ab):Prop:=e=aK (aE o.isSome)∧Kept b w w'∧∀q,o=R q->hO w' b q
theorem nZ {o:Option ec} {e:Ending} (a:o=U) (c:e=aK (aE false)) (hk:Kept b w w'):qh b w o e w':=by subst a;exact⟨c,hk,λf d=>by cases d⟩
theorem ni {o:Option ec} {e:Ending} {q:ec} (c:o=R q) (d:e=aK (aE true)) (hk:Kept b w w') (f:w'.heap[b]?=R (av ar 325 (0,0))) (g:ar=ky q):qh b w o e w':=by subst c g;exact⟨d,hk,λq a=>by injection a with a;subst a;exact f⟩
theorem iW (w:ab):Kept b w ((w.setCell ⟨b,i,U⟩ u).setCell ⟨b,j,U⟩ v):=((Kept.refl b w).setCell u).setCell v
structure DP (w:ab) (b:Nat) (r:ec):Prop where
 c0:w.cell? ⟨b,0,U⟩=R (I ah r.set)
 bQ:w.cell? ⟨b,1,U⟩=R (I J r.fr)
 c2:w.cell? ⟨b,2,U⟩=R (I J r.n)
 c3:w.cell? ⟨b,3,U⟩=R (I J r.figs)
 c4:w.cell? ⟨b,4,U⟩=R (aE r.dashed)
 c5:w.cell? ⟨b,5,U⟩=R (aE r.over)
 f:∀i,w.frozen? ⟨b,i,U⟩=false
theorem hO.cW {r:ec} (h:hO w b r):DP w b r:=⟨bN h rfl,bN h rfl,bN h rfl,bN h rfl,bN h rfl,bN h rfl,λi=>lK h⟩
theorem DQ (b c:Nat) (r:ec) (w:ab) (h:hO w b r) (t:48<=c) (u:c<=57) (q:r.n<100) (s:r.figs<100):Calls au 248 #[af (R ⟨b,0,U⟩),I .i32 (c:Int)] w (qh b w (ng r c)):=by
 obtain⟨i,j,n,a,k,l⟩:=r;have v:w.cell? ⟨b,2,U⟩=R (I J (n:Int)):=h.cW.c2;have x:w.cell? ⟨b,3,U⟩=R (I J (a:Int)):=h.cW.c3;have y:w.frozen? ⟨b,2,U⟩=false:=h.cW.f 2;have z:w.frozen? ⟨b,3,U⟩=false:=h.cW.f 3;have A:n<100:=q;have B:a<100:=s;have e:¬(a=2∨(a=1∧n=0))->ng ⟨i,j,n,a,k,l⟩ c=R ⟨i,j,10*n+(c-48),a+1,k,l⟩:=λh=>by unfold ng;rw[z0 h]
 have g:(a=2∨(a=1∧n=0))->ng ⟨i,j,n,a,k,l⟩ c=U:=λh=>by unfold ng;rw[aj h]
 cases m:((a:Int)==2)
 ·cases o:((a:Int)==1);·have d:=C (e (by simp at o m;omega));clear e g;go_enter func248,ntmps248;go_wp2;go_ret;exact ni d rfl (iW w) (eN _ (eN _ h)) (by simp[ky];omega)
  ·cases p:((n:Int)==0);·have d:=C (e (by simp at p m;omega));clear e g;go_enter func248,ntmps248;go_wp2;go_ret;exact ni d rfl (iW w) (eN _ (eN _ h)) (by simp[ky];omega)
   ·have d:=C (g (by simp at p o;omega));clear e g;go_enter func248,ntmps248;go_wp2;go_ret;exact nZ d rfl (Kept.refl _ _)
 ·have d:=C (g (by simp at m;omega));clear e g;go_enter func248,ntmps248;go_wp2;go_ret;exact nZ d rfl (Kept.refl _ _)
def xX (b:Nat) (w:ab) (r:ec) (e:Ending) (w':ab):Prop:=e=aK (aE (decide (0<r.figs)))∧Kept b w w'∧hO w' b (nY r)
theorem DR {r:ec} {e:Ending} {v:Bool} (a:e=aK (aE v)) (hv:v=decide (0<r.figs)) (hk:Kept b w w') (c:w'.heap[b]?=R (av ar 325 (0,0))) (d:ar=ky (nY r)):xX b w r e w':=by subst hv d;exact⟨a,hk,c⟩
theorem r5 (b:Nat) (r:ec) (w:ab) (h:hO w b r):Calls au 249 #[af (R ⟨b,0,U⟩)] w (xX b w r):=by obtain⟨e,g,n,c,i,a⟩:=r;have j:w.cell? ⟨b,2,U⟩=R (I J (n:Int)):=h.cW.c2;have k:w.cell? ⟨b,3,U⟩=R (I J (c:Int)):=h.cW.c3;have l:w.cell? ⟨b,5,U⟩=R (aE a):=h.cW.c5;have m:w.frozen? ⟨b,3,U⟩=false:=h.cW.f 3;have o:w.frozen? ⟨b,5,U⟩=false:=h.cW.f 5;have d:=C h;clear h;cases a;all_goals go_enter func249,ntmps249;go_wp2;go_ret;exact DR rfl (by simp) (iW w) (eN _ (eN _ d)) (by simp[ky,nY]<;>omega)
theorem DS {x:Nat} (d:x<18446744073709551616) (e:p<64):bits .or ah (x:Int) (IntKind.u64.wrap (2^p))=((x|||2^p:Nat):Int):=by
 have b:(2:Int)^p=((2^p:Nat):Int):=by simp
 have c:2^p<18446744073709551616:=(Nat.pow_lt_pow_right (by decide) e:2^p<2^64);have f:∀a:Nat,a<18446744073709551616->(a:Int)%18446744073709551616=a:=λa b=>by omega
 rw[nT,b,f _ c];exact u64_or_nat _ _ d c
theorem xY {set fr figs:Nat} {dashed over:Bool} (h:hO w b ⟨set,fr,n,figs,dashed,over⟩) (a:set<18446744073709551616) (c:p<64):hO (w.setCell ⟨b,0,U⟩ (I ah (bits .or ah (set:Int) (IntKind.u64.wrap (2^p))))) b ⟨set|||2^p,fr,n,figs,dashed,over⟩:=by rw[DS a c];exact eN _ h
theorem xZ {fr:Nat} (set:Nat) (a:fr<=p) (b:p<=n):set|||hM fr n (p+1)=(set|||hM fr n p)|||2^p:=by rw[hM,aj ⟨a,b⟩,xV (qg fr n p),Nat.or_assoc]
theorem x0 {fr:Nat} (set:Nat):set|||hM fr n fr=set:=by
 refine Nat.eq_of_testBit_eq λq=>?_;rw[Nat.testBit_or,uv];have:(decide (q<fr)&&(decide (fr<=q)&&decide (q<=n)))=false:=by simp;omega
 rw[this,Bool.or_false]
theorem x1 {fr:Nat} (a:n<=63):hM fr n (n+1)=span fr n:=by refine Nat.eq_of_testBit_eq λb=>?_;rw[uv,DK,hK];simp;omega
theorem x2 (b:Nat) (r:ec) (w:ab) (h:hO w b r) (S:r.n<100) (T:r.fr<100) (V:r.set<18446744073709551616):Calls au 227 #[af (R ⟨b,0,U⟩)] w (qh b w (part r)):=by
 by_cases y:r.figs=0;·have t:=C (show part r=U by unfold part;rw[aj y]);have B:=C (show decide (0<r.figs)=false by simp[y]);have W:=C h;clear h y;go_enter func227,ntmps227;go_wp2_with fail;refine(r5 b r w W.out).mono ?_;rintro X j ⟨rfl,k,D⟩;rw[B.out];have z:=C k;clear k D;go_wp2;go_ret;exact nZ t.out rfl z.out
 ·have Y:decide (0<r.figs)=true:=by simp;omega
  obtain⟨d,l,n,u,A,o⟩:=r;have B:=C Y;have aU:n<100:=S;have aP:l<100:=T;have L:d<18446744073709551616:=V;have t:=C (show part ⟨d,l,n,u,A,o⟩=_ from z0 y);go_enter func227,ntmps227;go_wp2_with fail;refine(r5 b _ w h).mono ?_;rintro X j ⟨rfl,k,D⟩;rw[B.out];have z:=C k;have q:=C (show hO j b ⟨d,l,n,0,A,o||decide (64<=n)⟩ from D);obtain⟨aJ,M⟩:∃aJ,(o||decide (64<=n))=aJ:=⟨_,rfl⟩;have N:=C M;rw[M] at t q;have O:j.cell? ⟨b,4,U⟩=R (aE A):=q.out.cW.c4;have aT:j.cell? ⟨b,2,U⟩=R (I J (n:Int)):=q.out.cW.c2;have aV:j.cell? ⟨b,1,U⟩=R (I J (l:Int)):=q.out.cW.bQ;have aZ:j.frozen? ⟨b,1,U⟩=false:=q.out.cW.f 1;cases A
  ·go_upto_region 5 with fail;have c:=C (show hO (j.setCell ⟨b,1,U⟩ (I J (n:Int))) b ⟨d,n,n,0,false,aJ⟩ from eN _ q.out);have m:=C (z.out.setCell (i:=1) (I J (n:Int)));have s:=C (show part ⟨d,l,n,u,false,o⟩=R (jJ ⟨d,l,n,u,false,o⟩ n (aJ||decide (n<n))) from t.out);generalize j.setCell ⟨b,1,U⟩ (I J (n:Int))=e at c m⊢;obtain⟨a,rfl⟩:∃a,a=n:=⟨n,rfl⟩;have Z:e.cell? ⟨b,1,U⟩=R (I J (a:Int)):=c.out.cW.bQ;have aa:e.cell? ⟨b,2,U⟩=R (I J (a:Int)):=c.out.cW.c2;have ao:e.cell? ⟨b,5,U⟩=R (aE aJ):=c.out.cW.c5;have O:e.cell? ⟨b,4,U⟩=R (aE false):=c.out.cW.c4;have ac:e.frozen? ⟨b,2,U⟩=false:=c.out.cW.f 2;have ay:e.frozen? ⟨b,4,U⟩=false:=c.out.cW.f 4;have ad:e.frozen? ⟨b,5,U⟩=false:=c.out.cW.f 5;have aB:decide (a<a)=false:=(by simp);have P:=C aB;cases aJ
   ·go_quiet (fail);go_wp2_with fail;have v:=C (m.out.drewN nq);have x:=C (show hO (e.drewN nq) b ⟨d,a,a,0,false,false⟩ from c.out);generalize e.drewN nq=az at v x⊢;have E:a<=63:=(by have:=N.out;simp at this;omega);go_loopw [3] (λi wr=>∃p:Nat,a<=p∧p<=a+1∧i=I J p∧Kept b w wr∧hO wr b ⟨d|||hM a a p,a,a,0,false,false⟩) (λi _=>a+1-(intOf i).toNat);case atStart=>exact⟨a,bM _,by omega,rfl,v.out,by rw[x0];exact x.out⟩
    case round=>
     obtain⟨p,F,aC,rfl,k,g⟩:=hrel;have G:d|||hM a a p<18446744073709551616:=uw L (dm (qg a a p) (show 2^p<=2^64 from r0 (by omega) (by omega)));have aF:wr.cell? ⟨b,0,U⟩=R (I ah ((d|||hM a a p:Nat):Int)):=g.cW.c0;have ae:wr.cell? ⟨b,2,U⟩=R (I J (a:Int)):=g.cW.c2;have am:wr.cell? ⟨b,4,U⟩=R (aE false):=g.cW.c4;have aM:wr.frozen? ⟨b,0,U⟩=false:=g.cW.f 0;have ap:wr.frozen? ⟨b,2,U⟩=false:=g.cW.f 2;have aO:wr.frozen? ⟨b,4,U⟩=false:=g.cW.f 4;by_cases H:p<=a
     ·have K:(p:Int)<=(a:Int):=(by omega);go_wp2;go_roundw;case rel=>exact⟨p+1,by omega,by omega,by go_num,k.setCell _,by rw[xZ d F H];exact xY g G (by omega)⟩
      case measure=>simp[intOf];omega
     ·have K:¬(p:Int)<=(a:Int):=(by omega);go_wp2;go_ret;obtain rfl:p=a+1:=by omega
      exact ni s.out rfl ((k.setCell _).setCell _) (eN _ (eN _ g)) (by simp[ky,jJ,x1 E])
   ·go_quiet (fail);go_wp2;go_ret;exact ni s.out rfl (((m.out.drewN _).setCell _).setCell _) (eN _ (eN _ (ui c.out))) (by simp[ky,jJ])
  ·go_upto_region 5 with fail;obtain⟨a,rfl⟩:∃a,a=l:=⟨l,rfl⟩;have c:=C (show hO j b ⟨d,a,n,0,true,aJ⟩ from q.out);have m:=C z.out;have s:=C (show part ⟨d,a,n,u,true,o⟩=R (jJ ⟨d,a,n,u,true,o⟩ a (aJ||decide (n<a))) from t.out);generalize j=e at c m⊢;have Z:e.cell? ⟨b,1,U⟩=R (I J (a:Int)):=c.out.cW.bQ;have aa:e.cell? ⟨b,2,U⟩=R (I J (n:Int)):=c.out.cW.c2;have ao:e.cell? ⟨b,5,U⟩=R (aE aJ):=c.out.cW.c5;have O:e.cell? ⟨b,4,U⟩=R (aE true):=c.out.cW.c4;have ac:e.frozen? ⟨b,2,U⟩=false:=c.out.cW.f 2;have ay:e.frozen? ⟨b,4,U⟩=false:=c.out.cW.f 4;have ad:e.frozen? ⟨b,5,U⟩=false:=c.out.cW.f 5;by_cases Q:n<a;·have aQ:(n:Int)<(a:Int):=(by omega);have aS:=C (show decide (n<a)=true by simpa using Q);go_quiet (fail);go_wp2;go_ret;exact ni s.out rfl ((((m.out.drewN _).setCell _).setCell _).setCell _) (eN _ (eN _ (eN _ (ui c.out)))) (by simp[ky,jJ,aS.out])
   ·have aQ:¬(n:Int)<(a:Int):=(by omega);have P:=C (show decide (n<a)=false by simpa using Q);cases aJ
    ·go_quiet (fail);go_wp2_with fail;have v:=C (m.out.drewN nq);have x:=C (show hO (e.drewN nq) b ⟨d,a,n,0,true,false⟩ from c.out);generalize e.drewN nq=az at v x⊢;have E:n<=63:=(by have:=N.out;simp at this;omega);go_loopw [3] (λi wr=>∃p:Nat,a<=p∧p<=n+1∧i=I J p∧Kept b w wr∧hO wr b ⟨d|||hM a n p,a,n,0,true,false⟩) (λi _=>n+1-(intOf i).toNat);case atStart=>exact⟨a,bM _,by omega,rfl,v.out,by rw[x0];exact x.out⟩
     case round=>
      obtain⟨p,F,aC,rfl,k,g⟩:=hrel;have G:d|||hM a n p<18446744073709551616:=uw L (dm (qg a n p) (r0 (by omega) (by omega):2^p<=2^64));have aF:wr.cell? ⟨b,0,U⟩=R (I ah ((d|||hM a n p:Nat):Int)):=g.cW.c0;have ae:wr.cell? ⟨b,2,U⟩=R (I J (n:Int)):=g.cW.c2;have am:wr.cell? ⟨b,4,U⟩=R (aE true):=g.cW.c4;have aM:wr.frozen? ⟨b,0,U⟩=false:=g.cW.f 0;have ap:wr.frozen? ⟨b,2,U⟩=false:=g.cW.f 2;have aO:wr.frozen? ⟨b,4,U⟩=false:=g.cW.f 4;by_cases H:p<=n
      ·have K:(p:Int)<=(n:Int):=(by omega);go_wp2;go_roundw;case rel=>exact⟨p+1,by omega,by omega,by go_num,k.setCell _,by rw[xZ d F H];exact xY g G (by omega)⟩
       case measure=>simp[intOf];omega
      ·have K:¬(p:Int)<=(n:Int):=(by omega);go_wp2;go_ret;obtain rfl:p=n+1:=by omega
       exact ni s rfl ((k.setCell _).setCell _) (eN _ (eN _ g)) (by simp[ky,jJ,P.out,x1 E])
    ·go_quiet (fail);go_wp2;go_ret;exact ni s rfl (((m.drewN _).setCell _).setCell _) (eN _ (eN _ (ui c))) (by simp[ky,jJ])
theorem DT {r:ec} {f:Nat} {o:Bool} (h:r.set<18446744073709551616):(jJ r f o).set<18446744073709551616:=by
 unfold jJ;dsimp only;split;·exact h
 ·exact uw h (DL _ _)
def n1 (r:ec):Prop:=r.n<100∧r.figs<=2∧r.fr<100∧r.set<18446744073709551616∧(r.figs=0->r.n=0)∧(r.figs=1->r.n<10)
theorem DU {r q:ec} (h:n1 r) (e:hN r c=R q):n1 q:=by
 obtain⟨j,o,k,a,b,l⟩:=h;unfold hN at e;by_cases d:48<=c∧c<=57
 ·rw[aj d] at e;unfold ng at e;by_cases g:r.figs=2∨(r.figs=1∧r.n=0);·rw[aj g] at e;cases e
  ·rw[z0 g] at e;injection e with e
   subst e;unfold n1;dsimp only;refine⟨?_,by omega,k,a,by omega,?_⟩
   ·by_cases m:r.figs=0;·have:=b m;omega
    ·have:=l (by omega);omega
   ·intro p;have:=b (by omega);omega
 ·rw[z0 d] at e;by_cases f:c=44
  ·rw[aj f] at e;unfold part at e;by_cases i:r.figs=0;·rw[aj i] at e;cases e
   ·rw[z0 i] at e;injection e with e
    subst e;exact⟨by simp[jJ],by simp[jJ],by simp only[jJ];split<;>omega,DT a,λ_=>rfl,λ_=>by simp[jJ]⟩
  ·rw[z0 f] at e;by_cases g:c=45∧r.dashed=false∧r.figs≠0
   ·rw[aj g] at e;injection e with e
    subst e;exact⟨by simp,by simp[nY],j,a,λ_=>rfl,λ_=>by simp⟩
   ·rw[z0 g] at e;cases e
theorem DV (b c:Nat) (r:ec) (w:ab) (h:hO w b r) (B:n1 r) (L:c<2147483648):Calls au 226 #[af (R ⟨b,0,U⟩),I .i32 (c:Int)] w (qh b w (hN r c)):=by
 obtain⟨x,j,D,E,_,_⟩:=B;have o:=C h;by_cases g:48<=c∧c<=57
 ·have a:=C (by unfold hN;rw[aj g]:hN r c=ng r c);have y:(48:Int)<=(c:Int):=by omega
  have F:(c:Int)<=57:=by omega
  go_enter func226,ntmps226;go_wp2_with fail;refine(DQ b c r w o g.1 g.2 x (by omega)).mono ?_;rintro s e ⟨rfl,j⟩;have t:=C j;go_wp2;go_ret;rw[a.out];exact⟨rfl,t⟩
 ·by_cases p:c=44;·subst p;have a:=C (by unfold hN;rw[z0 g,aj rfl]:hN r 44=part r);clear h g;go_enter func226,ntmps226;go_wp2_with fail;refine(x2 b r w o x D E).mono ?_;rintro s e ⟨rfl,j⟩;have t:=C j;clear j;go_wp2;go_ret;rw[a.out];exact⟨rfl,t⟩
  ·have M:((c:Int)==44)=false:=(by simp;omega);have i:¬(c=45∧r.dashed=false∧r.figs≠0)->hN r c=U:=λh=>by unfold hN;rw[z0 g,z0 p,z0 h]
   by_cases q:c=45
   ·subst q;obtain⟨z,fr,n,k,dashed,A⟩:=r;have G:w.cell? ⟨b,4,U⟩=R (aE dashed):=h.cW.c4;cases dashed
    ·by_cases l:k=0;·have a:=C (i (by simp[l]));have u:=C (by simp[l]:decide (0<k)=false);clear i l;go_enter func226,ntmps226;go_wp2_with fail;refine(r5 b _ w o).mono ?_;rintro s e ⟨rfl,m,d⟩;rw[u.out];have v:=C m;clear m d;go_wp2;go_ret;exact nZ a rfl v
     ·have a:=C (by unfold hN;rw[z0 (by omega),z0 (by omega),aj ⟨rfl,rfl,l⟩]:hN ⟨z,fr,n,k,false,A⟩ 45=R {nY ⟨z,fr,n,k,false,A⟩ with fr:=n,n:=0,dashed:=true});have u:=C (by simp;omega:decide (0<k)=true);clear i l;go_enter func226,ntmps226;go_wp2_with fail;refine(r5 b _ w o).mono ?_;rintro s e ⟨rfl,m,d⟩;rw[u.out];have v:=C m;have H:=C d;have N:e.cell? ⟨b,1,U⟩=R (I J (fr:Int)):=d.cW.bQ;have O:e.cell? ⟨b,2,U⟩=R (I J (n:Int)):=d.cW.c2;have P:e.cell? ⟨b,4,U⟩=R (aE false):=d.cW.c4;have Q:e.frozen? ⟨b,1,U⟩=false:=d.cW.f 1;have S:e.frozen? ⟨b,2,U⟩=false:=d.cW.f 2;have T:e.frozen? ⟨b,4,U⟩=false:=d.cW.f 4;clear m d G;go_wp2;go_ret;exact ni a rfl (((v.setCell _).setCell _).setCell _) (eN _ (eN _ (eN _ H))) (by simp[ky,nY])
    ·have a:=C (i (by simp));clear i;go_enter func226,ntmps226;go_wp2;go_ret;exact nZ a rfl (Kept.refl _ _)
   ·have a:=C (i λh=>q h.1);have V:((c:Int)==45)=false:=(by simp;omega);rcases nd c 48 with K|K;·have y:¬(48:Int)<=(c:Int):=(by omega);clear g p q;go_enter func226,ntmps226;go_wp2;go_ret;exact nZ a rfl (Kept.refl _ _)
    ·have y:(48:Int)<=(c:Int):=(by omega);have F:¬(c:Int)<=57:=(by omega);clear g p q;go_enter func226,ntmps226;go_wp2;go_ret;exact nZ a rfl (Kept.refl _ _)
theorem x3 (r:ec) (h:58<=c):hN r c=U:=by unfold hN;rw[z0 (by omega),z0 (by omega),z0 (by omega)]
theorem DW {s:ByteArray} (h:p<s.size) {r:ec} (a:kx nh ((bh s).take p)=R r) (b:hN r (s[p]'h).toNat=U):fg (bh s)=(0,11):=by
 unfold fg;rw[z0 (by rw[qe];omega)];have c:bh s=(bh s).take p++(s[p]'h).toNat::(bh s).drop (p+1):=by rw[<-xO s p h,List.take_append_drop]
 rw[c,xW,a];show fin (((hN r _).bind _).bind part)=_;rw[b];rfl
theorem ux {s:ByteArray} (h:s.size≠0) {r:ec} (a:kx nh (bh s)=R r):fg (bh s)=fin (part r):=by unfold fg;rw[z0 (by rw[qe];omega),a];rfl
theorem DX:n1 nh:=by unfold n1 nh;simp
theorem x4 (s:ByteArray) (w:ab) (N:s.size<=maxLen):Calls au 184 #[.string s] w λr w'=>r=aK (bD #[I ah ((fg (bh s)).1:Int),I J ((fg (bh s)).2:Int)])∧Below w.heap.size w w':=by
 unfold maxLen at N;cases he:s.toList.isEmpty
 ·have i:s.size≠0:=by rw[Lib.toList_data] at he;intro O;have t:=(qe s).2 O;unfold bh at t;rw[List.map_eq_nil_iff] at t;rw[t] at he;cases he
  go_enter func184,ntmps184;go_wp2;go_loopw [6] (λ_ wr=>∃(p:Nat) (b:ec),p<=s.size∧wr.heap[w.heap.size+1]?=R (.stringIter s p)∧kx nh ((bh s).take p)=R b∧n1 b∧hO wr w.heap.size b∧Below w.heap.size w wr) (λ_ wr=>s.size-wr.iterPos (w.heap.size+1));case atStart=>
   refine⟨0,nh,hq _,?_,by simp[kx],DX,?_,((Below.refl _ w).alloc zK9 _).alloc (by simp) _⟩;·have:=World.iter_heap (w.alloc (av #[I ah 0,I J 0,I J 0,I J 0,aE false,aE false] 325)) s 0;simpa using this
   ·exact nf (lL w _)
  case round=>
   obtain⟨p,b,aa,f,P,Q,D,E⟩:=hrel;have ao:w.heap.size+1<wr.heap.size:=(iQ.1 f).1;have S:=C f;have g:=C P;have u:=C Q;by_cases c:p<s.size;·have ac:=decode_le s p;have F:∀e,(Instr.next (af (R ⟨w.heap.size+1,0,U⟩)) true e).run au wr=_:=λe=>Lib.run_next_any_at wr (w.heap.size+1) s p e f c;have G:=C ((Lib.iterAt_other wr (w.heap.size+1) w.heap.size s _ (by omega)).trans D:hO (wr.iterAt (w.heap.size+1) s (p+(Utf8.decode s p).2)) w.heap.size b);have v:=C (Lib.iterAt_heap wr (w.heap.size+1) s p (p+(Utf8.decode s p).2) f);have x:=C (Lib.below_iterAt E (k:=w.heap.size+1) (by omega) s (p+(Utf8.decode s p).2));have H:w.heap.size+1<(wr.iterAt (w.heap.size+1) s (p+(Utf8.decode s p).2)).heap.size:=(by rw[Lib.iterAt_size];omega);clear f;go_wp2_with fail;clear F;refine(DV w.heap.size (Utf8.decode s p).1 b _ G u (by omega)).mono ?_;rintro r y ⟨rfl,j,n⟩;generalize wr.iterAt (w.heap.size+1) s (p+(Utf8.decode s p).2)=ay at G v x H j⊢;have z:=C j;have l:=C n;clear j n;cases a:hN b (Utf8.decode s p).1 with
    |none=>
     have d:=C (show fg (bh s)=(0,11) from DW c g (by
      by_cases A:(s[p]'c).toNat<128;·rw[decode_ascii s p c A] at a;exact a
      ·exact x3 b (by omega)))
     go_wp2;go_ret2;exact⟨by rw[d.out];rfl,x.trans (z.below zK9 (by omega))⟩
    |some q=>
     have T:(s[p]'c).toNat<128:=by
      by_cases A:(s[p]'c).toNat<128;·exact A
      ·have:=(decode_high s p c (by omega)).1;rw[x3 b (by omega)] at a;cases a
     have K:=decode_ascii s p c T;rw[K] at a v;have B:=C a;have V:=C (l q (by rw[K];exact B));have L:=C ((z.block (w.heap.size+1) H (by omega)).trans v);have m:=C (x.trans (z.below zK9 (by omega)));go_wp2;go_roundw;case rel=>exact⟨p+1,q,by omega,L,by rw[Dp s p c,xW,g.out];show(hN b _).bind _=_;rw[B.out];rfl,DU u B,V,m⟩
     case measure=>rw[iterPos_of L.out,iterPos_of S.out];omega
   ·have F:∀e,(Instr.next (af (R ⟨w.heap.size+1,0,U⟩)) true e).run au wr=_:=λe=>Lib.run_next_end_at wr (w.heap.size+1) s p e f c;obtain rfl:p=s.size:=by omega
    have W:(bh s).take s.size=bh s:=ub (by rw[lM];exact bM _);rw[W] at g;obtain⟨X,ad,Y,Z,aB,az⟩:=u;go_wp2_with fail;apply(x2 w.heap.size b _ D X Y Z).mono;rintro r y ⟨rfl,j,n⟩;have m:=C (E.trans (j.below zK9 (by omega)));have l:=C n;cases a:part b with
    |none=>have d:=C (by rw[ux i g.out,a];rfl:fg (bh s)=(0,11));clear a;go_wp2;go_ret2;exact⟨by rw[d.out];rfl,m⟩
    |some q=>
     have o:=l q a;have aC:y.cell? ⟨w.heap.size,0,U⟩=R (I ah (q.set:Int)):=o.cW.c0;have M:y.cell? ⟨w.heap.size,5,U⟩=R (aE q.over):=o.cW.c5;cases h:q.over;·have d:=C (by rw[ux i g.out,a,DN h]:fg (bh s)=(q.set,0));rw[h] at M;clear a h o l;go_wp2;go_ret2;exact⟨by rw[d.out];rfl,m⟩
     ·have d:=C (by rw[ux i g.out,a,DM h]:fg (bh s)=(0,1));rw[h] at M;clear a h o l;go_wp2;go_ret2;exact⟨by rw[d.out];rfl,m⟩
 ·have i:s.size=0:=by rw[Lib.toList_data,o8] at he;exact(qe s).1 (by unfold bh;rw[he];rfl)
  have d:=C (by unfold fg;rw[aj ((qe s).2 i)]:fg (bh s)=(0,0));go_enter func184,ntmps184;go_wp2;go_ret2;exact⟨by rw[d.out];rfl,Below.refl _ _⟩
theorem DY (v:Value) (w:ab):(Instr.typeAssert (.iface 277 v) 20 277 true).run au w= .ok (bD #[v,aE true]) w:=by kernel_rfl
theorem DZ (v:Value) (w:ab):(Instr.typeAssert (.iface 282 v) 20 282 true).run au w= .ok (bD #[v,aE true]) w:=by kernel_rfl
theorem D0 (v:Value) (w:ab):(Instr.typeAssert (.iface 279 v) 20 277 true).run au w= .ok (bD #[bm #[af U],aE false]) w:=by kernel_rfl
theorem D1 (v:Value) (w:ab):(Instr.typeAssert (.iface 277 v) 20 282 true).run au w= .ok (bD #[bm #[af U],aE false]) w:=by kernel_rfl
theorem D2 (v:Value) (w:ab):(Instr.typeAssert (.iface 279 v) 20 282 true).run au w= .ok (bD #[bm #[af U],aE false]) w:=by kernel_rfl
theorem D3 (x:Value) (w:ab):(Instr.field 279 (bm #[x]) 0).run au w= .ok x w:=by kernel_rfl
theorem D4 (v:Value) (w:ab):(Instr.typeAssert (.iface 279 v) 20 279 false).run au w= .ok v w:=by kernel_rfl
def D5 (s:ByteArray) (w:ab) (e:Ending) (w':ab):Prop:=(∃v:Int,e=aK (bD #[I J v,aE (jI (bh s)).isSome])∧(∀x,jI (bh s)=R x->v=x)∧(-9223372036854775808<=v∧v<=9223372036854775807))∧Below w.heap.size w w'
theorem D6 (s:ByteArray):jI (bh s)=match Lib.parseIntB 64 s.data.toList with
 | .ok v=>if str (dec v)=s then R v else U
 |_=>U:=by
 unfold jI bh
 rw[r4]
 cases h:Lib.parseIntB 64 s.data.toList with
 |«syntax»=>rfl
 |range=>rfl
 |ok v=>
  simp only;by_cases a:dec v=s.data.toList.map pb;·rw[aj a,aj (by rw[a];exact xQ s)]
  ·rw[z0 a,z0 (λd=>a (by have b:bh (str (dec v))=bh s:=(by rw[d]);rw[xP (λe c=>by rw[<-xR] at c;obtain⟨y,_,rfl⟩:=e0.1 c;exact y.toNat_lt)] at b;exact b))]
theorem D7 {a b:ByteArray} (h:a≠b):(a.toList==b.toList)=false:=by rw[beq_eq_false_iff_ne];intro e;rw[Lib.toList_data,Lib.toList_data] at e;exact h (ByteArray.ext (Array.ext' e))
theorem x5 (s:ByteArray) (w:ab) (h:gS w) (D:s.size<=140737488351232):Calls au 185 #[.string s] w (D5 s w):=by
 have a:=C (D6 s);cases hp:Lib.parseIntB 64 s.data.toList with
 |ok v=>
  obtain⟨n,o⟩:=Dv hp;have q:=C (bx n o);have d:=C hp;have u:=Dy v n o;rw[hp] at a;simp only at a;go_enter func185,ntmps185;go_wp2_with fail;apply(strconv_ParseInt_10_at64_ok s (by omega) v d _).mono;rintro i j ⟨rfl,x⟩;have c:Below w.heap.size w j:=by
   rcases x with rfl|⟨E,rfl⟩;·exact Below.refl _ _
   ·exact Lib.bytesWorld_below _ _ _
  have e:=C c;go_wp2_with fail;apply(u _ (h.next e)).mono;rintro i F ⟨rfl,c⟩;have r:=C (qf e c);by_cases f:str (dec v)=s;·rw[aj f] at a;subst f;go_wp2;go_ret2;exact⟨⟨v,by rw[a.out];rfl,λk b=>by rw[a.out] at b;exact Option.some.inj b,q⟩,r⟩
  ·rw[z0 f] at a;have G:=D7 f;go_wp2;go_ret2;exact⟨⟨v,by rw[a.out];rfl,λk b=>(by rw[a.out] at b;cases b),q⟩,r⟩
 |«syntax»=>rw[hp] at a;simp only at a;obtain⟨l,p,g⟩:=h.syn;have d:=C hp;have m:=C g;clear hp g;go_enter func185,ntmps185;go_wp2_with fail;refine(strconv_ParseInt_10_at64_syntax_var s (by omega) d l p _ m).mono ?_;rintro i j ⟨y,rfl,A,_,c⟩;have e:=C c;clear c;go_wp2;go_ret2;exact⟨⟨0,by rw[a.out];rfl,λk b=>(by rw[a.out] at b;cases b),by decide,by decide⟩,e⟩
 |range=>
  rw[hp] at a;simp only at a;obtain⟨l,p,g⟩:=h.rng;have d:=C hp;have m:=C g;have B:-9223372036854775808<=Lib.intSat 64 s.data.toList∧Lib.intSat 64 s.data.toList<=9223372036854775807:=by unfold Lib.intSat;split<;>(try split)<;>simp
  have t:=C B;go_enter func185,ntmps185;go_wp2_with fail;apply(strconv_ParseInt_10_at64_range_var s (by omega) d l p _ m).mono;rintro i j ⟨y,rfl,A,_,c⟩;generalize Lib.intSat 64 s.data.toList=z at t⊢;go_wp2;go_ret2;exact⟨⟨z,by rw[a.out];rfl,λk b=>(by rw[a.out] at b;cases b),t⟩,c⟩
def uy (b o:Nat) (ar:Array Value) (T:Nat) (c:Bool) (s:ByteArray) (w:ab) (e:Ending) (w':ab):Prop:=Kept b w w'∧((∃a,jI (bh s)=R a∧(c=true->0<=a)∧e=aK (I J 0)∧w'.heap[b]?=R (av (ar.setIfInBounds o (I J a)) T (0,0)))∨((jI (bh s)=U∨∃a,jI (bh s)=R a∧c=true∧a<0)∧e=aK (I J 11)∧w'.heap[b]?=R (av ar T (0,0))))
theorem x6 (b o:Nat) (ar:Array Value) (T:Nat) (v0:Value) (s:ByteArray) (w:ab) (m:gS w) (j:w.heap[b]?=R (av ar T (0,0))) (n:ar[o]?=R v0) (p:s.size<=140737488351232):Calls au 127 #[.iface 277 (bm #[af (R ⟨b,o,U⟩)]),.string s] w (uy b o ar T true s w):=by
 have q:=C j;have r:=iV j;have z:=D1;have A:=DY;go_enter func127,ntmps127;go_wp2_with fail;apply(x5 s _ (m.next (bz w _)) p).mono;rintro B e ⟨⟨v,rfl,t,D⟩,u⟩;have k:=C (qf (bz w _) u);have a:=(k.block b r).trans q;have E:=bN a n;have F:=lK (i:=o) a;have G:=iV a;have f:=C a;have y:=C t;have g:=C (lJ (b:=b) k);cases c:jI (bh s) with
 |none=>have d:=C c;clear c;go_wp2;go_ret;exact⟨g.trans (lJ (bz e _)),.inr ⟨.inl d,rfl,nf f⟩⟩
 |some x=>
  have d:=C c;obtain rfl:=y x c;by_cases l:v<0;·have h:=C l;go_wp2;go_ret;exact⟨g.trans (lJ (bz e _)),.inr ⟨.inr ⟨v,d,rfl,h⟩,rfl,nf f⟩⟩
  ·have h:=C l;go_wp2;go_ret;refine⟨g.trans ?_,.inl ⟨v,d,λ_=>by have:=h;omega,rfl,?_⟩⟩;·exact((Kept.refl b e).setCell _).trans (lJ (bz _ _))
   ·exact nf (eN _ f)
theorem x7 (b o:Nat) (ar:Array Value) (T:Nat) (v0:Value) (s:ByteArray) (w:ab) (k:gS w) (e:w.heap[b]?=R (av ar T (0,0))) (l:ar[o]?=R v0) (m:s.size<=140737488351232):Calls au 127 #[.iface 279 (bm #[af (R ⟨b,o,U⟩)]),.string s] w (uy b o ar T false s w):=by
 have n:=C e;have p:=iV e;have y:=D2;have z:=D0;have A:=D4;have B:=D3;go_enter func127,ntmps127;go_wp2_with fail;apply(x5 s _ (k.next (bz w _)) m).mono;rintro D f ⟨⟨v,rfl,q,E⟩,r⟩;have g:=C (qf (bz w _) r);have a:=(g.block b p).trans n;have F:=bN a l;have G:=lK (i:=o) a;have H:=iV a;have h:=C a;have t:=C q;have j:=C (lJ (b:=b) g);cases c:jI (bh s) with
 |none=>have d:=C c;clear c;go_wp2;go_ret;exact⟨j.trans (lJ (bz f _)),.inr ⟨.inl d,rfl,nf h⟩⟩
 |some x=>
  have d:=C c;obtain rfl:=t x c;go_wp2;go_ret;refine⟨j.trans ?_,.inl ⟨v,d,(λu=>nomatch u),rfl,?_⟩⟩;·exact((Kept.refl b f).setCell _).trans (lJ (bz _ _))
  ·exact nf (eN _ h)
def kz (l:List Nat):Nat:=if l=[] then 11 else(fg l).2
def D8 (b o:Nat) (ar:Array Value) (T:Nat) (s:ByteArray) (w:ab) (e:Ending) (w':ab):Prop:=Kept b w w'∧((bh s=[110,111,110,101]∧e=aK (I J 0)∧w'.heap[b]?=R (av ar T (0,0)))∨(bh s≠[110,111,110,101]∧e=aK (I J (kz (bh s):Nat))∧w'.heap[b]?=R (av (ar.setIfInBounds o (I ah ((fg (bh s)).1:Nat))) T (0,0))))
theorem x8 (s:ByteArray):(s.toList==[110,111,110,101])=true↔bh s=[110,111,110,101]:=by
 rw[beq_iff_eq,Lib.toList_data];unfold bh;constructor;·intro h;rw[h];rfl
 ·intro h;have:=congrArg (List.map UInt8.ofNat) h;rw[r4] at this;exact this
theorem D9 (b o:Nat) (ar:Array Value) (T:Nat) (v0:Value) (s:ByteArray) (w:ab) (u:w.heap[b]?=R (av ar T (0,0))) (v:ar[o]?=R v0) (G:s.size<=140737488351232):Calls au 127 #[.iface 282 (bm #[af (R ⟨b,o,U⟩)]),.string s] w (D8 b o ar T s w):=by
 have n:=C u;have x:=iV u;have H:=DZ;by_cases d:bh s=[110,111,110,101];·have k:=C d;have y:(s.toList==[110,111,110,101])=true:=(x8 s).2 d;clear d;go_enter func127,ntmps127;go_wp2;go_ret;exact⟨lJ (bz w _),.inl ⟨k,rfl,nf n⟩⟩
 ·have k:=C d;have y:(s.toList==[110,111,110,101])=false:=by
   cases h:(s.toList==[110,111,110,101]);·rfl
   ·exact absurd ((x8 s).1 h) d
  cases he:s.toList.isEmpty;·have l:=C (by unfold kz;rw[z0 (λh=>by unfold bh at h;rw[List.map_eq_nil_iff] at h;rw[Lib.toList_data,h] at he;cases he)]:kz (bh s)=(fg (bh s)).2);go_enter func127,ntmps127;go_wp2_with fail;refine(x4 s _ (by unfold maxLen;omega)).mono ?_;rintro A e ⟨rfl,c⟩;have f:=C (qf (bz w _) c);have a:=(f.block b x).trans n;have B:=bN a v;have D:=lK (i:=o) a;have E:=iV a;have F:e.cell? ⟨w.heap.size,0,U⟩=R (af (R ⟨b,o,U⟩)):=b1 c (by simp) ((dE (j:=0)).trans rfl);have p:=C a;have q:=C (lJ (b:=b) f);clear c a;generalize g:(fg (bh s)).1=m;generalize r:(fg (bh s)).2=z at l⊢;have t:=C g;clear g r;go_wp2;go_ret;exact⟨q.trans ((Kept.refl b e).setCell _),.inr ⟨k,by rw[l.out];rfl,by rw[t.out];exact eN _ p⟩⟩
  ·have l:=C (by unfold kz;rw[aj (by rw[Lib.toList_data,o8] at he;unfold bh;rw[he];rfl)]:kz (bh s)=11);go_enter func127,ntmps127;go_wp2_with fail;refine(x4 s _ (by unfold maxLen;omega)).mono ?_;rintro A e ⟨rfl,c⟩;have f:=C (qf (bz w _) c);have a:=(f.block b x).trans n;have B:=bN a v;have D:=lK (i:=o) a;have E:=iV a;have F:e.cell? ⟨w.heap.size,0,U⟩=R (af (R ⟨b,o,U⟩)):=b1 c (by simp) ((dE (j:=0)).trans rfl);have p:=C a;have q:=C (lJ (b:=b) f);clear c a;generalize g:(fg (bh s)).1=m;generalize r:(fg (bh s)).2=z at⊢;have t:=C g;clear g r;go_wp2;go_ret;exact⟨q.trans ((Kept.refl b e).setCell _),.inr ⟨k,by rw[l.out];rfl,by rw[t.out];exact eN _ p⟩⟩
def dh (c:Nat):List Nat->List (List Nat)
 |[]=>[[]]
 |x::r=>if x=c then[]::dh c r else match dh c r with
  |[]=>[[x]]
  |p::aR=>(x::p)::aR
theorem x9 (c x:Nat) (r:List Nat):dh c (x::r)=if x=c then[]::dh c r else match dh c r with
 |[]=>[[x]]
 |p::aR=>(x::p)::aR:=rfl
theorem uz (c:Nat) (l:List Nat):dh c l≠[]:=by
 cases l with
 |nil=>simp[dh]
 |cons x r=>
  unfold dh;split;·simp
  ·split<;>simp
theorem D_ (c:Nat) (a b:List Nat):dh c (a++c::b)=dh c a++dh c b:=by
 induction a with
 |nil=>simp[dh]
 |cons x a e=>
  rw[gQ,x9,x9];by_cases d:x=c;·rw[aj d,aj d,e];rfl
  ·rw[z0 d,z0 d,e];cases f:dh c a with
   |nil=>exact absurd f (uz c a)
   |cons p aR=>rfl
theorem x_ {l:List Nat} (h:∀a∈l,a≠c):dh c l=[l]:=by
 induction l with
 |nil=>rfl
 |cons a r b=>unfold dh;rw[z0 (h a (by simp)),b (λy d=>h y (by simp[d]))]
theorem uA (c:Nat) (l:List Nat):(dh c l).length<=l.length+1:=by
 induction l with
 |nil=>simp[dh]
 |cons y r a=>
  unfold dh;split;·simp;omega
  ·split;·simp
   ·next p aR b=>rw[b] at a;simp at a⊢;omega
theorem Ea {l p:List Nat} (h:p∈dh c l):p.length<=l.length:=by
 induction l generalizing p with
 |nil=>simp[dh] at h;subst h;simp
 |cons y r b=>
  unfold dh at h;by_cases d:y=c
  ·rw[aj d] at h;rcases gu.1 h with rfl|h;·simp
   ·have:=b h;simp;omega
  ·rw[z0 d] at h;cases a:dh c r with
   |nil=>exact absurd a (uz c r)
   |cons q e=>
    rw[a] at h;simp only at h;rcases gu.1 h with rfl|h;·have:=b (p:=q) (by rw[a];simp);simp;omega
    ·have:=b (p:=p) (by rw[a];simp[h]);simp;omega
theorem Eb (c:UInt8) (k:Nat):∀a:ByteArray,a.size<=k->(Lib.splitB ⟨#[c]⟩ 0 (Lib.countB a ⟨#[c]⟩) a).map bh=dh c.toNat (bh a):=by
 have m:∀a:ByteArray,Lib.indexB a ⟨#[c]⟩=Lib.indexByte a.data.toList c:=λa=>Lib.index_one a.data.toList c;have n:∀a:ByteArray,Lib.indexB a ⟨#[c]⟩=-1->(Lib.splitB ⟨#[c]⟩ 0 (Lib.countB a ⟨#[c]⟩) a).map bh=dh c.toNat (bh a):=λa d=>by
  rw[Lib.countB_miss a _ d,Lib.splitB_zero,x_];·rfl
  ·intro p e f;unfold bh at e;obtain⟨u,q,rfl⟩:=e0.1 e;obtain⟨j,b⟩:=mm.1 q;exact Lib.indexByte_none ((m a).symm.trans d) j (by rw[b,UInt8.toNat_inj.1 f])
 induction k with
 |zero=>
  intro a r;rcases Lib.indexB_cases a ⟨#[c]⟩ with d|⟨i,d,o⟩;·exact n a d
  ·have:(⟨#[c]⟩:ByteArray).size=1:=rfl;omega
 |succ k s=>
  intro a r;rcases Lib.indexB_cases a ⟨#[c]⟩ with d|⟨i,d,o⟩;·exact n a d
  ·have g:(⟨#[c]⟩:ByteArray).size=1:=rfl;rw[g] at o;rw[Lib.countB_hit a _ i (by rw[g];exact bM _) d,Nat.add_comm,Lib.splitB_hit _ _ _ _ i d,g,j9,s _ (by rw[ByteArray.size_extract];omega),Nat.add_zero,Du,Dt];obtain⟨t,v⟩:=Lib.indexByte_some ((m a).symm.trans d);have h:i<a.size:=(by omega);have w:(a[i]'h).toNat=c.toNat:=(by have:=Dr h;unfold bh at this;rw[dP,t] at this;simpa using this.symm);have x:dh c.toNat ((bh a).take i)=[(bh a).take i]:=x_ (λp e f=>by
    obtain⟨j,b⟩:=mm.1 e;rw[List.getElem?_take] at b;split at b;·next y=>
     unfold bh at b;rw[dP] at b;cases l:a.data.toList[j]? with
     |none=>rw[l] at b;cases b
     |some u=>rw[l] at b;simp at b;exact v j y (by rw[l,UInt8.toNat_inj.1 (b.trans f)])
    ·cases b)
   conv=>rhs;rw[<-List.take_append_drop i (bh a),xO a i h,w,D_,x]
   rfl
structure bT where
 k:Int
 a:Int
 b:Int
 n:Int
 m:Int
 s:Nat
def pe:bT:=⟨0,0,0,0,0,0⟩
structure bT.Ok (e:bT):Prop where
 k:-9223372036854775808<=e.k∧e.k<=9223372036854775807
 a:-9223372036854775808<=e.a∧e.a<=9223372036854775807
 b:-9223372036854775808<=e.b∧e.b<=9223372036854775807
 n:-9223372036854775808<=e.n∧e.n<=9223372036854775807
 m:-9223372036854775808<=e.m∧e.m<=9223372036854775807
 s:e.s<18446744073709551616
def pg:List Nat:=[110,111,110,101]
def iz (c:Nat) (t:List Nat):Nat:=if c=115 then(if t=pg then 0 else kz t) else match jI t with
 |some x=>if(c=97∨c=98)∧x<0 then 11 else 0
 |none=>11
def uB (e:bT) (c:Nat) (x:Int):bT:=if c=97 then {e with a:=x} else if c=98 then {e with b:=x} else if c=110 then {e with n:=x} else {e with m:=x}
def k9 (e:bT) (c:Nat) (t:List Nat):bT:=if c=115 then(if t=pg then e else {e with s:=(fg t).1}) else uB e c ((jI t).getD 0)
def mr (a f:Nat):Nat:=if f=11 then 11 else if f=0 then a else if a=0 then 1 else a
theorem Ec {t:List Nat} (a:c≠115) (h:jI t=U):iz c t=11:=by unfold iz;rw[z0 a,h]
theorem Ed {t:List Nat} {x:Int} (a:c≠115) (h:jI t=R x) (b:(c=97∨c=98)->0<=x):iz c t=0:=by unfold iz;rw[z0 a,h];show(if(c=97∨c=98)∧x<0 then 11 else 0)=0;rw[z0];rintro⟨d,e⟩;have:=b d;omega
theorem Ee {t:List Nat} {x:Int} (a:c=97∨c=98) (h:jI t=R x) (b:x<0):iz c t=11:=by unfold iz;rw[z0 (by omega),h];show(if(c=97∨c=98)∧x<0 then 11 else 0)=11;rw[aj ⟨a,b⟩]
theorem Ef (t:List Nat):(fg t).2=0∨(fg t).2=1∨(fg t).2=11:=by rcases DO t with h|h|⟨m,h⟩<;>rw[h]<;>simp
theorem Eg (t:List Nat):kz t=0∨kz t=1∨kz t=11:=by
 unfold kz;split;·simp
 ·exact Ef t
theorem Eh {a f:Nat} (h:mr a f=0):a=0∧f=0:=by
 unfold mr at h;split at h;·omega
 ·split at h;·omega
  ·split at h<;>omega
def ka:List (List Nat):=[[103,114,111,117,112],[100,114,111,112],[109,111,118,101],[115,104,97,114,101,115],[113,117,111,116,97],[115,112,97,119,110],[119,97,107,101],[98,108,111,99,107],[121,105,101,108,100],[101,120,105,116],[116,105,99,107],[114,101,102,105,108,108],[112,117,108,108],[110,105,99,101],[109,97,115,107]]
def lN:List (List Nat)->Nat->List Nat->Nat
 |[],_,_=>0
 |x::r,i,w=>if x=w then i else lN r (i+1) w
def gT (w:List Nat):Nat:=lN ka 1 w
def jq (k:Int):List Nat:=ka.getD (k.toNat-1) []
def nj:List Nat->List (List Nat)->bT×Nat->bT×Nat
 |c::cs,t::ts,(e,bad)=>nj cs ts (k9 e c t,mr bad (iz c t))
 |_,_,x=>x
def r6 (k:Nat) (p:List (List Nat)):bT×Nat:=if k=0∨p.length≠(eb k).length+1 then(pe,11) else nj (eb k) p.tail (⟨k,0,0,0,0,0⟩,0)
def iA (l:List Nat):bT×Nat:=r6 (gT ((dh 32 l).headD [])) (dh 32 l)
def h6 (s:List Nat):List (List Nat):=if s.getLast?=R 10 then dh 10 s.dropLast else dh 10 s
def n2 (a:Bool):List (List Nat)->Nat->List bT->List bT×Nat×Nat
 |[],_,l=>(l,0,0)
 |t::r,i,l=>if r=[]∧a=false then([],i,11) else if(iA t).2≠0 then([],i,(iA t).2) else n2 a r (i+1) (l++[(iA t).1])
def kb (s:List Nat):List bT×Nat×Nat:=if s=[] then([],0,0) else if 1000<(h6 s).length then([],0,3) else n2 (decide (s.getLast?=R 10)) (h6 s) 0 []
def qi:Array Value:=(ka.map λx=>Value.string (str x)).toArray
theorem Ei (w:ab):Calls au 125 #[] w λe w'=>e=aK (aA (R ⟨w.heap.size,0,U⟩) 15 15)∧w'=w.alloc (av qi 9):=by go_enter func125,ntmps125;go_wp2;go_ret;exact⟨rfl,rfl⟩
theorem Ej (h:j<15):(w.alloc (av qi 9)).cell? ⟨w.heap.size,j,U⟩=R (.string (str (jq ((j:Int)+1)))):=by rw[dE];unfold qi jq;rw[ff,dP,show((j:Int)+1).toNat-1=j by omega,dD];have a:j<ka.length:=h;rw[b6 a];rfl
theorem ya (k:Int):eb k=[97,110]∨eb k=[97,98]∨eb k=[97,110,109]∨eb k=[97,110,115]∨eb k=[97,115]∨eb k=[97]:=by
 unfold eb;split;·simp
 ·split;·simp
  ·split;·simp
   ·split;·simp
    ·split<;>simp
theorem yb (L:List (List Nat)) (i:Nat) (w:List Nat):lN L i w=0∨(i<=lN L i w∧lN L i w<i+L.length∧L[lN L i w-i]?=R w):=by
 induction L generalizing i with
 |nil=>exact .inl rfl
 |cons x L a=>
  unfold lN;split;·next h=>right;subst h;simp
  ·rcases a (i+1) with h|⟨c,d,b⟩;·exact .inl h
   ·right;refine⟨by omega,by simp;omega,?_⟩;rw[show lN L (i+1) w-i=(lN L (i+1) w-(i+1))+1 by omega];exact b
theorem yc (w:List Nat):gT w<=15:=by
 rcases yb ka 1 w with h|⟨_,h,_⟩;·unfold gT;omega
 ·have:ka.length=15:=rfl;unfold gT;omega
theorem Ek {w:List Nat} (h:gT w≠0):jq (gT w)=w:=by
 rcases yb ka 1 w with g|⟨_,_,g⟩;·exact absurd g h
 ·unfold jq;rw[List.getD,cd];show(ka[lN ka 1 w-1]?).getD []=w;rw[g];rfl
theorem El:∀k:Fin 15,gT (jq ((k.val+1:Nat):Int))=k.val+1:=by decide+kernel
theorem yd {k:Int} (a:1<=k) (b:k<=15):gT (jq k)=k.toNat:=by obtain⟨n,rfl⟩:∃n:Nat,k=((n+1:Nat):Int):=⟨(k-1).toNat,by omega⟩;have:=El ⟨n,by omega⟩;rw[this,cd]
theorem Em:∀w∈ka,∀x∈w,97<=x∧x<=122:=by decide+kernel
theorem En (k:Int):∀a∈jq k,97<=a∧a<=122:=by
 unfold jq;rw[List.getD];cases h:ka[k.toNat-1]? with
 |none=>intro a b;cases b
 |some w=>exact Em w (ea h)
def bT.list (e:bT):List Value:=[I J e.k,I J e.a,I J e.b,I J e.n,I J e.m,I ah (e.s:Int)]
def ye (e:bT):Value:=bm #[I J e.k,I J e.a,I J e.b,I J e.n,I J e.m,I ah (e.s:Int)]
def iX:cm bT:=⟨6,bT.list,λ_=>rfl,λe u h=>by simp[bT.list] at h;rcases h with rfl|rfl|rfl|rfl|rfl|rfl<;>rfl,by decide⟩
theorem Eo:(prog.info? 33).map (λi=>(i.zero,i.size,i.bytes))=R (R (bm #[I J 0,I J 0,I J 0,I J 0,I J 0,I ah 0]),6,48):=by kernel_rfl
theorem uC {f:Array Oper} {rest:List Oper} {o:Oper} {a:Act} {g:Exit->Act->ab->Prop} (i:o.guard=U) (s x:Operand) (l:o.op= .call {callee:=.builtin .append,args:=#[s,x],argTypes:=#[24,24]}) (base:Nat) (v:Value) (n:Nat) (zs:List bT) (p:a.eval s=v) (q:Own iX w base 33 v n zs) (b c:Nat) (y:bT) (r:a.eval x=aA (R ⟨b,0,U⟩) 1 c) (h0:w.cell? ⟨b,0,U⟩=R (I J y.k)) (t:w.cell? ⟨b,1,U⟩=R (I J y.a)) (z:w.cell? ⟨b,2,U⟩=R (I J y.b)) (A:w.cell? ⟨b,3,U⟩=R (I J y.n)) (B:w.cell? ⟨b,4,U⟩=R (I J y.m)) (C:w.cell? ⟨b,5,U⟩=R (I ah (y.s:Int))) (O:n<=100000) (D:base<=w.heap.size) (h:∀e w',Own iX w' base 33 e (n+1) (zs++[y])->w.grownBy w' v.ownBlock->wpList au f g rest (a.put o.dst e) w'):wpList au f g (o::rest) a w:=by
 obtain⟨E,F,G,H,K⟩:=info_parts Eo;refine wpList_append_own_at _ i s x 24 l base 33 E _ 6 48 underlying24 F G H K rfl (by decide) v n _ p q ⟨b,0,U⟩ 1 c y.list r rfl ?_ ?_ (by unfold maxLen;omega) (by omega) D ?_
 ·intro j u d;rw[addr_add,mq];have P:j<6:=by have:=(bE.1 d).1;simpa[bT.list] using this
  have:j=0∨j=1∨j=2∨j=3∨j=4∨j=5:=by omega
  rcases this with rfl|rfl|rfl|rfl|rfl|rfl;·rw[h0];simpa[bT.list] using d
  ·rw[t];simpa[bT.list] using d
  ·rw[z];simpa[bT.list] using d
  ·rw[A];simpa[bT.list] using d
  ·rw[B];simpa[bT.list] using d
  ·rw[C];simpa[bT.list] using d
 ·intro u L;exact iX.one y u L
 ·intro e w' M N _ _;exact h e w' (by unfold Own;rw[cm.ur];exact M) N
structure NG (W:ab) (b o:Nat) (e:bT):Prop where
 c0:W.cell? ⟨b,o,U⟩=R (I J e.k)
 bQ:W.cell? ⟨b,o+1,U⟩=R (I J e.a)
 c2:W.cell? ⟨b,o+2,U⟩=R (I J e.b)
 c3:W.cell? ⟨b,o+3,U⟩=R (I J e.n)
 c4:W.cell? ⟨b,o+4,U⟩=R (I J e.m)
 c5:W.cell? ⟨b,o+5,U⟩=R (I ah (e.s:Int))
inductive n3 (x y:bT):Prop
 |same (h:x=y) (h0:(x.k==y.k)=true) (ao:(x.a==y.a)=true) (az:(x.b==y.b)=true) (aV:(x.n==y.n)=true) (bU:(x.m==y.m)=true) (cR:((x.s:Int)==(y.s:Int))=true):n3 x y
 |k (h:x≠y) (h0:(x.k==y.k)=false):n3 x y
 |a (h:x≠y) (h0:(x.k==y.k)=true) (ao:(x.a==y.a)=false):n3 x y
 |b (h:x≠y) (h0:(x.k==y.k)=true) (ao:(x.a==y.a)=true) (az:(x.b==y.b)=false):n3 x y
 |n (h:x≠y) (h0:(x.k==y.k)=true) (ao:(x.a==y.a)=true) (az:(x.b==y.b)=true) (aV:(x.n==y.n)=false):n3 x y
 |m (h:x≠y) (h0:(x.k==y.k)=true) (ao:(x.a==y.a)=true) (az:(x.b==y.b)=true) (aV:(x.n==y.n)=true) (bU:(x.m==y.m)=false):n3 x y
 |s (h:x≠y) (h0:(x.k==y.k)=true) (ao:(x.a==y.a)=true) (az:(x.b==y.b)=true) (aV:(x.n==y.n)=true) (bU:(x.m==y.m)=true) (cR:((x.s:Int)==(y.s:Int))=false):n3 x y
theorem i64_in {n:Int} (h0:-9223372036854775808<=n) (a:n<=9223372036854775807):wrap64 n=n:=by unfold wrap64;omega
def mk (w:Nat):Nat->Nat
 |0=>0
 |k+1=>2^(2*w)*mk w k+(2^w-1)
theorem Ep {k:Int} (h:(eb k)[i]?=R c):c=97∨c=98∨c=110∨c=109∨c=115:=by have b:=ea h;rcases ya k with a|a|a|a|a|a<;>rw[a] at b<;>simp at b<;>omega
theorem Er (k:Int):(eb k).length<=3:=by rcases ya k with a|a|a|a|a|a<;>rw[a]<;>simp
theorem uD {V:ab} {A:Obj} (h:w.alloc A=V):V.heap[w.heap.size]?=R A∧Below w.heap.size w V:=by subst h;exact⟨lL w A,bz w A⟩
theorem qj (h:Below n w w') (d:n<=b) (v:Value):Below n w (w'.setCell ⟨b,i,U⟩ v):=⟨h.os,h.tape,h.output,by simpa using h.size,λa c=>(heap_setCell_other w' ⟨b,i,U⟩ a v (by show a≠b;omega)).trans (h.block a c)⟩
theorem r7 {a:Nat} {O:Obj} (c:b≠a) (v:Value) (h:w.heap[b]?=R O):(w.setCell ⟨a,i,U⟩ v).heap[b]?=R O:=(heap_setCell_other w ⟨a,i,U⟩ b v c).trans h
theorem Es {t:List Nat} (h:t≠pg):iz 115 t=kz t:=by unfold iz;rw[aj rfl,z0 h]
theorem Et {t:List Nat} (h:t≠pg) (e:bT):k9 e 115 t={e with s:=(fg t).1}:=by unfold k9;rw[aj rfl,z0 h]
variable {al:Nat->Prop}
def k_ (c:List Nat) (P:List (List Nat)) (al:bT×Nat) (i:Nat) (g:bT) (a:Nat):Prop:=∃b:bT,nj (c.drop i) (P.drop i) (b,a)=al∧(a=0->g=b)
theorem Eu (F:List Nat) (P:List (List Nat)) (e:bT):k_ F P (nj F P (e,0)) 0 e 0:=⟨e,rfl,λ_=>rfl⟩
theorem k_.next {a:List Nat} {al:bT×Nat} {g g':bT} {b:Nat} {t:List Nat} (h:k_ a P al i g b) (d:a[i]?=R c) (e:P[i]?=R t) (f:iz c t=0->g'=k9 g c t):k_ a P al (i+1) g' (mr b (iz c t)):=by
 obtain⟨j,k,l⟩:=h;have m:i<a.length:=(bE.1 d).1;have n:i<P.length:=(bE.1 e).1;refine⟨k9 j c t,?_,λo=>?_⟩;·rw[<-k,o3 m,o3 n];rw[(bE.1 d).2,(bE.1 e).2];rfl
 ·obtain⟨p,q⟩:=Eh o;rw[f q,l p]
theorem k_.fin {c:List Nat} {al:bT×Nat} {g:bT} {a:Nat} (h:k_ c P al i g a) (e:c.length<=i):al.2=a∧(a=0->g=al.1):=by
 obtain⟨d,b,f⟩:=h;rw[List.drop_of_length_le e] at b;have:nj [] (P.drop i) (d,a)=(d,a):=by cases P.drop i<;>rfl
 rw[this] at b;subst b;exact⟨rfl,λj=>f j⟩
theorem Ev {l:List Nat} {v:Nat} (h:gT ((dh 32 l).headD [])=v) (hv:v=0):iA l=(pe,11):=by unfold iA r6;rw[h,aj (.inl hv)]
theorem Ew {l:List Nat} {v:Nat} (h:gT ((dh 32 l).headD [])=v) (hv:(dh 32 l).length≠(eb v).length+1):iA l=(pe,11):=by unfold iA r6;rw[h,aj (.inr hv)]
theorem Ex {l:List Nat} {v:Nat} (h:gT ((dh 32 l).headD [])=v) (h0:v≠0) (hv:(dh 32 l).length=(eb v).length+1):iA l=nj (eb v) (dh 32 l).tail (⟨v,0,0,0,0,0⟩,0):=by unfold iA r6;rw[h,z0 (by omega)]
theorem yf (k:Int):bh (str (jq k))=jq k:=xP λa b=>by have:=En k a b;omega
theorem uE {s:ByteArray} (h:L.map bh=dh c (bh s)):L.length=(dh c (bh s)).length∧0<L.length∧∀j (a:j<L.length),(L[j]'a).size<=s.size∧(dh c (bh s))[j]?=R (bh (L[j]'a)):=by
 have b:L.length=(dh c (bh s)).length:=by rw[<-h,ep]
 refine⟨b,?_,λj a=>?_⟩;·rw[b];exact List.length_pos_iff.2 (uz _ _)
 ·have d:(dh c (bh s))[j]?=R (bh (L[j]'a)):=by rw[<-h,dP,b6 a];rfl
  refine⟨?_,d⟩;have:=Ea (ea d);rw[lM,lM] at this;exact this
structure NH (c:Nat) (s:ByteArray) (w:ab) (L:List ByteArray) (v:Value) (f i:Nat) (wr:ab):Prop where
 NI:f<=i
 le:i<=s.size
 len:L.length<=f
 own:Own encS wr w.heap.size 9 v L.length L
 cut:dh c ((bh s).take i)=L.map bh++[((bh s).drop f).take (i-f)]
 NJ:Below w.heap.size w wr
theorem Ey {l:List (List Nat)} {x:List Nat} (h:l[0]?=R x):l.headD []=x:=by
 cases l with
 |nil=>cases h
 |cons a l=>simp at h;exact h
theorem Ez {a b:ab} (h:b=a.alloc (av qi 9)):(∀j,j<15->b.cell? ⟨a.heap.size,j,U⟩=R (.string (str (jq ((j:Int)+1)))))∧a.heap.size<b.heap.size∧Below a.heap.size a b:=by subst h;exact⟨λj c=>Ej c,by simp,bz _ _⟩
def kA (e:bT):Array Value:=#[I J e.k,I J e.a,I J e.b,I J e.n,I J e.m,I ah (e.s:Int)]
theorem EA {F:List Nat} (h:F[i]?=R c):((F.map (pd b)).toArray)[i]?=R (pd b c):=by rw[ff,dP,h];rfl
variable {v1:Value} {tmps:Array Value} {fn:Func}
def EB (c:UInt8) (s:ByteArray) (w:ab) (e:Ending) (w':ab):Prop:=∃L:List ByteArray,L.map bh=dh c.toNat (bh s)∧e=aK (aA (R ⟨w.heap.size,0,U⟩) L.length L.length)∧(∀j (a:j<L.length),w'.cell? ⟨w.heap.size,j,U⟩=R (.string (L[j]'a)))∧w.heap.size<w'.heap.size∧Below w.heap.size w w'
theorem uF (c:UInt8) (s:ByteArray) (w:ab) (a:gS w) (b:s.size<4294967281):Calls au 68 #[.string s,.string ⟨#[c]⟩] w (EB c s w):=by refine(Dz s ⟨#[c]⟩ w a b (bM 1)).mono ?_;rintro f w' ⟨rfl,rfl⟩;have d:(Lib.splitB ⟨#[c]⟩ 0 (Lib.countB s ⟨#[c]⟩) s).length=Lib.countB s ⟨#[c]⟩+1:=Lib.splitB_all ⟨#[c]⟩ (bM 1) 0 _ s rfl;refine⟨_,Eb c s.size s zK9,by rw[d],λj e=>?_,by simp,bz _ _⟩;rw[dE,ff,dP,b6 e];rfl
def qk:List ByteArray:=ka.map str
theorem r8 (h:j<15):qk.getD j ByteArray.empty=str (jq ((j:Int)+1)):=by have a:j<ka.length:=h;unfold qk jq;rw[dD,dP,show((j:Int)+1).toNat-1=j by omega,dD,b6 a];rfl
theorem EC (x:ByteArray):Lib.idxOfS (qk.take 15) x=(gT (bh x):Int)-1:=by
 by_cases b:gT (bh x)=0
 ·rw[b,Lib.idxOfS_miss];·rfl
  ·intro j c a;rw[r8 c] at a;have:gT (bh x)=j+1:=(by rw[<-a,yf,yd (by omega) (by omega)];omega);omega
 ·have e:=yc (bh x);have d:=Ek b;rw[Lib.idxOfS_hit qk 15 (gT (bh x)-1) x (by omega) zK9 ?_ ?_];·omega
  ·rw[r8 (by omega),show(((gT (bh x)-1:Nat):Int)+1)=((gT (bh x):Nat):Int) by omega,d,xQ]
  ·intro j c a;rw[r8 (by omega)] at a;have:gT (bh x)=j+1:=(by rw[<-a,yf,yd (by omega) (by omega)];omega);omega
theorem ED (b v:Nat) (x:ByteArray) (W:ab) (d:∀j,j<15->W.cell? ⟨b,j,U⟩=R (.string (str (jq ((j:Int)+1))))) (hv:gT (bh x)=v):Calls au 124 #[aA (R ⟨b,0,U⟩) 15 15,.string x] W λe w'=>e=aK (I J ((v:Int)-1))∧w'=W:=by have a:=slices_Index_string b 0 15 15 qk x W zK9 (by decide) (λj c=>by rw[mq,r8 c];exact d j c);rw[EC,hv] at a;exact a
def yg (g:Nat) (e:bT) (c:Nat) (t:List Nat) (w:ab) (x:Ending) (w':ab):Prop:=Kept g w w'∧∃(a:Nat) (b:bT),iz c t=a∧x=aK (I J (a:Int))∧(a=0∨a=1∨a=11)∧(a=0->b=k9 e c t)∧w'.heap[g]?=R (av (kA b) 33 (0,0))
theorem r9 {e:bT} {i:Bool} {t:ByteArray} {x:Ending} (h:uy g o (kA e) 33 i t w x w') (b:c≠115) (j:i=true↔(c=97∨c=98)) (l:∀y:Int,(kA e).setIfInBounds o (I J y)=kA (uB e c y)):yg g e c (bh t) w x w':=by
 obtain⟨k,⟨y,a,m,d,f⟩|⟨a,d,f⟩⟩:=h;·refine⟨k,0,uB e c y,Ed b a (λn=>m (j.2 n)),d,.inl rfl,λ_=>?_,by rw[<-l];exact f⟩;unfold k9;rw[z0 b,a];rfl
 ·refine⟨k,11,e,?_,d,.inr (.inr rfl),(λh=>nomatch h),f⟩;rcases a with a|⟨y,a,p,q⟩;·exact Ec b a
  ·exact Ee (j.1 p) a q
theorem EE (g c:Nat) (e:bT) (t:ByteArray) (w:ab) (h:gS w) (d:w.heap[g]?=R (av (kA e) 33 (0,0))) (f:t.size<=140737488351232) (m:c=97∨c=98∨c=110∨c=109∨c=115):Calls au 127 #[pd g c,.string t] w (yg g e c (bh t) w):=by
 rcases m with rfl|rfl|rfl|rfl|rfl;·exact(x6 g 1 (kA e) _ _ t w h d rfl f).mono λi w' b=>r9 b (by decide) (by simp) (λy=>rfl)
 ·exact(x6 g 2 (kA e) _ _ t w h d rfl f).mono λi w' b=>r9 b (by decide) (by simp) (λy=>rfl)
 ·exact(x7 g 3 (kA e) _ _ t w h d rfl f).mono λi w' b=>r9 b (by decide) (by simp) (λy=>rfl)
 ·exact(x7 g 4 (kA e) _ _ t w h d rfl f).mono λi w' b=>r9 b (by decide) (by simp) (λy=>rfl)
 ·apply(D9 g 5 (kA e) _ _ t w d rfl f).mono;rintro i w' ⟨l,⟨a,j,k⟩|⟨a,j,k⟩⟩;·have a:bh t=pg:=a;exact⟨l,0,e,by unfold iz;rw[aj rfl,aj a],j,.inl rfl,λ_=>by unfold k9;rw[aj rfl,aj a],k⟩
  ·have a:bh t≠pg:=a;exact⟨l,kz (bh t),{e with s:=(fg (bh t)).1},Es a,j,Eg _,λ_=>(Et a e).symm,k⟩
theorem EF:(prog.info? 33).map (·.size)=R 6:=by kernel_rfl
theorem r_ {p u:Tmp} {a:Act} {T:Nat} {v0 v2 v3 v4 v5 r:Value} (h:fn.results=#[.cell p 33,.tmp u]) (b:a.tmps.getD p undef=af (R ⟨g,0,U⟩)) (c:a.tmps.getD u undef=r) (d:w.heap[g]?=R (av #[v0,v1,v2,v3,v4,v5] T (0,0))):(results fn a.tmps).run au w= .ok (bD #[bm #[v0,v1,v2,v3,v4,v5],r]) w:=by rw[results_cell_tmp h,b,c];simp only[asAddr,Sem.run_pure,Result.andThen_ok];rw[run_loadVar_row w g T 33 _ _ _ d underlying33 rfl EF];rfl
theorem cW {T:Nat} {u0 u1 u2 u3 u4 u5:Value} (h:w.heap[g]?=R (av #[u0,u1,u2,u3,u4,u5] T (0,0))) (v0 v1 v2 v3 v4 v5:Value):((((((w.setCell ⟨g,0,U⟩ v0).setCell ⟨g,1,U⟩ v1).setCell ⟨g,2,U⟩ v2).setCell ⟨g,3,U⟩ v3).setCell ⟨g,4,U⟩ v4).setCell ⟨g,5,U⟩ v5).heap[g]?=R (av #[v0,v1,v2,v3,v4,v5] T (0,0)):=by have a:=eN (i:=0) v0 h;rw[show(#[u0,u1,u2,u3,u4,u5]:Array Value).setIfInBounds 0 v0=#[v0,u1,u2,u3,u4,u5] from rfl] at a;have b:=eN (i:=1) v1 a;rw[show(#[v0,u1,u2,u3,u4,u5]:Array Value).setIfInBounds 1 v1=#[v0,v1,u2,u3,u4,u5] from rfl] at b;have c:=eN (i:=2) v2 b;rw[show(#[v0,v1,u2,u3,u4,u5]:Array Value).setIfInBounds 2 v2=#[v0,v1,v2,u3,u4,u5] from rfl] at c;have d:=eN (i:=3) v3 c;rw[show(#[v0,v1,v2,u3,u4,u5]:Array Value).setIfInBounds 3 v3=#[v0,v1,v2,v3,u4,u5] from rfl] at d;have e:=eN (i:=4) v4 d;rw[show(#[v0,v1,v2,v3,u4,u5]:Array Value).setIfInBounds 4 v4=#[v0,v1,v2,v3,v4,u5] from rfl] at e;have f:=eN (i:=5) v5 e;rw[show(#[v0,v1,v2,v3,v4,u5]:Array Value).setIfInBounds 5 v5=#[v0,v1,v2,v3,v4,v5] from rfl] at f;exact f
theorem EG (cs:List Nat) (ts:List (List Nat)) (e:bT):(nj cs ts (e,11)).2=11:=by
 induction cs generalizing ts e with
 |nil=>cases ts<;>rfl
 |cons c cs a=>
  cases ts with
  |nil=>rfl
  |cons t ts=>show(nj cs ts (k9 e c t,mr 11 (iz c t))).2=11;rw[show mr 11 (iz c t)=11 by unfold mr;split<;>simp];exact a ts _
theorem k_.form {a:List Nat} {al:bT×Nat} {g:bT} {d:Nat} {t:List Nat} (h:k_ a P al i g d) (e:a[i]?=R c) (f:P[i]?=R t) (j:iz c t=11):al.2=11:=by have b:=h.next (g':=k9 g c t) e f (λ_=>rfl);rw[j] at b;obtain⟨l,k,_⟩:=b;rw[<-k];exact EG _ _ _
def uG (al:bT×Nat) (w:ab) (x:Ending) (w':ab):Prop:=∃e:bT,x=aK (bD #[ye e,I J (al.2:Int)])∧(al.2=0->e=al.1)∧Below w.heap.size w w'
theorem sa {al:bT×Nat} {e:bT} {x:Ending} (h:al.2=b) (a:x=aK (bD #[ye e,I J (b:Int)])) (c:b=0->e=al.1) (d:Below w.heap.size w w'):uG al w x w':=⟨e,by rw[h];exact a,λf=>c (h.symm.trans f),d⟩
variable {ai:Int->Nat} {ag:List (Int×Int)}
def yh (v:Nat) (w:ab) (p:Value) (w':ab):Prop:=∃g,p=af (R ⟨g,0,U⟩)∧w.heap.size<=g∧w'.heap[g]?=R (av (kA ⟨v,0,0,0,0,0⟩) 33 (0,0))∧Below w.heap.size w w'
theorem EH {v:Nat} {a:ab} (h:Below w.heap.size w a) (b:g=a.heap.size):yh v w (af (R ⟨g,0,U⟩)) (a.alloc (av #[I J (v:Int),I J 0,I J 0,I J 0,I J 0,I ah 0] 33)):=by subst b;exact⟨_,rfl,h.size,lL _ _,h.alloc h.size _⟩
theorem EI {a:List Nat} {al:bT×Nat} {g g':bT} {b f:Nat} {t:List Nat} (h:k_ a P al i g b) (d:a[i]?=R c) (e:P[i]?=R t) (j:iz c t=f) (k:f=0->g'=k9 g c t):k_ a P al (i+1) g' (mr b f):=by subst j;exact h.next d e k
theorem EJ {a:ab} {x:Ending} (h:a=W.alloc (av qi 9)) (c:x=aK (aA (R ⟨W.heap.size,0,U⟩) 15 15)):∃b,x=aK (aA (R ⟨b,0,U⟩) 15 15)∧(∀j,j<15->a.cell? ⟨b,j,U⟩=R (.string (str (jq ((j:Int)+1)))))∧b<a.heap.size∧Below W.heap.size W a:=⟨_,c,Ez h⟩
theorem EK {a b:ab} (h:Below a.drew.heap.size a.drew b):Below a.heap.size a b:=(Below.refl _ a).drew.trans h
theorem EL {a b:ab} {T:Nat} (h:Below (a.drew.alloc (av ar T)).heap.size (a.drew.alloc (av ar T)) b):b.heap[a.heap.size]?=R (av ar T (0,0))∧Below a.heap.size a b:=⟨(h.block _ (by simp)).trans (lL a.drew _),((Below.refl _ a).drew.alloc zK9 _).trans (h.mono (by simp))⟩
theorem yi (s:ByteArray) (w:ab) (a6:gS w) (cE:s.size<=100000000):Calls au 69 #[.string s] w (uG (iA (bh s)) w):=by
 go_enter func69,ntmps69;go_upto_region 1 with(fail);generalize a8:j_ w _=V;have A:=C (uD a8);have a_:=C A.2;have a3:=C A.1;have S:=iV A.1;have a4:=C (a6.next A.2);clear a8 A;go_wp2_with fail;apply(uF 32 s _ a4 (by omega)).mono;rintro K aq ⟨L,ba,rfl,T,r,W⟩;have u:=C (uE (c:=32) ba);have a5:=C T;have aK:=C (a_.trans (W.mono a_.size));have bC:=C ((W.block _ S).trans a3);have bm:L.length<=100000001:=by have b8:=u.1;have aR:=uA 32 (bh s);rw[lM] at aR;omega
 have M:=u.2.1;have X:=T 0 M;have ag:=C (Ey (u.2.2 0 M).2);have a9:=C (u.2.2 0 M).1;generalize aD:(L[0]'M)=bb at X ag a9;obtain⟨v,Y⟩:=aX (gT (bh bb));have aw:=C Y;have cq:v<=15:=Y▸yc _;have cH:IntKind.i64.wrap (1+((v:Int)-1))=(v:Int):=by simp[IntKind.wrap,IntKind.signed,IntKind.bits];omega
 clear ba T W Y aD;go_upto_region 2 with fail;go_cut [5] from 13 to 19 (λb bG=>yh v aq b bG);case first=>go_region_with (first|(go_at_call 125;refine(Ei _).mono ?_;rintro K ar ⟨bc,bf⟩;have bH:=EJ bf bc;clear bf bc;obtain⟨bj,rfl,Z,bd,N⟩:=bH;have bg:=C Z;first|(have x:=C (EK N);have aa:=b1 x r X;have ao:=dm r x.size;have be:=λac=>fo ac ao aa;clear Z N)|(have d:=EL N;have x:=C d.2;have bK:=C d.1;have aa:=b1 x r X;have ao:=dm r x.size;have be:=λac=>fo ac ao aa;have cO:=bN (i:=0) d.1 rfl;have cS:=bN (i:=1) d.1 rfl;have cT:=bN (i:=2) d.1 rfl;have cU:=bN (i:=3) d.1 rfl;have aI:=bN (i:=4) d.1 rfl;have cR:=bN (i:=5) d.1 rfl;have c7:=λi=>lK (i:=i) d.1;clear Z N d))|(go_at_call 124;refine(ED _ v bb _ (by first|exact bg|exactλj D=>fo _ bd (bg j D)) aw).mono ?_;rintro K bI ⟨rfl,rfl⟩));all_goals go_wp2_with fail;go_meet;first
  |(have bL:=bK;exact⟨_,rfl,bM _,cW bL _ _ _ _ _ _,by
   repeat(with_reducible refine qj ?_ zK9 _)
   exact x⟩)|exact EH x rfl
 case rest=>
  obtain⟨g,rfl,dc,f,d⟩:=hcut;have ay:wc.cell? ⟨g,0,U⟩=R (I J (v:Int)):=bN (i:=0) f rfl;have ad:=iV f;have aN:=C (aK.trans (d.mono (Nat.le_of_lt (Nat.lt_trans S r))));have bi:w.heap.size<aq.heap.size:=Nat.lt_trans S r;have bP:=C ((d.block _ bi).trans bC);have aY:=C (λj (D:j<L.length)=>b1 d r (a5 j D));have df:=d.size;have bR:=C f;clear f d;go_wp2_with fail;apply(DJ g (v:Int) _ ad ay).mono;rintro K an ⟨bU,rfl,aB,b_,y⟩;have bY:=C aB;have al:=iV aB;have dj:=y.size;have az:=C (aN.trans (y.mono (by omega)));have aC:=(y.block _ ad).trans bR;have bZ:=C aC;have b2:an.cell? ⟨g,0,U⟩=R (I J (v:Int)):=bN (i:=0) aC rfl;have h:=(y.block _ (by omega)).trans bP;have E:=C h;have bQ:=C (λj (D:j<L.length)=>b1 y (by omega) (aY j D));have aF:=C (by rw[ag.out];exact aw:gT ((dh 32 (bh s)).headD [])=v);have dv:=Er (v:Int);have af:=bN (i:=0) h rfl;have ae:=bN (i:=1) h rfl;have am:=bN (i:=2) h rfl;have aM:=bN (i:=3) h rfl;have aj:=bN (i:=4) h rfl;have ap:=bN (i:=5) h rfl;have aO:=λi=>lK (i:=i) h;have bs:=iV h;clear aB aC h y ay;by_cases F:v=0
  ·have b9:((v:Int)==0)=true:=(by simp;omega);have G:=C (Ev aF F);clear F;go_wp2;apply bodyPost_ret (r_ rfl rfl rfl (cW (by first|exact E|exact r7 (by omega) _ E) _ _ _ _ _ _)) rfl;refine sa (e:=pe) (b:=11) (by rw[G.out]) rfl (λp=>nomatch p) ?_;repeat(with_reducible refine qj ?_ (by omega) _)
   exact az
  ·have b9:((v:Int)==0)=false:=(by simp;omega);by_cases H:L.length=(eb v).length+1
   ·have a1:((L.length:Int)!=1+((eb v).length:Int))=false:=(by simp;omega);have G:=C (Ex aF F (by rw[<-u.out.1];exact H));have bv:=C H;clear H F;go_wp2_with fail;clear af ae am aM aj ap aO bs b2;go_loopw [7,35] (λa7 aQ wr=>∃(i:Nat) (e:bT) (q:Nat),a7=I J (q:Int)∧aQ=I J (i:Int)∧i<=(eb v).length∧(q=0∨q=1)∧k_ (eb v) (dh 32 (bh s)).tail (iA (bh s)) i e q∧wr.heap[g]?=R (av (kA e) 33 (0,0))∧Kept g an wr) (λ_ aQ _=>(eb v).length-(intOf aQ).toNat);case atStart=>exact⟨0,_,0,rfl,rfl,hq _,.inl rfl,by rw[G.out];exact Eu _ _ _,bZ,Kept.refl _ _⟩
    case round=>
     obtain⟨i,e,q,rfl,rfl,bo,ax,aS,f,z⟩:=hrel;have cb:=C f;have bk:=C ax;have dw:=z.size;have l:=(z.block w.heap.size (by omega) (by omega)).trans E;have aU:=C (az.trans ((z.below (B:=w.heap.size) (by omega) (by omega))));have aP:=C l;have bl:=(z.block bU al (by omega)).trans bY;have cf:=C bl;clear ax bl;by_cases aT:i<(eb v).length
     ·clear f l;have cg:(i:Int)<((eb v).length:Int):=(by omega);have O:1+i<L.length:=(by have:=bv.out;omega);obtain⟨c,P⟩:∃c,(eb v)[i]?=R c:=⟨_,b6 aT⟩;have bn:=C P;have ch:=bN cf (EA (b:=g) P);have cj:=Ep P;have cn:=z.cell (by omega) (by omega) (bQ (1+i) O);have aV:=u.2.2 (1+i) O;have aZ:=C (by rw[List.getElem?_tail,Nat.add_comm];exact aV.2:(dh 32 (bh s)).tail[i]?=R (bh (L[1+i]'O)));have b5:=aV.1;generalize(L[1+i]'O)=t at cn aZ b5;clear P aV;generalize aA:pd g c=dx at ch;have cp:=C aA;clear aA;go_wp2_with fail;rw[<-cp.out];apply(EE g c e t _ (a6.next aU) cb (by omega) cj).mono;rintro K dy ⟨Q,bz,bp,ak,rfl,bB,bq,ai⟩;have br:=C ai;have aE:=C (z.trans Q);have a0:=C (EI aS bn aZ ak bq);have bX:=C ak;have o:=(Q.block w.heap.size (by omega) (by omega)).trans aP;have cr:=C (aU.trans (Q.below (B:=w.heap.size) (by omega) (by omega)));have bw:=C o;have af:=bN (i:=0) o rfl;have ae:=bN (i:=1) o rfl;have am:=bN (i:=2) o rfl;have aM:=bN (i:=3) o rfl;have aj:=bN (i:=4) o rfl;have ap:=bN (i:=5) o rfl;have aO:=λi=>lK (i:=i) o;clear ai Q bq ak o;rcases bB with rfl|rfl|rfl
      ·go_wp2;go_roundw;case rel=>exact⟨i+1,bp,q,rfl,by go_num,aT,bk,a0,br,aE⟩
       case measure=>simp[intOf];omega
      ·have cu:=C (by rcases bk with p|p<;>subst p<;>rfl:mr q 1=1);go_wp2;go_roundw;case rel=>exact⟨i+1,bp,1,rfl,by go_num,aT,.inr rfl,(by have:=a0;rw[cu.out] at this;exact this),br,aE⟩
       case measure=>simp[intOf];omega
      ·have cy:=C (aS.form bn aZ bX);go_wp2;apply bodyPost_ret (r_ rfl rfl rfl (cW (by first|exact bw|exact r7 (by omega) _ bw) _ _ _ _ _ _)) rfl;refine sa (e:=pe) (b:=11) cy rfl (λp=>nomatch p) ?_;repeat(with_reducible refine qj ?_ (by omega) _)
       exact cr
     ·have cg:¬(i:Int)<((eb v).length:Int):=(by omega);have a2:=C (aS.fin (by omega));have ay:wr.cell? ⟨g,0,U⟩=R (I J e.k):=bN (i:=0) f rfl;have dF:wr.cell? ⟨g,1,U⟩=R (I J e.a):=bN (i:=1) f rfl;have dL:wr.cell? ⟨g,2,U⟩=R (I J e.b):=bN (i:=2) f rfl;have dQ:wr.cell? ⟨g,3,U⟩=R (I J e.n):=bN (i:=3) f rfl;have ce:wr.cell? ⟨g,4,U⟩=R (I J e.m):=bN (i:=4) f rfl;have dR:wr.cell? ⟨g,5,U⟩=R (I ah (e.s:Int)):=bN (i:=5) f rfl;have ad:=iV f;have af:=bN (i:=0) l rfl;have ae:=bN (i:=1) l rfl;have am:=bN (i:=2) l rfl;have aM:=bN (i:=3) l rfl;have aj:=bN (i:=4) l rfl;have ap:=bN (i:=5) l rfl;have aO:=λi=>lK (i:=i) l;clear f l;go_wp2;apply bodyPost_ret (r_ rfl rfl rfl (cW (by first|exact aP|exact r7 (by omega) _ aP) _ _ _ _ _ _)) rfl;apply sa (e:=e) (b:=q) a2.1 rfl a2.2;repeat(with_reducible refine qj ?_ (by omega) _)
      exact aU
   ·have a1:((L.length:Int)!=1+((eb v).length:Int))=true:=(by simp;omega);have G:=C (Ew aF (by rw[<-u.out.1];exact H));clear H F;go_wp2;apply bodyPost_ret (r_ rfl rfl rfl (cW (by first|exact E|exact r7 (by omega) _ E) _ _ _ _ _ _)) rfl;refine sa (e:=pe) (b:=11) (by rw[G.out]) rfl (λp=>nomatch p) ?_;repeat(with_reducible refine qj ?_ (by omega) _)
    exact az
theorem EM {s b:List Nat} (h:s=b++[10]):h6 s=dh 10 b:=by subst h;unfold h6;rw[aj (by simp),List.dropLast_concat]
theorem EN {s:List Nat} (h:s.getLast?≠R 10):h6 s=dh 10 s:=by unfold h6;rw[z0 h]
theorem uH (a:Bool) (t:List Nat) (r:List (List Nat)) (i:Nat) (l:List bT):n2 a (t::r) i l=if r=[]∧a=false then([],i,11) else if(iA t).2≠0 then([],i,(iA t).2) else n2 a r (i+1) (l++[(iA t).1]):=rfl
structure NK (A T cq:List bT×Nat×Nat) (U:Prop):Prop where
 full:A.2.2=3->cq.2.2=3∨U
 bad:A.2.2≠3->cq.2.2≠3->A.2.2≠0->cq.2.2=A.2.2∧cq.2.1=A.2.1
 NL:A.2.2=0->cq.2.2≠3->T.2.2≠0->cq.2.2=T.2.2
 ok:A.2.2=0->cq.2.2≠3->T.2.2=0->cq.2.2=0∧cq.1=A.1++T.1
variable {cap:Nat}
theorem Own.next {α:Type} {E:cm α} {T:Nat} {zs:List α} (h:Own E W B T v n zs) (b:Below W.heap.size W W'):Own E W' B T v n zs:=by
 refine⟨h.1,?_⟩;rcases h.2 with c|⟨g,cap,d,e,f,a,i⟩;·exact .inl c
 ·exact .inr ⟨g,cap,d,e,f,(b.block g (iQ.1 a).1).trans a,i⟩
variable {aW:List (List Nat)}
def iY (a:Bool) (aW:List (List Nat)) (al:List bT×Nat×Nat) (i:Nat) (l:List bT):Prop:=n2 a (aW.drop i) i l=al
theorem yj {a:Bool}:iY a aW (n2 a aW 0 []) 0 []:=rfl
theorem drop_at {t:List Nat} (h:aW[i]?=R t):aW.drop i=t::aW.drop (i+1):=by obtain⟨a,b⟩:=bE.1 h;rw[o3 a,b]
theorem iY.next {b:Bool} {al:List bT×Nat×Nat} {l:List bT} {t:List Nat} {g:bT} (h:iY b aW al i l) (d:aW[i]?=R t) (a:i+1<aW.length∨b=true) (h0:(iA t).2=0) (e:g=(iA t).1):iY b aW al (i+1) (l++[g]):=by
 subst e;unfold iY at*;rw[drop_at d,uH,z0,z0 (by omega)] at h;·exact h
 ·rintro⟨f,c⟩;rcases a with a|a;·rw[List.drop_eq_nil_iff] at f;omega
  ·rw[a] at c;cases c
theorem iY.cut {al:List bT×Nat×Nat} {l:List bT} (h:iY false aW al i l) (a:i+1=aW.length):al=([],i,11):=by
 unfold iY at h;rw[drop_at (b6 (by omega)),uH,aj] at h;·exact h.symm
 ·exact⟨List.drop_eq_nil_iff.2 (by omega),rfl⟩
theorem iY.bad {c:Bool} {al:List bT×Nat×Nat} {l:List bT} {t:List Nat} (h:iY c aW al i l) (e:aW[i]?=R t) (a:i+1<aW.length∨c=true) (f:(iA t).2=b) (h0:b≠0):al=([],i,b):=by
 unfold iY at h;rw[drop_at e,uH,z0,aj (by omega),f] at h;·exact h.symm
 ·rintro⟨g,d⟩;rcases a with a|a;·rw[List.drop_eq_nil_iff] at g;omega
  ·rw[a] at d;cases d
theorem iY.fin {a:Bool} {al:List bT×Nat×Nat} {l:List bT} (h:iY a aW al i l) (b:aW.length<=i):al=(l,0,0):=by unfold iY at h;rw[List.drop_of_length_le b] at h;exact h.symm
theorem EO {s:List Nat} (h:s=[]):kb s=([],0,0):=by unfold kb;rw[aj h]
theorem yk {s:List Nat} (h:s≠[]) (a:1000<(h6 s).length):kb s=([],0,3):=by unfold kb;rw[z0 h,aj a]
theorem yl {s:List Nat} {b:Bool} (h:s≠[]) (a:¬1000<(h6 s).length) (c:decide (s.getLast?=R 10)=b):kb s=n2 b (h6 s) 0 []:=by unfold kb;rw[z0 h,z0 a,c]
def ph (al:List bT×Nat×Nat) (w:ab) (x:Ending) (w':ab):Prop:=∃v:Value,x=aK (bD #[v,I J (al.2.1:Int),I J (al.2.2:Int)])∧Own iX w' w.heap.size 33 v al.1.length al.1∧Below w.heap.size w w'
theorem uI {al:List bT×Nat×Nat} {l:List bT} {a:Nat} {x:Ending} (h:al=(l,a,b)) (c:x=aK (bD #[v,I J (a:Int),I J (b:Int)])) (d:l.length=n) (e:Own iX w' w.heap.size 33 v n l) (f:Below w.heap.size w w'):ph al w x w':=by subst h d;exact⟨v,c,e,f⟩
theorem n4 {al:List bT×Nat×Nat} {a:Nat} {x:Ending} (h:al=([],a,b)) (c:x=aK (bD #[aA U 0 0,I J (a:Int),I J (b:Int)])) (d:Below w.heap.size w w'):ph al w x w':=uI h c rfl (Own.nil _ _ _) d
theorem Own.base {α:Type} {E:cm α} {a T:Nat} {zs:List α} (h:Own E W B T v n zs) (f:a<=B):Own E W a T v n zs:=by
 refine⟨h.1,?_⟩;rcases h.2 with b|⟨g,cap,c,d,i,e⟩;·exact .inl b
 ·exact .inr ⟨g,cap,c,d,by omega,e⟩
theorem ym {s:ByteArray}:s.toList.isEmpty=true↔bh s=[]:=by rw[Lib.toList_data,o8];unfold bh;rw[List.map_eq_nil_iff]
theorem yn {s:ByteArray}:s.toList.isEmpty=false↔bh s≠[]:=by rw[Ne,<-ym];simp
theorem EP (l:List UInt8):(∃b,l=b++[10]∧Lib.hasSuffix l [10]=true)∨((l.map pb).getLast?≠R 10∧Lib.hasSuffix l [10]=false):=by
 rcases List.eq_nil_or_concat l with rfl|⟨b,e,rfl⟩;·exact .inr ⟨(λa=>nomatch a),rfl⟩
 ·rw[List.concat_eq_append];by_cases f:e=10;·subst f;exact .inl ⟨b,rfl,by unfold Lib.hasSuffix;simp[List.isSuffixOf]⟩
  ·refine .inr ⟨?_,?_⟩;·rw[h4,List.getLast?_append];show R e.toNat≠R 10;intro a;have d:e.toNat=10:=Option.some.inj a;exact f (UInt8.toNat_inj.1 d)
   ·unfold Lib.hasSuffix;rw[Bool.eq_false_iff];intro a;rw[List.isSuffixOf_iff_suffix] at a;obtain⟨c,g⟩:=a;have d:=congrArg List.getLast? g;simp at d;exact f d.symm
def ER (s:ByteArray) (w:ab) (e:Ending) (w':ab):Prop:=∃B:ByteArray,e=aK (bD #[.string B,aE (decide ((bh s).getLast?=R 10))])∧dh 10 (bh B)=h6 (bh s)∧B.size<=s.size∧w'=w
theorem yo (s:ByteArray) (w:ab) (g:s.size<=9223372036854775807):Calls au 67 #[.string s,.string ⟨#[10]⟩] w (ER s w):=by
 apply(strings_CutSuffix s ⟨#[10]⟩ w g).mono;rintro h w' ⟨rfl,rfl⟩;rcases EP s.data.toList with⟨b,f,a⟩|⟨c,a⟩
 ·have d:Lib.trimSuffix s.data.toList (⟨#[10]⟩:ByteArray).data.toList=b:=by unfold Lib.trimSuffix;rw[aj a,f];simp
  have e:bh s=b.map pb++[10]:=by unfold bh;rw[f,h4];rfl
  refine⟨⟨b.toArray⟩,?_,?_,?_,rfl⟩;·rw[d];show Ending.returned (bD #[.string ⟨b.toArray⟩,aE (Lib.hasSuffix s.data.toList [10])])=_;rw[a,e,decide_eq_true (by simp)]
  ·rw[EM e];rfl
  ·rw[<-lM s,e];show b.toArray.size<=_;simp
 ·have d:Lib.trimSuffix s.data.toList (⟨#[10]⟩:ByteArray).data.toList=s.data.toList:=by unfold Lib.trimSuffix;rw[z0 (by show¬Lib.hasSuffix s.data.toList [10]=true;rw[a];decide)]
  have c:(bh s).getLast?≠R 10:=c;refine⟨s,?_,?_,bM _,rfl⟩;·rw[d];show Ending.returned (bD #[.string _,aE (Lib.hasSuffix s.data.toList [10])])=_;rw[a,decide_eq_false c]
  ·rw[EN c]
theorem yp {al:bT×Nat} {x:Ending} (h:uG al w x w'):∃(c:bT) (b:Nat),x=aK (bD #[bm #[I J c.k,I J c.a,I J c.b,I J c.n,I J c.m,I ah (c.s:Int)],I J (b:Int)])∧al.2=b∧(b=0->c=al.1)∧Below w.heap.size w w':=by obtain⟨c,d,e,f⟩:=h;exact⟨c,_,d,rfl,e,f⟩
theorem ES (s:ByteArray) (w:ab) (a:s.toList.isEmpty=true):Calls au 29 #[.string s] w (ph (kb (bh s)) w):=by have b:=C (EO (ym.1 a));go_enter func29,ntmps29;go_wp2;go_ret3;exact n4 b rfl (Below.refl _ _)
theorem ET (s:ByteArray) (w:ab) (G:gS w) (bn:s.size<=100000000) (aS:s.toList.isEmpty=false) (Y:decide ((bh s).getLast?=R 10)=true):Calls au 29 #[.string s] w (ph (kb (bh s)) w):=by
 have Z:=C (yn.1 aS);have aa:=C Y;have aA:=G.lo;clear Y;go_enter func29,ntmps29;go_wp2_with fail;apply(yo s _ (by omega)).mono;rintro ao bp ⟨B,rfl,ac,bq,rfl⟩;rw[aa.out];have aU:=C ac;clear ac;go_wp2_with fail;apply(uF 10 B _ G (by omega)).mono;rintro ao o ⟨L,H,rfl,ay,aP,f⟩;have K:=C (uE (c:=10) H);have aT:=C ay;have p:=C f;have M:L.map bh=h6 (bh s):=H.trans aU;have ad:L.length=(h6 (bh s)).length:=by rw[<-M,ep]
 have aV:=C (λj (aB:j<L.length)=>(by rw[<-M,dP,b6 aB];rfl:(h6 (bh s))[j]?=R (bh (L[j]'aB))));have N:=C ad.symm;have aZ:=K.2.1;have q:=f.size;have ak:L.length<=100000001:=by have ai:=K.1;have a6:=uA 10 (bh B);rw[lM] at a6;omega
 obtain⟨m,O⟩:∃m,L.length=m+1:=⟨L.length-1,by omega⟩;have x:=C O;rw[O] at ak⊢;clear H ay f M ad O aZ;by_cases az:1000<m+1
 ·have a8:(1000:Int)<(m:Int)+1:=by omega
  have P:=C (yk Z (by rw[N.out,x.out];exact az));go_wp2;go_ret3;exact n4 P rfl p
 ·have a8:¬(1000:Int)<(m:Int)+1:=by omega
  have P:=C (yl (b:=true) Z (by rw[N.out,x.out];exact az) aa);go_wp2_with fail;go_loopw [8,27] (λa_ Q wr=>∃(i:Nat) (l:List bT),Q=I J (i:Int)∧i<=m+1∧l.length=i∧iY true (h6 (bh s)) (kb (bh s)) i l∧Own iX wr o.heap.size 33 a_ i l∧Below o.heap.size o wr) (λ_ Q _=>m+1-(intOf Q).toNat);case atStart=>exact⟨0,[],rfl,hq _,rfl,by rw[P.out];exact yj,Own.nil _ _ _,Below.refl _ _⟩
  case round=>
   obtain⟨i,l,rfl,br,aC,r,aF,f⟩:=hrel;have af:=f.size;have S:=C aC;clear aC;by_cases ae:i<m+1
   ·have aq:(i:Int)<(m:Int)+1:=(by omega);have y:i<L.length:=(by have:=x.out;omega);have ba:=b1 f aP (aT i y);have u:=C (aV i y);have ag:=(K.2.2 i y).1;have bb:=C (G.next (p.trans (f.mono q)));generalize(L[i]'y)=t at ba u ag;go_wp2_with fail;apply(yi t _ bb (by omega)).mono;intro ao aw am;obtain⟨d,b,rfl,aM,aj,z⟩:=yp am;have bc:=C (aF.next z);have bf:=C (f.trans (z.mono af));have ap:=cJ af z.size;have A:=C aM;have aO:=C aj;clear am z aM aj;go_upto_region 12 with fail;generalize T:j_ aw _=V;have bg:=C (T▸bc.out.alloc _:Own iX V o.heap.size 33 _ i l);have D:=C (uD T);have E:=C (bf.trans (D.2.mono ap));have aQ:=cJ ap D.2.size;have g:=D.1;have aE:=bN (i:=0) g rfl;have a0:=bN (i:=1) g rfl;have bw:=bN (i:=2) g rfl;have a2:=bN (i:=3) g rfl;have a3:=bN (i:=4) g rfl;have a4:=bN (i:=5) g rfl;clear T g D;have F:=C (bg.alloc (av #[I J d.k,I J d.a,I J d.b,I J d.n,I J d.m,I ah (d.s:Int)] 33));by_cases a5:i=m
    ·have an:((i:Int)==(m:Int))=true:=(by simp;omega);by_cases e:b=0
     ·have U:((b:Int)!=0)=false:=(by simp;omega);have h:=C (r.next u (.inr rfl) (by rw[A.out];exact e) (aO e));clear e;go_wp2_with ((at_builtin;refine uC rfl _ _ rfl o.heap.size _ i l rfl F V.heap.size _ d rfl (dE.trans rfl) (dE.trans rfl) (dE.trans rfl) (dE.trans rfl) (dE.trans rfl) (dE.trans rfl) (by omega) (by simp;omega) ?_;intro ax u2 W v));have X:=C ((E.alloc aQ (av #[I J d.k,I J d.a,I J d.b,I J d.n,I J d.m,I ah (d.s:Int)] 33)).grown v (by simp;omega) (λj d=>(F.lt j d).1));clear v;go_roundw;case rel=>exact⟨i+1,l++[d],by go_num,ae,by rw[eZ,S.out];rfl,h,W,X⟩
      case measure=>simp[intOf];omega
     ·have bk:((b:Int)==0)=false:=(by simp;omega);have U:((b:Int)!=0)=true:=(by simp;omega);have h:=C (r.bad u (.inr rfl) A e);clear e;go_wp2;go_ret3;exact n4 h rfl (p.trans (E.mono q))
    ·have an:((i:Int)==(m:Int))=false:=(by simp;omega);by_cases e:b=0
     ·have U:((b:Int)!=0)=false:=(by simp;omega);have h:=C (r.next u (.inr rfl) (by rw[A.out];exact e) (aO e));clear e;go_wp2_with ((at_builtin;refine uC rfl _ _ rfl o.heap.size _ i l rfl F V.heap.size _ d rfl (dE.trans rfl) (dE.trans rfl) (dE.trans rfl) (dE.trans rfl) (dE.trans rfl) (dE.trans rfl) (by omega) (by simp;omega) ?_;intro ax u2 W v));have X:=C ((E.alloc aQ (av #[I J d.k,I J d.a,I J d.b,I J d.n,I J d.m,I ah (d.s:Int)] 33)).grown v (by simp;omega) (λj d=>(F.lt j d).1));clear v;go_roundw;case rel=>exact⟨i+1,l++[d],by go_num,ae,by rw[eZ,S.out];rfl,h,W,X⟩
      case measure=>simp[intOf];omega
     ·have bk:((b:Int)==0)=false:=(by simp;omega);have U:((b:Int)!=0)=true:=(by simp;omega);have h:=C (r.bad u (.inr rfl) A e);clear e;go_wp2;go_ret3;exact n4 h rfl (p.trans (E.mono q))
   ·have aq:¬(i:Int)<(m:Int)+1:=(by omega);have bl:=C (r.fin (by rw[N.out,x.out];omega));go_wp2;go_ret3;exact uI bl rfl S (aF.base q) (p.trans (f.mono q))
theorem EU (s:ByteArray) (w:ab) (A:gS w) (bl:s.size<=100000000) (am:s.toList.isEmpty=false) (P:decide ((bh s).getLast?=R 10)=false):Calls au 29 #[.string s] w (ph (kb (bh s)) w):=by
 have Q:=C (yn.1 am);have S:=C P;have bn:=A.lo;clear P;go_enter func29,ntmps29;go_wp2_with fail;apply(yo s _ (by omega)).mono;rintro T aA ⟨B,rfl,U,bp,rfl⟩;rw[S.out];have aM:=C U;clear U;go_wp2_with fail;apply(uF 10 B _ A (by omega)).mono;rintro T o ⟨L,D,rfl,W,aj,e⟩;have E:=C (uE (c:=10) D);have ap:=C W;have p:=C e;have F:L.map bh=h6 (bh s):=D.trans aM;have X:L.length=(h6 (bh s)).length:=by rw[<-F,ep]
 have aO:=C (λj (Y:j<L.length)=>(by rw[<-F,dP,b6 Y];rfl:(h6 (bh s))[j]?=R (bh (L[j]'Y))));have h:=C X.symm;have aQ:=E.2.1;have q:=e.size;have aS:L.length<=100000001:=by have bq:=E.1;have aU:=uA 10 (bh B);rw[lM] at aU;omega
 obtain⟨m,G⟩:∃m,L.length=m+1:=⟨L.length-1,by omega⟩;have f:=C G;rw[G] at aS⊢;clear D W e F X G aQ;by_cases Z:1000<m+1
 ·have aP:(1000:Int)<(m:Int)+1:=by omega
  have H:=C (yk Q (by rw[h.out,f.out];exact Z));go_wp2;go_ret3;exact n4 H rfl p
 ·have aP:¬(1000:Int)<(m:Int)+1:=by omega
  have H:=C (yl (b:=false) Q (by rw[h.out,f.out];exact Z) S);go_wp2_with fail;go_loopw [8,27] (λaT K wr=>∃(i:Nat) (l:List bT),K=I J (i:Int)∧i<=m+1∧l.length=i∧iY false (h6 (bh s)) (kb (bh s)) i l∧Own iX wr o.heap.size 33 aT i l∧Below o.heap.size o wr) (λ_ K _=>m+1-(intOf K).toNat);case atStart=>exact⟨0,[],rfl,hq _,rfl,by rw[H.out];exact yj,Own.nil _ _ _,Below.refl _ _⟩
  case round=>
   obtain⟨i,l,rfl,ai,aa,v,ao,e⟩:=hrel;have ac:=e.size;have ay:=C aa;clear aa;by_cases aV:i<m+1
   ·have aZ:(i:Int)<(m:Int)+1:=(by omega);have x:i<L.length:=(by have:=f.out;omega);have ak:=b1 e aj (ap i x);have M:=C (aO i x);have a6:=(E.2.2 i x).1;have a8:=C (A.next (p.trans (e.mono q)));generalize(L[i]'x)=t at ak M a6;go_wp2_with fail;apply(yi t _ a8 (by omega)).mono;intro T a_ ad;obtain⟨d,b,rfl,aB,az,y⟩:=yp ad;have aq:=C (ao.next y);have ba:=C (e.trans (y.mono ac));have aC:=cJ ac y.size;have aF:=C aB;have ag:=C az;clear ad y aB az;go_upto_region 12 with fail;generalize N:j_ a_ _=V;have bb:=C (N▸aq.out.alloc _:Own iX V o.heap.size 33 _ i l);have z:=C (uD N);have O:=C (ba.trans (z.2.mono aC));have aw:=cJ aC z.2.size;have g:=z.1;have br:=bN (i:=0) g rfl;have aE:=bN (i:=1) g rfl;have a0:=bN (i:=2) g rfl;have bw:=bN (i:=3) g rfl;have a2:=bN (i:=4) g rfl;have a3:=bN (i:=5) g rfl;clear N g z;have af:=C (bb.alloc (av #[I J d.k,I J d.a,I J d.b,I J d.n,I J d.m,I ah (d.s:Int)] 33));by_cases bc:i=m;·have bf:((i:Int)==(m:Int))=true:=(by simp;omega);have r:=C (v.cut (by rw[h.out,f.out];omega));clear bc;go_wp2;go_ret3;exact n4 r rfl (p.trans (O.mono q))
    ·have bf:((i:Int)==(m:Int))=false:=(by simp;omega);by_cases u:b=0
     ·have bg:((b:Int)!=0)=false:=(by simp;omega);have r:=C (v.next M (.inl (by rw[h.out,f.out];omega)) (by rw[aF.out];exact u) (ag u));clear u;go_wp2_with ((at_builtin;refine uC rfl _ _ rfl o.heap.size _ i l rfl af V.heap.size _ d rfl (dE.trans rfl) (dE.trans rfl) (dE.trans rfl) (dE.trans rfl) (dE.trans rfl) (dE.trans rfl) (by omega) (by simp;omega) ?_;intro a4 u2 an ae));have ax:=C ((O.alloc aw (av #[I J d.k,I J d.a,I J d.b,I J d.n,I J d.m,I ah (d.s:Int)] 33)).grown ae (by simp;omega) (λj d=>(af.lt j d).1));clear ae;go_roundw;case rel=>exact⟨i+1,l++[d],by go_num,aV,by rw[eZ,ay.out];rfl,r,an,ax⟩
      case measure=>simp[intOf];omega
     ·have a5:((b:Int)==0)=false:=(by simp;omega);have bg:((b:Int)!=0)=true:=(by simp;omega);have r:=C (v.bad M (.inl (by rw[h.out,f.out];omega)) aF u);clear u;go_wp2;go_ret3;exact n4 r rfl (p.trans (O.mono q))
   ·have aZ:¬(i:Int)<(m:Int)+1:=(by omega);have bk:=C (v.fin (by rw[h.out,f.out];omega));go_wp2;go_ret3;exact uI bk rfl ay (ao.base q) (p.trans (e.mono q))
theorem EV (s:ByteArray) (w:ab) (a:gS w) (b:s.size<=100000000):Calls au 29 #[.string s] w (ph (kb (bh s)) w):=by
 cases he:s.toList.isEmpty with
 |true=>exact ES s w he
 |false=>
  cases h:decide ((bh s).getLast?=R 10) with
  |true=>exact ET s w a b he h
  |false=>exact EU s w a b he h
variable {n₀:Nat} {aH:Value} {row:Option Nat}
theorem zV:(prog.info? 3).map (λi=>(i.zero,i.size,i.bytes))=R (R (I J 0),1,8):=by kernel_rfl
def pi (n₀:Nat) (W:ab) (aH:Value) (zs:List Int):Prop:=((∃a cap,aH=aA a 0 cap)∧zs=[])∨∃b c cap,aH=aA (R ⟨b,c,U⟩) zs.length cap∧b<n₀∧∀j,j<zs.length->W.cell? ⟨b,c+j,U⟩=R (I J (bj zs j))
theorem pi.below {B:ab} (h:Below n₀ A B):pi n₀ A aH zs->pi n₀ B aH zs
 | .inl e=>.inl e
 | .inr ⟨b,off,cap,e,a,c⟩=>.inr ⟨b,off,cap,e,a,λj d=>(h.cell (p:=⟨b,off+j,U⟩) a).trans (c j d)⟩
theorem pi.cells (h:pi n₀ W (aA a n cap) zs) (f:p<zs.length):∃b d,a=R ⟨b,d,U⟩∧b<n₀∧∀j,j<zs.length->W.cell? ⟨b,d+j,U⟩=R (I J (bj zs j)):=by
 rcases h with⟨_,rfl⟩|⟨b,d,c,e,g,i⟩;·simp at f
 ·simp only[Value.slice.injEq] at e;exact⟨b,d,e.1,g,i⟩
theorem zW {E:TypeId} {base:Nat} {ag:List Int} (b:ag.length=n) (h:w.ownsRow base E 1 v n (ag.map (I J))):∃a cap,v=aA a n cap∧(a=U->cap=0)∧pi w.heap.size w (aA a n cap) ag:=by
 subst b;have c:=h;obtain⟨k,d⟩:=h;rcases d with⟨rfl,b⟩|⟨g,cap,l,rfl,m,e,b,o,p,q⟩;·have:ag=[]:=nM.1 b;subst this;exact⟨U,0,rfl,λ_=>rfl,.inl ⟨⟨_,_,rfl⟩,rfl⟩⟩
 ·refine⟨_,cap,rfl,λf=>by(cases f),.inr ⟨g,0,cap,rfl,(iQ.1 e).1,λj i=>?_⟩⟩;have:=c.cellAt j (by omega);rw[show 0+j=j by omega,this];simp[bj,i]
structure Ring (W:ab) (b:Nat) (r:Nat->Int) (f n:Nat):Prop where
 lt:b<W.heap.size
 f64:f<64
 n64:n<=64
 ring:∀j,j<64->W.cell? ⟨b,j,U⟩=R (I J (r j))
 from_:W.cell? ⟨b,64,U⟩=R (I J f)
 mN:W.cell? ⟨b,65,U⟩=R (I J n)
 free:∀j,W.frozen? ⟨b,j,U⟩=false
def waits (r:Nat->Int) (f n:Nat):List Int:=(gh n).map λi=>r ((f+i)%64)
theorem zX (r:Nat->Int) (f n:Nat):(waits r f n).length=n:=by simp[waits]
theorem zY (r:Nat->Int) (f n:Nat):waits r f (n+1)=waits r f n++[r ((f+n)%64)]:=by simp[waits,nU]
def sN:Array Value:=Array.replicate 66 (I J 0)
theorem GW (w:ab):(zeroValue 230).run au w= .ok (bm sN) w:=by kernel_rfl
theorem vV (h:j<66):sN[j]?=R (I J 0):=by simp[sN,h]
theorem vW (w:ab) (cs:Array Value) (t j:Nat):(w.alloc (av cs t)).cell? ⟨w.heap.size,j,U⟩=cs[j]?:=World.cell?_alloc_at cs t _ j rfl
theorem GX (w:ab) (cs:Array Value) (t j:Nat):(w.alloc (av cs t)).frozen? ⟨w.heap.size,j,U⟩=false:=by simp
theorem GY (w:ab):Ring (w.alloc (av sN 230)) w.heap.size (λ_=>0) 0 0:=⟨by simp,by omega,by omega,λj a=>by rw[vW,vV (by omega)],by rw[vW,vV (by omega)];rfl,by rw[vW,vV (by omega)];rfl,λj=>GX _ _ _ _⟩
theorem GZ (w:ab):Calls au 85 #[] w λa w'=>a=aK (af (R ⟨w.heap.size,0,U⟩))∧Ring w' w.heap.size (λ_=>0) 0 0∧w.grownBy w' U:=by have b:=GW;go_enter func85,ntmps85;go_wp2;go_ret;exact⟨rfl,GY w,World.grownBy_alloc w _ U⟩
theorem vX (b:Nat) (r:Nat->Int) (f n:Nat) (w:ab) (a:Ring w b r f n):Calls au 142 #[af (R ⟨b,0,U⟩)] w λc w'=>c=aK (I J n)∧w=w':=by have d:=a.mN;clear a;go_enter func142,ntmps142;go_wp2;go_ret;exact⟨rfl,rfl⟩
theorem Ring.grown {r:Nat->Int} {f:Nat} (h:Ring w b r f n) (d:w.grownBy w' row) (e:row≠R b):Ring w' b r f n:=by have c:=d.block b h.lt (λg=>e g.symm);have k:w.heap.size<=w'.heap.size:=d.size;have:=h.lt;exact⟨by omega,h.f64,h.n64,λj i=>(lH (a:=⟨b,j,U⟩) c).trans (h.ring j i),(lH (a:=⟨b,64,U⟩) c).trans h.from_,(lH (a:=⟨b,65,U⟩) c).trans h.mN,λj=>(World.frozen?_of_block (a:=⟨b,j,U⟩) c).trans (h.free j)⟩
theorem zZ (b:Nat) (r:Nat->Int) (f n:Nat) (w:ab) (d:Ring w b r f n):Calls au 176 #[af (R ⟨b,0,U⟩)] w λe w'=>(∃v,e=aK v∧w'.ownsRow w.heap.size 3 1 v n ((waits r f n).map (I J)))∧Below w.heap.size w w':=by
 have L:=d.f64;have M:=d.n64;have l:=d.lt;go_enter func176,ntmps176;go_wp2_with (go_at_call 142;refine(vX _ r f n _ d).mono ?_;rintro e w' ⟨rfl,rfl⟩);go_loopw [3,7] (λv i wr=>∃a:Nat,a<=n∧i=I J a∧wr.ownsRow w.heap.size 3 1 v a ((waits r f a).map (I J))∧Below w.heap.size w wr) (λ_ i _=>n-(intOf i).toNat);case atStart=>exact⟨0,by omega,rfl,World.ownsRow_nil _ _ _ _,Below.refl _ _⟩
 case round=>
  obtain⟨a,N,rfl,h,g⟩:=hrel;by_cases O:a<n
  ·have P:(a:Int)<(n:Int):=(by omega);have Q:wr.cell? ⟨b,64,U⟩=R (I J f):=(g.cell (p:=⟨b,64,U⟩) l).trans d.from_;obtain⟨c,u⟩:=aX ((f+a)%64);have x:c<64:=(by omega);have S:wr.cell? ⟨b,c,U⟩=R (I J (r c)):=(g.cell (p:=⟨b,c,U⟩) l).trans (d.ring _ x);have y:=g.size;have m:=zY r f a;rw[u] at m;have z:=C m;have A:∀v:Value,wr.ownsRow w.heap.size 3 1 v a ((waits r f a).map (I J))->v.ownBlock≠R b:=λv B e=>by have:=(B.lt b e).1;omega
   have o:=A _ h;have T:b<wr.heap.size:=(by omega);obtain⟨D,E,F,G,H⟩:=info_parts zV;have q:IntKind.i64.wrap ((f:Int)+(a:Int))=(f:Int)+(a:Int):=IntWalk.i64_in _ (by omega);have V:((f:Int)+(a:Int)).tmod 64=(c:Int):=(by rw[rY (by omega)];omega);have W:IntKind.i64.wrap (c:Int)=(c:Int):=IntWalk.i64_in _ (by omega);have X:(0:Int)<=(c:Int):=(by omega);have Y:(c:Int)<64:=(by omega);have Z:(c:Int).toNat=c:=(by omega);have aa:a<64:=(by omega);go_wp2_with fail
   go_region_held3 (λw'=>w'.cell? ⟨b,64,U⟩=R (I J f)∧w'.cell? ⟨b,c,U⟩=R (I J (r c))) (first
    |go_keep
    |(
     go_split_ands;refine⟨?_,?_⟩;·(rw[k.cell_far _ (by simp;omega) (Ne.symm o)];assumption)
     ·(rw[k.cell_far _ (by simp;omega) (Ne.symm o)];assumption))) ((refine step_append_lies _ (by rfl) _ _ _ (by rfl) w.heap.size 3 D _ 1 8 underlying46 E F G H rfl (by omega) _ a _ (by rfl) ((h.alloc _).drew) ⟨wr.heap.size,0,U⟩ 1 1 [I J (r c)] (by rfl) (by rfl) (World.news_of_block (cs:=#[I J (r c)]) (t:=3) (fr:=(0,0)) (heap_alloc_new wr _)) (by simp[Value.oneCell']) (by omega) (by unfold maxLen;omega) (by omega) (by simp;omega) (wr.heap.size+1) (by simp) ?_;intro ao cap q s k ac ay))
   rw[<-List.map_singleton (f:=I J),<-h4,<-z.out] at s;have K:Below w.heap.size w q:=(((g.alloc y _).drew).grown k (by simp;omega) (λj e=>(h.lt j e).1));go_wp2;go_roundw;case rel=>exact⟨a+1,by omega,by go_num,s,K⟩
   case measure=>simp[intOf];omega
  ·obtain rfl:a=n:=by omega
   go_wp2;go_ret;exact⟨⟨_,rfl,h⟩,g⟩
def kl (ag:List Int) (p:Int):Nat->Int
 |0=>-1
 |k+1=>if 0<=kl ag p k then kl ag p k else if bj ag k=p then(k:Int) else-1
theorem vY (ag:List Int) (p:Int) (n:Nat):(kl ag p n=-1∧∀j,j<n->bj ag j≠p)∨(∃a:Nat,a<n∧kl ag p n=a∧bj ag a=p∧∀j,j<a->bj ag j≠p):=by
 induction n with
 |zero=>exact .inl ⟨rfl,λj i=>by omega⟩
 |succ n e=>
  rcases e with⟨d,b⟩|⟨a,d,b,f,g⟩
  ·by_cases c:bj ag n=p;·exact .inr ⟨n,by omega,by unfold kl;rw[d];simp[c],c,b⟩
   ·refine .inl ⟨by unfold kl;rw[d];simp[c],λj k=>?_⟩;by_cases h:j=n;·subst h;exact c
    ·exact b j (by omega)
  ·exact .inr ⟨a,by omega,by unfold kl;rw[b];simp,f,g⟩
theorem G0 {ag:List Int} {p:Int} (h:∀j,j<n->bj ag j≠p):kl ag p n=-1:=by
 rcases vY ag p n with⟨a,_⟩|⟨b,a,_,c,_⟩;·exact a
 ·exact absurd c (h b a)
theorem G1 {ag:List Int} {p:Int} {k:Nat} (hk:k<n) (c:bj ag k=p) (h:∀j,j<k->bj ag j≠p):kl ag p n=k:=by
 rcases vY ag p n with⟨_,b⟩|⟨j,f,b,d,e⟩;·exact absurd c (b k hk)
 ·rw[b];rcases Nat.lt_trichotomy j k with a|a|a;·exact absurd d (h j a)
  ·rw[a]
  ·exact absurd c (e k a)
def oz (ag:List Int) (p:Int):Bool:=decide (0<=kl ag p ag.length)
theorem G2 {ag:List Int} {p:Int}:oz ag p=true↔p∈ag:=by
 unfold oz;rw[decide_eq_true_iff];rcases vY ag p ag.length with⟨a,b⟩|⟨g,a,b,c,h⟩;·rw[a];refine⟨λd=>by omega,λd=>?_⟩;obtain⟨j,e,f⟩:=List.getElem_of_mem d;exact absurd (by unfold bj;rw[b6 e];exact f) (b j e)
 ·rw[b];refine⟨λ_=>?_,λ_=>by omega⟩;unfold bj at c;rw[b6 a] at c;rw[<-c];exact List.getElem_mem _
theorem G3 (a:Option Addr) (len cap:Nat) (ag:List Int) (p:Int) (w:ab) (l:ag.length=len) (hI:pi w.heap.size w (aA a len cap) ag) (s:len<=9223372036854775807):Calls au 221 #[aA a len cap,I J p] w λd w'=>d=aK (I J (kl ag p len))∧w=w':=by
 have k:=C l;go_enter func221,ntmps221;go_wp2;go_loop [8] (λi=>∃c:Nat,c<=len∧i=I J c∧∀j,j<c->bj ag j≠p) (λi=>len-(intOf i).toNat);case atStart=>exact⟨0,by omega,rfl,λj t=>by omega⟩
 case round=>
  obtain⟨c,u,rfl,m⟩:=hrel;have f:=C m;by_cases g:c<len
  ·have v:(c:Int)<(len:Int):=(by omega);obtain⟨b,x,n,y,o⟩:=hI.cells (p:=c) (by rw[k.out];exact g);subst n;have z:=o c (by rw[k.out];exact g);by_cases e:bj ag c=p;·have h:=C (G1 g e f);have q:(p==bj ag c)=true:=(by simp[e]);clear e;go_wp2;go_ret;exact⟨by rw[h.out];rfl,rfl⟩
   ·have q:(p==bj ag c)=false:=(by simpa usingλd=>e d.symm);have r:=C e;go_wp2;go_round;case rel=>exact⟨c+1,by omega,by go_num,λj A=>by
     by_cases d:j=c;·subst d;exact r
     ·exact f j (by omega)⟩
    case measure=>simp[intOf];omega
  ·obtain rfl:c=len:=by omega
   have h:=C (G0 f);go_wp2;go_ret;exact⟨by rw[h.out];rfl,rfl⟩
theorem z1 (a:Option Addr) (len cap:Nat) (ag:List Int) (p:Int) (w:ab) (c:ag.length=len) (hI:pi w.heap.size w (aA a len cap) ag) (f:len<=9223372036854775807):Calls au 175 #[aA a len cap,I J p] w λd w'=>d=aK (aE (oz ag p))∧w=w':=by
 have e:=C (by unfold oz;rw[c]:oz ag p=decide (0<=kl ag p len));have g:=C c;go_enter func175,ntmps175;go_wp2_with fail;apply(G3 _ _ _ ag _ _ g hI f).mono;rintro d w' ⟨rfl,rfl⟩;generalize kl ag p len=h at*;cases b:decide (0<=h);·have i:=C b;clear b;go_wp2;go_ret;exact⟨by rw[e.out];rfl,rfl⟩
 ·have i:=C b;clear b;go_wp2;go_ret;exact⟨by rw[e.out];rfl,rfl⟩
theorem qS {u v:ab} (h:w.grownBy u row) (k:u.grownBy v row):w.grownBy v row:=⟨k.os.trans h.os,k.tape.trans h.tape,k.output.trans h.output,cJ h.size k.size,λi a b=>(k.block i (dm a h.size) b).trans (h.block i a b)⟩
theorem sO {u:ab} (h:Below w.heap.size w u) (row:Option Nat):w.grownBy u row:=⟨h.os,h.tape,h.output,h.size,λi a _=>h.block i a⟩
theorem sP (w:ab) (b o:Nat) (v:Value):w.grownBy (w.setCell ⟨b,o,U⟩ v) (R b):=⟨rfl,rfl,rfl,by simp,λi _ a=>Below.heap_setCell w ⟨b,o,U⟩ v i (λc=>a (by rw[c]))⟩
theorem z6 (w:ab) (n:Nat) (row:Option Nat):w.grownBy (w.drewN n) row:=⟨rfl,rfl,rfl,bM _,λ_ _ _=>rfl⟩
def gI (W:ab) (b:Nat) (ag:List Int):Prop:=∃r f n,Ring W b r f n∧waits r f n=ag
theorem gI.lt {W:ab} {b:Nat} {ag:List Int} (h:gI W b ag):b<W.heap.size:=by obtain⟨r,f,n,h,_⟩:=h;exact h.lt
theorem gI.le {ag:List Int} (h:gI W b ag):ag.length<=64:=by obtain⟨r,f,n,h,rfl⟩:=h;rw[zX];exact h.n64
theorem G4 {r:Nat->Int} {f:Nat} (p:Int) (b:f<64) (c:n<64):waits (λj=>if j=(f+n)%64 then p else r j) f (n+1)=waits r f n++[p]:=by
 rw[zY];simp only[aj];congr 1;apply List.ext_getElem;·simp[waits]
 ·intro i a d;have e:i<n:=by simpa[waits] using a
  simp only[waits,List.getElem_map,List.getElem_range];rw[z0 (by omega)]
theorem G5 {r:Nat->Int} {f:Nat} (a:f<64) (b:0<n):waits r f n=r f::waits r ((f+1)%64) (n-1):=by
 obtain⟨m,rfl⟩:∃m,n=m+1:=⟨n-1,by omega⟩;apply List.ext_getElem;·simp[waits]
 ·intro i c d;cases i with
  |zero=>simp[waits,Nat.mod_eq_of_lt a]
  |succ i=>simp only[waits,List.getElem_map,List.getElem_range,List.getElem_cons_succ];congr 1;omega
theorem z7 (w:ab) (row:Option Nat):w.grownBy w.drew row:=⟨rfl,rfl,rfl,bM _,λ_ _ _=>rfl⟩
theorem G6 {r:Nat->Int} {f q:Nat} {p:Int} (h:Ring W b r f n) (e:n<64) (g:q=(f+n)%64):Ring ((W.setCell ⟨b,q,U⟩ (I J p)).setCell ⟨b,65,U⟩ (I J ((n:Int)+1))) b (λj=>if j=q then p else r j) f (n+1):=by
 have i:q<64:=by omega
 refine⟨by simpa using h.lt,h.f64,by omega,λj c=>?_,?_,?_,λj=>?_⟩
 ·rw[jz _ _ _ _ (by intro a;simp only[Addr.mk.injEq] at a;omega)];by_cases a:j=q;·subst a;simp only[aj];exact p3 _ _ _ (by rw[h.ring j c];rfl)
  ·simp only[z0 a];rw[jz _ _ _ _ (by intro d;simp only[Addr.mk.injEq] at d;omega)];exact h.ring j c
 ·rw[jz _ _ _ _ (by intro a;simp only[Addr.mk.injEq] at a;omega),jz _ _ _ _ (by intro a;simp only[Addr.mk.injEq] at a;omega)];exact h.from_
 ·have:(W.setCell ⟨b,q,U⟩ (I J p)).cell? ⟨b,65,U⟩=R (I J n):=by rw[jz _ _ _ _ (by intro a;simp only[Addr.mk.injEq] at a;omega)];exact h.mN
  rw[p3 _ _ _ (by rw[this];rfl)];rfl
 ·rw[p7,p7];exact h.free j
theorem z8 {r:Nat->Int} {f:Nat} (h:Ring W b r f n) (d:0<n):Ring ((W.setCell ⟨b,64,U⟩ (I J (((f+1)%64:Nat):Int))).setCell ⟨b,65,U⟩ (I J ((n:Int)-1))) b r ((f+1)%64) (n-1):=by
 refine⟨by simpa using h.lt,Nat.mod_lt _ (by omega),by have:=h.n64;omega,λj c=>?_,?_,?_,λj=>?_⟩;·rw[jz _ _ _ _ (by intro a;simp only[Addr.mk.injEq] at a;omega),jz _ _ _ _ (by intro a;simp only[Addr.mk.injEq] at a;omega)];exact h.ring j c
 ·rw[jz _ _ _ _ (by intro a;simp only[Addr.mk.injEq] at a;omega)];exact p3 _ _ _ (by rw[h.from_];rfl)
 ·have:(W.setCell ⟨b,64,U⟩ (I J (((f+1)%64:Nat):Int))).cell? ⟨b,65,U⟩=R (I J n):=by rw[jz _ _ _ _ (by intro a;simp only[Addr.mk.injEq] at a;omega)];exact h.mN
  rw[p3 _ _ _ (by rw[this];rfl)];have:((n-1:Nat):Int)=(n:Int)-1:=by omega
  rw[this]
 ·rw[p7,p7];exact h.free j
def jg (ag:List Int) (p:Int):Bool:=decide (0<=p)&&(ag.length !=64&&!oz ag p)
theorem z_ (b:Nat) (ag:List Int) (p:Int) (w:ab) (L:gI w b ag):Calls au 119 #[af (R ⟨b,0,U⟩),I J p] w λg w'=>g=aK (aE (jg ag p))∧gI w' b (if jg ag p=true then ag++[p] else ag)∧w.grownBy w' (R b):=by
 obtain⟨r,a,n,e,rfl⟩:=L;have j:=C e;have M:=e.f64;have ae:=e.n64;have am:=e.lt;have N:=e.mN;have f:=zX r a n;by_cases z:0<=p
 ·by_cases o:n=64;·have d:jg (waits r a n) p=false:=(by unfold jg;rw[f,o];simp);have h:=C d;have O:((n:Int)==64)=true:=(by simp;omega);have A:¬p<0:=(by omega);clear e o f d;rw[h.out];go_enter func119,ntmps119;go_wp2;go_ret;exact⟨rfl,⟨r,a,n,j,rfl⟩,World.grownBy.refl _ _⟩
  ·have O:((n:Int)==64)=false:=(by simp;omega);have A:¬p<0:=(by omega);cases k:oz (waits r a n) p;·have d:jg (waits r a n) p=true:=(by unfold jg;rw[f,k,decide_eq_true z];simp[o]);have h:=C d;have x:=C k;have q:=C f;have B:n<64:=(by omega);clear e f d k o;rw[h.out];go_enter func119,ntmps119;go_wp2_with fail;refine(zZ b r a n _ j).mono ?_;rintro g s ⟨⟨v,rfl,t⟩,l⟩;obtain⟨P,Q,rfl,_,u⟩:=zW q t;have y:=C u;clear t u;go_wp2_with fail;refine(z1 _ _ _ (waits r a n) p _ q y (by omega)).mono ?_;rintro g w' ⟨rfl,rfl⟩;rw[x.out];have i:=C (j.grown (sO l U) (by simp));have S:=C (sO l (R b));obtain⟨c,D⟩:∃c,(a+n)%64=c:=⟨_,rfl⟩;have E:c<64:=(by omega);have T:=i.from_;have V:=i.mN;have W:=i.ring c E;have X:=i.free 64;have Y:=i.free 65;have Z:=i.free c;have aa:IntKind.i64.wrap ((a:Int)+(n:Int))=(a:Int)+(n:Int):=IntWalk.i64_in _ (by omega);have ao:((a:Int)+(n:Int)).tmod 64=(c:Int):=(by rw[rY (by omega)];omega);have ac:IntKind.i64.wrap (c:Int)=(c:Int):=IntWalk.i64_in _ (by omega);have ay:(0:Int)<=(c:Int):=(by omega);have ad:(c:Int)<64:=(by omega);have aB:(c:Int).toNat=c:=(by omega);have F:=C D;clear N l D;go_wp2_with fail;go_still_tail 15,(by kernel_rfl);change wpList _ _ _ _ _ s.drew;have m:=C (i.grown (z7 s U) (by simp));have G:=C (qS S (z7 s (R b)));generalize s.drew=H at m G⊢;have az:=m.mN;have aM:=m.ring c E;have aj:=m.free 65;have ap:=m.free c;have aO:(H.setCell ⟨b,c,U⟩ (I J p)).cell? ⟨b,65,U⟩=R (I J n):=(by rw[jz _ _ _ _ (by intro g;simp only[Addr.mk.injEq] at g;omega)];exact az);have aC:=C (G6 (p:=p) m B F.symm);have K:=C (G4 (r:=r) p M B);rw[F.out] at K;have aF:=C (qS (qS G (sP H b c (I J p))) (sP _ b 65 (I J ((n:Int)+1))));clear T V W X Y Z aa ao ac ay ad aB;go_wp2;go_ret;exact⟨rfl,⟨_,a,n+1,aC,K⟩,aF⟩
   ·have d:jg (waits r a n) p=false:=(by unfold jg;rw[k];simp);have h:=C d;have x:=C k;have q:=C f;clear e f d k o;rw[h.out];go_enter func119,ntmps119;go_wp2_with fail;refine(zZ b r a n _ j).mono ?_;rintro g s ⟨⟨v,rfl,t⟩,l⟩;obtain⟨P,Q,rfl,_,u⟩:=zW q t;have y:=C u;clear t u;go_wp2_with fail;refine(z1 _ _ _ (waits r a n) p _ q y (by omega)).mono ?_;rintro g w' ⟨rfl,rfl⟩;rw[x.out];go_wp2;go_ret;exact⟨rfl,⟨r,a,n,j.grown (sO l U) (by simp),rfl⟩,sO l _⟩
 ·have d:jg (waits r a n) p=false:=by unfold jg;rw[decide_eq_false z];rfl
  have h:=C d;have A:p<0:=by omega
  clear e d f;rw[h.out];go_enter func119,ntmps119;go_wp2;go_ret;exact⟨rfl,⟨r,a,n,j,rfl⟩,World.grownBy.refl _ _⟩
def sQ:List Int->Int
 |[]=>0
 |x::_=>x
theorem vZ (b:Nat) (ag:List Int) (w:ab) (p:gI w b ag):Calls au 93 #[af (R ⟨b,0,U⟩)] w λe w'=>e=aK (bD #[I J (sQ ag),aE (!ag.isEmpty)])∧gI w' b ag.tail∧w.grownBy w' (R b):=by
 obtain⟨r,c,n,a,rfl⟩:=p;have i:=a.f64;have x:=a.n64;by_cases j:n=0;·subst j;go_enter func93,ntmps93;go_wp2_with (go_at_call 142;refine(vX b r c 0 _ a).mono ?_;rintro e w' ⟨rfl,rfl⟩);go_ret2;exact⟨rfl,⟨r,c,0,a,rfl⟩,World.grownBy.refl _ _⟩
 ·have k:=G5 (r:=r) (n:=n) i (by omega);have y:((n:Int)==0)=false:=by simp;omega
  have g:=C (z8 a (by omega:0<n));have q:0<n:=by omega
  rw[k];obtain⟨f,l⟩:=aX ((c+1)%64);have h:=C l;have s:=a.from_;have t:=a.ring c i;have z:(c:Int)<64:=by omega
  clear k j l;go_enter func93,ntmps93;go_wp2_with (go_at_call 142;refine(vX b r c n _ a).mono ?_;rintro e w' ⟨rfl,rfl⟩);go_quiet (fail);have d:=C (a.grown (z6 w nq U) (by simp));have m:=C (z6 w nq (R b));generalize w.drewN nq=o at d m⊢;have g:=C (z8 d q);rw[h.out] at g;have A:=d.out.from_;have u:=d.out.mN;have B:=d.free 64;have D:=d.free 65;have E:((c:Int)+1)%64=(f:Int):=by have:=h.out;omega
  have F:(o.setCell ⟨b,64,U⟩ (I J (f:Int))).cell? ⟨b,65,U⟩=R (I J n):=by rw[jz _ _ _ _ (by intro e;simp only[Addr.mk.injEq] at e;omega)];exact u
  have v:=C (qS (qS m (sP o b 64 (I J (f:Int)))) (sP _ b 65 (I J ((n:Int)-1))));clear s t;go_wp2;go_ret2;exact⟨rfl,⟨r,f,n-1,g,by rw[h.out];rfl⟩,v⟩
section
open Go.Shelf
attribute [local go_sem] Oper.semAt_some
structure gA (n₀ c:Nat) (A B:ab):Prop where
 below:Below n₀ A B
 one:B.heap[c]?=A.heap[c]?
theorem gA.refl (n₀ c:Nat) (A:ab):gA n₀ c A A:=⟨Below.refl _ _,rfl⟩
theorem gA.trans {n₀ c:Nat} {A B ar:ab} (h:gA n₀ c A B) (k:gA n₀ c B ar):gA n₀ c A ar:=⟨h.below.trans k.below,k.one.trans h.one⟩
theorem Ae (f:n₀<=w.heap.size) (g:c<w.heap.size) (W:ab) (l:Nat) (o a:Obj) (b:w.heap.size<=l) (h:W.heap[l]?=R o) (d:o.isCells=false) (e:o.isWalk=false):gA n₀ c W (W.putObj l a):=⟨belowK_b f W l o a b h d e,(belowK_b (n₀:=c+1) (w:=w) (by omega) W l o a b h d e).block c (by omega)⟩
theorem gA.setCell {n₀ c:Nat} {W:ab} {p:Addr} (a:n₀<=p.block) (b:c≠p.block) (u:Value):gA n₀ c W (W.setCell p u):=⟨(Below.refl n₀ W).setCell a u,Below.heap_setCell W p u c b⟩
def qV (zs:List Int) (m:Int) (x:{p:Nat//da zs m p=true}):Array Value:=#[I J (x.1:Int),I ah (bj zs x.1)]
theorem Hw (s:Fence) (n:Nat) (G:s.fn 215) (H:s.round=U) (X:1<=n) (l z g n₀ b t len cap:Nat) (zs:List Int) (m:Int) (Y:zs.length=len) (Z:len*8<=140737488351232) (K:b<n₀) (k A:List {p:Nat//da zs m p=true}->ab->Prop) (L:∀f x W,k f W->f.length<len->YieldAt s (n-1) au l (qV zs m x) W λo W'=>(o=aK (aE true)∧k (f++[x]) W'∧gA n₀ g W W')∨(o=aK (aE false)∧A (f++[x]) W')) (W:ab) (aa:W.cell? ⟨z,0,U⟩=R (aA (R ⟨b,t,U⟩) len cap)) (M:W.cell? ⟨g,0,U⟩=R (I ah m)) (N:∀j,j<len->W.cell? ⟨b,t+j,U⟩=R (I ah (bj zs j))) (h0:k [] W):CallsIn s n au 215 #[.func (.yield l) #[] #[],af (R ⟨z,0,U⟩),af (R ⟨g,0,U⟩)] W λo W'=>(∃v,o=aK v)∧((∃B,B=e1 zs m len∧k B W')∨(∃f,(∃c,c<=len∧f=e1 zs m c)∧A f W')):=by
 refine callsIn_of_wp func215 rfl G ?_ H;simp only[ntmps215,jE,dY,hJ,jH,jG,jB,jA,jF,jC,iU,gQ];gi_wp2;gi_loopw [8] (λi wr=>∃c:Nat,c<=len∧i=I J c∧k (e1 zs m c) wr∧gA n₀ g W wr) (λi _=>len-(intOf i).toNat);case atStart=>exact⟨0,hq _,rfl,h0,gA.refl _ _ _⟩
 case round=>
  obtain⟨c,ao,rfl,u,q⟩:=hrel;have D:c<len->wr.cell? ⟨b,t+c,U⟩=R (I ah (bj zs c)):=λd=>(q.below.cell (p:=⟨b,t+c,U⟩) K).trans (N c d);have ac:wr.cell? ⟨g,0,U⟩=R (I ah m):=(lH (a:=⟨g,0,U⟩) q.one).trans M;by_cases O:c<len
  ·have ay:=D O;clear D;by_cases E:c<64
   ·by_cases w:(bits BinOp.and ah (m/2^c) 1==1)=true
    ·have y:da zs m c=true:=mC.2 ⟨by omega,E,w⟩;obtain⟨fn,tmps,ad,aB,P,Q⟩:=L _ ⟨c,y⟩ wr u (by have:=Fi zs m c;omega);simp only[qV] at P;have F:(c:Int)<64:=(by omega);have e:e1 zs m (c+1)=e1 zs m c++[⟨c,y⟩]:=vt y;have h:=C e;clear e;gi_wp2;apply Q.mono;rintro o az (⟨rfl,S,T⟩|⟨rfl,V⟩)
     ·gi_wp2;go_roundw;case rel=>exact⟨c+1,by omega,by simp,by rw[h.out];exact S,q.trans T⟩
      case measure=>simp[intOf];omega
     ·gi_wp2;refine bodyPost_ret (results_none rfl _ _ _) rfl ?_;exact⟨⟨_,rfl⟩,.inr ⟨_,⟨c+1,by omega,h.symm⟩,V⟩⟩
    ·have r:da zs m c=false:=by
      cases d:da zs m c;·rfl
      ·exact absurd (mC.1 d).2.2 w
     have e:e1 zs m (c+1)=e1 zs m c:=sx r;have h:=C e;clear e r;have aC:(bits BinOp.and ah (m/2^c) 1==1)=false:=(by simpa using w);clear w;have F:(c:Int)<64:=(by omega);gi_wp2;refine⟨λ_ d=>(by cases d),?_⟩;gi_wp2;go_roundw;case rel=>exact⟨c+1,by omega,by simp,by rw[h.out];exact u,q⟩
     case measure=>simp[intOf];omega
   ·have r:da zs m c=false:=by
     cases d:da zs m c;·rfl
     ·exact absurd (mC.1 d).2.1 E
    have e:e1 zs m (c+1)=e1 zs m c:=sx r;have h:=C e;clear e r;have F:¬(c:Int)<64:=(by omega);gi_wp2;refine⟨λ_ d=>(by cases d),?_⟩;gi_wp2;go_roundw;case rel=>exact⟨c+1,by omega,by simp,by rw[h.out];exact u,q⟩
    case measure=>simp[intOf];omega
  ·obtain rfl:c=len:=by omega
   gi_wp2;go_end0;exact⟨⟨_,rfl⟩,.inl ⟨_,rfl,u⟩⟩
theorem Hx (b:Fence) (n:Nat) (e:b.fn 215) (f:b.round=U) (l d g:Nat) (zs:List Int) (m:Int) (c:List {p:Nat//da zs m p=true}->ab->Prop) (W:ab) (a:Option Addr) (cap:Nat) (k:W.cell? ⟨d,0,U⟩=R (aA a 0 cap)) (h0:c [] W):CallsIn b n au 215 #[.func (.yield l) #[] #[],af (R ⟨d,0,U⟩),af (R ⟨g,0,U⟩)] W λh W'=>(∃v,h=aK v)∧c [] W':=by
 refine callsIn_of_wp func215 rfl e ?_ f;simp only[ntmps215,jE,dY,hJ,jH,jG,jB,jA,jF,jC,iU,gQ];gi_wp2;gi_loopw [8] (λi wr=>i=I J 0∧c [] wr) (λ_ _=>0);case atStart=>exact⟨rfl,h0⟩
 case round=>obtain⟨rfl,j⟩:=hrel;gi_wp2;go_end0;exact⟨⟨_,rfl⟩,j⟩
theorem Af (b:Fence) (n:Nat) (c:b.fn 163) (d:b.round=U) (a:Option Addr) (len cap:Nat) (m:Int) (w:ab):CallsIn b n au 163 #[aA a len cap,I ah m] w λe w'=>e=aK (.func (.func 215) #[] #[af (R ⟨w.heap.size,0,U⟩),af (R ⟨w.heap.size+1,0,U⟩)])∧w'=(w.alloc (av #[aA a len cap] 44)).alloc (av #[I ah m] 31):=by refine callsIn_of_wp func163 rfl c ?_ d;simp[ntmps163];gi_wp2;go_ret;exact⟨rfl,rfl⟩
def gJ (n₀:Nat) (W:ab) (aH:Value) (zs:List Int):Prop:=((∃a cap,aH=aA a 0 cap)∧zs=[])∨∃b c cap,aH=aA (R ⟨b,c,U⟩) zs.length cap∧b<n₀∧∀j,j<zs.length->W.cell? ⟨b,c+j,U⟩=R (I ah (bj zs j))
theorem gJ.below {B:ab} (h:Below n₀ A B):gJ n₀ A aH zs->gJ n₀ B aH zs
 | .inl e=>.inl e
 | .inr ⟨b,off,cap,e,a,c⟩=>.inr ⟨b,off,cap,e,a,λj d=>(h.cell (p:=⟨b,off+j,U⟩) a).trans (c j d)⟩
theorem gJ.grow {a:Nat} (d:n₀<=a):gJ n₀ A aH zs->gJ a A aH zs
 | .inl e=>.inl e
 | .inr ⟨b,off,cap,e,f,c⟩=>.inr ⟨b,off,cap,e,by omega,c⟩
theorem Ag (e:Fence) (n:Nat) (g:e.fn 215) (h:e.round=U) (q:1<=n) (d c n₀:Nat) (aH:Value) (zs:List Int) (m:Int) (r:zs.length*8<=140737488351232) (w:ab) (s:d<w.heap.size) (t:c<w.heap.size) (u:n₀<=w.heap.size) (v:w.cell? ⟨d,0,U⟩=R aH) (x:w.cell? ⟨c,0,U⟩=R (I ah m)) (hI:gJ n₀ w aH zs):SeqStopsK e n au 215 #[af (R ⟨d,0,U⟩),af (R ⟨c,0,U⟩)] (qV zs m) (gA n₀ c) (λy=>y=e1 zs m zs.length) (λz=>∃i,i<=zs.length∧z=e1 zs m i) zs.length w:=λl j A W f _ _ B k=>by
 have o:=(f.cell (p:=⟨d,0,U⟩) s).trans v;have C:=(f.cell (p:=⟨c,0,U⟩) t).trans x;rcases hI.below (f.mono u) with⟨⟨a,cap,rfl⟩,rfl⟩|⟨b,D,cap,rfl,E,F⟩;·exact(Hx e n g h l d c [] m j W a cap o k).mono λJ W' ⟨G,H⟩=>⟨G,.inl ⟨_,rfl,H⟩⟩
 ·exact Hw e n g h q l d c n₀ b D zs.length cap zs m rfl r E j A B W o C F k
end
section
open Go.Shelf
attribute [local go_sem] Oper.semAt_some
def sT (x:Int):Array Value:=#[I J x]
theorem Ah {k:Nat} (h:k<zs.length):zs.take (k+1)=zs.take k++[bj zs k]:=by rw[List.take_succ_eq_append_getElem h];unfold bj;rw[b6 h];rfl
theorem Hy (e:Fence) (n:Nat) (u:e.fn 237) (w:e.round=U) (L:1<=n) (l m n₀ b f len cap:Nat) (zs:List Int) (x:zs.length=len) (M:len*8<=140737488351232) (y:b<n₀) (c o:List Int->ab->Prop) (z:∀a g W,c a W->a.length<len->YieldAt e (n-1) au l (sT g) W λd W'=>(d=aK (aE true)∧c (a++[g]) W'∧Below n₀ W W')∨(d=aK (aE false)∧o (a++[g]) W')) (W:ab) (N:W.cell? ⟨m,0,U⟩=R (aA (R ⟨b,f,U⟩) len cap)) (A:∀j,j<len->W.cell? ⟨b,f+j,U⟩=R (I J (bj zs j))) (h0:c [] W):CallsIn e n au 237 #[.func (.yield l) #[] #[],af (R ⟨m,0,U⟩)] W λd W'=>(∃v,d=aK v)∧((∃q,q=zs∧c q W')∨(∃a,(∃k,k<=len∧a=zs.take k)∧o a W')):=by
 have B:=C x;refine callsIn_of_wp func237 rfl u ?_ w;simp only[ntmps237,jE,dY,hJ,jH,jG,jB,jA,jF,jC,iU,gQ];gi_wp2;gi_loopw [7] (λi wr=>∃k:Nat,k<=len∧i=I J k∧c (zs.take k) wr∧Below n₀ W wr) (λi _=>len-(intOf i).toNat);case atStart=>exact⟨0,hq _,rfl,h0,Below.refl _ _⟩
 case round=>
  obtain⟨k,O,rfl,h,r⟩:=hrel;by_cases D:k<len
  ·have P:wr.cell? ⟨b,f+k,U⟩=R (I J (bj zs k)):=(r.cell (p:=⟨b,f+k,U⟩) y).trans (A k D);obtain⟨fn,tmps,Q,S,E,F⟩:=z _ (bj zs k) wr h (by rw[ix];omega);simp only[sT] at E;have s:=Ah (zs:=zs) (k:=k) (by omega);have t:=C s;clear s;have T:(k:Int)<(len:Int):=(by omega);gi_wp2;apply F.mono;rintro d V (⟨rfl,G,H⟩|⟨rfl,K⟩)
   ·gi_wp2;go_roundw;case rel=>exact⟨k+1,by omega,by simp,by rw[t.out];exact G,r.trans H⟩
    case measure=>simp[intOf];omega
   ·gi_wp2;refine bodyPost_ret (results_none rfl _ _ _) rfl ?_;exact⟨⟨_,rfl⟩,.inr ⟨_,⟨k+1,by omega,t.symm⟩,K⟩⟩
  ·obtain rfl:k=len:=by omega
   gi_wp2;go_end0;rw[<-B.out,h3] at h;exact⟨⟨_,rfl⟩,.inl ⟨_,rfl,h⟩⟩
theorem Hz (b:Fence) (n:Nat) (e:b.fn 237) (f:b.round=U) (l d:Nat) (c:List Int->ab->Prop) (W:ab) (a:Option Addr) (cap:Nat) (j:W.cell? ⟨d,0,U⟩=R (aA a 0 cap)) (h0:c [] W):CallsIn b n au 237 #[.func (.yield l) #[] #[],af (R ⟨d,0,U⟩)] W λg W'=>(∃v,g=aK v)∧c [] W':=by
 refine callsIn_of_wp func237 rfl e ?_ f;simp only[ntmps237,jE,dY,hJ,jH,jG,jB,jA,jF,jC,iU,gQ];gi_wp2;gi_loopw [7] (λi wr=>i=I J 0∧c [] wr) (λ_ _=>0);case atStart=>exact⟨rfl,h0⟩
 case round=>obtain⟨rfl,h⟩:=hrel;gi_wp2;go_end0;exact⟨⟨_,rfl⟩,h⟩
theorem HA (a:Option Addr) (len cap:Nat) (w:ab):Calls au 206 #[aA a len cap] w λe w'=>e=aK (.func (.func 237) #[] #[af (R ⟨w.heap.size,0,U⟩)])∧w'=w.alloc (av #[aA a len cap] 46):=by go_enter func206,ntmps206;go_wp2;go_ret;exact⟨rfl,rfl⟩
theorem HB (d:Fence) (n:Nat) (e:d.fn 237) (f:d.round=U) (m:1<=n) (c n₀:Nat) (aH:Value) (zs:List Int) (o:zs.length*8<=140737488351232) (w:ab) (q:c<w.heap.size) (r:n₀<=w.heap.size) (s:w.cell? ⟨c,0,U⟩=R aH) (hI:pi n₀ w aH zs):SeqStopsK d n au 237 #[af (R ⟨c,0,U⟩)] sT (Below n₀) (λt=>t=zs) (λu=>∃g,g<=zs.length∧u=zs.take g) zs.length w:=λl h v W i _ _ x j=>by
 have k:=(i.cell (p:=⟨c,0,U⟩) q).trans s;rcases hI.below (i.mono r) with⟨⟨a,cap,rfl⟩,rfl⟩|⟨b,y,cap,rfl,z,A⟩;·exact(Hz d n e f l c h W a cap k j).mono λD W' ⟨B,C⟩=>⟨B,.inl ⟨_,rfl,C⟩⟩
 ·exact Hy d n e f m l c n₀ b y zs.length cap zs rfl o z h v x W k A j
end
section
open Go.Shelf
attribute [local go_sem] Oper.semAt_some
theorem ig (h:W.cell? ⟨b,o,U⟩=R v):b<W.heap.size:=by
 rcases nd b W.heap.size with q|q;·exact q
 ·unfold World.cell? at h;simp[Array.getElem?_eq_none q] at h
theorem wh {base:Nat} {e:TypeId} {b:Nat} {k:Nat} {ag:List Value} (h:W.ownsRow base e b v k ag):∃a cap,v=aA a k cap:=by
 rcases h.2 with⟨rfl,rfl⟩|⟨g,cap,c,rfl,_⟩;·exact⟨_,_,rfl⟩
 ·exact⟨_,_,rfl⟩
theorem HC {base:Nat} {e:TypeId} {c:Nat} {k:Nat} {ag:List Value} (h:W.ownsRow base e c v k ag) {o:Obj} (a:v.ownBlock=R j) (b:W.heap[j]?=R o):o.isCells=true:=by
 rcases h.2 with⟨rfl,_⟩|⟨g,cap,f,rfl,_,d,_⟩;·simp[Value.ownBlock] at a
 ·have:g=j:=by simpa[Value.ownBlock] using a
  subst this;rw[d] at b;cases b;rfl
theorem HD {base:Nat} {e:TypeId} {a:Nat} {k:Nat} {ag:List Value} (h:W.ownsRow base e a v k ag) (c:v.ownBlock≠R b):(W.setCell ⟨b,o,U⟩ u).ownsRow base e a v k ag:=h.kept (row:=R b) ⟨rfl,rfl,rfl,by simp,λi _ d=>Below.heap_setCell W ⟨b,o,U⟩ u i (λe=>d (by rw[e]))⟩ (.inr c)
theorem Ai {base:Nat} {e:TypeId} {a:Nat} {k:Nat} {ag:List Value} (h:W.ownsRow base e a v k ag) (d:W.grownBy W' row) (f:∀b,row=R b->∃o:Obj,W.heap[b]?=R o∧o.isCells=false):W'.ownsRow base e a v k ag:=by
 refine h.kept d ?_;rcases h.2 with⟨rfl,_⟩|⟨g,cap,m,rfl,_,i,_⟩;·exact .inl rfl
 ·refine .inr λj=>?_;obtain⟨o,c,l⟩:=f g j.symm;rw[i] at c;cases c;cases l
theorem HE (q:Fence) (n:Nat) (ad:q.fn 257) (T:q.fn 237) (y:q.round=U) (ba:3<=n) (g n₀:Nat) (aH:Value) (zs:List Int) (w:ab) (ag:zs.length<=1000000) (aB:g<w.heap.size) (az:n₀<=w.heap.size) (hv:w.cell? ⟨g,0,U⟩=R aH) (hI:pi n₀ w aH zs):CallsIn q n au 257 #[aA U 0 0,.func (.func 237) #[] #[af (R ⟨g,0,U⟩)]] w λb w'=>∃v,b=aK v∧w'.ownsRow w.heap.size 3 1 v zs.length (zs.map (I J))∧Below w.heap.size w w':=by
 have aC:1<=n:=by omega
 obtain⟨aF,ae,am,aM,aj⟩:=info_parts zV;refine callsIn_of_wp_marks func257 rfl ad ?_ y;simp only[ntmps257,jE,dY,hJ,jH,jG,jB,jA,jF,jC,iU,gQ];gi_wp2;have V:=Boxed.new w 46 (aA U 0 0);have z:Below w.heap.size w (w.alloc (av #[aA U 0 0] 46)):=(Below.refl _ w).alloc (bM _) _;refine wpIn_rangeFunc_ownG y aC (gf:=237) (lb:=#[af (R ⟨g,0,U⟩)]) rfl T (enters_of func237 (by kernel_rfl) rfl) (HB q (n-1) T y (by omega) g n₀ aH zs (by omega) _ (by simp;omega) (by simp;omega) ((z.cell (p:=⟨g,0,U⟩) aB).trans hv) (hI.below (z.mono az))) (λD d=>D.trans d) (belowK_b (by simp;omega)) (Below.refl _ _) (λ_=>rfl) (λf W=>(∃a cap,W.cell? ⟨w.heap.size,0,U⟩=R (aA a f.length cap)∧W.frozen? ⟨w.heap.size,0,U⟩=false∧W.ownsRow (w.heap.size+1) 3 1 (aA a f.length cap) f.length (f.map (I J)))∧Below w.heap.size w W) (λ_ _ _=>False) (OwnFrom.and (Own.from (λbb A B row E F G=>by obtain⟨v,cap,k,s,h⟩:=E;exact⟨v,cap,cell_kept k F G,(frozen_kept k F G).trans s,Ai h F G⟩) _) (ownFrom_below (bM _) (by simp))) (λ_ _ _ _ _ E _ _=>E) ⟨⟨U,0,V.cell,V.frozen,by simpa using World.ownsRow_nil _ _ _ _⟩,z⟩ (λe=>{tmps:=#[aA U 0 0,.func (.func 237) #[] #[af (R ⟨g,0,U⟩)],af (R ⟨w.heap.size,0,U⟩),undef,aA U 0 0,I J e,.func (.func 237) #[] #[af (R ⟨g,0,U⟩)],I J e,undef,undef,undef,undef,undef],defers:=[]}) ?assign ?body ?done ?stop;case assign=>intro l e W aw r;simp only[sT];gi_wp2;exact r
 case body=>
  rintro l f e W ⟨⟨H,K,k,s,h⟩,t⟩ bc;have x:=t.size;have ap:w.heap.size<W.heap.size:=ig k;have i:=C (h.alloc (av #[I J e] 3));clear h;have aO:w.heap.size+1<=(W.alloc (av #[I J e] 3)).heap.size:=by simp;omega
  have ah:f.length<=1000000:=by omega
  have X:=C k;have aQ:=C s;have Y:=C (λd b=>by have:=(i.lt d b).1;omega:∀d,(aA H f.length K).ownBlock=R d->d≠w.heap.size);generalize Z:f.length=m at i X Y ah k;have aa:=C Z;clear Z;have aS:=C (show∀j u,([I J e]:List Value)[j]?=R u->(W.alloc (av #[I J e] 3)).cell? ((⟨W.heap.size,0,U⟩:Addr).add j)=R u fromλj u ao=>by
   have bf:j<1:=(by have:=(bE.1 ao).1;simpa using this);obtain rfl:j=0:=by omega
   rw[addr_add];exact dE.trans (by rw[<-ao];rfl))
  have aU:=C (λu ac=>by simp at ac;subst ac;rfl:∀u∈([I J e]:List Value),u.oneCell'=true);have aP:m+1<=maxLen:=by unfold maxLen;omega
  have aT:(m+1)*8<=140737488355328:=by omega
  gi_wp2_with (first|(gi_at_builtin;refine wpListIn_append_own _ rfl _ _ 46 rfl (w.heap.size+1) 3 aF (.int .i64 0) 1 8 underlying46 ae am aM aj rfl (by decide) _ _ _ rfl i ⟨W.heap.size,0,U⟩ 1 1 [.int .i64 e] rfl rfl aS aU aP aT aO ?_;intro bg w' L M _;obtain⟨N,O,rfl⟩:=wh L;have P:w'.heap[w.heap.size]?=W.heap[w.heap.size]?:=(M.block w.heap.size (by simp;omega) (λb=>Y _ b.symm rfl)).trans (Below.heap_alloc _ _ _ ap);have aV:w'.cell? ⟨w.heap.size,0,U⟩=R (aA H m K):=(lH (a:=⟨w.heap.size,0,U⟩) P).trans X;have aZ:w'.frozen? ⟨w.heap.size,0,U⟩=false:=(World.frozen?_of_block (a:=⟨w.heap.size,0,U⟩) P).trans aQ;have ay:=C L;have Q:=C M;clear L M P));have ak:(aA N (m+1) O).ownBlock≠R w.heap.size:=λb=>by have:=(ay.lt _ b).1;omega
  have a6:KeepsOthers W (w'.setCell ⟨w.heap.size,0,U⟩ (aA N (m+1) O)):=((KeepsOthers.alloc W _).trans (KeepsOthers.of_grownBy Q (λj o b h=>HC i b h))).trans (KeepsOthers.setCell _ _ _);have a8:Below w.heap.size w w':=(t.alloc x _).grown Q (by simp;have:=x;omega) (λd b=>by have:=(i.lt d b).1;omega);have a_:Below n₀ W w':=((Below.refl n₀ W).alloc (by have:=x;omega) _).grown Q (by simp;have:=x;omega) (λd b=>by have:=(i.lt d b).1;omega);refine⟨a6.from _,a_.setCell (by show n₀<=w.heap.size;omega) _,⟨N,O,?_,?_,?_⟩,a8.setCell (bM _) _⟩;·rw[eZ,aa.out];exact p3 _ _ _ (by rw[aV];rfl)
  ·rw[p7];exact aZ
  ·rw[eZ,aa.out,h4];exact HD ay ak
 case done=>rintro S an W aq rfl ⟨⟨H,K,k,s,h⟩,t⟩ r;have i:=C h;gi_wp2;refine⟨by simp,.inl ⟨_,_,rfl,run_takeDeferred r,?_⟩⟩;exact⟨_,results_tmp rfl _ _ _,_,rfl,Ai (ownsRow_base_a i.out (by omega)) (grownBy_putObj' _ S (.deferred U)) (λax b=>by cases b;exact⟨_,r,rfl⟩),t.trans (belowK_b (w:=w) (bM _) W S _ _ (by simp at aq;omega) r rfl rfl)⟩
 case stop=>rintro S c f W _ _ D _;exact D.elim
end
variable {k x:Key} {r:T}
theorem Aj (zs:List Int):(zs.mergeSort λx y=>decide (x<=y)).Pairwise (λx y=>x<=y):=by have:=List.pairwise_mergeSort (le:=λ(x y:Int)=>decide (x<=y)) (λa b c e f=>by simp only[decide_eq_true_eq] at*;omega) (λa b=>by simp;omega) zs;exact this.imp (λd=>by simpa using d)
theorem HF {S:List Int} (f:S.Pairwise (λx y=>x<=y)):(Lib.compact S).length=S.length↔S.Nodup:=by
 have g:∀j,j<S.length->(Lib.keeps S.toArray j=true↔(j=0∨∃a b,S[j]?=R a∧S[j-1]?=R b∧a≠b)):=λj c=>by
  unfold Lib.keeps;rw[decide_eq_true_iff];have n:S.toArray[j]! =S[j]:=by simp[getElem!_def,b6 c]
  have o:S.toArray[j-1]! =S[j-1]'(by omega):=by simp[getElem!_def,b6 (by omega:j-1<S.length)]
  rw[n,o,b6 c,b6 (by omega:j-1<S.length)];simp
 constructor
 ·intro e;have p:∀j,j<S.length->Lib.keeps S.toArray j=true:=by unfold Lib.compact Lib.compactUpTo at e;rw[ep] at e;have h:((gh S.length).filter (Lib.keeps S.toArray)).length=(gh S.length).length:=(by rw[e,List.length_range]);have q:=(List.length_filter_eq_length_iff).1 h;intro j c;exact q j (o9.2 c)
  rw[p2,p4];intro i j r c t k;have u:S[j-1]'(by omega)<=S[j]:=by
   rcases nd (j-1) j with d|d;·exact p4.1 f (j-1) j (by omega) c d
   ·omega
  have h:S[i]<=S[j-1]'(by omega):=by
   rcases nd i (j-1) with d|d;·exact p4.1 f i (j-1) r (by omega) d
   ·have:i=j-1:=(by omega);subst this;omega
  rcases(g j c).1 (p j c) with d|⟨a,b,l,m,v⟩;·omega
  ·rw[b6 c] at l;rw[b6 (by omega:j-1<S.length)] at m;cases l;cases m;omega
 ·intro e;rw[Lib.compact_all S (λj c=>(g j c).2 (by
  by_cases s:j=0;·exact .inl s
  ·refine .inr ⟨_,_,b6 c,b6 (by omega:j-1<S.length),?_⟩;intro k;have:=p4.1 (p2.1 e) (j-1) j (by omega) c (by omega);exact this k.symm))]
def hA (zs:List Int):List Int:=zs.mergeSort λx y=>decide (x<=y)
theorem pH (zs:List Int):(hA zs).length=zs.length:=(List.mergeSort_perm _ _).length_eq
theorem HG (zs:List Int):(Lib.compact (hA zs)).length=zs.length↔zs.Nodup:=by have h:=HF (Aj zs);rw[show(zs.mergeSort λx y=>decide (x<=y))=hA zs from rfl,pH] at h;rw[h];exact(List.mergeSort_perm _ _).nodup_iff
theorem HH (h:0<zs.length):∃x,(hA zs)[0]?=R x∧(0<=x↔∀y∈zs,0<=y):=by
 have g:=pH zs;refine⟨_,b6 (by omega),?_⟩;have b:∀y,y∈hA zs↔y∈zs:=λy=>(List.mergeSort_perm zs (λx y=>decide (x<=y))).mem_iff;constructor
 ·intro a y d;obtain⟨k,e,c⟩:=uc.1 ((b y).2 d);rcases Nat.eq_zero_or_pos k with rfl|f;·rw[<-c];exact a
  ·have:=p4.1 (Aj zs) 0 k (by omega:0<(hA zs).length) e f;have i:(hA zs)[k]=y:=c;have j:(hA zs)[0]'(by omega)<=(hA zs)[k]:=this;omega
 ·intro a;exact a _ ((b _).1 (List.getElem_mem _))
theorem HI (zs:List Int):kf zs=true↔(∀y∈zs,0<=y)∧zs.Nodup:=by unfold kf;simp
section
open Go.Shelf Go.Sort
def wi (w w':ab) (v:Value) (zs:List Int):Prop:=w'.ownsRow w.heap.size 3 1 v zs.length (zs.map (I J))∧Below w.heap.size w w'
theorem HJ (a n₀:Nat) (aH:Value) (zs:List Int) (w:ab) (b:zs.length<=1000000) (c:a<w.heap.size) (d:n₀<=w.heap.size) (hv:w.cell? ⟨a,0,U⟩=R aH) (hI:pi n₀ w aH zs):Calls au 257 #[aA U 0 0,.func (.func 237) #[] #[af (R ⟨a,0,U⟩)]] w λe w'=>∃v,e=aK v∧wi w w' v zs:=(callsIn_wide (n:=3)).1 (HE Fence.wide 3 trivial trivial rfl (bM _) a n₀ aH zs w b c d hv hI)
theorem HK (b n₀:Nat) (aH:Value) (zs:List Int) (w:ab) (d:zs.length<=1000000) (e:b<w.heap.size) (f:n₀<=w.heap.size) (hv:w.cell? ⟨b,0,U⟩=R aH) (hI:pi n₀ w aH zs):Calls au 235 #[.func (.func 237) #[] #[af (R ⟨b,0,U⟩)]] w λg w'=>∃v,g=aK v∧wi w w' v zs:=by have h:=C (HJ b n₀ aH zs w d e f hv hI);clear d e f hv hI;go_enter func235,ntmps235;go_wp2_with fail;refine h.mono ?_;rintro g j ⟨v,rfl,c⟩;obtain⟨a,cap,rfl⟩:=wh c.1;have i:=C c;clear c;go_wp2_with fail;go_ret;exact⟨_,rfl,i⟩
theorem HL (a n₀:Nat) (aH:Value) (zs:List Int) (w:ab) (u:zs.length<=1000000) (i:a<w.heap.size) (l:n₀<=w.heap.size) (hv:w.cell? ⟨a,0,U⟩=R aH) (hI:pi n₀ w aH zs):Calls au 205 #[.func (.func 237) #[] #[af (R ⟨a,0,U⟩)]] w λb w'=>∃v,b=aK v∧wi w w' v (hA zs):=by
 have x:=C (HK a n₀ aH zs w u i l hv hI);clear i l hv hI;go_enter func205,ntmps205;go_wp2_with fail;refine x.mono ?_;rintro b c ⟨v,rfl,d,f⟩;rcases d.2 with⟨rfl,m⟩|⟨g,cap,G,rfl,h,e,o,p,q,r⟩;·have y:zs=[]:=List.eq_nil_of_length_eq_zero m;subst y;have z:=C d;clear d m;go_wp2_with fail;refine(slices_Sort_int_none U 0 c).mono ?_;rintro b A ⟨rfl,rfl⟩;go_wp2_with fail;go_ret;exact⟨_,rfl,by simpa[hA] using z.out,f⟩
 ·have s:Holds (I J) c g 0 zs.toArray:=holds_of_block_i e (by simpa using r);have t:g<c.heap.size:=(iQ.1 e).1;have B:=C (slices_Sort_int g 0 cap zs c s t (by omega));have D:=C (λ(k:Nat) (os:Array Obj)=>ownsRow_sorted_i (os:=os) (n:=k) (ts:=hA zs) (pH zs) h e o p q);have E:=C h;clear d h e o p q r s t;go_wp2_with fail;refine B.mono ?_;rintro b A ⟨rfl,k,os,rfl⟩;go_wp2_with fail;go_ret;exact⟨_,rfl,by rw[pH];exact D k os,f.grown (grownBy_sorted_i _) f.size (λj F=>by cases F;exact E)⟩
end
section
open Go.Shelf Go.Sort
theorem Ak {base:Nat} {e:TypeId} {k:Nat} {ag:List Int} {x:Int} (h:W.ownsRow base e 1 v k (ag.map (I J))) (b:ag[0]?=R x):∃g cap a,v=aA (R ⟨g,0,U⟩) k cap∧W.cell? ⟨g,0,U⟩=R (I J x)∧(base<=g∧W.heap[g]?=R (av a e (0,0))∧k<=cap∧cap<=maxLen∧a.size=cap*1∧a.toList.take (k*1)=ag.map (I J)):=by
 have c:=h.1;rcases h.2 with⟨rfl,j⟩|⟨g,cap,a,rfl,l,d,m,n,o,f⟩
 ·subst j;have:ag=[]:=by simpa using c
  subst this;cases b
 ·refine⟨g,cap,a,rfl,?_,l,d,m,n,o,f⟩;have i:(a.toList.take (k*1))[0]?=(ag.map (I J))[0]?:=by rw[f]
  have p:0<k:=by have:=(bE.1 b).1;simp at c;omega
  rw[List.getElem?_take_of_lt (by omega),dP,b] at i;simp only[World.cell?,d];simpa using i
theorem HM (a:Option Addr) (cap:Nat) (zs:List Int) (w:ab) (L:zs.length<=1000000) (hI:pi w.heap.size w (aA a zs.length cap) zs):Calls au 159 #[aA a zs.length cap] w λd w'=>d=aK (aE (kf zs))∧Below w.heap.size w w':=by
 obtain⟨V,q⟩:=aX (w.alloc (av #[aA a zs.length cap] 46));have f:Below w.heap.size w V:=q▸bz _ _;have z:ak V w.heap.size #[aA a zs.length cap] 46:=q▸ak.new w _ _;have A:=C (HL w.heap.size w.heap.size _ zs V L z.lt f.size (z.cell 0 rfl) (hI.below f));have s:=C q;have l:=HI zs;clear hI z q;have t:=C (HA a zs.length cap w);generalize j:zs.length=n at t s L⊢;have B:=C j;have D:=C (pH zs);by_cases E:n=0;·subst E;have M:zs=[]:=List.eq_nil_of_length_eq_zero j;have F:=C (by rw[M];rfl:kf zs=true);rw[F.out];clear l j M;go_enter func159,ntmps159;go_wp2_with (first|(go_at_call 206;refine t.mono ?_;rintro d N ⟨rfl,h⟩;rw[s.out] at h;subst h)|(go_at_call 205;refine A.mono ?_;rintro d O ⟨v,rfl,e⟩;obtain⟨am,i,rfl⟩:=wh e.1;have m:=C e;have b:=D;rw[B.out] at b;rw[b];have P:=C b;clear e b));go_ret;exact⟨rfl,f.trans (m.2.mono f.size)⟩
 ·have G:0<zs.length:=by omega
  obtain⟨x,H,u⟩:=HH G;have Q:=C H;have aM:((n:Int)==0)=false:=by simp;omega
  have aj:(0:Int)<(n:Int):=by omega
  by_cases S:0<=x
  ·have T:=C (λ(g i:Nat) (o:Array Value) (W:ab) (ay:V.heap.size<=g) (X:W.heap[g]?=R (av o 3 (0,0))) (ap:n<=i) (ad:o.toList.take (n*1)=(hA zs).map (I J))=>show Calls au 207 #[aA (R ⟨g,0,U⟩) n i] W λd w'=>d=aK (aA (R ⟨g,0,U⟩) (Lib.compact (hA zs)).length i)∧Below V.heap.size W w' from by have b:(hA zs).length=n:=(by rw[pH];exact j);have aB:Holds (I J) W g 0 (hA zs).toArray:=holds_of_block_i X (by rw[b];simpa using ad);have Y:=slices_Compact_int g 0 i (hA zs) W aB (by omega) (by omega);rw[b] at Y;refine Y.mono ?_;rintro d w' ⟨rfl,az,rfl⟩;have y:g<W.heap.size:=(iQ.1 X).1;refine⟨rfl,(Below.refl _ W).grown (row:=R g) ?_ (by omega) (λk d=>by cases d;exact ay)⟩;have:=grownBy_sorted_i (w:=W) (g:=g) (n:=az) (os:=#[]) (Lib.compact (hA zs)++gR (n-(Lib.compact (hA zs)).length) 0).toArray;rw[grow_empty] at this;exact this);obtain⟨c,I⟩:=aX ((Lib.compact (hA zs)).length);have Z:kf zs=decide ((c:Int)=(n:Int)):=by
    have K:=HG zs;rw[I,j] at K;rw[hK,l,decide_eq_true_iff];constructor;·rintro⟨_,aa⟩;have:=K.2 aa;omega
    ·intro aa;exact⟨u.1 S,K.1 (by omega)⟩
   rw[I] at T;rw[Z];have aC:((c:Int)==(n:Int))=decide ((c:Int)=(n:Int)):=rfl;generalize e:(decide ((c:Int)=(n:Int)))=r at aC⊢;clear l j H u G E I Z e;go_enter func159,ntmps159;go_wp2_with (first|(go_at_call 206;refine t.mono ?_;rintro d N ⟨rfl,h⟩;rw[s.out] at h;subst h)|(go_at_call 205;refine A.mono ?_;rintro d O ⟨v,rfl,e⟩;obtain⟨ao,i,o,rfl,aF,y⟩:=Ak e.1 Q;have m:=C e;have p:=C y;have b:=D;rw[B.out] at b;rw[b] at p;rw[b];have P:=C b;clear e b y)|(go_at_call 207;refine(T ao i o _ p.1 p.2.1 p.2.2.1 p.2.2.2.2.2).mono ?_;rintro d aO ⟨rfl,ac⟩;have af:=C ac;clear ac));go_ret;exact⟨by simp,f.trans (m.2.trans af|>.mono f.size)⟩
  ·have F:=C (show kf zs=false by
    cases ae:kf zs with
    |false=>rfl
    |true=>exact absurd (u.2 (l.1 ae).1) S)
   rw[F.out];clear l j H u G E;go_enter func159,ntmps159;go_wp2_with (first|(go_at_call 206;refine t.mono ?_;rintro d N ⟨rfl,h⟩;rw[s.out] at h;subst h)|(go_at_call 205;refine A.mono ?_;rintro d O ⟨v,rfl,e⟩;obtain⟨ao,i,o,rfl,aF,y⟩:=Ak e.1 Q;have m:=C e;have b:=D;rw[B.out] at b;rw[b];have P:=C b;clear e b));go_ret;exact⟨rfl,f.trans (m.2.mono f.size)⟩
end
section
open Go.Shelf
attribute [local go_sem] Oper.semAt_some
theorem Ky (k:Fence) (n:Nat) (aa:k.fn 113) (ao:k.fn 163) (M:k.fn 215) (x:k.round=U) (aQ:3<=n) (a:Option Addr) (len cap:Nat) (zs:List Int) (e m:Int) (w:ab) (hI:gJ w.heap.size w (aA a len cap) zs) (ac:zs.length*8<=140737488351232):CallsIn k n au 113 #[aA a len cap,I J e,I ah m] w λf W'=>f=aK (I J (lW zs e m))∧Below w.heap.size w W':=by
 have s:1<=n:=by omega
 refine callsIn_of_wp_marks func113 rfl aa ?_ x;simp only[ntmps113,jE,dY,hJ,jH,jG,jB,jA,jF,jC,iU,gQ];gi_wp2_with (gi_at_call 163;refine(Af k (n-1) ao x _ _ _ _ _).mono ?_;rintro f w' ⟨rfl,rfl⟩);have ay:=Boxed.new w 44 (aA a len cap);have N:=Boxed.new (w.alloc (av #[aA a len cap] 44)) 3 (I J e);have O:=Boxed.new ((w.alloc (av #[aA a len cap] 44)).alloc (av #[I J e] 3)) 3 (I J (-1));have P:=Boxed.new (((w.alloc (av #[aA a len cap] 44)).alloc (av #[I J e] 3)).alloc (av #[I J (-1)] 3)) 44 (aA a len cap);have Q:=Boxed.new ((((w.alloc (av #[aA a len cap] 44)).alloc (av #[I J e] 3)).alloc (av #[I J (-1)] 3)).alloc (av #[aA a len cap] 44)) 31 (I ah m);simp only[k4] at N O P Q;have ad:=(((ay.alloc (av #[I J e] 3)).alloc (av #[I J (-1)] 3)).alloc (av #[aA a len cap] 44)).alloc (av #[I ah m] 31);have aB:=((N.alloc (av #[I J (-1)] 3)).alloc (av #[aA a len cap] 44)).alloc (av #[I ah m] 31);have S:=(O.alloc (av #[aA a len cap] 44)).alloc (av #[I ah m] 31);have az:=P.alloc (av #[I ah m] 31);have T:Below w.heap.size w (((((w.alloc (av #[aA a len cap] 44)).alloc (av #[I J e] 3)).alloc (av #[I J (-1)] 3)).alloc (av #[aA a len cap] 44)).alloc (av #[I ah m] 31)):=((((((Below.refl _ w).alloc (bM _) _).alloc (by simp) _).alloc (by simp;omega) _).alloc (by simp;omega) _).alloc (by simp;omega) _);refine wpIn_rangeFunc_ownG x s (gf:=215) (lb:=#[af (R ⟨w.heap.size+1+1+1,0,U⟩),af (R ⟨w.heap.size+1+1+1+1,0,U⟩)]) rfl M (enters_of func215 (by kernel_rfl) rfl) (Ag k (n-1) M x (by omega) (w.heap.size+1+1+1) (w.heap.size+1+1+1+1) w.heap.size _ zs m ac _ (by simp) (by simp) (by simp;omega) az.cell Q.cell (hI.below T)) gA.trans (Ae (by simp;omega) (by simp)) (Below.refl _ _) (λ_=>rfl) (λg W=>(W.cell? ⟨w.heap.size,0,U⟩=R (aA a len cap)∧W.cell? ⟨w.heap.size+1,0,U⟩=R (I J e)∧W.cell? ⟨w.heap.size+1+1,0,U⟩=R (I J (gy zs e m g))∧W.frozen? ⟨w.heap.size+1+1,0,U⟩=false)∧Below w.heap.size w W) (λ_ _ _=>False) (OwnFrom.and (Own.from (λaS A B row o y z=>⟨cell_kept o.1 y z,cell_kept o.2.1 y z,cell_kept o.2.2.1 y z,(frozen_kept o.2.2.1 y z).trans o.2.2.2⟩) _) (ownFrom_below (bM _) (by simp;omega))) (λ_ _ _ _ _ o _ _=>o) ⟨⟨ad.cell,aB.cell,S.cell,S.frozen⟩,T⟩ (λd=>{tmps:=#[aA a len cap,I J e,I ah m,af (R ⟨w.heap.size,0,U⟩),af (R ⟨w.heap.size+1,0,U⟩),undef,I J 0,af (R ⟨w.heap.size+1+1,0,U⟩),I J (d.1:Int),I ah (bj zs d.1),aA a len cap,I ah m,.func (.func 215) #[] #[af (R ⟨w.heap.size+1+1+1,0,U⟩),af (R ⟨w.heap.size+1+1+1+1,0,U⟩)],I J (d.1:Int),I ah (bj zs d.1),undef,undef,undef,undef,undef,undef,undef,undef,undef,undef,undef,undef,undef,undef,undef,undef,undef],defers:=[]}) ?assign ?body ?done ?stop;case assign=>intro l d W aU D;simp only[qV];gi_wp2;exact D
 case body=>
  rintro l g ⟨d,h⟩ W ⟨⟨G,H,t,K⟩,u⟩ _;have E:=vq zs e m g ⟨d,h⟩;have aC:=Fg zs e m g;have V:=(mC.1 h).1;have aF:=gJ.below u hI;dsimp only at E;generalize gy zs e m g=B at E aC t;have F:=C E;clear E;have q:gy zs e m (g++[⟨d,h⟩])=B->∀L,(KeepsFrom L W W∧gA w.heap.size (w.heap.size+1+1+1+1) W W∧(W.cell? ⟨w.heap.size,0,U⟩=R (aA a len cap)∧W.cell? ⟨w.heap.size+1,0,U⟩=R (I J e)∧W.cell? ⟨w.heap.size+1+1,0,U⟩=R (I J (gy zs e m (g++[⟨d,h⟩])))∧W.frozen? ⟨w.heap.size+1+1,0,U⟩=false)∧Below w.heap.size w W):=λf _=>⟨KeepsFrom.refl _ _,gA.refl _ _ _,⟨G,H,by rw[f];exact t,K⟩,u⟩;have r:gy zs e m (g++[⟨d,h⟩])=(d:Int)->∀L,(KeepsFrom L W (W.setCell ⟨w.heap.size+1+1,0,U⟩ (I J (d:Int)))∧gA w.heap.size (w.heap.size+1+1+1+1) W (W.setCell ⟨w.heap.size+1+1,0,U⟩ (I J (d:Int)))∧((W.setCell ⟨w.heap.size+1+1,0,U⟩ (I J (d:Int))).cell? ⟨w.heap.size,0,U⟩=R (aA a len cap)∧(W.setCell ⟨w.heap.size+1+1,0,U⟩ (I J (d:Int))).cell? ⟨w.heap.size+1,0,U⟩=R (I J e)∧(W.setCell ⟨w.heap.size+1+1,0,U⟩ (I J (d:Int))).cell? ⟨w.heap.size+1+1,0,U⟩=R (I J (gy zs e m (g++[⟨d,h⟩])))∧(W.setCell ⟨w.heap.size+1+1,0,U⟩ (I J (d:Int))).frozen? ⟨w.heap.size+1+1,0,U⟩=false)∧Below w.heap.size w (W.setCell ⟨w.heap.size+1+1,0,U⟩ (I J (d:Int)))):=by
   intro f _;refine⟨(KeepsOthers.setCell _ _ _).from _,gA.setCell (by show w.heap.size<=w.heap.size+1+1;omega) (by show w.heap.size+1+1+1+1≠w.heap.size+1+1;omega) _,⟨?_,?_,?_,?_⟩,u.setCell (by show w.heap.size<=w.heap.size+1+1;omega) _⟩;·rw[jz _ _ _ _ (by intro f;simp only[Addr.mk.injEq] at f;omega)];exact G
   ·rw[jz _ _ _ _ (by intro f;simp only[Addr.mk.injEq] at f;omega)];exact H
   ·rw[f];exact p3 _ _ _ (by rw[t];rfl)
   ·rw[p7];exact K
  by_cases i:(d:Int)=e;·have ae:(((d:Int))!=e)=false:=(by simp[i]);have f:gy zs e m (g++[⟨d,h⟩])=B:=(by rw[F.out];unfold kH;rw[z0 (by intro j;exact j.1 i)]);have p:=C (q f);clear i f q r;gi_wp2;exact p _
  ·have ae:(((d:Int))!=e)=true:=(by simp[i]);by_cases am:B<0;·have f:gy zs e m (g++[⟨d,h⟩])=(d:Int):=(by rw[F.out];unfold kH;rw[aj ⟨i,.inl am⟩]);have p:=C (r f);clear i f q r;gi_wp2;exact p _
   ·obtain⟨v,rfl⟩:=dW (by omega:0<=B);rcases aF with⟨s,aM⟩|⟨b,aP,aT,s,aV,X⟩;·rw[aM] at V;simp at V
    ·have ap:v<zs.length:=(by omega);have aZ:=X v ap;clear X;simp only[Value.slice.injEq] at s;obtain⟨rfl,rfl,rfl⟩:=s;have ak:(v:Int)<(zs.length:Int):=(by omega);by_cases Y:bj zs v<bj zs d;·have f:gy zs e m (g++[⟨d,h⟩])=(d:Int):=(by rw[F.out];unfold kH;rw[aj ⟨i,.inr (by simpa using Y)⟩]);have p:=C (r f);clear i f q r;gi_wp2;exact p _
     ·have f:gy zs e m (g++[⟨d,h⟩])=(v:Int):=(by rw[F.out];unfold kH;rw[z0 (by rintro⟨_,j⟩;exact j.elim (λj=>by omega) (λj=>Y (by simpa using j)))]);have p:=C (q f);clear i f q r;gi_wp2;exact p _
 case done=>rintro Z a6 W aO rfl ⟨⟨G,H,t,K⟩,u⟩ D;rw[Fj] at t;gi_wp2;refine⟨by simp,.inl ⟨_,_,rfl,run_takeDeferred D,?_⟩⟩;exact⟨_,results_tmp rfl _ _ _,rfl,u.trans (belowK_b (w:=w) (bM _) W Z _ _ (by simp at aO;omega) D rfl rfl)⟩
 case stop=>rintro Z c g W _ _ j _;exact j.elim
theorem Kz (h:Fence) (n:Nat) (V:h.fn 194) (X:h.fn 163) (H:h.fn 215) (t:h.round=U) (aF:3<=n) (a:Option Addr) (len cap:Nat) (zs:List Int) (m:Int) (w:ab) (hI:gJ w.heap.size w (aA a len cap) zs) (Y:zs.length*8<=140737488351232):CallsIn h n au 194 #[aA a len cap,I ah m] w λe W'=>e=aK (I J (least zs m))∧Below w.heap.size w W':=by
 have k:1<=n:=by omega
 refine callsIn_of_wp_marks func194 rfl V ?_ t;simp only[ntmps194,jE,dY,hJ,jH,jG,jB,jA,jF,jC,iU,gQ];gi_wp2_with (gi_at_call 163;refine(Af h (n-1) X t _ _ _ _ _).mono ?_;rintro e w' ⟨rfl,rfl⟩);have Z:=Boxed.new w 44 (aA a len cap);have K:=Boxed.new (w.alloc (av #[aA a len cap] 44)) 3 (I J (-1));have L:=Boxed.new ((w.alloc (av #[aA a len cap] 44)).alloc (av #[I J (-1)] 3)) 44 (aA a len cap);have M:=Boxed.new (((w.alloc (av #[aA a len cap] 44)).alloc (av #[I J (-1)] 3)).alloc (av #[aA a len cap] 44)) 31 (I ah m);simp only[k4] at K L M;have aa:=((Z.alloc (av #[I J (-1)] 3)).alloc (av #[aA a len cap] 44)).alloc (av #[I ah m] 31);have N:=(K.alloc (av #[aA a len cap] 44)).alloc (av #[I ah m] 31);have ao:=L.alloc (av #[I ah m] 31);have O:Below w.heap.size w ((((w.alloc (av #[aA a len cap] 44)).alloc (av #[I J (-1)] 3)).alloc (av #[aA a len cap] 44)).alloc (av #[I ah m] 31)):=(((((Below.refl _ w).alloc (bM _) _).alloc (by simp) _).alloc (by simp;omega) _).alloc (by simp;omega) _);refine wpIn_rangeFunc_ownG t k (gf:=215) (lb:=#[af (R ⟨w.heap.size+1+1,0,U⟩),af (R ⟨w.heap.size+1+1+1,0,U⟩)]) rfl H (enters_of func215 (by kernel_rfl) rfl) (Ag h (n-1) H t (by omega) (w.heap.size+1+1) (w.heap.size+1+1+1) w.heap.size _ zs m Y _ (by simp) (by simp) (by simp;omega) ao.cell M.cell (hI.below O)) gA.trans (Ae (by simp;omega) (by simp)) (Below.refl _ _) (λ_=>rfl) (λf W=>(W.cell? ⟨w.heap.size,0,U⟩=R (aA a len cap)∧W.cell? ⟨w.heap.size+1,0,U⟩=R (I J (gZ zs m f))∧W.frozen? ⟨w.heap.size+1,0,U⟩=false)∧Below w.heap.size w W) (λ_ _ _=>False) (OwnFrom.and (Own.from (λae A B row i y z=>⟨cell_kept i.1 y z,cell_kept i.2.1 y z,(frozen_kept i.2.1 y z).trans i.2.2⟩) _) (ownFrom_below (bM _) (by simp;omega))) (λ_ _ _ _ _ i _ _=>i) ⟨⟨aa.cell,N.cell,N.frozen⟩,O⟩ (λd=>{tmps:=#[aA a len cap,I ah m,af (R ⟨w.heap.size,0,U⟩),undef,I J 0,af (R ⟨w.heap.size+1,0,U⟩),I J (d.1:Int),I ah (bj zs d.1),aA a len cap,I ah m,.func (.func 215) #[] #[af (R ⟨w.heap.size+1+1,0,U⟩),af (R ⟨w.heap.size+1+1+1,0,U⟩)],I J (d.1:Int),I ah (bj zs d.1),undef,undef,undef,undef,undef,undef,undef,undef,undef,undef,undef,undef],defers:=[]}) ?assign ?body ?done ?stop;case assign=>intro l d W am u;simp only[qV];gi_wp2;exact u
 case body=>
  rintro l f ⟨d,g⟩ W ⟨⟨D,o,E⟩,p⟩ _;have v:=vr zs m f ⟨d,g⟩;have ac:=Fh zs m f;have P:=(mC.1 g).1;have ay:=gJ.below p hI;dsimp only at v;generalize gZ zs m f=B at v ac o;have F:=C v;clear v;have x:gZ zs m (f++[⟨d,g⟩])=B->∀G,(KeepsFrom G W W∧gA w.heap.size (w.heap.size+1+1+1) W W∧(W.cell? ⟨w.heap.size,0,U⟩=R (aA a len cap)∧W.cell? ⟨w.heap.size+1,0,U⟩=R (I J (gZ zs m (f++[⟨d,g⟩])))∧W.frozen? ⟨w.heap.size+1,0,U⟩=false)∧Below w.heap.size w W):=λe _=>⟨KeepsFrom.refl _ _,gA.refl _ _ _,⟨D,by rw[e];exact o,E⟩,p⟩;have q:gZ zs m (f++[⟨d,g⟩])=(d:Int)->∀G,(KeepsFrom G W (W.setCell ⟨w.heap.size+1,0,U⟩ (I J (d:Int)))∧gA w.heap.size (w.heap.size+1+1+1) W (W.setCell ⟨w.heap.size+1,0,U⟩ (I J (d:Int)))∧((W.setCell ⟨w.heap.size+1,0,U⟩ (I J (d:Int))).cell? ⟨w.heap.size,0,U⟩=R (aA a len cap)∧(W.setCell ⟨w.heap.size+1,0,U⟩ (I J (d:Int))).cell? ⟨w.heap.size+1,0,U⟩=R (I J (gZ zs m (f++[⟨d,g⟩])))∧(W.setCell ⟨w.heap.size+1,0,U⟩ (I J (d:Int))).frozen? ⟨w.heap.size+1,0,U⟩=false)∧Below w.heap.size w (W.setCell ⟨w.heap.size+1,0,U⟩ (I J (d:Int)))):=by
   intro e _;refine⟨(KeepsOthers.setCell _ _ _).from _,gA.setCell (by show w.heap.size<=w.heap.size+1;omega) (by show w.heap.size+1+1+1≠w.heap.size+1;omega) _,⟨?_,?_,?_⟩,p.setCell (by show w.heap.size<=w.heap.size+1;omega) _⟩;·rw[jz _ _ _ _ (by intro e;simp only[Addr.mk.injEq] at e;omega)];exact D
   ·rw[e];exact p3 _ _ _ (by rw[o];rfl)
   ·rw[p7];exact E
  by_cases ad:B<0;·have e:gZ zs m (f++[⟨d,g⟩])=(d:Int):=(by rw[F.out];unfold lX;rw[aj (.inl ad)]);have r:=C (q e);clear e x q;gi_wp2;exact r _
  ·obtain⟨s,rfl⟩:=dW (by omega:0<=B);rcases ay with⟨k,aB⟩|⟨b,aM,ap,k,aO,Q⟩;·rw[aB] at P;simp at P
   ·have az:s<zs.length:=(by omega);have aQ:=Q s az;clear Q;simp only[Value.slice.injEq] at k;obtain⟨rfl,rfl,rfl⟩:=k;have aS:(s:Int)<(zs.length:Int):=(by omega);by_cases S:bj zs d<bj zs s;·have e:gZ zs m (f++[⟨d,g⟩])=(d:Int):=(by rw[F.out];unfold lX;rw[aj (.inr (by simpa using S))]);have r:=C (q e);clear e x q;gi_wp2;exact r _
    ·have e:gZ zs m (f++[⟨d,g⟩])=(s:Int):=(by rw[F.out];unfold lX;rw[z0 (λj=>j.elim (λj=>by omega) (λj=>S (by simpa using j)))]);have r:=C (x e);clear e x q;gi_wp2;exact r _
 case done=>rintro T aU W aC rfl ⟨⟨D,o,E⟩,p⟩ u;rw[yZ] at o;gi_wp2;refine⟨by simp,.inl ⟨_,_,rfl,run_takeDeferred u,?_⟩⟩;exact⟨_,results_tmp rfl _ _ _,rfl,p.trans (belowK_b (w:=w) (bM _) W T _ _ (by simp at aC;omega) u rfl rfl)⟩
 case stop=>rintro T c f W _ _ j _;exact j.elim
theorem KA (a:Option Addr) (len cap:Nat) (zs:List Int) (b m:Int) (w:ab) (hI:gJ w.heap.size w (aA a len cap) zs) (c:zs.length*8<=140737488351232):Calls au 113 #[aA a len cap,I J b,I ah m] w λd W'=>d=aK (I J (lW zs b m))∧Below w.heap.size w W':=callsIn_wide.1 (Ky Fence.wide 3 trivial trivial trivial rfl (bM _) a len cap zs b m w hI c)
theorem mW (a:Option Addr) (len cap:Nat) (zs:List Int) (m:Int) (w:ab) (hI:gJ w.heap.size w (aA a len cap) zs) (b:zs.length*8<=140737488351232):Calls au 194 #[aA a len cap,I ah m] w λc W'=>c=aK (I J (least zs m))∧Below w.heap.size w W':=callsIn_wide.1 (Kz Fence.wide 3 trivial trivial trivial rfl (bM _) a len cap zs m w hI b)
end
theorem gJ.cells (h:gJ n₀ W (aA a n cap) zs) (f:p<zs.length):∃b d,a=R ⟨b,d,U⟩∧b<n₀∧∀j,j<zs.length->W.cell? ⟨b,d+j,U⟩=R (I ah (bj zs j)):=by
 rcases h with⟨_,rfl⟩|⟨b,d,c,e,g,i⟩;·simp at f
 ·simp only[Value.slice.injEq] at e;exact⟨b,d,e.1,g,i⟩
theorem hX {B:ab} (h:Below A.heap.size A B) (hI:gJ A.heap.size A aH zs):gJ B.heap.size B aH zs:=(hI.below h).grow h.size
theorem e4 {B ar:ab} (h:Below A.heap.size A B) (k:Below B.heap.size B ar):Below A.heap.size A ar:=h.trans (k.mono h.size)
def j6 (n₀:Nat) (W:ab) (aH:Value) (bs:List Bool):Prop:=((∃a cap,aH=aA a 0 cap)∧bs=[])∨∃b c cap,aH=aA (R ⟨b,c,U⟩) bs.length cap∧b<n₀∧∀j,j<bs.length->W.cell? ⟨b,c+j,U⟩=R (aE (qC bs j))
theorem j6.below {B:ab} (h:Below n₀ A B) {bs:List Bool}:j6 n₀ A aH bs->j6 n₀ B aH bs
 | .inl e=>.inl e
 | .inr ⟨b,off,cap,e,a,c⟩=>.inr ⟨b,off,cap,e,a,λj d=>(h.cell (p:=⟨b,off+j,U⟩) a).trans (c j d)⟩
theorem j6.grow {a:Nat} (d:n₀<=a) {bs:List Bool}:j6 n₀ A aH bs->j6 a A aH bs
 | .inl e=>.inl e
 | .inr ⟨b,off,cap,e,f,c⟩=>.inr ⟨b,off,cap,e,by omega,c⟩
theorem j6.cells {bs:List Bool} (h:j6 n₀ W (aA a n cap) bs) (f:p<bs.length):∃b d,a=R ⟨b,d,U⟩∧b<n₀∧∀j,j<bs.length->W.cell? ⟨b,d+j,U⟩=R (aE (qC bs j)):=by
 rcases h with⟨_,rfl⟩|⟨b,d,c,e,g,i⟩;·simp at f
 ·simp only[Value.slice.injEq] at e;exact⟨b,d,e.1,g,i⟩
theorem iO {B:ab} (h:Below A.heap.size A B) {bs:List Bool} (hI:j6 A.heap.size A aH bs):j6 B.heap.size B aH bs:=(hI.below h).grow h.size
theorem mj (p:Int) (a:Option Addr) (cap:Nat) (n:Option Addr) (g o:Nat) (zs:List Int) (bs:List Bool) (m:Int) (q r s:Nat) (w:ab) (n₀:Nat) (hI:gJ n₀ w (aA a zs.length cap) zs) (A:j6 n₀ w (aA n g o) bs) (t:bs.length=g) (H:zs.length<=1000) (K:g<=9223372036854775807) (c0:w.cell? ⟨q,0,U⟩=R (aA a zs.length cap)) (L:w.cell? ⟨r,0,U⟩=R (I ah m)) (c2:w.cell? ⟨s,0,U⟩=R (aA n g o)):Calls au 231 #[I J p,af (R ⟨q,0,U⟩),af (R ⟨r,0,U⟩),af (R ⟨s,0,U⟩)] w λB w'=>B=aK (aE (jR zs bs m p))∧w=w':=by
 have u:=C t;clear t;by_cases v:0<=p
 ·obtain⟨c,rfl⟩:=dW v;rw[vz];rcases y1 zs m c with⟨d,f⟩|⟨d,f,i⟩|⟨f,i,d⟩;·have e:=C (by unfold hQ;rw[d];rfl:hQ zs bs m c=false);have x:¬(c:Int)<(zs.length:Int):=(by omega);clear d f;go_enter func231,ntmps231;go_wp2;go_ret;exact⟨by rw[e.out];rfl,rfl⟩
  ·have e:=C (by unfold hQ;rw[d];rfl:hQ zs bs m c=false);have x:(c:Int)<(zs.length:Int):=(by omega);have D:¬(c:Int)<64:=(by omega);clear d f i;go_enter func231,ntmps231;go_wp2;go_ret;exact⟨by rw[e.out];rfl,rfl⟩
  ·have x:(c:Int)<(zs.length:Int):=(by omega);have D:(c:Int)<64:=(by omega);have y:(bits BinOp.and ah (m/2^c) 1==1)=bX m c:=rfl;cases h:bX m c;·have e:=C (by unfold hQ;rw[d,h];rfl:hQ zs bs m c=false);rw[h] at y;clear d f i h;go_enter func231,ntmps231;go_wp2;go_ret;exact⟨by rw[e.out];rfl,rfl⟩
   ·rw[h] at d y;obtain⟨b,M,E,N,j⟩:=hI.cells f;subst E;have O:=j c f;cases l:(bj zs c==0);·have e:=C (by unfold hQ;rw[d,l];rfl:hQ zs bs m c=false);clear d f i h j;go_enter func231,ntmps231;go_wp2;go_ret;exact⟨by rw[e.out];rfl,rfl⟩
    ·by_cases k:bs.length<=c;·have e:=C (show hQ zs bs m c=true by unfold hQ;rw[d,l];simp[k]);have F:(g:Int)<=(c:Int):=(by have:=u.out;omega);clear d f i h j k;go_enter func231,ntmps231;go_wp2;go_ret;exact⟨by rw[e.out];rfl,rfl⟩
     ·have e:=C (show hQ zs bs m c=!qC bs c by unfold hQ;rw[d,l];simp[k]);have F:¬(g:Int)<=(c:Int):=(by have:=u.out;omega);have P:(c:Int)<(g:Int):=(by omega);have Q:c<g:=(by omega);obtain⟨S,T,G,V,z⟩:=A.cells (by omega:c<bs.length);subst G;have W:=z c (by omega);clear d f i h j z k;go_enter func231,ntmps231;go_wp2;go_ret;exact⟨by rw[e.out];rfl,rfl⟩
 ·have e:=C (by unfold jR;rw[decide_eq_false v];rfl:jR zs bs m p=false);go_enter func231,ntmps231;go_wp2;go_ret;exact⟨by rw[e.out];rfl,rfl⟩
theorem mX (a:Option Addr) (len cap:Nat) (b:Option Addr) (c d:Nat) (m:Int) (w:ab):Calls au 195 #[aA a len cap,aA b c d,I ah m] w λg w'=>g=aK (.func (.func 231) #[] #[af (R ⟨w.heap.size,0,U⟩),af (R ⟨w.heap.size+1+1,0,U⟩),af (R ⟨w.heap.size+1,0,U⟩)])∧Below w.heap.size w w'∧w.heap.size+3<=w'.heap.size∧w'.cell? ⟨w.heap.size,0,U⟩=R (aA a len cap)∧w'.cell? ⟨w.heap.size+1,0,U⟩=R (aA b c d)∧w'.cell? ⟨w.heap.size+1+1,0,U⟩=R (I ah m):=by
 go_enter func195,ntmps195;go_wp2;go_ret;refine⟨rfl,(((Below.refl _ w).alloc (bM _) _).alloc (by simp) _).alloc (by simp;omega) _,by simp,?_,?_,?_⟩;·have h:=Boxed.new w 44 (aA a len cap);exact((h.alloc _).alloc _).cell
 ·have e:=Boxed.new (w.alloc (av #[aA a len cap] 44)) 43 (aA b c d);rw[k4] at e;exact(e.alloc _).cell
 ·have f:=Boxed.new ((w.alloc (av #[aA a len cap] 44)).alloc (av #[aA b c d] 43)) 31 (I ah m);simp only[k4] at f;exact f.cell
theorem oW (a:Option Addr) (cap:Nat) (k:Option Addr) (e l:Nat) (zs:List Int) (bs:List Bool) (m:Int) (w:ab) (hI:gJ w.heap.size w (aA a zs.length cap) zs) (y:j6 w.heap.size w (aA k e l) bs) (n:bs.length=e) (o:zs.length<=1000) (p:e<=9223372036854775807):Calls au 196 #[aA a zs.length cap,aA k e l,I ah m] w λc w'=>c=aK (I J (iE zs bs m))∧Below w.heap.size w w':=by
 have q:=C n;clear n;go_enter func196,ntmps196;go_wp2_with fail;refine(mX _ _ _ _ _ _ _ _).mono ?_;rintro c B ⟨rfl,f,D,r,s,t⟩;have u:=C (hX f hI);have v:=C (iO f y);go_wp2_with fail;go_loop [15] (λi=>∃b:Nat,b<=zs.length∧i=I J b∧∀d,d<b->hQ zs bs m d=false) (λi=>zs.length-(intOf i).toNat);case atStart=>exact⟨0,by omega,rfl,λd E=>by omega⟩
 case round=>
  obtain⟨b,F,rfl,x⟩:=hrel;have g:=C x;clear x;by_cases z:b<zs.length
  ·have G:(b:Int)<(zs.length:Int):=(by omega);cases hid:hQ zs bs m b
   ·have h:=C (show jR zs bs m b=false by rw[vz];exact hid);have A:=C hid;clear hid;go_wp2_with fail;refine(mj _ _ _ _ _ _ zs bs m _ _ _ _ _ u.out v.out q.out o p r t s).mono ?_;rintro c w' ⟨rfl,rfl⟩;rw[h.out];go_wp2;go_round;case rel=>exact⟨b+1,by omega,by go_num,λd H=>by
     by_cases c:d=b;·subst c;exact A.out
     ·exact g.out d (by omega)⟩
    case measure=>simp[intOf];omega
   ·have h:=C (show jR zs bs m b=true by rw[vz];exact hid);have j:=C (show iE zs bs m=b from vo z hid g.out);clear hid;go_wp2_with fail;refine(mj _ _ _ _ _ _ zs bs m _ _ _ _ _ u.out v.out q.out o p r t s).mono ?_;rintro c w' ⟨rfl,rfl⟩;rw[h.out];go_wp2;go_ret;exact⟨by rw[j.out];rfl,f⟩
  ·obtain rfl:b=zs.length:=by omega
   have j:=C (show iE zs bs m=-1 from vp g.out);go_wp2;go_ret;exact⟨by rw[j.out];rfl,f⟩
theorem KB (a:Option Addr) (cap:Nat) (Y:Option Addr) (U Z:Nat) (zs:List Int) (bs:List Bool) (prev m:Int) (w:ab) (hI:gJ w.heap.size w (aA a zs.length cap) zs) (x:j6 w.heap.size w (aA Y U Z) bs) (ao:bs.length=U) (n:zs.length<=1000) (o:U<=9223372036854775807):Calls au 145 #[aA a zs.length cap,aA Y U Z,I J prev,I ah m] w λc w'=>c=aK (bD #[I J (choose zs bs prev m).1,I J (choose zs bs prev m).2])∧Below w.heap.size w w':=by
 have F:=C x;have p:=C ao;have B:zs.length*8<=140737488351232:=by omega
 clear x ao;rcases Fk zs m with⟨t,W⟩|⟨L,t,W,aj,K⟩;·have y:=C t;have Q:=C (Ft (bs:=bs) (prev:=prev) (by omega:least zs m<0));clear t W;go_enter func145,ntmps145;go_wp2_with fail;refine(mW _ _ _ zs _ _ hI B).mono ?_;rintro c G ⟨rfl,d⟩;rw[y.out];go_wp2;go_ret2;exact⟨by rw[Q.out];rfl,d⟩
 ·have y:=C t;have v:¬least zs m<0:=by omega
  cases hid:jR zs bs m prev
  ·have D:=C hid;by_cases E:0<=iE zs bs m;·have Q:=C (Fv v hid E);clear t K v hid;go_enter func145,ntmps145;go_wp2_with fail;refine(mW _ _ _ zs _ _ hI B).mono ?_;rintro c G ⟨rfl,d⟩;rw[y.out];have q:=C (hX d hI);have r:=C (iO d F);go_wp2_with fail;refine(mX _ _ _ _ _ _ _ _).mono ?_;rintro c M ⟨rfl,e,N,g,h,i⟩;have f:=C (hX e q);have j:=C (iO e r);go_wp2_with fail;refine(mj _ _ _ _ _ _ zs bs m _ _ _ _ _ f j p n o g i h).mono ?_;rintro c w' ⟨rfl,rfl⟩;rw[D.out];clear g h i;go_wp2_with fail;refine(oW _ _ _ _ _ zs bs m _ f j p n o).mono ?_;rintro c R ⟨rfl,s⟩;go_wp2;go_ret2;exact⟨by rw[Q.out];rfl,e4 (e4 d e) s⟩
   ·have ac:∀(al:Int),choose zs bs prev m=(al,0)->((al=prev∧jr zs m prev=true∧bj zs prev.toNat<=bj zs L)∨(al=L∧¬(jr zs m prev=true∧bj zs prev.toNat<=bj zs L)))->Calls au 145 #[aA a zs.length cap,aA Y U Z,I J prev,I ah m] w λc w'=>c=aK (bD #[I J (choose zs bs prev m).1,I J (choose zs bs prev m).2])∧Below w.heap.size w w':=by
     intro al O z;have Q:=C O;have S:=C E;rw[O];have ap:(L:Int)<(zs.length:Int):=(by omega);rcases Fy zs m prev with⟨u,H⟩|⟨l,rfl,u,H⟩|⟨l,rfl,u,H,ay⟩|⟨l,rfl,u,H,ay,A⟩|⟨l,rfl,u,aB,H,ay,A⟩
     ·have x:al=L:=by
       rcases z with⟨_,k,_⟩|⟨k,_⟩;·rw[u] at k;cases k
       ·exact k
      subst x;have X:¬(0:Int)<=prev:=(by omega);clear z u t K v hid E O;go_enter func145,ntmps145;go_wp2_with fail;refine(mW _ _ _ zs _ _ hI B).mono ?_;rintro c G ⟨rfl,d⟩;rw[y.out];have q:=C (hX d hI);have r:=C (iO d F);go_wp2_with fail;refine(mX _ _ _ _ _ _ _ _).mono ?_;rintro c M ⟨rfl,e,N,g,h,i⟩;have f:=C (hX e q);have j:=C (iO e r);go_wp2_with fail;refine(mj _ _ _ _ _ _ zs bs m _ _ _ _ _ f j p n o g i h).mono ?_;rintro c w' ⟨rfl,rfl⟩;rw[D.out];clear g h i;go_wp2_with fail;refine(oW _ _ _ _ _ zs bs m _ f j p n o).mono ?_;rintro c R ⟨rfl,s⟩;have V:iE zs bs m<0:=S;go_wp2;go_quiet (fail);go_wp2;go_ret2;exact⟨rfl,e4 (e4 d e) (s.trans ((iB.refl _).drewN _|>.below _))⟩
     ·have x:al=L:=by
       rcases z with⟨_,k,_⟩|⟨k,_⟩;·rw[u] at k;cases k
       ·exact k
      subst x;have X:¬(l:Int)<(zs.length:Int):=(by omega);clear z u t K v hid E O;go_enter func145,ntmps145;go_wp2_with fail;refine(mW _ _ _ zs _ _ hI B).mono ?_;rintro c G ⟨rfl,d⟩;rw[y.out];have q:=C (hX d hI);have r:=C (iO d F);go_wp2_with fail;refine(mX _ _ _ _ _ _ _ _).mono ?_;rintro c M ⟨rfl,e,N,g,h,i⟩;have f:=C (hX e q);have j:=C (iO e r);go_wp2_with fail;refine(mj _ _ _ _ _ _ zs bs m _ _ _ _ _ f j p n o g i h).mono ?_;rintro c w' ⟨rfl,rfl⟩;rw[D.out];clear g h i;go_wp2_with fail;refine(oW _ _ _ _ _ zs bs m _ f j p n o).mono ?_;rintro c R ⟨rfl,s⟩;have V:iE zs bs m<0:=S;go_wp2;go_quiet (fail);go_wp2;go_ret2;exact⟨rfl,e4 (e4 d e) (s.trans ((iB.refl _).drewN _|>.below _))⟩
     ·have x:al=L:=by
       rcases z with⟨_,k,_⟩|⟨k,_⟩;·rw[u] at k;cases k
       ·exact k
      subst x;have X:(l:Int)<(zs.length:Int):=(by omega);have ad:¬(l:Int)<64:=(by omega);clear z u t K v hid E O;go_enter func145,ntmps145;go_wp2_with fail;refine(mW _ _ _ zs _ _ hI B).mono ?_;rintro c G ⟨rfl,d⟩;rw[y.out];have q:=C (hX d hI);have r:=C (iO d F);go_wp2_with fail;refine(mX _ _ _ _ _ _ _ _).mono ?_;rintro c M ⟨rfl,e,N,g,h,i⟩;have f:=C (hX e q);have j:=C (iO e r);go_wp2_with fail;refine(mj _ _ _ _ _ _ zs bs m _ _ _ _ _ f j p n o g i h).mono ?_;rintro c w' ⟨rfl,rfl⟩;rw[D.out];clear g h i;go_wp2_with fail;refine(oW _ _ _ _ _ zs bs m _ f j p n o).mono ?_;rintro c R ⟨rfl,s⟩;have V:iE zs bs m<0:=S;go_wp2;go_quiet (fail);go_wp2;go_ret2;exact⟨rfl,e4 (e4 d e) (s.trans ((iB.refl _).drewN _|>.below _))⟩
     ·have x:al=L:=by
       rcases z with⟨_,k,_⟩|⟨k,_⟩;·rw[u] at k;cases k
       ·exact k
      subst x;have X:(l:Int)<(zs.length:Int):=(by omega);have ad:(l:Int)<64:=(by omega);have az:(bits BinOp.and ah (m/2^l) 1==1)=false:=A;clear A;clear z u t K v hid E O;go_enter func145,ntmps145;go_wp2_with fail;refine(mW _ _ _ zs _ _ hI B).mono ?_;rintro c G ⟨rfl,d⟩;rw[y.out];have q:=C (hX d hI);have r:=C (iO d F);go_wp2_with fail;refine(mX _ _ _ _ _ _ _ _).mono ?_;rintro c M ⟨rfl,e,N,g,h,i⟩;have f:=C (hX e q);have j:=C (iO e r);go_wp2_with fail;refine(mj _ _ _ _ _ _ zs bs m _ _ _ _ _ f j p n o g i h).mono ?_;rintro c w' ⟨rfl,rfl⟩;rw[D.out];clear g h i;go_wp2_with fail;refine(oW _ _ _ _ _ zs bs m _ f j p n o).mono ?_;rintro c R ⟨rfl,s⟩;have V:iE zs bs m<0:=S;go_wp2;go_quiet (fail);go_wp2;go_ret2;exact⟨rfl,e4 (e4 d e) (s.trans ((iB.refl _).drewN _|>.below _))⟩
     ·have X:(l:Int)<(zs.length:Int):=(by omega);have ad:(l:Int)<64:=(by omega);have az:(bits BinOp.and ah (m/2^l) 1==1)=true:=A;have aC:(al=(l:Int)∧bj zs l<=bj zs L)∨(al=L∧¬bj zs l<=bj zs L):=by
       rcases z with⟨a,_,b⟩|⟨a,b⟩;·exact .inl ⟨a,by simpa using b⟩
       ·exact .inr ⟨a,λk=>b ⟨u,by simpa using k⟩⟩
      clear z u aB A t K v hid E O;rcases aC with⟨rfl,aF⟩|⟨rfl,aF⟩;·go_enter func145,ntmps145;go_wp2_with fail;refine(mW _ _ _ zs _ _ hI B).mono ?_;rintro c G ⟨rfl,d⟩;rw[y.out];have q:=C (hX d hI);have r:=C (iO d F);go_wp2_with fail;refine(mX _ _ _ _ _ _ _ _).mono ?_;rintro c M ⟨rfl,e,N,g,h,i⟩;have f:=C (hX e q);have j:=C (iO e r);go_wp2_with fail;refine(mj _ _ _ _ _ _ zs bs m _ _ _ _ _ f j p n o g i h).mono ?_;rintro c w' ⟨rfl,rfl⟩;rw[D.out];clear g h i;go_wp2_with fail;refine(oW _ _ _ _ _ zs bs m _ f j p n o).mono ?_;rintro c R ⟨rfl,s⟩;have V:iE zs bs m<0:=S;obtain⟨b,af,aa,ae,P⟩:=(hX s f).cells H;subst aa;have am:=P l H;have aM:=P L W;clear P;go_wp2;go_quiet (fail);go_wp2;go_ret2;exact⟨rfl,e4 (e4 d e) (s.trans ((iB.refl _).drewN _|>.below _))⟩
      ·go_enter func145,ntmps145;go_wp2_with fail;refine(mW _ _ _ zs _ _ hI B).mono ?_;rintro c G ⟨rfl,d⟩;rw[y.out];have q:=C (hX d hI);have r:=C (iO d F);go_wp2_with fail;refine(mX _ _ _ _ _ _ _ _).mono ?_;rintro c M ⟨rfl,e,N,g,h,i⟩;have f:=C (hX e q);have j:=C (iO e r);go_wp2_with fail;refine(mj _ _ _ _ _ _ zs bs m _ _ _ _ _ f j p n o g i h).mono ?_;rintro c w' ⟨rfl,rfl⟩;rw[D.out];clear g h i;go_wp2_with fail;refine(oW _ _ _ _ _ zs bs m _ f j p n o).mono ?_;rintro c R ⟨rfl,s⟩;have V:iE zs bs m<0:=S;obtain⟨b,af,aa,ae,P⟩:=(hX s f).cells H;subst aa;have am:=P l H;have aM:=P L W;clear P;go_wp2;go_quiet (fail);go_wp2;go_ret2;exact⟨rfl,e4 (e4 d e) (s.trans ((iB.refl _).drewN _|>.below _))⟩
    by_cases A:jr zs m prev=true∧bj zs prev.toNat<=bj zs (least zs m).toNat;·have T:=A;rw[t] at T;exact ac prev (Fw v hid E A) (.inl ⟨rfl,T.1,by simpa using T.2⟩)
    ·have T:=A;rw[t] at T;exact ac L (by rw[Fx v hid E A,t]) (.inr ⟨rfl,by simpa using T⟩)
  ·have Q:=C (Fu v hid);have D:=C hid;clear t K v hid;go_enter func145,ntmps145;go_wp2_with fail;refine(mW _ _ _ zs _ _ hI B).mono ?_;rintro c G ⟨rfl,d⟩;rw[y.out];have q:=C (hX d hI);have r:=C (iO d F);go_wp2_with fail;refine(mX _ _ _ _ _ _ _ _).mono ?_;rintro c M ⟨rfl,e,N,g,h,i⟩;have f:=C (hX e q);have j:=C (iO e r);go_wp2_with fail;refine(mj _ _ _ _ _ _ zs bs m _ _ _ _ _ f j p n o g i h).mono ?_;rintro c w' ⟨rfl,rfl⟩;rw[D.out];go_wp2;go_ret2;exact⟨by rw[Q.out];rfl,e4 d e⟩
variable {gap:Int}
def lF (x:Int):Prop:=0<=x∧x<18446744073709551616
theorem KG (a b:Int) (w:ab) (e:0<=a) (f:0<=b) (g:a<18446744073709551616) (h:b<18446744073709551616):Calls au 33 #[I ah a,I ah b] w λd w'=>d=aK (I ah (jc a b))∧w=w':=by
 by_cases i:b<a;·have c:=C (by unfold jc;rw[aj (by omega)]:jc a b=a-b);go_enter func33,ntmps33;go_wp2;all_goals first|omega|(go_ret;exact⟨by rw[c.out];first|rfl|(simp<;>omega),rfl⟩)
 ·have c:=C (by unfold jc;split<;>omega:jc a b=0);have j:a-a=0:=by omega
  go_enter func33,ntmps33;go_wp2;all_goals first|omega|(go_ret;exact⟨by rw[c.out];first|rfl|(simp<;>omega),rfl⟩)|(
   obtain rfl:a=b:=by omega
   go_ret;exact⟨by rw[c.out];simp,rfl⟩)
theorem KH (m p:Nat) (c:m<18446744073709551616):bX (m:Int) p=(m/2^p%2==1):=by
 unfold bX;have d:((m:Int)/2^p)=((m/2^p:Nat):Int):=by simp
 have e:m/2^p<18446744073709551616:=o6 (Nat.div_le_self _ _) c;have a:=u64_and_nat (m/2^p) 1 e (by decide);rw[d];have f:((1:Nat):Int)=1:=rfl;rw[f] at a;rw[a,nat_mask1];cases b:(m/2^p%2==1);·simp at b⊢;omega
 ·simp at b⊢;omega
def tE (c:dd):Prop:=lF c.w∧lF c.m
theorem KI {c:dd} {p:Int} (h:¬0<=p):gG c gap p=false:=by unfold gG;rw[decide_eq_false h];rfl
theorem KJ {c:dd} {p:Int} (h:¬p<64):gG c gap p=false:=by unfold gG;rw[decide_eq_false h];simp
theorem KK {c:dd} {k:Nat} (h:bX c.m k=false):gG c gap k=false:=by unfold gG;simp[h]
theorem KL {c:dd} {p:Int} (h:c.r=true):gG c gap p=false:=by unfold gG;simp[h]
theorem KM {c:dd} {p:Int} (h:¬0<c.w):gG c gap p=false:=by unfold gG;rw[decide_eq_false h];simp
theorem KN {c:dd} {p:Int} (h:¬c.w<gap):gG c gap p=false:=by unfold gG;rw[decide_eq_false h];simp
theorem KO (c:dd) (gap p:Int) (w:ab) (n:tE c):Calls au 165 #[bm #[I J c.id,I ah c.w,I ah c.m,aE c.r],I ah gap,I J p] w λo w'=>o=aK (aE (gG c gap p))∧w'=w.alloc (av #[I J c.id,I ah c.w,I ah c.m,aE c.r] 197):=by
 obtain⟨i,b,m,f⟩:=c;obtain⟨⟨q,s⟩,⟨t,u⟩⟩:=n;simp only at q s t u;by_cases g:0<=p
 ·obtain⟨e,rfl⟩:=dW g;by_cases h:(e:Int)<64
  ·have j:(bits BinOp.and ah (m/2^e) 1==1)=bX m e:=rfl;cases d:bX m e;·have a:=C (KK (c:=⟨i,b,m,f⟩) (gap:=gap) d);rw[d] at j;clear d;go_enter func165,ntmps165;go_wp2;go_ret;exact⟨by rw[a.out];rfl,rfl⟩
   ·rw[d] at j;cases f
    ·by_cases k:0<b
     ·by_cases l:b<gap;·have a:=C (Fl.2 ⟨g,h,by simpa using d,rfl,k,l⟩:gG ⟨i,b,m,false⟩ gap e=true);clear d;go_enter func165,ntmps165;go_wp2;go_ret;exact⟨by rw[a.out];rfl,rfl⟩
      ·have a:=C (KN (c:=⟨i,b,m,false⟩) (p:=e) l);clear d;go_enter func165,ntmps165;go_wp2;go_ret;exact⟨by rw[a.out];rfl,rfl⟩
     ·have a:=C (KM (c:=⟨i,b,m,false⟩) (gap:=gap) (p:=e) k);clear d;go_enter func165,ntmps165;go_wp2;go_ret;exact⟨by rw[a.out];rfl,rfl⟩
    ·have a:=C (KL (c:=⟨i,b,m,true⟩) (gap:=gap) (p:=e) rfl);clear d;go_enter func165,ntmps165;go_wp2;go_ret;exact⟨by rw[a.out];rfl,rfl⟩
  ·have a:=C (KJ (c:=⟨i,b,m,f⟩) (gap:=gap) h);go_enter func165,ntmps165;go_wp2;go_ret;exact⟨by rw[a.out];rfl,rfl⟩
 ·have a:=C (KI (c:=⟨i,b,m,f⟩) (gap:=gap) g);go_enter func165,ntmps165;go_wp2;go_ret;exact⟨by rw[a.out];rfl,rfl⟩
def dC (a b:Int):Int:=if a<b then-1 else if b<a then 1 else 0
theorem wZ (x:Int) (w:ab):Calls au 216 #[I ah x] w λe w'=>e=aK (aE false)∧w=w':=by go_enter func216,ntmps216;go_wp2;go_ret;exact⟨rfl,rfl⟩
theorem w0 (x:Int) (w:ab):Calls au 242 #[I J x] w λe w'=>e=aK (aE false)∧w=w':=by go_enter func242,ntmps242;go_wp2;go_ret;exact⟨rfl,rfl⟩
theorem KP (x y:Int) (w:ab):Calls au 168 #[I ah x,I ah y] w λb w'=>b=aK (I J (dC x y))∧w=w':=by
 by_cases c:x<y;·have a:=C (by unfold dC;rw[aj c]:dC x y=-1);go_enter func168,ntmps168;go_wp2_with (go_at_call 216;refine(wZ _ _).mono ?_;rintro b w' ⟨rfl,rfl⟩);go_ret;exact⟨by rw[a.out];rfl,rfl⟩
 ·by_cases d:y<x;·have a:=C (by unfold dC;rw[z0 c,aj d]:dC x y=1);go_enter func168,ntmps168;go_wp2_with (go_at_call 216;refine(wZ _ _).mono ?_;rintro b w' ⟨rfl,rfl⟩);go_ret;exact⟨by rw[a.out];rfl,rfl⟩
  ·have a:=C (by unfold dC;rw[z0 c,z0 d]:dC x y=0);go_enter func168,ntmps168;go_wp2_with (go_at_call 216;refine(wZ _ _).mono ?_;rintro b w' ⟨rfl,rfl⟩);go_ret;exact⟨by rw[a.out];rfl,rfl⟩
theorem BU (x y:Int) (w:ab):Calls au 218 #[I J x,I J y] w λb w'=>b=aK (I J (dC x y))∧w=w':=by
 by_cases c:x<y;·have a:=C (by unfold dC;rw[aj c]:dC x y=-1);go_enter func218,ntmps218;go_wp2_with (go_at_call 242;refine(w0 _ _).mono ?_;rintro b w' ⟨rfl,rfl⟩);go_ret;exact⟨by rw[a.out];rfl,rfl⟩
 ·by_cases d:y<x;·have a:=C (by unfold dC;rw[z0 c,aj d]:dC x y=1);go_enter func218,ntmps218;go_wp2_with (go_at_call 242;refine(w0 _ _).mono ?_;rintro b w' ⟨rfl,rfl⟩);go_ret;exact⟨by rw[a.out];rfl,rfl⟩
  ·have a:=C (by unfold dC;rw[z0 c,z0 d]:dC x y=0);go_enter func218,ntmps218;go_wp2_with (go_at_call 242;refine(w0 _ _).mono ?_;rintro b w' ⟨rfl,rfl⟩);go_ret;exact⟨by rw[a.out];rfl,rfl⟩
def kt (x y:Int):Int:=if x=0 then y else x
theorem BV (b cap:Nat) (x y:Int) (w:ab) (c0:w.cell? ⟨b,0,U⟩=R (I J x)) (k:w.cell? ⟨b,1,U⟩=R (I J y)):Calls au 217 #[aA (R ⟨b,0,U⟩) 2 cap] w λf w'=>f=aK (I J (kt x y))∧w=w':=by
 cases c:(x !=0)
 ·have g:x=0:=by simpa using c
  subst g;clear c;cases e:(y !=0)
  ·have h:y=0:=(by simpa using e);subst h;clear e;go_enter func217,ntmps217;go_wp2;go_loop [8] (λi=>∃a:Nat,a<=2∧i=I J a) (λi=>2-(intOf i).toNat);case atStart=>exact⟨0,by omega,rfl⟩
   case round=>
    obtain⟨a,l,rfl⟩:=hrel;have j:a=0∨a=1∨a=2:=(by omega);rcases j with rfl|rfl|rfl
    ·go_wp2;go_round;case rel=>exact⟨1,by omega,by go_num⟩
     case measure=>simp[intOf]
    ·go_wp2;go_round;case rel=>exact⟨2,by omega,by go_num⟩
     case measure=>simp[intOf]
    ·go_wp2;go_ret;exact⟨rfl,rfl⟩
  ·have d:=C (by simp[kt]:kt 0 y=y);go_enter func217,ntmps217;go_wp2;go_loop [8] (λi=>i=I J 0∨i=I J 1) (λi=>2-(intOf i).toNat);case atStart=>exact .inl rfl
   case round=>
    rcases hrel with rfl|rfl
    ·go_wp2;go_round;case rel=>exact .inr rfl
     case measure=>simp[intOf]
    ·go_wp2;go_ret;exact⟨by rw[d.out];rfl,rfl⟩
 ·have d:=C (by unfold kt;rw[z0 (by simpa using c)]:kt x y=x);go_enter func217,ntmps217;go_wp2;go_loop [8] (λi=>i=I J 0) (λi=>2-(intOf i).toNat);case atStart=>rfl
  case round=>subst hrel;go_wp2;go_ret;exact⟨by rw[d.out];rfl,rfl⟩
theorem BW (a b:dd) (w:ab):Calls au 167 #[bm #[I J a.id,I ah a.w,I ah a.m,aE a.r],bm #[I J b.id,I ah b.w,I ah b.m,aE b.r]] w λe w'=>e=aK (I J (dC b.w a.w))∧w'=(w.alloc (av #[I J a.id,I ah a.w,I ah a.m,aE a.r] 197)).alloc (av #[I J b.id,I ah b.w,I ah b.m,aE b.r] 197):=by go_enter func167,ntmps167;go_wp2_with (go_at_call 168;refine(KP _ _ _).mono ?_;rintro e w' ⟨rfl,rfl⟩);go_ret;exact⟨rfl,rfl⟩
theorem KQ (a b:dd) (d:Nat) (w:ab) (f:w.cell? ⟨d,0,U⟩=R (.func (.func 167) #[] #[])):Calls au 170 #[bm #[I J a.id,I ah a.w,I ah a.m,aE a.r],bm #[I J b.id,I ah b.w,I ah b.m,aE b.r],af (R ⟨d,0,U⟩)] w λe w'=>e=aK (I J (-dC b.w a.w))∧w'=(((w.alloc (av #[I J a.id,I ah a.w,I ah a.m,aE a.r] 197)).alloc (av #[I J b.id,I ah b.w,I ah b.m,aE b.r] 197)).alloc (av #[I J a.id,I ah a.w,I ah a.m,aE a.r] 197)).alloc (av #[I J b.id,I ah b.w,I ah b.m,aE b.r] 197):=by
 have c:dC b.w a.w=-1∨dC b.w a.w=0∨dC b.w a.w=1:=by unfold dC;split<;>(try split)<;>simp
 have h:=j7 w _ f;go_enter func170,ntmps170;go_wp2_with fail;refine(BW a b _).mono ?_;rintro e w' ⟨rfl,rfl⟩;rcases c with c|c|c;all_goals have g:=C c;rw[c];clear c;go_wp2;go_ret;exact⟨by rw[g.out];rfl,rfl⟩
section
variable {α:Type} {E:cm α}
theorem Own.block {T:Nat} {zs:List α} (h:Own E W B T v n zs) (k:0<n):∃g cap a,v=aA (R ⟨g,0,U⟩) n cap∧B<=g∧g<W.heap.size∧n<=cap∧cap<=maxLen∧W.heap[g]?=R (av a T (0,0))∧a.size=cap*E.c∧a.toList.take (n*E.c)=E.all zs:=by
 rcases h.2 with⟨rfl,l⟩|⟨g,cap,a,rfl,d,b,e,f,i,j⟩;·omega
 ·exact⟨g,cap,a,rfl,d,(iQ.1 b).1,e,f,b,i,j⟩
theorem Mg {T:Nat} {cur:Array Value} (h:W.heap[g]?=R (av cur T (0,0))):W.frozen? ⟨g,j,U⟩=false:=by simp[World.frozen?,h]
theorem ry {zs:List α} {z z':α} {q:Nat} (a:zs[j]?=R z) (d:q<E.c) (f:E.e z'=(E.e z).set q u):E.all (zs.set j z')=(E.all zs).set (j*E.c+q) u:=by
 induction zs generalizing j with
 |nil=>simp at a
 |cons y zs g=>
  have b:∀(y:α) zs,E.all (y::zs)=E.e y++E.all zs:=λy zs=>by simp[cm.all]
  cases j with
  |zero=>simp at a;subst a;rw[List.set_cons_zero,b,b,f,Nat.zero_mul,mq,List.set_append_left _ _ (by rw[E.len];exact d)]
  |succ j=>rw[List.set_cons_succ,b,b,g (by simpa using a),nO _ _ (by rw[E.len,pc];omega),E.len,show(j+1)*E.c+q-E.c=j*E.c+q by rw[pc];omega]
theorem Own.set {W:ab} {B T n g cap j q:Nat} {zs:List α} {z z':α} {u:Value} (h:Own E W B T (aA (R ⟨g,0,U⟩) n cap) n zs) (a:zs[j]?=R z) (b:q<E.c) (l:E.e z'=(E.e z).set q u) (p:Nat) (m:p=j*E.c+q):Own E (W.setCell ⟨g,p,U⟩ u) B T (aA (R ⟨g,0,U⟩) n cap) n (zs.set j z')∧W.frozen? ⟨g,p,U⟩=false∧W.cell? ⟨g,p,U⟩=(E.e z)[q]?∧B<=g∧g<W.heap.size:=by
 subst m;have o:=h.rd.1;have A:=(bE.1 a).1;have r:j*E.c+q<n*E.c:=by have:(j+1)*E.c<=n*E.c:=o5 _ (by omega);rw[pc] at this;omega
 obtain⟨C,D,s,d,f,t,v,w,i,x,y⟩:=h.block (by omega);simp only[Value.slice.injEq,Option.some.injEq,Addr.mk.injEq,and_true,true_and] at d;obtain⟨rfl,rfl⟩:=d;refine⟨⟨by rw[cm.k6,ef,o],.inr ⟨g,cap,s.setIfInBounds (j*E.c+q) u,rfl,f,?_,v,w,by simpa using x,?_⟩⟩,Mg i,?_,f,t⟩;·simp[World.setCell,Array.getElem?_modify,i]
 ·rw[Array.toList_setIfInBounds,List.take_set,y,ry a b l]
 ·have k:=h;unfold Own at k;exact(k.cellAt (j*E.c+q) r).trans (cm.k7 a b)
end
theorem gO (a:Below W.heap.size W W') (h:b<W.heap.size) (c:W.cell? ⟨b,o,U⟩=R v):W'.cell? ⟨b,o,U⟩=R v:=(a.cell (p:=⟨b,o,U⟩) h).trans c
theorem tO {a:Addr} (b:W.cell? a=R v):W.drew.cell? a=R v:=b
theorem CG {x y:Value} {t:Nat} (h:b=W.heap.size):(W.alloc (av #[x,y] t)).drew.cell? ⟨b,0,U⟩=R x:=by subst h;exact tO (by simp)
theorem CH {x y:Value} {t:Nat} (h:b=W.heap.size):(W.alloc (av #[x,y] t)).drew.cell? ⟨b,1,U⟩=R y:=by subst h;exact tO (by simp)
theorem CI {O:Obj} (h:b<W.heap.size):b<(W.alloc O).heap.size:=by simp;omega
theorem CJ (h:b<W.heap.size):b<W.drew.heap.size:=h
theorem ku (O:Obj) (h:b<W.heap.size) (a:W.cell? ⟨b,o,U⟩=R v):(W.alloc O).cell? ⟨b,o,U⟩=R v:=gO ((Below.refl _ _).alloc (bM _) _) h a
def tP (zs:List dd):Prop:=∀k,tE (cat zs k)
theorem rR (c:dd) (gap p:Int) (a b:Nat) (w:ab) (e:tE c) (f:w.cell? ⟨a,0,U⟩=R (I ah gap)) (g:w.cell? ⟨b,0,U⟩=R (I J p)):Calls au 164 #[bm #[I J c.id,I ah c.w,I ah c.m,aE c.r],af (R ⟨a,0,U⟩),af (R ⟨b,0,U⟩)] w λd w'=>d=aK (aE (gG c gap p))∧Below w.heap.size w w':=by have h:=j7 w _ f;have i:=j7 w _ g;go_enter func164,ntmps164;go_wp2_with fail;refine(KO c gap p _ e).mono ?_;rintro d w' ⟨rfl,rfl⟩;go_wp2;go_ret;exact⟨rfl,((Below.refl _ w).alloc (bM _) _).alloc (by simp) _⟩
theorem xq (c:dd) (gap p:Int) (n a e:Nat) (w:ab) (o:tE c) (h0:0<=gap) (t:gap<=18446744073709551615) (f:w.cell? ⟨a,0,U⟩=R (I ah gap)) (h:w.cell? ⟨e,0,U⟩=R (I J p)) (q:w.cell? ⟨n,0,U⟩=R (.func (.func 164) #[] #[af (R ⟨a,0,U⟩),af (R ⟨e,0,U⟩)])):Calls au 166 #[bm #[I J c.id,I ah c.w,I ah c.m,aE c.r],af (R ⟨n,0,U⟩),af (R ⟨a,0,U⟩)] w λi w'=>i=aK (aE (lY c gap p))∧Below w.heap.size w w':=by
 have g:=j7 w _ f;have j:=j7 w _ h;have s:=j7 w _ q;simp only at g j s;cases b:gG c gap p;·have k:=C (by unfold lY;rw[b];rfl:lY c gap p=false);have l:=C b;clear b;go_enter func166,ntmps166;go_wp2_with fail;refine(rR c gap p a e _ o (ku _ g f) (ku _ j h)).mono ?_;rintro i w' ⟨rfl,d⟩;rw[l.out];go_wp2;go_ret;exact⟨by rw[k.out];rfl,((Below.refl _ w).alloc (bM _) _).trans (d.mono (by simp))⟩
 ·have k:=C (by unfold lY;rw[b];rfl:lY c gap p=decide (c.w<=gap/2));have l:=C b;clear b;go_enter func166,ntmps166;go_wp2_with fail;refine(rR c gap p a e _ o (ku _ g f) (ku _ j h)).mono ?_;rintro i w' ⟨rfl,d⟩;rw[l.out];have u:w'.cell? ⟨a,0,U⟩=R (I ah gap):=gO d (by simp;omega) (ku _ g f);have v:w'.cell? ⟨w.heap.size,1,U⟩=R (I ah c.w):=(d.cell (p:=⟨w.heap.size,1,U⟩) (by simp)).trans (by simp);go_wp2;go_ret;exact⟨by rw[k.out];rfl,((Below.refl _ w).alloc (bM _) _).trans (d.mono (by simp))⟩
theorem CK {P:Nat->Bool} {a c:Nat->Int} {b:Int} {k q:Nat} (d:P k=true) (e:b=q) (h:kI a c k q=true):iC P a c b k=k:=by subst e;unfold iC;exact aj ⟨d,.inr (by simpa using h)⟩
theorem CL {P:Nat->Bool} {c d:Nat->Int} {b:Int} {k q:Nat} (e:b=q) (h:¬kI c d k q=true):iC P c d b k=q:=by subst e;unfold iC;exact z0 (λ⟨_,a⟩=>a.elim (λa=>by omega) (λa=>h (by simpa using a)))
theorem CM {a b:Int}:dC a b<0↔a<b:=by unfold dC;split<;>(try split)<;>simp<;>omega
theorem CN {a b:Int}:dC a b=0↔a=b:=by unfold dC;split<;>(try split)<;>simp<;>omega
theorem Mq (a b:Int):-dC a b=dC b a:=by unfold dC;split<;>(try split)<;>(try split)<;>omega
theorem CO {a b c d:Int}:kt (dC a b) (dC c d)<0↔a<b∨(a=b∧c<d):=by
 unfold kt;by_cases h:dC a b=0;·rw[aj h,CM];have:=CN.1 h;omega
 ·rw[z0 h,CM];have:a≠b:=λe=>h (CN.2 e);omega
theorem Mr (zs:List dd) (k q:Nat):kt (dC (cat zs q).w (cat zs k).w) (dC (cat zs k).id (cat zs q).id)<0↔kI (b8 zs) (eQ zs) k q=true:=by rw[CO,lh];unfold b8 eQ;omega
theorem Ms (zs:List dd) (k q:Nat):kt (-dC (cat zs q).w (cat zs k).w) (dC (cat zs k).id (cat zs q).id)<0↔kI (jb zs) (eQ zs) k q=true:=by rw[Mq,CO,lh];unfold jb eQ;omega
def rS (b:Int) (len:Nat) (u v:Value):Prop:=(b=-1∧u=I J 0∧v=aE false)∨∃p:Nat,b=p∧p<len∧u=I J p∧v=aE true
theorem Mt (a:Option Addr) (len cap:Nat) (zs:List dd) (gap p:Int) (x q y Z:Nat) (w:ab) (aa:zs.length=len) (hI:iD w.heap.size w (aA a len cap) zs) (ao:tP zs) (bg:len<=1000000) (h0:0<=gap) (M:gap<=18446744073709551615) (N:w.cell? ⟨q,0,U⟩=R (I ah gap)) (O:w.cell? ⟨y,0,U⟩=R (I J p)) (P:w.cell? ⟨x,0,U⟩=R (.func (.func 164) #[] #[af (R ⟨q,0,U⟩),af (R ⟨y,0,U⟩)])) (Q:w.cell? ⟨Z,0,U⟩=R (.func (.func 167) #[] #[])):Calls au 169 #[aA a len cap,.func (.func 166) #[] #[af (R ⟨x,0,U⟩),af (R ⟨q,0,U⟩)],.func (.func 167) #[] #[]] w λs w'=>(∃u v,s=aK (bD #[u,v])∧rS (ft (h_ zs gap p) (b8 zs) (eQ zs) len) len u v)∧Below w.heap.size w w':=by
 have ac:=j7 w _ N;have ay:=j7 w _ O;have ad:=j7 w _ P;have aB:=j7 w _ Q;simp only at ac ay ad aB;have S:=C aa;have T:=C ao;have ba:=C (bx N (bx O (bx P Q)));clear aa ao N O P Q;go_enter func169,ntmps169;go_wp2_with fail;go_loopw [8,9,14] (λu v i wr=>∃c:Nat,c<=len∧i=I J c∧rS (ft (h_ zs gap p) (b8 zs) (eQ zs) c) len u v∧Below w.heap.size w wr) (λ_ _ i _=>len-(intOf i).toNat);case atStart=>exact⟨0,hq _,rfl,.inl ⟨rfl,rfl,rfl⟩,Below.refl _ _⟩
 case round=>
  obtain⟨c,an,rfl,W,f⟩:=hrel;by_cases D:c<len
  ·obtain⟨b,g,ag,l,X⟩:=hI.cells (p:=c) (by rw[S.out];exact D);subst ag;have ax:(c:Int)<(len:Int):=(by omega);obtain⟨az,aC,aF,ae⟩:=X c (by rw[S.out];exact D);have bk:=(f.cell (p:=⟨b,g+c*4,U⟩) l).trans az;have bl:=(f.cell (p:=⟨b,g+c*4+1,U⟩) l).trans aC;have bn:=(f.cell (p:=⟨b,g+c*4+2,U⟩) l).trans aF;have bp:=(f.cell (p:=⟨b,g+c*4+3,U⟩) l).trans ae;have bb:=C X;have bq:=f.size;obtain⟨am,aM,ap,aO⟩:=ba.out;have k:=C (bx ((f.cell (p:=⟨q,0,U⟩) ac).trans am) (bx ((f.cell (p:=⟨y,0,U⟩) ay).trans aM) (bx ((f.cell (p:=⟨x,0,U⟩) ad).trans ap) ((f.cell (p:=⟨Z,0,U⟩) aB).trans aO))));have E:=C (show ft (h_ zs gap p) (b8 zs) (eQ zs) (c+1)=iC (h_ zs gap p) (b8 zs) (eQ zs) (ft (h_ zs gap p) (b8 zs) (eQ zs) c) c from rfl);clear az aC aF ae X am aM ap aO;have aQ:=C W;clear W;cases z:h_ zs gap p c
   ·have t:=C (show ft (h_ zs gap p) (b8 zs) (eQ zs) (c+1)=ft (h_ zs gap p) (b8 zs) (eQ zs) c by rw[E.out];unfold iC;rw[z0 (by rw[z];simp)]);have F:=C z;clear z;go_wp2_with fail;obtain⟨V,j⟩:∃V,wr.alloc (av #[I J (cat zs c).id,I ah (cat zs c).w,I ah (cat zs c).m,aE (cat zs c).r] 197)=V:=⟨_,rfl⟩;have e:Below wr.heap.size wr V:=(by rw[<-j];exact(Below.refl _ _).alloc (bM _) _);rw[j];refine(xq (cat zs c) gap p x q y _ (T.out c) h0 M (gO e (by omega) k.out.1) (gO e (by omega) k.out.2.1) (gO e (by omega) k.out.2.2.1)).mono ?_;rintro s G ⟨rfl,h⟩;have n:=C (e4 (e4 f e) h);have aw:=C (show lY (cat zs c) gap p=false from F.out);rw[aw.out];clear j e h;go_wp2;go_roundw;case rel=>exact⟨c+1,by omega,by go_num,by rw[t.out];exact aQ.out,n.out⟩
    case measure=>simp[intOf];omega
   ·have F:=C z;have aS:=C (show lY (cat zs c) gap p=true from z);clear z;rcases aQ.out with⟨o,rfl,rfl⟩|⟨d,o,H,rfl,rfl⟩
    ·have t:=C (show ft (h_ zs gap p) (b8 zs) (eQ zs) (c+1)=c by rw[E.out];unfold iC;rw[aj ⟨F.out,.inl (by omega)⟩]);clear o;go_wp2_with fail;obtain⟨V,j⟩:∃V,wr.alloc (av #[I J (cat zs c).id,I ah (cat zs c).w,I ah (cat zs c).m,aE (cat zs c).r] 197)=V:=⟨_,rfl⟩;have e:Below wr.heap.size wr V:=(by rw[<-j];exact(Below.refl _ _).alloc (bM _) _);rw[j];refine(xq (cat zs c) gap p x q y _ (T.out c) h0 M (gO e (by omega) k.out.1) (gO e (by omega) k.out.2.1) (gO e (by omega) k.out.2.2.1)).mono ?_;rintro s G ⟨rfl,h⟩;have n:=C (e4 (e4 f e) h);rw[aS.out];clear j e h;go_wp2;go_quiet (fail);go_wp2;go_roundw;case rel=>exact⟨c+1,by omega,by go_num,.inr ⟨c,t,D,by go_num,rfl⟩,(iB.drewN (iB.refl _) _).below w.heap.size|>n.trans⟩
     case measure=>simp[intOf];omega
    ·obtain⟨z0,aj,aU,aP⟩:=bb d (by rw[S.out];exact H);have aT:=(f.cell (p:=⟨b,g+d*4,U⟩) l).trans z0;have v1:=(f.cell (p:=⟨b,g+d*4+1,U⟩) l).trans aj;have aV:=(f.cell (p:=⟨b,g+d*4+2,U⟩) l).trans aU;have aZ:=(f.cell (p:=⟨b,g+d*4+3,U⟩) l).trans aP;have ai:(d:Int)<(len:Int):=(by omega);have A:=C o;have Y:=C (Mr zs c d);clear z0 aj aU aP o;go_wp2_with fail;obtain⟨V,j⟩:∃V,wr.alloc (av #[I J (cat zs c).id,I ah (cat zs c).w,I ah (cat zs c).m,aE (cat zs c).r] 197)=V:=⟨_,rfl⟩;have e:Below wr.heap.size wr V:=(by rw[<-j];exact(Below.refl _ _).alloc (bM _) _);have bc:=C (by rw[<-j];simp:wr.heap.size<V.heap.size∧V.cell? ⟨wr.heap.size,0,U⟩=R (I J (cat zs c).id)∧V.cell? ⟨wr.heap.size,1,U⟩=R (I ah (cat zs c).w)∧V.cell? ⟨wr.heap.size,2,U⟩=R (I ah (cat zs c).m)∧V.cell? ⟨wr.heap.size,3,U⟩=R (aE (cat zs c).r));rw[j];refine(xq (cat zs c) gap p x q y _ (T c) h0 M (gO e (by omega) k.1) (gO e (by omega) k.2.1) (gO e (by omega) k.2.2.1)).mono ?_;rintro s G ⟨rfl,h⟩;have n:=C (e4 (e4 f e) h);have K:=C (e4 e h);rw[aS.out];have L:b<wr.heap.size:=(by omega);obtain⟨B,ak,a6,a8,a_⟩:=bc;have br:=(h.cell (p:=⟨wr.heap.size,0,U⟩) B).trans ak;have a0:=(h.cell (p:=⟨wr.heap.size,1,U⟩) B).trans a6;have bw:=(h.cell (p:=⟨wr.heap.size,2,U⟩) B).trans a8;have a2:=(h.cell (p:=⟨wr.heap.size,3,U⟩) B).trans a_;have a3:=(K.cell (p:=⟨b,g+d*4,U⟩) L).trans aT;have a4:=(K.cell (p:=⟨b,g+d*4+1,U⟩) L).trans v1;have a5:=(K.cell (p:=⟨b,g+d*4+2,U⟩) L).trans aV;have bC:=(K.cell (p:=⟨b,g+d*4+3,U⟩) L).trans aZ;have aR:wr.heap.size<G.heap.size:=dm B h.size;have a9:b<G.heap.size:=(by omega);clear j e h ak a6 a8 a_ aT v1 aV aZ;have aD:=C (by rw[hK,<-Y.out];simp:kI (b8 zs) (eQ zs) c d=decide (kt (dC (cat zs d).w (cat zs c).w) (dC (cat zs c).id (cat zs d).id)<0));go_wp2;go_region_held3 (λW'=>W'.cell? ⟨wr.heap.size,0,U⟩=R (I J (cat zs c).id)∧W'.cell? ⟨wr.heap.size,1,U⟩=R (I ah (cat zs c).w)∧W'.cell? ⟨wr.heap.size,2,U⟩=R (I ah (cat zs c).m)∧W'.cell? ⟨wr.heap.size,3,U⟩=R (aE (cat zs c).r)∧W'.cell? ⟨b,g+d*4,U⟩=R (I J (cat zs d).id)∧W'.cell? ⟨b,g+d*4+1,U⟩=R (I ah (cat zs d).w)∧W'.cell? ⟨b,g+d*4+2,U⟩=R (I ah (cat zs d).m)∧W'.cell? ⟨b,g+d*4+3,U⟩=R (aE (cat zs d).r)) ((refine⟨?_,?_,?_,?_,?_,?_,?_,?_⟩)<;>(repeat(first|assumption|refine tO ?_|refine ku _ ?_ ?_|refine CI ?_|refine CJ ?_))) (first|(go_at_call 218;refine(BU _ _ _).mono ?_;rintro s w' ⟨rfl,rfl⟩)|(go_at_call 217;refine(BV _ _ (dC (cat zs d).w (cat zs c).w) (dC (cat zs c).id (cat zs d).id) _ ?_ ?_).mono ?_;(exact CG (by simp));(exact CH (by simp));rintro s w' ⟨rfl,rfl⟩)|(go_at_call 167;refine(BW (cat zs c) (cat zs d) _).mono ?_;rintro s w' ⟨rfl,rfl⟩));all_goals
     by_cases aq:kt (dC (cat zs d).w (cat zs c).w) (dC (cat zs c).id (cat zs d).id)<0
     ·have t:=C (E.trans (CK F A (Y.1 aq)):ft (h_ zs gap p) (b8 zs) (eQ zs) (c+1)=c);go_wp2;go_roundw;case rel=>exact⟨c+1,by omega,by go_num,.inr ⟨c,t,D,by go_num,rfl⟩,n.trans (by repeat(first|exact Below.refl _ _|refine Below.drew ?_|refine Below.alloc ?_ (by have:=n.size;first|(simp only[k4];omega)|omega) _))⟩
      case measure=>simp[intOf];omega
     ·have t:=C (E.trans (CL A (λbf=>aq (Y.2 bf))):ft (h_ zs gap p) (b8 zs) (eQ zs) (c+1)=d);go_wp2;go_roundw;case rel=>exact⟨c+1,by omega,by go_num,.inr ⟨d,t,H,by go_num,rfl⟩,n.trans (by repeat(first|exact Below.refl _ _|refine Below.drew ?_|refine Below.alloc ?_ (by have:=n.size;first|(simp only[k4];omega)|omega) _))⟩
      case measure=>simp[intOf];omega
  ·obtain rfl:c=len:=by omega
   rcases W with⟨o,rfl,rfl⟩|⟨d,o,H,rfl,rfl⟩;all_goals have A:=C o;clear o;go_wp2;go_ret2;refine⟨⟨_,_,rfl,?_⟩,f⟩
   ·exact .inl ⟨A,rfl,rfl⟩
   ·exact .inr ⟨d,A,H,rfl,rfl⟩
theorem Mu (a:Option Addr) (len cap:Nat) (zs:List dd) (gap p:Int) (Z o q z:Nat) (w:ab) (aa:zs.length=len) (hI:iD w.heap.size w (aA a len cap) zs) (ao:tP zs) (an:len<=1000000) (h0:0<=gap) (ax:gap<=18446744073709551615) (N:w.cell? ⟨o,0,U⟩=R (I ah gap)) (O:w.cell? ⟨q,0,U⟩=R (I J p)) (P:w.cell? ⟨Z,0,U⟩=R (.func (.func 164) #[] #[af (R ⟨o,0,U⟩),af (R ⟨q,0,U⟩)])) (Q:w.cell? ⟨z,0,U⟩=R (.func (.func 167) #[] #[])):Calls au 169 #[aA a len cap,.func (.func 164) #[] #[af (R ⟨o,0,U⟩),af (R ⟨q,0,U⟩)],.func (.func 170) #[] #[af (R ⟨z,0,U⟩)]] w λs w'=>(∃u v,s=aK (bD #[u,v])∧rS (ft (hy zs gap p) (jb zs) (eQ zs) len) len u v)∧Below w.heap.size w w':=by
 have ac:=j7 w _ N;have ay:=j7 w _ O;have ad:=j7 w _ P;have aB:=j7 w _ Q;simp only at ac ay ad aB;have ba:=C hI;have S:=C aa;have T:=C ao;have ag:=C (bx N (bx O (bx P Q)));clear hI aa ao N O P Q;go_enter func169,ntmps169;go_wp2_with fail;go_loopw [8,9,14] (λu v i wr=>∃c:Nat,c<=len∧i=I J c∧rS (ft (hy zs gap p) (jb zs) (eQ zs) c) len u v∧Below w.heap.size w wr) (λ_ _ i _=>len-(intOf i).toNat);case atStart=>exact⟨0,hq _,rfl,.inl ⟨rfl,rfl,rfl⟩,Below.refl _ _⟩
 case round=>
  obtain⟨c,bk,rfl,W,h⟩:=hrel;by_cases G:c<len
  ·obtain⟨b,e,bb,k,X⟩:=ba.out.cells (p:=c) (by rw[S.out];exact G);subst bb;have bl:(c:Int)<(len:Int):=(by omega);obtain⟨az,aC,aF,ae⟩:=X c (by rw[S.out];exact G);have bn:=(h.cell (p:=⟨b,e+c*4,U⟩) k).trans az;have bp:=(h.cell (p:=⟨b,e+c*4+1,U⟩) k).trans aC;have bq:=(h.cell (p:=⟨b,e+c*4+2,U⟩) k).trans aF;have ai:=(h.cell (p:=⟨b,e+c*4+3,U⟩) k).trans ae;have aw:=C X;have br:=h.size;obtain⟨am,aM,ap,aO⟩:=ag.out;have t:=C (bx ((h.cell (p:=⟨o,0,U⟩) ac).trans am) (bx ((h.cell (p:=⟨q,0,U⟩) ay).trans aM) (bx ((h.cell (p:=⟨Z,0,U⟩) ad).trans ap) ((h.cell (p:=⟨z,0,U⟩) aB).trans aO))));have H:=C (show ft (hy zs gap p) (jb zs) (eQ zs) (c+1)=iC (hy zs gap p) (jb zs) (eQ zs) (ft (hy zs gap p) (jb zs) (eQ zs) c) c from rfl);clear az aC aF ae X am aM ap aO;have x:=C h;clear h;have aQ:=C W;clear W;cases A:hy zs gap p c
   ·have y:=C (show ft (hy zs gap p) (jb zs) (eQ zs) (c+1)=ft (hy zs gap p) (jb zs) (eQ zs) c by rw[H.out];unfold iC;rw[z0 (by rw[A];simp)]);have K:=C A;clear A;go_wp2_with fail;obtain⟨V,j⟩:∃V,wr.alloc (av #[I J (cat zs c).id,I ah (cat zs c).w,I ah (cat zs c).m,aE (cat zs c).r] 197)=V:=⟨_,rfl⟩;have f:Below wr.heap.size wr V:=(by rw[<-j];exact(Below.refl _ _).alloc (bM _) _);rw[j];refine(rR (cat zs c) gap p o q _ (T.out c) (gO f (by omega) t.out.1) (gO f (by omega) t.out.2.1)).mono ?_;rintro s D ⟨rfl,g⟩;have l:=C (e4 (e4 x.out f) g);have bc:=C (show gG (cat zs c) gap p=false from K.out);rw[bc.out];clear j f g;go_wp2;go_roundw;case rel=>exact⟨c+1,by omega,by go_num,by rw[y.out];exact aQ.out,l.out⟩
    case measure=>simp[intOf];omega
   ·have K:=C A;have aS:=C (show gG (cat zs c) gap p=true from A);clear A;rcases aQ.out with⟨n,rfl,rfl⟩|⟨d,n,L,rfl,rfl⟩
    ·have y:=C (show ft (hy zs gap p) (jb zs) (eQ zs) (c+1)=c by rw[H.out];unfold iC;rw[aj ⟨K.out,.inl (by omega)⟩]);clear n;go_wp2_with fail;obtain⟨V,j⟩:∃V,wr.alloc (av #[I J (cat zs c).id,I ah (cat zs c).w,I ah (cat zs c).m,aE (cat zs c).r] 197)=V:=⟨_,rfl⟩;have f:Below wr.heap.size wr V:=(by rw[<-j];exact(Below.refl _ _).alloc (bM _) _);rw[j];refine(rR (cat zs c) gap p o q _ (T.out c) (gO f (by omega) t.out.1) (gO f (by omega) t.out.2.1)).mono ?_;rintro s D ⟨rfl,g⟩;have l:=C (e4 (e4 x.out f) g);rw[aS.out];clear j f g;go_wp2;go_quiet (fail);go_wp2;go_roundw;case rel=>exact⟨c+1,by omega,by go_num,.inr ⟨c,y,G,by go_num,rfl⟩,(iB.drewN (iB.refl _) _).below w.heap.size|>l.trans⟩
     case measure=>simp[intOf];omega
    ·obtain⟨z0,aj,aU,aP⟩:=aw d (by rw[S.out];exact L);have aT:=(x.cell (p:=⟨b,e+d*4,U⟩) k).trans z0;have v1:=(x.cell (p:=⟨b,e+d*4+1,U⟩) k).trans aj;have aV:=(x.cell (p:=⟨b,e+d*4+2,U⟩) k).trans aU;have aZ:=(x.cell (p:=⟨b,e+d*4+3,U⟩) k).trans aP;have a0:(d:Int)<(len:Int):=(by omega);have E:=C n;have Y:=C (Ms zs c d);clear z0 aj aU aP n;go_wp2_with fail;obtain⟨V,j⟩:∃V,wr.alloc (av #[I J (cat zs c).id,I ah (cat zs c).w,I ah (cat zs c).m,aE (cat zs c).r] 197)=V:=⟨_,rfl⟩;have f:Below wr.heap.size wr V:=(by rw[<-j];exact(Below.refl _ _).alloc (bM _) _);have bf:=C (by rw[<-j];simp:wr.heap.size<V.heap.size∧V.cell? ⟨wr.heap.size,0,U⟩=R (I J (cat zs c).id)∧V.cell? ⟨wr.heap.size,1,U⟩=R (I ah (cat zs c).w)∧V.cell? ⟨wr.heap.size,2,U⟩=R (I ah (cat zs c).m)∧V.cell? ⟨wr.heap.size,3,U⟩=R (aE (cat zs c).r));rw[j];refine(rR (cat zs c) gap p o q _ (T c) (gO f (by omega) t.1) (gO f (by omega) t.2.1)).mono ?_;rintro s D ⟨rfl,g⟩;have l:=C (e4 (e4 x f) g);have B:=C (e4 f g);rw[aS.out];have M:b<wr.heap.size:=(by omega);obtain⟨F,ak,a6,a8,a_⟩:=bf;have bw:=(g.cell (p:=⟨wr.heap.size,0,U⟩) F).trans ak;have a2:=(g.cell (p:=⟨wr.heap.size,1,U⟩) F).trans a6;have a3:=(g.cell (p:=⟨wr.heap.size,2,U⟩) F).trans a8;have a4:=(g.cell (p:=⟨wr.heap.size,3,U⟩) F).trans a_;have a5:=(B.cell (p:=⟨b,e+d*4,U⟩) M).trans aT;have bC:=(B.cell (p:=⟨b,e+d*4+1,U⟩) M).trans v1;have aR:=(B.cell (p:=⟨b,e+d*4+2,U⟩) M).trans aV;have a9:=(B.cell (p:=⟨b,e+d*4+3,U⟩) M).trans aZ;have aD:=gO B (by omega) t.2.2.2;have bG:z<D.heap.size:=(by have:=B.size;omega);have bH:wr.heap.size<D.heap.size:=dm F g.size;have bd:b<D.heap.size:=(by omega);clear j f g ak a6 a8 a_ aT v1 aV aZ;have be:=C (by rw[hK,<-Y.out];simp:kI (jb zs) (eQ zs) c d=decide (kt (-dC (cat zs d).w (cat zs c).w) (dC (cat zs c).id (cat zs d).id)<0));go_wp2;go_region_held3 (λW'=>W'.cell? ⟨wr.heap.size,0,U⟩=R (I J (cat zs c).id)∧W'.cell? ⟨wr.heap.size,1,U⟩=R (I ah (cat zs c).w)∧W'.cell? ⟨wr.heap.size,2,U⟩=R (I ah (cat zs c).m)∧W'.cell? ⟨wr.heap.size,3,U⟩=R (aE (cat zs c).r)∧W'.cell? ⟨b,e+d*4,U⟩=R (I J (cat zs d).id)∧W'.cell? ⟨b,e+d*4+1,U⟩=R (I ah (cat zs d).w)∧W'.cell? ⟨b,e+d*4+2,U⟩=R (I ah (cat zs d).m)∧W'.cell? ⟨b,e+d*4+3,U⟩=R (aE (cat zs d).r)∧W'.cell? ⟨z,0,U⟩=R (.func (.func 167) #[] #[])) ((refine⟨?_,?_,?_,?_,?_,?_,?_,?_,?_⟩)<;>(repeat(first|assumption|refine tO ?_|refine ku _ ?_ ?_|refine CI ?_|refine CJ ?_))) (first|(go_at_call 218;refine(BU _ _ _).mono ?_;rintro s w' ⟨rfl,rfl⟩)|(go_at_call 217;refine(BV _ _ (-dC (cat zs d).w (cat zs c).w) (dC (cat zs c).id (cat zs d).id) _ ?_ ?_).mono ?_;(exact CG (by simp));(exact CH (by simp));rintro s w' ⟨rfl,rfl⟩)|(go_at_call 170;refine(KQ (cat zs c) (cat zs d) z _ ?_).mono ?_;(simp[*]);rintro s w' ⟨rfl,rfl⟩));all_goals
     by_cases aq:kt (-dC (cat zs d).w (cat zs c).w) (dC (cat zs c).id (cat zs d).id)<0
     ·have y:=C (H.trans (CK K E (Y.1 aq)):ft (hy zs gap p) (jb zs) (eQ zs) (c+1)=c);go_wp2;go_roundw;case rel=>exact⟨c+1,by omega,by go_num,.inr ⟨c,y,G,by go_num,rfl⟩,l.trans (by repeat(first|exact Below.refl _ _|refine Below.drew ?_|refine Below.alloc ?_ (by have:=l.size;first|(simp only[k4];omega)|omega) _))⟩
      case measure=>simp[intOf];omega
     ·have y:=C (H.trans (CL E (λbg=>aq (Y.2 bg))):ft (hy zs gap p) (jb zs) (eQ zs) (c+1)=d);go_wp2;go_roundw;case rel=>exact⟨c+1,by omega,by go_num,.inr ⟨d,y,L,by go_num,rfl⟩,l.trans (by repeat(first|exact Below.refl _ _|refine Below.drew ?_|refine Below.alloc ?_ (by have:=l.size;first|(simp only[k4];omega)|omega) _))⟩
      case measure=>simp[intOf];omega
  ·obtain rfl:c=len:=by omega
   rcases W with⟨n,rfl,rfl⟩|⟨d,n,L,rfl,rfl⟩;all_goals have E:=C n;clear n;go_wp2;go_ret2;refine⟨⟨_,_,rfl,?_⟩,h⟩
   ·exact .inl ⟨E,rfl,rfl⟩
   ·exact .inr ⟨d,E,L,rfl,rfl⟩
theorem tQ {cs:Array Value} {t:Nat} (h:b=W.heap.size):(W.alloc (av cs t)).cell? ⟨b,j,U⟩=cs[j]?:=by subst h;exact World.cell?_alloc_at cs t _ j rfl
theorem Mv {a b:Int} (c:lF a) (d:lF b):lF (jc a b):=by unfold jc lF at*;split<;>omega
theorem Mw (a:Option Addr) (len cap:Nat) (zs:List dd) (fr b p:Int) (w:ab) (H:zs.length=len) (hI:iD w.heap.size w (aA a len cap) zs) (K:tP zs) (q:len<=1000000) (i:lF fr) (j:lF b):Calls au 114 #[aA a len cap,I ah fr,I ah b,I J p] w λg w'=>(∃u v,g=aK (bD #[u,v])∧rS (lj zs (jc fr b) p) len u v)∧Below w.heap.size w w':=by
 have h:=C H;have r:=C K;have L:=Mv i j;obtain⟨s,W⟩:=L;have t:=C (show lj zs (jc fr b) p=if 0<=lZ zs (jc fr b) p then lZ zs (jc fr b) p else qB zs (jc fr b) p from rfl);have M:=C (KG fr b · i.1 j.1 i.2 j.2);generalize jc fr b=gap at*;go_enter func114,ntmps114;go_wp2_with fail;refine(M.out _).mono ?_;rintro g w' ⟨rfl,rfl⟩;go_wp2_with fail;have N:Below w.heap.size w (w.alloc (av #[I J p] 3)):=(Below.refl _ _).alloc (bM _) _;obtain⟨V,c⟩:∃V,(((w.alloc (av #[I J p] 3)).alloc (av #[I ah gap] 31)).alloc (av #[.func (.func 164) #[] #[af (R ⟨w.heap.size+1,0,U⟩),af (R ⟨w.heap.size,0,U⟩)]] 262)).alloc (av #[.func (.func 167) #[] #[]] 264)=V:=⟨_,rfl⟩;have x:Below w.heap.size w V:=by rw[<-c];exact(((N.alloc (by simp) _).alloc (by simp<;>omega) _).alloc (by simp<;>omega) _)
 have y:V.cell? ⟨w.heap.size,0,U⟩=R (I J p):=by rw[<-c];exact ku _ (by simp<;>omega) (ku _ (by simp<;>omega) (ku _ (by simp<;>omega) ((tQ rfl).trans rfl)))
 have z:V.cell? ⟨w.heap.size+1,0,U⟩=R (I ah gap):=by rw[<-c];exact ku _ (by simp<;>omega) (ku _ (by simp<;>omega) ((tQ (by simp)).trans rfl))
 have A:V.cell? ⟨w.heap.size+1+1,0,U⟩=R (.func (.func 164) #[] #[af (R ⟨w.heap.size+1,0,U⟩),af (R ⟨w.heap.size,0,U⟩)]):=by rw[<-c];exact ku _ (by simp<;>omega) ((tQ (by simp)).trans rfl)
 have B:V.cell? ⟨w.heap.size+1+1+1,0,U⟩=R (.func (.func 167) #[] #[]):=by rw[<-c];exact(tQ (by simp)).trans rfl
 have X:w.heap.size+4<=V.heap.size:=by rw[<-c];simp<;>omega
 have D:=C (iD.next x hI);rw[c];refine(Mt a len cap zs gap p _ _ _ (w.heap.size+1+1+1) _ h.out D.out r.out q s (by omega) z y A B).mono ?_;rintro g Y ⟨⟨u,v,rfl,e⟩,d⟩;have O:=C (iD.next d D.out);have k:=gO d (by omega) y;have l:=gO d (by omega) z;have m:=gO d (by omega) A;have n:=gO d (by omega) B;have E:=C (e4 x d);have P:=C (show ft (h_ zs gap p) (b8 zs) (eQ zs) len=lZ zs gap p by unfold lZ;rw[h.out]);rw[P.out] at e;rcases e with⟨f,rfl,rfl⟩|⟨F,f,Q,rfl,rfl⟩;·have o:=C (show lj zs gap p=qB zs gap p by rw[t.out,f,z0 (by omega)]);clear f;go_wp2_with fail;refine(Mu a len cap zs gap p (w.heap.size+1+1) _ _ _ _ h.out O.out r.out q s (by omega) l k m n).mono ?_;rintro g Z ⟨⟨u,v,rfl,e⟩,G⟩;have S:=C (e4 E.out G);have T:=C e;clear G e k l m n;go_wp2;go_ret2;refine⟨⟨_,_,rfl,?_⟩,S.out⟩;have:=T.out;rw[o.out];unfold qB;rw[h.out];exact this
 ·have o:=C (by rw[t.out,f,aj (by omega)]:lj zs gap p=F);clear f k l m n;go_wp2;go_ret2;exact⟨⟨_,_,rfl,.inr ⟨F,o,Q,rfl,rfl⟩⟩,E⟩
section
open Go.ChangeAt Go.ChangeShapes Go.WideShapes
def xK (w:ab) (a:Option Addr) (len cap:Nat) (zs:List bT):Prop:=len<=cap∧cap<=maxLen∧Rd iX w.heap.size w a len zs∧∀e∈zs,e.Ok
end
end Go.Proofs.YtddbkdjcjoofpaaGreatDoor
