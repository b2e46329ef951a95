import Derived.Test.YtddbkdjcjoofpaaGreatDoorLA
import Derived.Test.YtddbkdjcjoofpaaGreatDoorLD
import Derived.Shelf.Small.Wraps
import Derived.Shelf.LaysM
import Derived.Shelf.Strconv.Itoa4
import Derived.Shelf.LaysC
import Derived.Shelf.Strconv.ParseIntPublic10
import Derived.Shelf.Strconv.ErrVarParseInt
import Derived.Shelf.Strings.SplitShaped
import Derived.Test.YtddbkdjcjoofpaaGreatDoorRows
import Derived.Stop.LaidErr
import Derived.Lib.LaidTab
import Derived.ShapedOpen
import Derived.Deep.RegionWith
import Derived.IntWalk
import Derived.Laws.BitsAllLaws
import Derived.Lib.OthersKept
import Derived.Laws.RangeAny
import Derived.Lib.TrailingZeros
import Derived.Lib.ConvBytes
import Derived.Lib.SplitLaws
import Derived.Lib.CountLaws
import Derived.Laws.BytesArg
import Derived.Lib.SlicesS
import Derived.Lib.AppendStr
import Derived.Lib.Slices
import Derived.Lib.Walk
import Derived.Lib.Builder
import Derived.Lib.UnsafeStr
import Derived.Lib.MakeNoZero
import Derived.Laws.Externs
import Derived.Laws.IdiomCopy
import Derived.Laws.BitsLemmas
import Derived.StillTailTactics
import Derived.StillTactics
import Derived.OwnWalk
import Derived.Laws.Pointers
import Derived.Deep.AppendLies
import Derived.Shelf.RegionOpen
import Derived.OwnWalkIn
import Derived.TacticsInMore
import Derived.LoopNIn
import Derived.LoopIn
import Derived.Shelf.SlIterI.Sorted
import Derived.Ground.GgzProg
import Derived.Lib.SlicesCompact
import Derived.Lib.SlKeysI
import Derived.OpenShut
import Derived.OneCell
import Derived.Test.YtddbkdjcjoofpaaGreatDoorChecked
import Derived.Laws.EntriesVeiled
import Derived.ProofKit
import Derived.DataReads
import Derived.ChangeSame
import Derived.Lib.SmallJoins
namespace Go.Proofs.YtddbkdjcjoofpaaGreatDoor
set_option linter.unusedVariables false
set_option linter.unusedSimpArgs false
set_option maxRecDepth 100000
set_option maxHeartbeats 20000000
open _root_.Go.Proofs.Tryz Go.RowKit
open Go renaming World→ab
open _root_.Go.Proofs.Tryz renaming prog→au
open Option renaming none→U,some→R
open _root_.Go.Value renaming int→I,pointer→af,slice→ay,bool→aD,agg→bk,tuple→bC
open _root_.Go.IntKind renaming i64→J,u64→ah,wrap_u64→ni
open _root_.Go.Obj renaming cells→av
open _root_.Go.Ending renaming returned→aK
open _root_.Nat renaming le_refl→bK,le_trans→cA,lt_of_lt_of_le→dd,zero_add→lZ,mul_le_mul_right→n3,add_mul→pE,lt_or_ge→nm,pow_le_pow_right→sf,zero_le→gN,lt_of_le_of_lt→n9,reduceSub→jM,reduceAdd→jN
open _root_.Array renaming getElem?_eq_some_iff→iZ,replicate_zero→jF,replicate_succ→jG
open _root_.Go.World renaming cell?_of_block→lq,alloc→kn,cell?_setCell_other→i_,cell?_setCell_same'→nX,frozen?_setCell→nZ,size_alloc→lr,block_lt_of_cell?→jv
open _root_.Go renaming World→ab
open _root_.List renaming getElem?_eq_getElem→b5,getElem?_map→dD,map_cons→km,length_eq_zero_iff→nY,drop_eq_getElem_cons→px,getElem?_eq_some_iff→bD,length_cons→dX,length_append→eX,isEmpty_iff→pA,take_of_length_le→uZ,mem_map→eY,cons_append→gM,mem_cons→gZ,mem_iff_getElem?→lp,getD_eq_getElem?_getD→dy,getElem?_toArray→fg,mem_of_getElem?→ea,length_map→dY,map_append→iI,range→gi,replicate→gY,nodup_iff_pairwise_ne→qn,mem_range→pB,length_set→eg,mem_iff_getElem→u_,range_succ→oa,length_nil→hM,nil_append→jc,append_toArray→jH,size_toArray→jJ,push_toArray→jK,take_length→hL,length_take→iG,pairwise_iff_getElem→qp,set_append_right→n1
open _root_.UInt8 renaming toNat→pD
open _root_.Bool renaming eq_iff_iff→hN,and_eq_true→jb,or_eq_true→ob
open _root_.And renaming intro→br
open _root_.Int renaming toNat_natCast→bZ,eq_ofNat_of_zero_le→dS,tmod_eq_emod_of_nonneg→qo
variable {b n g p j c:Nat} {w w':ab} {v:Value} {a:Option Addr} {zs:List Int}
section
open Go.Shelf
def vf:String:=(YtddbkdjcjoofpaaGreatDoor.Rows.topLedgerRow.laid.getD 2 ("",.nil)).1
def DW:Go.Shelf.Ren:=⟨λ|104=>67|211=>122|207=>180|n=>n,λ|9=>9|4=>4|24=>133|3=>3|n=>n,λ|n=>n⟩
theorem DX:Go.Proofs.Lays.n104 au DW:={
 mixed:=by kernel_rfl
 f104:=func67.trans (congrArg R (by kernel_rfl))
 f207:=func180.trans (congrArg R (by kernel_rfl))
 f211:=func122.trans (congrArg R (by kernel_rfl))
 t3:=underlying3
 a3:=isAgg3
 z3:=sizeOf3
 v3:=zeroValue3
 t4:=underlying4
 a4:=isAgg4
 z4:=sizeOf4
 v4:=zeroValue4
 t9:=underlying9
 a9:=isAgg9
 z9:=sizeOf9
 v9:=zeroValue9
 t24:=underlying133
 a24:=isAgg133
 z24:=sizeOf133
 v24:=zeroValue133}
open Go.RowKit in
theorem strings_CutSuffix (s p:ByteArray) (w:ab) (a:s.size<=9223372036854775807):Calls au 67 #[.string s,.string p] w λb w'=>b=aK (bC #[.string ⟨(Lib.trimSuffix s.data.toList p.data.toList).toArray⟩,aD (Lib.hasSuffix s.data.toList p.data.toList)])∧w'=w:=Any.strings_CutSuffix DX s p w a
def DY:Go.Shelf.Ren:=⟨λ|174=>228|247=>250|245=>251|287=>267|279=>268|280=>269|281=>270|282=>271|321=>287|322=>288|316=>289|171=>291|205=>290|243=>301|246=>252|283=>272|284=>273|285=>274|286=>275|129=>232|317=>292|318=>293|319=>294|320=>295|337=>302|338=>303|n=>n,λ|9=>9|3=>3|2=>2|75=>301|85=>327|4=>4|167=>356|5=>5|53=>31|175=>357|46=>92|168=>359|37=>365|0=>0|210=>380|21=>21|127=>390|145=>393|143=>391|171=>363|173=>366|212=>383|51=>353|20=>20|213=>384|232=>397|233=>398|80=>399|n=>n,λ|15=>5|16=>6|17=>7|18=>8|19=>9|n=>n⟩
theorem vg:Go.Proofs.LaysC.n174 au DY:={
 mixed:=by kernel_rfl
 f129:=func232.trans (congrArg R (by kernel_rfl))
 f171:=func291.trans (congrArg R (by kernel_rfl))
 f174:=func228.trans (congrArg R (by kernel_rfl))
 f205:=func290.trans (congrArg R (by kernel_rfl))
 f243:=func301.trans (congrArg R (by kernel_rfl))
 f245:=func251.trans (congrArg R (by kernel_rfl))
 f246:=func252.trans (congrArg R (by kernel_rfl))
 f247:=func250.trans (congrArg R (by kernel_rfl))
 f279:=func268.trans (congrArg R (by kernel_rfl))
 f280:=func269.trans (congrArg R (by kernel_rfl))
 f281:=func270.trans (congrArg R (by kernel_rfl))
 f282:=func271.trans (congrArg R (by kernel_rfl))
 f283:=func272.trans (congrArg R (by kernel_rfl))
 f284:=func273.trans (congrArg R (by kernel_rfl))
 f285:=func274.trans (congrArg R (by kernel_rfl))
 f286:=func275.trans (congrArg R (by kernel_rfl))
 f287:=func267.trans (congrArg R (by kernel_rfl))
 f316:=func289.trans (congrArg R (by kernel_rfl))
 f317:=func292.trans (congrArg R (by kernel_rfl))
 f318:=func293.trans (congrArg R (by kernel_rfl))
 f319:=func294.trans (congrArg R (by kernel_rfl))
 f320:=func295.trans (congrArg R (by kernel_rfl))
 f321:=func287.trans (congrArg R (by kernel_rfl))
 f322:=func288.trans (congrArg R (by kernel_rfl))
 f337:=func302.trans (congrArg R (by kernel_rfl))
 f338:=func303.trans (congrArg R (by kernel_rfl))
 t0:=underlying0
 a0:=isAgg0
 z0:=sizeOf0
 v0:=zeroValue0
 t2:=underlying2
 a2:=isAgg2
 z2:=sizeOf2
 v2:=zeroValue2
 t3:=underlying3
 a3:=isAgg3
 z3:=sizeOf3
 v3:=zeroValue3
 t4:=underlying4
 a4:=isAgg4
 z4:=sizeOf4
 v4:=zeroValue4
 t5:=underlying5
 a5:=isAgg5
 z5:=sizeOf5
 v5:=zeroValue5
 t9:=underlying9
 a9:=isAgg9
 z9:=sizeOf9
 v9:=zeroValue9
 t20:=underlying20
 a20:=isAgg20
 z20:=sizeOf20
 v20:=zeroValue20
 t21:=underlying21
 a21:=isAgg21
 z21:=sizeOf21
 v21:=zeroValue21
 t37:=underlying365
 a37:=isAgg365
 z37:=sizeOf365
 v37:=zeroValue365
 t46:=underlying92
 a46:=isAgg92
 z46:=sizeOf92
 v46:=zeroValue92
 t51:=underlying353
 a51:=isAgg353
 z51:=sizeOf353
 v51:=zeroValue353
 t53:=underlying31
 a53:=isAgg31
 z53:=sizeOf31
 v53:=zeroValue31
 t75:=underlying301
 a75:=isAgg301
 z75:=sizeOf301
 v75:=zeroValue301
 t85:=underlying327
 a85:=isAgg327
 z85:=sizeOf327
 v85:=zeroValue327
 t127:=underlying390
 a127:=isAgg390
 z127:=sizeOf390
 v127:=zeroValue390
 t143:=underlying391
 a143:=isAgg391
 z143:=sizeOf391
 v143:=zeroValue391
 t145:=underlying393
 a145:=isAgg393
 z145:=sizeOf393
 v145:=zeroValue393
 t167:=underlying356
 a167:=isAgg356
 z167:=sizeOf356
 v167:=zeroValue356
 t168:=underlying359
 a168:=isAgg359
 z168:=sizeOf359
 v168:=zeroValue359
 t171:=underlying363
 a171:=isAgg363
 z171:=sizeOf363
 v171:=zeroValue363
 t173:=underlying366
 a173:=isAgg366
 z173:=sizeOf366
 v173:=zeroValue366
 t175:=underlying357
 a175:=isAgg357
 z175:=sizeOf357
 v175:=zeroValue357
 t210:=underlying380
 a210:=isAgg380
 z210:=sizeOf380
 v210:=zeroValue380
 t212:=underlying383
 a212:=isAgg383
 z212:=sizeOf383
 v212:=zeroValue383
 t213:=underlying384
 a213:=isAgg384
 z213:=sizeOf384
 t232:=underlying397
 a232:=isAgg397
 z232:=sizeOf397
 v232:=zeroValue397
 t233:=underlying398
 a233:=isAgg398
 z233:=sizeOf398
 v233:=zeroValue398
 g15:=by kernel_rfl
 g16:=by kernel_rfl
 g17:=by kernel_rfl
 g18:=by kernel_rfl
 g19:=by kernel_rfl
 t80:=underlying399
 a80:=isAgg399
 z80:=sizeOf399
 v80:=zeroValue399
 i0:=by kernel_rfl
 i2:=by kernel_rfl
 i3:=by kernel_rfl
 i4:=by kernel_rfl
 i5:=by kernel_rfl
 i9:=by kernel_rfl
 i20:=by kernel_rfl
 i21:=by kernel_rfl
 i37:=by kernel_rfl
 i46:=by kernel_rfl
 i51:=by kernel_rfl
 i53:=by kernel_rfl
 i75:=by kernel_rfl
 i80:=by kernel_rfl
 i85:=by kernel_rfl
 i127:=by kernel_rfl
 i143:=by kernel_rfl
 i145:=by kernel_rfl
 i167:=by kernel_rfl
 i168:=by kernel_rfl
 i171:=by kernel_rfl
 i173:=by kernel_rfl
 i175:=by kernel_rfl
 i210:=by kernel_rfl
 i212:=by kernel_rfl
 i232:=by kernel_rfl
 i233:=by kernel_rfl
 m15:=by kernel_rfl
 m16:=by kernel_rfl
 m17:=by kernel_rfl
 m18:=by kernel_rfl
 m19:=by kernel_rfl
 c0:=by kernel_rfl
 c2:=by kernel_rfl
 c3:=by kernel_rfl
 c4:=by kernel_rfl
 c5:=by kernel_rfl
 c9:=by kernel_rfl
 c20:=by kernel_rfl
 c21:=by kernel_rfl
 c37:=by kernel_rfl
 c46:=by kernel_rfl
 c51:=by kernel_rfl
 c53:=by kernel_rfl
 c75:=by kernel_rfl
 c80:=by kernel_rfl
 c85:=by kernel_rfl
 c127:=by kernel_rfl
 c143:=by kernel_rfl
 c145:=by kernel_rfl
 c167:=by kernel_rfl
 c168:=by kernel_rfl
 c171:=by kernel_rfl
 c173:=by kernel_rfl
 c175:=by kernel_rfl
 c210:=by kernel_rfl
 c212:=by kernel_rfl
 c213:=by kernel_rfl
 c232:=by kernel_rfl
 c233:=by kernel_rfl}
open Go.RowKit in
theorem strconv_ParseInt_10_at64_ok (s:ByteArray) (a:s.size<=9223372036854775806) (v:Int) (h:Lib.parseIntB 64 s.data.toList= .ok v) (w:ab):Calls au 228 #[.string s,I J 10,I J 64] w λb w'=>b=aK (bC #[I J v,.nilIface])∧(w'=w∨∃c,w'=Lib.bytesWorld w 5 c):=Any.strconv_ParseInt_10_at64_ok vg s a v h w
open Go.RowKit in
theorem strconv_ParseInt_10_at64_syntax_var (s:ByteArray) (c:s.size<=281474976710656) (h:Lib.parseIntB 64 s.data.toList=Lib.parseIntB 64 []) (a:TypeId) (p:Value) (w:ab) (d:w.var? au "strconv.ErrSyntax"=R #[.iface a p]):Calls au 228 #[.string s,I J 10,I J 64] w λe w'=>∃b,e=aK (bC #[I J (0),.iface 359 (af (R ⟨b,0,U⟩))])∧w.heap.size<=b∧w'.heap[b]?=R (av #[.string ⟨#[80,97,114,115,101,73,110,116]⟩,.string s,.iface a p] 380 (0,0))∧Below w.heap.size w w':=Any.strconv_ParseInt_10_at64_syntax_var vg s c h a p w d
open Go.RowKit in
theorem strconv_ParseInt_10_at64_range_var (s:ByteArray) (c:s.size<=281474976710656) (h:Lib.parseIntB 64 s.data.toList= .range) (a:TypeId) (p:Value) (w:ab) (d:w.var? au "strconv.ErrRange"=R #[.iface a p]):Calls au 228 #[.string s,I J 10,I J 64] w λe w'=>∃b,e=aK (bC #[I J (Lib.intSat 64 s.data.toList),.iface 359 (af (R ⟨b,0,U⟩))])∧w.heap.size<=b∧w'.heap[b]?=R (av #[.string ⟨#[80,97,114,115,101,73,110,116]⟩,.string s,.iface a p] 380 (0,0))∧Below w.heap.size w w':=Any.strconv_ParseInt_10_at64_range_var vg s c h a p w d
def DZ:Go.Shelf.Ren:=⟨λ|146=>68|221=>123|268=>181|138=>182|143=>183|195=>222|197=>223|218=>224|219=>225|260=>243|217=>244|225=>245|224=>246|267=>247|266=>265|314=>266|n=>n,λ|9=>9|31=>135|3=>3|4=>4|0=>0|105=>320|21=>21|5=>5|46=>92|119=>349|139=>352|138=>351|146=>354|51=>353|n=>n,λ|1=>2|3=>3|4=>4|n=>n⟩
theorem vh:Go.Proofs.LaysM.n146 au DZ:={
 mixed:=by kernel_rfl
 f138:=func182.trans (congrArg R (by kernel_rfl))
 f143:=func183.trans (congrArg R (by kernel_rfl))
 f146:=func68.trans (congrArg R (by kernel_rfl))
 f195:=func222.trans (congrArg R (by kernel_rfl))
 f197:=func223.trans (congrArg R (by kernel_rfl))
 f217:=func244.trans (congrArg R (by kernel_rfl))
 f218:=func224.trans (congrArg R (by kernel_rfl))
 f219:=func225.trans (congrArg R (by kernel_rfl))
 f221:=func123.trans (congrArg R (by kernel_rfl))
 f224:=func246.trans (congrArg R (by kernel_rfl))
 f225:=func245.trans (congrArg R (by kernel_rfl))
 f260:=func243.trans (congrArg R (by kernel_rfl))
 f266:=func265.trans (congrArg R (by kernel_rfl))
 f267:=func247.trans (congrArg R (by kernel_rfl))
 f268:=func181.trans (congrArg R (by kernel_rfl))
 f314:=func266.trans (congrArg R (by kernel_rfl))
 t0:=underlying0
 a0:=isAgg0
 z0:=sizeOf0
 v0:=zeroValue0
 t3:=underlying3
 a3:=isAgg3
 z3:=sizeOf3
 v3:=zeroValue3
 t4:=underlying4
 a4:=isAgg4
 z4:=sizeOf4
 v4:=zeroValue4
 t5:=underlying5
 a5:=isAgg5
 z5:=sizeOf5
 v5:=zeroValue5
 t9:=underlying9
 a9:=isAgg9
 z9:=sizeOf9
 v9:=zeroValue9
 t21:=underlying21
 a21:=isAgg21
 z21:=sizeOf21
 v21:=zeroValue21
 t31:=underlying135
 a31:=isAgg135
 z31:=sizeOf135
 v31:=zeroValue135
 t46:=underlying92
 a46:=isAgg92
 z46:=sizeOf92
 v46:=zeroValue92
 t51:=underlying353
 a51:=isAgg353
 z51:=sizeOf353
 v51:=zeroValue353
 t105:=underlying320
 a105:=isAgg320
 z105:=sizeOf320
 v105:=zeroValue320
 t119:=underlying349
 a119:=isAgg349
 z119:=sizeOf349
 t138:=underlying351
 a138:=isAgg351
 z138:=sizeOf351
 v138:=zeroValue351
 t139:=underlying352
 a139:=isAgg352
 z139:=sizeOf352
 v139:=zeroValue352
 t146:=underlying354
 a146:=isAgg354
 z146:=sizeOf354
 v146:=zeroValue354
 g1:=by kernel_rfl
 g3:=by kernel_rfl
 g4:=by kernel_rfl
 i0:=by kernel_rfl
 i3:=by kernel_rfl
 i4:=by kernel_rfl
 i5:=by kernel_rfl
 i9:=by kernel_rfl
 i21:=by kernel_rfl
 i31:=by kernel_rfl
 i46:=by kernel_rfl
 i51:=by kernel_rfl
 i105:=by kernel_rfl
 i138:=by kernel_rfl
 i139:=by kernel_rfl
 i146:=by kernel_rfl
 m1:=by kernel_rfl
 s1_3:=λw h=>Go.Proofs.cell_of_shapedOpen_int (zero:=#[.int .i64 0]) (t:=3) h (of_decide_eq_true (by kernel_rfl)) (by kernel_rfl) rfl (by kernel_rfl) (by kernel_rfl) underlying3
 m3:=by kernel_rfl
 m4:=by kernel_rfl}
def D0:Go.Shelf.Ren:=⟨λ|109=>124|n=>n,λ|31=>135|9=>9|3=>3|0=>0|4=>4|n=>n,λ|n=>n⟩
theorem D1:Go.Proofs.Lays.n109 au D0:={
 mixed:=by kernel_rfl
 f109:=func124.trans (congrArg R (by kernel_rfl))
 t0:=underlying0
 a0:=isAgg0
 z0:=sizeOf0
 v0:=zeroValue0
 t3:=underlying3
 a3:=isAgg3
 z3:=sizeOf3
 v3:=zeroValue3
 t4:=underlying4
 a4:=isAgg4
 z4:=sizeOf4
 v4:=zeroValue4
 t9:=underlying9
 a9:=isAgg9
 z9:=sizeOf9
 v9:=zeroValue9
 t31:=underlying135
 a31:=isAgg135
 z31:=sizeOf135
 v31:=zeroValue135}
open Go.Lib in
theorem slices_Index_string (b a n c:Nat) (zs:List ByteArray) (x:ByteArray) (w:ab) (d:n<=zs.length) (e:n<=9223372036854775807) (f:∀j,j<zs.length->w.cell? ⟨b,a+j,U⟩=R (.string (zs.getD j ByteArray.empty))):Calls au 124 #[ay (R ⟨b,a,U⟩) n c,.string x] w λg w'=>g=aK (I J (Lib.idxOfS (zs.take n) x))∧w'=w:=Any.slices_Index_string D1 b a n c zs x w d e f
def D2:Go.Shelf.Ren:=⟨λ|173=>229|246=>252|283=>272|284=>273|285=>274|286=>275|129=>232|317=>292|318=>293|319=>294|320=>295|337=>302|338=>303|n=>n,λ|2=>2|3=>3|9=>9|4=>4|171=>363|0=>0|53=>31|37=>365|5=>5|173=>366|212=>383|51=>353|20=>20|213=>384|46=>92|232=>397|233=>398|n=>n,λ|17=>7|18=>8|19=>9|n=>n⟩
theorem D3:Go.Proofs.LaysM.n173 au D2:={
 mixed:=by kernel_rfl
 f129:=func232.trans (congrArg R (by kernel_rfl))
 f173:=func229.trans (congrArg R (by kernel_rfl))
 f246:=func252.trans (congrArg R (by kernel_rfl))
 f283:=func272.trans (congrArg R (by kernel_rfl))
 f284:=func273.trans (congrArg R (by kernel_rfl))
 f285:=func274.trans (congrArg R (by kernel_rfl))
 f286:=func275.trans (congrArg R (by kernel_rfl))
 f317:=func292.trans (congrArg R (by kernel_rfl))
 f318:=func293.trans (congrArg R (by kernel_rfl))
 f319:=func294.trans (congrArg R (by kernel_rfl))
 f320:=func295.trans (congrArg R (by kernel_rfl))
 f337:=func302.trans (congrArg R (by kernel_rfl))
 f338:=func303.trans (congrArg R (by kernel_rfl))
 t0:=underlying0
 a0:=isAgg0
 z0:=sizeOf0
 v0:=zeroValue0
 t2:=underlying2
 a2:=isAgg2
 z2:=sizeOf2
 v2:=zeroValue2
 t3:=underlying3
 a3:=isAgg3
 z3:=sizeOf3
 v3:=zeroValue3
 t4:=underlying4
 a4:=isAgg4
 z4:=sizeOf4
 v4:=zeroValue4
 t5:=underlying5
 a5:=isAgg5
 z5:=sizeOf5
 v5:=zeroValue5
 t9:=underlying9
 a9:=isAgg9
 z9:=sizeOf9
 v9:=zeroValue9
 t20:=underlying20
 a20:=isAgg20
 z20:=sizeOf20
 v20:=zeroValue20
 t37:=underlying365
 a37:=isAgg365
 z37:=sizeOf365
 v37:=zeroValue365
 t46:=underlying92
 a46:=isAgg92
 z46:=sizeOf92
 v46:=zeroValue92
 t51:=underlying353
 a51:=isAgg353
 z51:=sizeOf353
 v51:=zeroValue353
 t53:=underlying31
 a53:=isAgg31
 z53:=sizeOf31
 v53:=zeroValue31
 t171:=underlying363
 a171:=isAgg363
 z171:=sizeOf363
 v171:=zeroValue363
 t173:=underlying366
 a173:=isAgg366
 z173:=sizeOf366
 v173:=zeroValue366
 t212:=underlying383
 a212:=isAgg383
 z212:=sizeOf383
 v212:=zeroValue383
 t213:=underlying384
 a213:=isAgg384
 z213:=sizeOf384
 t232:=underlying397
 a232:=isAgg397
 z232:=sizeOf397
 v232:=zeroValue397
 t233:=underlying398
 a233:=isAgg398
 z233:=sizeOf398
 v233:=zeroValue398
 g17:=by kernel_rfl
 g18:=by kernel_rfl
 g19:=by kernel_rfl
 i0:=by kernel_rfl
 i2:=by kernel_rfl
 i3:=by kernel_rfl
 i4:=by kernel_rfl
 i5:=by kernel_rfl
 i9:=by kernel_rfl
 i20:=by kernel_rfl
 i37:=by kernel_rfl
 i46:=by kernel_rfl
 i51:=by kernel_rfl
 i53:=by kernel_rfl
 i171:=by kernel_rfl
 i173:=by kernel_rfl
 i212:=by kernel_rfl
 i232:=by kernel_rfl
 i233:=by kernel_rfl
 m17:=by kernel_rfl
 m18:=by kernel_rfl
 m19:=by kernel_rfl}
open Go.RowKit Go.Sort Go.Lib in
theorem strconv_FormatInt_10 (n:Int) (h0:-9223372036854775808<=n) (a:n<=9223372036854775807) (w:ab) (b:Lib.TabIs au w vf ah Lib.pow10Tab):Calls au 229 #[I J n,I J 10] w λc w'=>c=aK (.string ⟨(Lib.itoa n).toArray⟩)∧∃d e,w'=grow (w.drewN d) e:=Any.strconv_FormatInt_10 D3 n h0 a w b
end
variable {i B m:Nat} {W W':ab} {P:List (List Nat)}
theorem yB:prog.globalNamed vf=R 7:=by kernel_rfl
theorem yC:prog.globalNamed "strconv.ErrSyntax"=R 5:=by kernel_rfl
theorem yD:prog.globalNamed "strconv.ErrRange"=R 6:=by kernel_rfl
theorem vl {P:Program} {n:String} {cs:Array Value} (h:Below B W W') (a:P.globalNamed n=R g) (b:g<B) (hv:W.var? P n=R cs):W'.var? P n=R cs:=by unfold World.var? at hv⊢;rw[a] at hv⊢;simp only[Option.bind_some] at hv⊢;rw[h.block g b];exact hv
structure fh (w:ab):Prop where
 lo:10<=w.heap.size
 tab:DV w
 len:∃m:Int,w.cell? ⟨2,0,U⟩=R (I J m)
 pow:Lib.TabIs au w vf ah Lib.pow10Tab
 syn:∃mx p,w.var? au "strconv.ErrSyntax"=R #[.iface mx p]
 rng:∃mx p,w.var? au "strconv.ErrRange"=R #[.iface mx p]
theorem fh.of (h:fh w) (a:Below B w w') (f:10<=B):fh w' where
 lo:=cA h.lo a.size
 tab:=λj d=>(a.cell (p:=⟨9,j,U⟩) (by show(9:Nat)<B;omega)).trans (h.tab j d)
 len:=by obtain⟨m,e⟩:=h.len;exact⟨m,(a.cell (p:=⟨2,0,U⟩) (by show(2:Nat)<B;omega)).trans e⟩
 pow:=vl a yB (by omega) h.pow
 syn:=by obtain⟨b,p,c⟩:=h.syn;exact⟨b,p,vl a yC (by omega) c⟩
 rng:=by obtain⟨b,p,c⟩:=h.rng;exact⟨b,p,vl a yD (by omega) c⟩
theorem fh.next (h:fh w) (a:Below w.heap.size w w'):fh w':=h.of a h.lo
theorem Ea (k:Nat) (os:Array Obj):Below w.heap.size w (Go.Sort.grow (w.drewN k) os):=⟨rfl,rfl,rfl,by show w.heap.size<=(w.heap++os).size;rw[Array.size_append];omega,λi a=>by show(w.heap++os)[i]?=w.heap[i]?;rw[Array.getElem?_append_left a]⟩
theorem Eb (n:Int):(⟨(Lib.itoa n).toArray⟩:ByteArray)=str (dec n):=by rw[<-yA];unfold str;rw[sk]
theorem Ec (n:Int) (h0:-9223372036854775808<=n) (b:n<=9223372036854775807) (w:ab) (c:fh w):Calls au 229 #[I J n,I J 10] w λa w'=>a=aK (.string (str (dec n)))∧Below w.heap.size w w':=(strconv_FormatInt_10 n h0 b w c.pow).mono λa w' ⟨d,e,f,g⟩=>⟨by rw[d,Eb],by rw[g];exact Ea e f⟩
theorem Ed (s a:ByteArray) (w:ab) (b:fh w) (c:s.size<4294967281) (d:1<=a.size):Calls au 68 #[.string s,.string a] w λe w'=>e=aK (ay (R ⟨w.heap.size,0,U⟩) (Lib.countB s a+1) (Lib.countB s a+1))∧w'=w.alloc (av ((Lib.splitB a 0 (Lib.countB s a) s).map Value.string).toArray 9):=by obtain⟨m,f⟩:=b.len;exact Any.strings_Split {vh with} vh.i9 s a m w c f d
variable {o:Nat} {u:Value} {ar:Array Value} {l:List Int} {L:List ByteArray}
def eb (k:Int):List Nat:=if k=1∨k=4∨k=11∨k=14 then[97,110] else if k=3 then[97,98] else if k=5 then[97,110,109] else if k=6 then[97,110,115] else if k=15 then[97,115] else[97]
def pF (b c:Nat):Value:=if c=97 then .iface 277 (bk #[af (R ⟨b,1,U⟩)]) else if c=98 then .iface 277 (bk #[af (R ⟨b,2,U⟩)]) else if c=110 then .iface 279 (bk #[af (R ⟨b,3,U⟩)]) else if c=109 then .iface 279 (bk #[af (R ⟨b,4,U⟩)]) else .iface 282 (bk #[af (R ⟨b,5,U⟩)])
def ly (b:Nat) (k:Int) (w:ab) (e:Ending) (w':ab):Prop:=∃N,e=aK (ay (R ⟨N,0,U⟩) (eb k).length (eb k).length)∧w'.heap[N]?=R (av ((eb k).map (pF b)).toArray 20 (0,0))∧w.heap.size<=N∧Below w.heap.size w w'
theorem ia {k:Int} {a c:Obj} {l:Nat} {L:List Nat} (d:eb k=L) (e:ar=(L.map (pF b)).toArray) (f:l=L.length) (n:Nat) (g:w'=(((w.alloc a).alloc c).alloc (av ar 20)).drewN n):ly b k w (aK (ay (R ⟨w.heap.size+1+1,0,U⟩) (l:Nat) (l:Nat))) w':=by
 subst g e f d;have h:((w.alloc a).alloc c).heap.size=w.heap.size+1+1:=by simp
 refine⟨w.heap.size+1+1,rfl,?_,by omega,?_⟩;·rw[<-h];exact l2 ((w.alloc a).alloc c) _
 ·exact below_drewN (((bx w a).alloc (by simp) c).alloc (by simp;omega) _) n
theorem Ee (b:Nat) (k:Int) (w:ab) (c:b<w.heap.size) (d:w.cell? ⟨b,0,U⟩=R (I J k)) (hk:k=1):Calls au 126 #[af (R ⟨b,0,U⟩)] w (ly b k w):=by
 have a:=C (by subst hk;rfl:eb k=[97,110]);subst hk;go_enter func126,ntmps126;go_upto_region 1 with fail;go_region;all_goals go_wp2;try go_region
 all_goals go_wp2;go_ret;first
  |exact ia a rfl rfl 1 rfl
  |exact ia a rfl rfl 2 rfl
theorem Ef (b:Nat) (k:Int) (w:ab) (c:b<w.heap.size) (d:w.cell? ⟨b,0,U⟩=R (I J k)) (hk:k=4):Calls au 126 #[af (R ⟨b,0,U⟩)] w (ly b k w):=by
 have a:=C (by subst hk;rfl:eb k=[97,110]);subst hk;go_enter func126,ntmps126;go_upto_region 1 with fail;go_region;all_goals go_wp2;try go_region
 all_goals go_wp2;go_ret;first
  |exact ia a rfl rfl 1 rfl
  |exact ia a rfl rfl 2 rfl
theorem Eg (b:Nat) (k:Int) (w:ab) (c:b<w.heap.size) (d:w.cell? ⟨b,0,U⟩=R (I J k)) (hk:k=11):Calls au 126 #[af (R ⟨b,0,U⟩)] w (ly b k w):=by
 have a:=C (by subst hk;rfl:eb k=[97,110]);subst hk;go_enter func126,ntmps126;go_upto_region 1 with fail;go_region;all_goals go_wp2;try go_region
 all_goals go_wp2;go_ret;first
  |exact ia a rfl rfl 1 rfl
  |exact ia a rfl rfl 2 rfl
theorem Eh (b:Nat) (k:Int) (w:ab) (c:b<w.heap.size) (d:w.cell? ⟨b,0,U⟩=R (I J k)) (hk:k=14):Calls au 126 #[af (R ⟨b,0,U⟩)] w (ly b k w):=by
 have a:=C (by subst hk;rfl:eb k=[97,110]);subst hk;go_enter func126,ntmps126;go_upto_region 1 with fail;go_region;all_goals go_wp2;try go_region
 all_goals go_wp2;go_ret;first
  |exact ia a rfl rfl 1 rfl
  |exact ia a rfl rfl 2 rfl
theorem Ei (b:Nat) (k:Int) (w:ab) (c:b<w.heap.size) (d:w.cell? ⟨b,0,U⟩=R (I J k)) (hk:k=3):Calls au 126 #[af (R ⟨b,0,U⟩)] w (ly b k w):=by
 have a:=C (by subst hk;rfl:eb k=[97,98]);subst hk;go_enter func126,ntmps126;go_upto_region 1 with fail;go_region;all_goals go_wp2;try go_region
 all_goals go_wp2;go_ret;first
  |exact ia a rfl rfl 1 rfl
  |exact ia a rfl rfl 2 rfl
theorem Ej (b:Nat) (k:Int) (w:ab) (c:b<w.heap.size) (d:w.cell? ⟨b,0,U⟩=R (I J k)) (hk:k=5):Calls au 126 #[af (R ⟨b,0,U⟩)] w (ly b k w):=by
 have a:=C (by subst hk;rfl:eb k=[97,110,109]);subst hk;go_enter func126,ntmps126;go_upto_region 1 with fail;go_region;all_goals go_wp2;try go_region
 all_goals go_wp2;go_ret;first
  |exact ia a rfl rfl 1 rfl
  |exact ia a rfl rfl 2 rfl
theorem Ek (b:Nat) (k:Int) (w:ab) (c:b<w.heap.size) (d:w.cell? ⟨b,0,U⟩=R (I J k)) (hk:k=6):Calls au 126 #[af (R ⟨b,0,U⟩)] w (ly b k w):=by
 have a:=C (by subst hk;rfl:eb k=[97,110,115]);subst hk;go_enter func126,ntmps126;go_upto_region 1 with fail;go_region;all_goals go_wp2;try go_region
 all_goals go_wp2;go_ret;first
  |exact ia a rfl rfl 1 rfl
  |exact ia a rfl rfl 2 rfl
theorem El (b:Nat) (k:Int) (w:ab) (c:b<w.heap.size) (d:w.cell? ⟨b,0,U⟩=R (I J k)) (hk:k=15):Calls au 126 #[af (R ⟨b,0,U⟩)] w (ly b k w):=by
 have a:=C (by subst hk;rfl:eb k=[97,115]);subst hk;go_enter func126,ntmps126;go_upto_region 1 with fail;go_region;all_goals go_wp2;try go_region
 all_goals go_wp2;go_ret;first
  |exact ia a rfl rfl 1 rfl
  |exact ia a rfl rfl 2 rfl
theorem Em (b:Nat) (k:Int) (w:ab) (l:b<w.heap.size) (m:w.cell? ⟨b,0,U⟩=R (I J k)) (g:k≠1) (h:k≠4) (i:k≠11) (j:k≠14) (a:k≠3) (c:k≠5) (d:k≠6) (e:k≠15):Calls au 126 #[af (R ⟨b,0,U⟩)] w (ly b k w):=by
 have f:=C (by unfold eb;rw[z0 (by omega),z0 a,z0 c,z0 d,z0 e]:eb k=[97]);have n:(k==1)=false:=beq_eq_false_iff_ne.2 g;have o:(k==4)=false:=beq_eq_false_iff_ne.2 h;have p:(k==11)=false:=beq_eq_false_iff_ne.2 i;have q:(k==14)=false:=beq_eq_false_iff_ne.2 j;have r:(k==3)=false:=beq_eq_false_iff_ne.2 a;have s:(k==5)=false:=beq_eq_false_iff_ne.2 c;have t:(k==6)=false:=beq_eq_false_iff_ne.2 d;have u:(k==15)=false:=beq_eq_false_iff_ne.2 e;go_enter func126,ntmps126;go_upto_region 1 with fail;go_region;all_goals go_wp2;try go_region
 all_goals go_wp2;go_ret;first
  |exact ia f rfl rfl 1 rfl
  |exact ia f rfl rfl 2 rfl
theorem En (b:Nat) (k:Int) (w:ab) (a:b<w.heap.size) (c:w.cell? ⟨b,0,U⟩=R (I J k)):Calls au 126 #[af (R ⟨b,0,U⟩)] w (ly b k w):=by
 by_cases d:k=1;·exact Ee b k w a c d
 by_cases e:k=4;·exact Ef b k w a c e
 by_cases f:k=11;·exact Eg b k w a c f
 by_cases g:k=14;·exact Eh b k w a c g
 by_cases h:k=3;·exact Ei b k w a c h
 by_cases i:k=5;·exact Ej b k w a c i
 by_cases j:k=6;·exact Ek b k w a c j
 by_cases l:k=15;·exact El b k w a c l
 exact Em b k w a c d e f g h i j l
variable {y:ab}
def hO (a b:Nat):Nat->Nat
 |0=>0
 |p+1=>hO a b p+if a<=p∧p<=b then 2^p else 0
def span (a b:Nat):Nat:=hO a b 64
theorem qB (a b k:Nat):hO a b k<2^k:=by
 induction k with
 |zero=>simp[hO]
 |succ p c=>
  unfold hO;have:2^(p+1)=2^p+2^p:=by rw[Nat.pow_succ];omega
  split<;>omega
theorem yE {x:Nat} (h:x<2^p):x+2^p=x|||2^p:=by rw[Nat.add_comm,Nat.or_comm];have:=Nat.two_pow_add_eq_or_of_lt h 1;simpa using this
theorem vm (a b k p:Nat):(hO a b k).testBit p=(decide (p<k)&&(decide (a<=p)&&decide (p<=b))):=by
 induction k with
 |zero=>simp[hO]
 |succ k c=>
  unfold hO;by_cases d:a<=k∧k<=b;·rw[aj d,yE (qB a b k),Nat.testBit_or,c,Nat.testBit_two_pow];rw[hN];simp only[ob,jb,decide_eq_true_eq];omega
  ·rw[z0 d,Nat.add_zero,c,hN];simp only[jb,decide_eq_true_eq];omega
theorem Eo (a b p:Nat):(span a b).testBit p=(decide (p<64)&&(decide (a<=p)&&decide (p<=b))):=vm a b 64 p
theorem Ep (a b:Nat):span a b<18446744073709551616:=qB a b 64
theorem vn {x y:Nat} (a:x<18446744073709551616) (b:y<18446744073709551616):x|||y<18446744073709551616:=Nat.or_lt_two_pow (n:=64) a b
structure ec where
 set:Nat
 fr:Nat
 n:Nat
 figs:Nat
 dashed:Bool
 over:Bool
def np (r:ec) (c:Nat):Option ec:=if r.figs=2∨(r.figs=1∧r.n=0) then U else R {r with n:=10*r.n+(c-48),figs:=r.figs+1}
def oc (r:ec):ec:={r with over:=r.over||decide (64<=r.n),figs:=0}
def jP (r:ec) (f:Nat) (o:Bool):ec:={set:=if o=true then r.set else r.set|||span f r.n,fr:=f,n:=0,figs:=0,dashed:=false,over:=o}
def part (r:ec):Option ec:=if r.figs=0 then U else R (jP r (if r.dashed=true then r.fr else r.n) ((r.over||decide (64<=r.n))||decide (r.n<if r.dashed=true then r.fr else r.n)))
def hP (r:ec) (c:Nat):Option ec:=if 48<=c∧c<=57 then np r c else if c=44 then part r else if c=45∧r.dashed=false∧r.figs≠0 then R {oc r with fr:=r.n,n:=0,dashed:=true} else U
def kP:ec->List Nat->Option ec
 |r,[]=>R r
 |r,c::l=>(hP r c).bind λq=>kP q l
def nr:ec:=⟨0,0,0,0,false,false⟩
def fin:Option ec->Nat×Nat
 |none=>(0,11)
 |some r=>if r.over=true then(0,1) else(r.set,0)
theorem Er {q:ec} (h:q.over=true):fin (R q)=(0,1):=aj h
theorem Es {q:ec} (h:q.over=false):fin (R q)=(q.set,0):=z0 (by rw[h];decide)
def fi (l:List Nat):Nat×Nat:=if l=[] then(0,0) else fin ((kP nr l).bind part)
theorem yF (r:ec) (x y:List Nat):kP r (x++y)=(kP r x).bind λa=>kP a y:=by
 induction x generalizing r with
 |nil=>rfl
 |cons c x b=>show((hP r c).bind λa=>kP a (x++y))=_;rw[kP,Option.bind_assoc];congr 1;funext a;exact b a
theorem Et (l:List Nat):fi l=(0,11)∨fi l=(0,1)∨∃m,fi l=(m,0):=by
 unfold fi;by_cases a:l=[];·rw[aj a];exact .inr (.inr ⟨_,rfl⟩)
 ·rw[z0 a];cases(kP nr l).bind part with
  |none=>exact .inl rfl
  |some q=>
   by_cases b:q.over=true;·exact .inr (.inl (by simp[fin,b]))
   ·exact .inr (.inr ⟨q.set,by simp[fin,b]⟩)
variable {S Z:Nat->Prop} {A:ab} {V:List (Int×Int)->ab->Prop} {aH:Bool}
def kQ (r:ec):Array Value:=#[I ah r.set,I J r.fr,I J r.n,I J r.figs,aD r.dashed,aD r.over]
def hQ (w:ab) (b:Nat) (r:ec):Prop:=w.heap[b]?=R (av (kQ r) 325 (0,0))
def qC (b:Nat) (w:ab) (o:Option ec) (e:Ending) (w':ab):Prop:=e=aK (aD o.isSome)∧Kept b w w'∧∀q,o=R q->hQ w' b q
theorem od {o:Option ec} {e:Ending} (a:o=U) (c:e=aK (aD false)) (hk:Kept b w w'):qC b w o e w':=by subst a;exact⟨c,hk,λf d=>by cases d⟩
theorem nt {o:Option ec} {e:Ending} {q:ec} (c:o=R q) (d:e=aK (aD true)) (hk:Kept b w w') (f:w'.heap[b]?=R (av ar 325 (0,0))) (g:ar=kQ q):qC b w o e w':=by subst c g;exact⟨d,hk,λq a=>by injection a with a;subst a;exact f⟩
theorem je (w:ab):Kept b w ((w.setCell ⟨b,i,U⟩ u).setCell ⟨b,j,U⟩ v):=((Kept.refl b w).setCell u).setCell v
structure Eu (w:ab) (b:Nat) (r:ec):Prop where
 c0:w.cell? ⟨b,0,U⟩=R (I ah r.set)
 bR:w.cell? ⟨b,1,U⟩=R (I J r.fr)
 c2:w.cell? ⟨b,2,U⟩=R (I J r.n)
 c3:w.cell? ⟨b,3,U⟩=R (I J r.figs)
 c4:w.cell? ⟨b,4,U⟩=R (aD r.dashed)
 c5:w.cell? ⟨b,5,U⟩=R (aD r.over)
 f:∀i,w.frozen? ⟨b,i,U⟩=false
theorem hQ.cQ {r:ec} (h:hQ w b r):Eu w b r:=⟨bJ h rfl,bJ h rfl,bJ h rfl,bJ h rfl,bJ h rfl,bJ h rfl,λi=>l1 h⟩
theorem Ev (b c:Nat) (r:ec) (w:ab) (h:hQ w b r) (t:48<=c) (u:c<=57) (q:r.n<100) (s:r.figs<100):Calls au 248 #[af (R ⟨b,0,U⟩),I .i32 (c:Int)] w (qC b w (np r c)):=by
 obtain⟨e,g,n,a,i,j⟩:=r;have v:w.cell? ⟨b,2,U⟩=R (I J (n:Int)):=h.cQ.c2;have x:w.cell? ⟨b,3,U⟩=R (I J (a:Int)):=h.cQ.c3;have y:w.frozen? ⟨b,2,U⟩=false:=h.cQ.f 2;have z:w.frozen? ⟨b,3,U⟩=false:=h.cQ.f 3;have A:n<100:=q;have B:a<100:=s;have l:¬(a=2∨(a=1∧n=0))->np ⟨e,g,n,a,i,j⟩ c=R ⟨e,g,10*n+(c-48),a+1,i,j⟩:=λh=>by unfold np;rw[z0 h]
 have m:(a=2∨(a=1∧n=0))->np ⟨e,g,n,a,i,j⟩ c=U:=λh=>by unfold np;rw[aj h]
 cases k:((a:Int)==2)
 ·cases o:((a:Int)==1);·have d:=C (l (by simp at o k;omega));go_enter func248,ntmps248;go_wp2;go_ret;exact nt d rfl (je w) (eL _ (eL _ h)) (by simp[kQ];omega)
  ·cases p:((n:Int)==0);·have d:=C (l (by simp at p k;omega));go_enter func248,ntmps248;go_wp2;go_ret;exact nt d rfl (je w) (eL _ (eL _ h)) (by simp[kQ];omega)
   ·have d:=C (m (by simp at p o;omega));go_enter func248,ntmps248;go_wp2;go_ret;exact od d rfl (Kept.refl _ _)
 ·have d:=C (m (by simp at k;omega));go_enter func248,ntmps248;go_wp2;go_ret;exact od d rfl (Kept.refl _ _)
def yG (b:Nat) (w:ab) (r:ec) (e:Ending) (w':ab):Prop:=e=aK (aD (decide (0<r.figs)))∧Kept b w w'∧hQ w' b (oc r)
theorem Ew {r:ec} {e:Ending} {v:Bool} (a:e=aK (aD v)) (hv:v=decide (0<r.figs)) (hk:Kept b w w') (c:w'.heap[b]?=R (av ar 325 (0,0))) (d:ar=kQ (oc r)):yG b w r e w':=by subst hv d;exact⟨a,hk,c⟩
theorem sl (b:Nat) (r:ec) (w:ab) (h:hQ w b r):Calls au 249 #[af (R ⟨b,0,U⟩)] w (yG b w r):=by obtain⟨e,g,n,c,i,a⟩:=r;have j:w.cell? ⟨b,2,U⟩=R (I J (n:Int)):=h.cQ.c2;have k:w.cell? ⟨b,3,U⟩=R (I J (c:Int)):=h.cQ.c3;have l:w.cell? ⟨b,5,U⟩=R (aD a):=h.cQ.c5;have m:w.frozen? ⟨b,3,U⟩=false:=h.cQ.f 3;have o:w.frozen? ⟨b,5,U⟩=false:=h.cQ.f 5;have d:=C h;cases a;all_goals go_enter func249,ntmps249;go_wp2;go_ret;exact Ew rfl (by simp) (je w) (eL _ (eL _ d)) (by simp[kQ,oc]<;>omega)
theorem Ex {x:Nat} (d:x<18446744073709551616) (e:p<64):bits .or ah (x:Int) (IntKind.u64.wrap (2^p))=((x|||2^p:Nat):Int):=by
 have b:(2:Int)^p=((2^p:Nat):Int):=by simp
 have c:2^p<18446744073709551616:=(Nat.pow_lt_pow_right (by decide) e:2^p<2^64);have f:∀a:Nat,a<18446744073709551616->(a:Int)%18446744073709551616=a:=λa b=>by omega
 rw[ni,b,f _ c];exact u64_or_nat _ _ d c
theorem yH {set fr figs:Nat} {dashed over:Bool} (h:hQ w b ⟨set,fr,n,figs,dashed,over⟩) (a:set<18446744073709551616) (c:p<64):hQ (w.setCell ⟨b,0,U⟩ (I ah (bits .or ah (set:Int) (IntKind.u64.wrap (2^p))))) b ⟨set|||2^p,fr,n,figs,dashed,over⟩:=by rw[Ex a c];exact eL _ h
theorem yI {fr:Nat} (set:Nat) (a:fr<=p) (b:p<=n):set|||hO fr n (p+1)=(set|||hO fr n p)|||2^p:=by rw[hO,aj ⟨a,b⟩,yE (qB fr n p),Nat.or_assoc]
theorem yJ {fr:Nat} (set:Nat):set|||hO fr n fr=set:=by
 refine Nat.eq_of_testBit_eq λq=>?_;rw[Nat.testBit_or,vm];have:(decide (q<fr)&&(decide (fr<=q)&&decide (q<=n)))=false:=by simp;omega
 rw[this,Bool.or_false]
theorem yK {fr:Nat} (a:n<=63):hO fr n (n+1)=span fr n:=by refine Nat.eq_of_testBit_eq λb=>?_;rw[vm,Eo,hN];simp;omega
theorem yL (b:Nat) (r:ec) (w:ab) (h:hQ w b r) (S:r.n<100) (T:r.fr<100) (V:r.set<18446744073709551616):Calls au 227 #[af (R ⟨b,0,U⟩)] w (qC b w (part r)):=by
 by_cases A:r.figs=0;·have t:=C (show part r=U by unfold part;rw[aj A]);have B:=C (show decide (0<r.figs)=false by simp[A]);have W:=C h;go_enter func227,ntmps227;go_wp2_with fail;refine(sl b r w W.out).mono ?_;rintro X j ⟨rfl,k,K⟩;rw[B.out];have y:=C k;go_wp2;go_ret;exact od t.out rfl y.out
 ·have Y:decide (0<r.figs)=true:=by simp;omega
  obtain⟨d,l,n,u,z,o⟩:=r;have B:=C Y;have aU:n<100:=S;have aP:l<100:=T;have L:d<18446744073709551616:=V;have t:=C (show part ⟨d,l,n,u,z,o⟩=_ from z0 A);go_enter func227,ntmps227;go_wp2_with fail;refine(sl b _ w h).mono ?_;rintro X j ⟨rfl,k,K⟩;rw[B.out];have y:=C k;have q:=C (show hQ j b ⟨d,l,n,0,z,o||decide (64<=n)⟩ from K);obtain⟨aH,M⟩:∃aH,(o||decide (64<=n))=aH:=⟨_,rfl⟩;have N:=C M;rw[M] at t q;have O:j.cell? ⟨b,4,U⟩=R (aD z):=q.out.cQ.c4;have aV:j.cell? ⟨b,2,U⟩=R (I J (n:Int)):=q.out.cQ.c2;have aZ:j.cell? ⟨b,1,U⟩=R (I J (l:Int)):=q.out.cQ.bR;have a6:j.frozen? ⟨b,1,U⟩=false:=q.out.cQ.f 1;cases z
  ·go_upto_region 5 with fail;have c:=C (show hQ (j.setCell ⟨b,1,U⟩ (I J (n:Int))) b ⟨d,n,n,0,false,aH⟩ from eL _ q.out);have m:=C (y.out.setCell (i:=1) (I J (n:Int)));have s:=C (show part ⟨d,l,n,u,false,o⟩=R (jP ⟨d,l,n,u,false,o⟩ n (aH||decide (n<n))) from t.out);generalize j.setCell ⟨b,1,U⟩ (I J (n:Int))=e at c m⊢;obtain⟨a,rfl⟩:∃a,a=n:=⟨n,rfl⟩;have Z:e.cell? ⟨b,1,U⟩=R (I J (a:Int)):=c.out.cQ.bR;have aa:e.cell? ⟨b,2,U⟩=R (I J (a:Int)):=c.out.cQ.c2;have aq:e.cell? ⟨b,5,U⟩=R (aD aH):=c.out.cQ.c5;have O:e.cell? ⟨b,4,U⟩=R (aD false):=c.out.cQ.c4;have ac:e.frozen? ⟨b,2,U⟩=false:=c.out.cQ.f 2;have az:e.frozen? ⟨b,4,U⟩=false:=c.out.cQ.f 4;have ad:e.frozen? ⟨b,5,U⟩=false:=c.out.cQ.f 5;have aB:decide (a<a)=false:=(by simp);have P:=C aB;cases aH
   ·go_quiet (fail);go_wp2_with fail;have v:=C (m.out.drewN nq);have x:=C (show hQ (e.drewN nq) b ⟨d,a,a,0,false,false⟩ from c.out);generalize e.drewN nq=aA at v x⊢;have D:a<=63:=(by have:=N.out;simp at this;omega);go_loopw [3] (λi wr=>∃p:Nat,a<=p∧p<=a+1∧i=I J p∧Kept b w wr∧hQ wr b ⟨d|||hO a a p,a,a,0,false,false⟩) (λi _=>a+1-(intOf i).toNat);case atStart=>exact⟨a,bK _,by omega,rfl,v.out,by rw[yJ];exact x.out⟩
    case round=>
     obtain⟨p,E,aG,rfl,k,g⟩:=hrel;have F:d|||hO a a p<18446744073709551616:=vn L (dd (qB a a p) (show 2^p<=2^64 from sf (by omega) (by omega)));have aL:wr.cell? ⟨b,0,U⟩=R (I ah ((d|||hO a a p:Nat):Int)):=g.cQ.c0;have ae:wr.cell? ⟨b,2,U⟩=R (I J (a:Int)):=g.cQ.c2;have am:wr.cell? ⟨b,4,U⟩=R (aD false):=g.cQ.c4;have aN:wr.frozen? ⟨b,0,U⟩=false:=g.cQ.f 0;have ap:wr.frozen? ⟨b,2,U⟩=false:=g.cQ.f 2;have aQ:wr.frozen? ⟨b,4,U⟩=false:=g.cQ.f 4;by_cases G:p<=a
     ·have H:(p:Int)<=(a:Int):=(by omega);go_wp2;go_roundw;case rel=>exact⟨p+1,by omega,by omega,by go_num,k.setCell _,by rw[yI d E G];exact yH g F (by omega)⟩
      case measure=>simp[intOf];omega
     ·have H:¬(p:Int)<=(a:Int):=(by omega);go_wp2;go_ret;obtain rfl:p=a+1:=by omega
      exact nt s.out rfl ((k.setCell _).setCell _) (eL _ (eL _ g)) (by simp[kQ,jP,yK D])
   ·go_quiet (fail);go_wp2;go_ret;exact nt s.out rfl (((m.out.drewN _).setCell _).setCell _) (eL _ (eL _ (ve c.out))) (by simp[kQ,jP])
  ·go_upto_region 5 with fail;obtain⟨a,rfl⟩:∃a,a=l:=⟨l,rfl⟩;have c:=C (show hQ j b ⟨d,a,n,0,true,aH⟩ from q.out);have m:=C y.out;have s:=C (show part ⟨d,a,n,u,true,o⟩=R (jP ⟨d,a,n,u,true,o⟩ a (aH||decide (n<a))) from t.out);generalize j=e at c m⊢;have Z:e.cell? ⟨b,1,U⟩=R (I J (a:Int)):=c.out.cQ.bR;have aa:e.cell? ⟨b,2,U⟩=R (I J (n:Int)):=c.out.cQ.c2;have aq:e.cell? ⟨b,5,U⟩=R (aD aH):=c.out.cQ.c5;have O:e.cell? ⟨b,4,U⟩=R (aD true):=c.out.cQ.c4;have ac:e.frozen? ⟨b,2,U⟩=false:=c.out.cQ.f 2;have az:e.frozen? ⟨b,4,U⟩=false:=c.out.cQ.f 4;have ad:e.frozen? ⟨b,5,U⟩=false:=c.out.cQ.f 5;by_cases Q:n<a;·have aR:(n:Int)<(a:Int):=(by omega);have aS:=C (show decide (n<a)=true by simpa using Q);go_quiet (fail);go_wp2;go_ret;exact nt s.out rfl ((((m.out.drewN _).setCell _).setCell _).setCell _) (eL _ (eL _ (eL _ (ve c.out)))) (by simp[kQ,jP,aS.out])
   ·have aR:¬(n:Int)<(a:Int):=(by omega);have P:=C (show decide (n<a)=false by simpa using Q);cases aH
    ·go_quiet (fail);go_wp2_with fail;have v:=C (m.out.drewN nq);have x:=C (show hQ (e.drewN nq) b ⟨d,a,n,0,true,false⟩ from c.out);generalize e.drewN nq=aA at v x⊢;have D:n<=63:=(by have:=N.out;simp at this;omega);go_loopw [3] (λi wr=>∃p:Nat,a<=p∧p<=n+1∧i=I J p∧Kept b w wr∧hQ wr b ⟨d|||hO a n p,a,n,0,true,false⟩) (λi _=>n+1-(intOf i).toNat);case atStart=>exact⟨a,bK _,by omega,rfl,v.out,by rw[yJ];exact x.out⟩
     case round=>
      obtain⟨p,E,aG,rfl,k,g⟩:=hrel;have F:d|||hO a n p<18446744073709551616:=vn L (dd (qB a n p) (sf (by omega) (by omega):2^p<=2^64));have aL:wr.cell? ⟨b,0,U⟩=R (I ah ((d|||hO a n p:Nat):Int)):=g.cQ.c0;have ae:wr.cell? ⟨b,2,U⟩=R (I J (n:Int)):=g.cQ.c2;have am:wr.cell? ⟨b,4,U⟩=R (aD true):=g.cQ.c4;have aN:wr.frozen? ⟨b,0,U⟩=false:=g.cQ.f 0;have ap:wr.frozen? ⟨b,2,U⟩=false:=g.cQ.f 2;have aQ:wr.frozen? ⟨b,4,U⟩=false:=g.cQ.f 4;by_cases G:p<=n
      ·have H:(p:Int)<=(n:Int):=(by omega);go_wp2;go_roundw;case rel=>exact⟨p+1,by omega,by omega,by go_num,k.setCell _,by rw[yI d E G];exact yH g F (by omega)⟩
       case measure=>simp[intOf];omega
      ·have H:¬(p:Int)<=(n:Int):=(by omega);go_wp2;go_ret;obtain rfl:p=n+1:=by omega
       exact nt s rfl ((k.setCell _).setCell _) (eL _ (eL _ g)) (by simp[kQ,jP,P.out,yK D])
    ·go_quiet (fail);go_wp2;go_ret;exact nt s rfl (((m.drewN _).setCell _).setCell _) (eL _ (eL _ (ve c))) (by simp[kQ,jP])
theorem Ey {r:ec} {f:Nat} {o:Bool} (h:r.set<18446744073709551616):(jP r f o).set<18446744073709551616:=by
 unfold jP;dsimp only;split;·exact h
 ·exact vn h (Ep _ _)
def oe (r:ec):Prop:=r.n<100∧r.figs<=2∧r.fr<100∧r.set<18446744073709551616∧(r.figs=0->r.n=0)∧(r.figs=1->r.n<10)
theorem Ez {r q:ec} (h:oe r) (e:hP r c=R q):oe q:=by
 obtain⟨j,o,k,a,b,l⟩:=h;unfold hP at e;by_cases d:48<=c∧c<=57
 ·rw[aj d] at e;unfold np at e;by_cases g:r.figs=2∨(r.figs=1∧r.n=0);·rw[aj g] at e;cases e
  ·rw[z0 g] at e;injection e with e
   subst e;unfold oe;dsimp only;refine⟨?_,by omega,k,a,by omega,?_⟩
   ·by_cases m:r.figs=0;·have:=b m;omega
    ·have:=l (by omega);omega
   ·intro p;have:=b (by omega);omega
 ·rw[z0 d] at e;by_cases f:c=44
  ·rw[aj f] at e;unfold part at e;by_cases i:r.figs=0;·rw[aj i] at e;cases e
   ·rw[z0 i] at e;injection e with e
    subst e;exact⟨by simp[jP],by simp[jP],by simp only[jP];split<;>omega,Ey a,λ_=>rfl,λ_=>by simp[jP]⟩
  ·rw[z0 f] at e;by_cases g:c=45∧r.dashed=false∧r.figs≠0
   ·rw[aj g] at e;injection e with e
    subst e;exact⟨by simp,by simp[oc],j,a,λ_=>rfl,λ_=>by simp⟩
   ·rw[z0 g] at e;cases e
theorem EA (b c:Nat) (r:ec) (w:ab) (h:hQ w b r) (B:oe r) (K:c<2147483648):Calls au 226 #[af (R ⟨b,0,U⟩),I .i32 (c:Int)] w (qC b w (hP r c)):=by
 obtain⟨x,j,D,E,_,_⟩:=B;have k:=C h;by_cases g:48<=c∧c<=57
 ·have a:=C (by unfold hP;rw[aj g]:hP r c=np r c);have y:(48:Int)<=(c:Int):=by omega
  have F:(c:Int)<=57:=by omega
  go_enter func226,ntmps226;go_wp2_with fail;refine(Ev b c r w k g.1 g.2 x (by omega)).mono ?_;rintro o d ⟨rfl,j⟩;have p:=C j;go_wp2;go_ret;rw[a.out];exact⟨rfl,p⟩
 ·by_cases l:c=44;·subst l;have a:=C (by unfold hP;rw[z0 g,aj rfl]:hP r 44=part r);go_enter func226,ntmps226;go_wp2_with fail;refine(yL b r w k x D E).mono ?_;rintro o d ⟨rfl,j⟩;have p:=C j;go_wp2;go_ret;rw[a.out];exact⟨rfl,p⟩
  ·have L:((c:Int)==44)=false:=(by simp;omega);have q:¬(c=45∧r.dashed=false∧r.figs≠0)->hP r c=U:=λh=>by unfold hP;rw[z0 g,z0 l,z0 h]
   by_cases m:c=45
   ·subst m;obtain⟨z,fr,n,i,dashed,A⟩:=r;have M:w.cell? ⟨b,4,U⟩=R (aD dashed):=h.cQ.c4;cases dashed
    ·by_cases s:i=0;·have a:=C (q (by simp[s]));have t:=C (by simp[s]:decide (0<i)=false);go_enter func226,ntmps226;go_wp2_with fail;refine(sl b _ w k).mono ?_;rintro o d ⟨rfl,u,e⟩;rw[t.out];have v:=C u;go_wp2;go_ret;exact od a rfl v
     ·have a:=C (by unfold hP;rw[z0 (by omega),z0 (by omega),aj ⟨rfl,rfl,s⟩]:hP ⟨z,fr,n,i,false,A⟩ 45=R {oc ⟨z,fr,n,i,false,A⟩ with fr:=n,n:=0,dashed:=true});have t:=C (by simp;omega:decide (0<i)=true);go_enter func226,ntmps226;go_wp2_with fail;refine(sl b _ w k).mono ?_;rintro o d ⟨rfl,u,e⟩;rw[t.out];have v:=C u;have G:=C e;have N:d.cell? ⟨b,1,U⟩=R (I J (fr:Int)):=e.cQ.bR;have O:d.cell? ⟨b,2,U⟩=R (I J (n:Int)):=e.cQ.c2;have P:d.cell? ⟨b,4,U⟩=R (aD false):=e.cQ.c4;have Q:d.frozen? ⟨b,1,U⟩=false:=e.cQ.f 1;have S:d.frozen? ⟨b,2,U⟩=false:=e.cQ.f 2;have T:d.frozen? ⟨b,4,U⟩=false:=e.cQ.f 4;go_wp2;go_ret;exact nt a rfl (((v.setCell _).setCell _).setCell _) (eL _ (eL _ (eL _ G))) (by simp[kQ,oc])
    ·have a:=C (q (by simp));go_enter func226,ntmps226;go_wp2;go_ret;exact od a rfl (Kept.refl _ _)
   ·have a:=C (q λh=>m h.1);have V:((c:Int)==45)=false:=(by simp;omega);rcases nm c 48 with H|H;·have y:¬(48:Int)<=(c:Int):=(by omega);clear g l m;go_enter func226,ntmps226;go_wp2;go_ret;exact od a rfl (Kept.refl _ _)
    ·have y:(48:Int)<=(c:Int):=(by omega);have F:¬(c:Int)<=57:=(by omega);clear g l m;go_enter func226,ntmps226;go_wp2;go_ret;exact od a rfl (Kept.refl _ _)
theorem yM (r:ec) (h:58<=c):hP r c=U:=by unfold hP;rw[z0 (by omega),z0 (by omega),z0 (by omega)]
theorem EB {s:ByteArray} (h:p<s.size) {r:ec} (a:kP nr ((bh s).take p)=R r) (b:hP r (s[p]'h).toNat=U):fi (bh s)=(0,11):=by
 unfold fi;rw[z0 (by rw[qz];omega)];have c:bh s=(bh s).take p++(s[p]'h).toNat::(bh s).drop (p+1):=by rw[<-yx s p h,List.take_append_drop]
 rw[c,yF,a];show fin (((hP r _).bind _).bind part)=_;rw[b];rfl
theorem vo {s:ByteArray} (h:s.size≠0) {r:ec} (a:kP nr (bh s)=R r):fi (bh s)=fin (part r):=by unfold fi;rw[z0 (by rw[qz];omega),a];rfl
theorem EC:oe nr:=by unfold oe nr;simp
theorem yN (s:ByteArray) (w:ab) (N:s.size<=maxLen):Calls au 184 #[.string s] w λr w'=>r=aK (bC #[I ah ((fi (bh s)).1:Int),I J ((fi (bh s)).2:Int)])∧Below w.heap.size w w':=by
 unfold maxLen at N;cases he:s.toList.isEmpty
 ·have i:s.size≠0:=by rw[Lib.toList_data] at he;intro O;have t:=(qz s).2 O;unfold bh at t;rw[List.map_eq_nil_iff] at t;rw[t] at he;cases he
  go_enter func184,ntmps184;go_wp2;go_loopw [6] (λ_ wr=>∃(p:Nat) (b:ec),p<=s.size∧wr.heap[w.heap.size+1]?=R (.stringIter s p)∧kP nr ((bh s).take p)=R b∧oe b∧hQ wr w.heap.size b∧Below w.heap.size w wr) (λ_ wr=>s.size-wr.iterPos (w.heap.size+1));case atStart=>
   refine⟨0,nr,gN _,?_,by simp[kP],EC,?_,((Below.refl _ w).alloc zK9 _).alloc (by simp) _⟩;·have:=World.iter_heap (w.alloc (av #[I ah 0,I J 0,I J 0,I J 0,aD false,aD false] 325)) s 0;simpa using this
   ·exact nn (l2 w _)
  case round=>
   obtain⟨p,b,aa,f,P,Q,D,E⟩:=hrel;have aq:w.heap.size+1<wr.heap.size:=(iZ.1 f).1;have S:=C f;have g:=C P;have u:=C Q;by_cases c:p<s.size;·have ac:=decode_le s p;have F:∀e,(Instr.next (af (R ⟨w.heap.size+1,0,U⟩)) true e).run au wr=_:=λe=>Lib.run_next_any_at wr (w.heap.size+1) s p e f c;have G:=C ((Lib.iterAt_other wr (w.heap.size+1) w.heap.size s _ (by omega)).trans D:hQ (wr.iterAt (w.heap.size+1) s (p+(Utf8.decode s p).2)) w.heap.size b);have v:=C (Lib.iterAt_heap wr (w.heap.size+1) s p (p+(Utf8.decode s p).2) f);have x:=C (Lib.below_iterAt E (k:=w.heap.size+1) (by omega) s (p+(Utf8.decode s p).2));have H:w.heap.size+1<(wr.iterAt (w.heap.size+1) s (p+(Utf8.decode s p).2)).heap.size:=(by rw[Lib.iterAt_size];omega);clear f;go_wp2_with fail;clear F;refine(EA w.heap.size (Utf8.decode s p).1 b _ G u (by omega)).mono ?_;rintro r y ⟨rfl,j,n⟩;generalize wr.iterAt (w.heap.size+1) s (p+(Utf8.decode s p).2)=az at G v x H j⊢;have z:=C j;have l:=C n;clear j n;cases a:hP b (Utf8.decode s p).1 with
    |none=>
     have d:=C (show fi (bh s)=(0,11) from EB c g (by
      by_cases A:(s[p]'c).toNat<128;·rw[decode_ascii s p c A] at a;exact a
      ·exact yM b (by omega)))
     go_wp2;go_ret2;exact⟨by rw[d.out];rfl,x.trans (z.below zK9 (by omega))⟩
    |some q=>
     have T:(s[p]'c).toNat<128:=by
      by_cases A:(s[p]'c).toNat<128;·exact A
      ·have:=(decode_high s p c (by omega)).1;rw[yM b (by omega)] at a;cases a
     have K:=decode_ascii s p c T;rw[K] at a v;have B:=C a;have V:=C (l q (by rw[K];exact B));have L:=C ((z.block (w.heap.size+1) H (by omega)).trans v);have m:=C (x.trans (z.below zK9 (by omega)));go_wp2;go_roundw;case rel=>exact⟨p+1,q,by omega,L,by rw[D4 s p c,yF,g.out];show(hP b _).bind _=_;rw[B.out];rfl,Ez u B,V,m⟩
     case measure=>rw[iterPos_of L.out,iterPos_of S.out];omega
   ·have F:∀e,(Instr.next (af (R ⟨w.heap.size+1,0,U⟩)) true e).run au wr=_:=λe=>Lib.run_next_end_at wr (w.heap.size+1) s p e f c;obtain rfl:p=s.size:=by omega
    have W:(bh s).take s.size=bh s:=uZ (by rw[l3];exact bK _);rw[W] at g;obtain⟨X,ad,Y,Z,aB,aA⟩:=u;go_wp2_with fail;apply(yL w.heap.size b _ D X Y Z).mono;rintro r y ⟨rfl,j,n⟩;have m:=C (E.trans (j.below zK9 (by omega)));have l:=C n;cases a:part b with
    |none=>have d:=C (by rw[vo i g.out,a];rfl:fi (bh s)=(0,11));clear a;go_wp2;go_ret2;exact⟨by rw[d.out];rfl,m⟩
    |some q=>
     have o:=l q a;have aG:y.cell? ⟨w.heap.size,0,U⟩=R (I ah (q.set:Int)):=o.cQ.c0;have M:y.cell? ⟨w.heap.size,5,U⟩=R (aD q.over):=o.cQ.c5;cases h:q.over;·have d:=C (by rw[vo i g.out,a,Es h]:fi (bh s)=(q.set,0));rw[h] at M;clear a h o l;go_wp2;go_ret2;exact⟨by rw[d.out];rfl,m⟩
     ·have d:=C (by rw[vo i g.out,a,Er h]:fi (bh s)=(0,1));rw[h] at M;clear a h o l;go_wp2;go_ret2;exact⟨by rw[d.out];rfl,m⟩
 ·have i:s.size=0:=by rw[Lib.toList_data,pA] at he;exact(qz s).1 (by unfold bh;rw[he];rfl)
  have d:=C (by unfold fi;rw[aj ((qz s).2 i)]:fi (bh s)=(0,0));go_enter func184,ntmps184;go_wp2;go_ret2;exact⟨by rw[d.out];rfl,Below.refl _ _⟩
theorem ED (v:Value) (w:ab):(Instr.typeAssert (.iface 277 v) 20 277 true).run au w= .ok (bC #[v,aD true]) w:=by kernel_rfl
theorem EE (v:Value) (w:ab):(Instr.typeAssert (.iface 282 v) 20 282 true).run au w= .ok (bC #[v,aD true]) w:=by kernel_rfl
theorem EF (v:Value) (w:ab):(Instr.typeAssert (.iface 279 v) 20 277 true).run au w= .ok (bC #[bk #[af U],aD false]) w:=by kernel_rfl
theorem EG (v:Value) (w:ab):(Instr.typeAssert (.iface 277 v) 20 282 true).run au w= .ok (bC #[bk #[af U],aD false]) w:=by kernel_rfl
theorem EH (v:Value) (w:ab):(Instr.typeAssert (.iface 279 v) 20 282 true).run au w= .ok (bC #[bk #[af U],aD false]) w:=by kernel_rfl
theorem EI (x:Value) (w:ab):(Instr.field 279 (bk #[x]) 0).run au w= .ok x w:=by kernel_rfl
theorem EJ (v:Value) (w:ab):(Instr.typeAssert (.iface 279 v) 20 279 false).run au w= .ok v w:=by kernel_rfl
def EK (s:ByteArray) (w:ab) (e:Ending) (w':ab):Prop:=(∃v:Int,e=aK (bC #[I J v,aD (jO (bh s)).isSome])∧(∀x,jO (bh s)=R x->v=x)∧(-9223372036854775808<=v∧v<=9223372036854775807))∧Below w.heap.size w w'
theorem EL (s:ByteArray):jO (bh s)=match Lib.parseIntB 64 s.data.toList with
 | .ok v=>if str (dec v)=s then R v else U
 |_=>U:=by
 unfold jO bh
 rw[sk]
 cases h:Lib.parseIntB 64 s.data.toList with
 |ok v=>
  simp only;by_cases a:dec v=s.data.toList.map pD;·rw[aj a,aj (by rw[a];exact yz s)]
  ·rw[z0 a,z0 (λd=>a (by have b:bh (str (dec v))=bh s:=(by rw[d]);rw[yy (λe c=>by rw[<-yA] at c;obtain⟨y,_,rfl⟩:=eY.1 c;exact y.toNat_lt)] at b;exact b))]
 |_=>rfl
theorem EM {a b:ByteArray} (h:a≠b):(a.toList==b.toList)=false:=by rw[beq_eq_false_iff_ne];intro e;rw[Lib.toList_data,Lib.toList_data] at e;exact h (ByteArray.ext (Array.ext' e))
theorem yO (s:ByteArray) (w:ab) (h:fh w) (D:s.size<=140737488351232):Calls au 185 #[.string s] w (EK s w):=by
 have a:=C (EL s);cases hp:Lib.parseIntB 64 s.data.toList with
 |ok v=>
  obtain⟨n,o⟩:=D_ hp;have q:=C (br n o);have d:=C hp;have u:=Ec v n o;rw[hp] at a;simp only at a;go_enter func185,ntmps185;go_wp2_with fail;apply(strconv_ParseInt_10_at64_ok s (by omega) v d _).mono;rintro i j ⟨rfl,x⟩;have c:Below w.heap.size w j:=by
   rcases x with rfl|⟨E,rfl⟩;·exact Below.refl _ _
   ·exact Lib.bytesWorld_below _ _ _
  have e:=C c;go_wp2_with fail;apply(u _ (h.next e)).mono;rintro i F ⟨rfl,c⟩;have r:=C (qA e c);by_cases f:str (dec v)=s;·rw[aj f] at a;subst f;go_wp2;go_ret2;exact⟨⟨v,by rw[a.out];rfl,λk b=>by rw[a.out] at b;exact Option.some.inj b,q⟩,r⟩
  ·rw[z0 f] at a;have G:=EM f;go_wp2;go_ret2;exact⟨⟨v,by rw[a.out];rfl,λk b=>(by rw[a.out] at b;cases b),q⟩,r⟩
 |range=>
  rw[hp] at a;simp only at a;obtain⟨l,p,g⟩:=h.rng;have d:=C hp;have m:=C g;have y:-9223372036854775808<=Lib.intSat 64 s.data.toList∧Lib.intSat 64 s.data.toList<=9223372036854775807:=by unfold Lib.intSat;split<;>(try split)<;>simp
  have t:=C y;go_enter func185,ntmps185;go_wp2_with fail;apply(strconv_ParseInt_10_at64_range_var s (by omega) d l p _ m).mono;rintro i j ⟨A,rfl,B,_,c⟩;generalize Lib.intSat 64 s.data.toList=z at t⊢;go_wp2;go_ret2;exact⟨⟨z,by rw[a.out];rfl,λk b=>(by rw[a.out] at b;cases b),t⟩,c⟩
 |_=>rw[hp] at a;simp only at a;obtain⟨l,p,g⟩:=h.syn;have d:=C hp;have m:=C g;clear hp g;go_enter func185,ntmps185;go_wp2_with fail;refine(strconv_ParseInt_10_at64_syntax_var s (by omega) d l p _ m).mono ?_;rintro i j ⟨A,rfl,B,_,c⟩;have e:=C c;clear c;go_wp2;go_ret2;exact⟨⟨0,by rw[a.out];rfl,λk b=>(by rw[a.out] at b;cases b),by decide,by decide⟩,e⟩
def vp (b o:Nat) (ar:Array Value) (T:Nat) (c:Bool) (s:ByteArray) (w:ab) (e:Ending) (w':ab):Prop:=Kept b w w'∧((∃a,jO (bh s)=R a∧(c=true->0<=a)∧e=aK (I J 0)∧w'.heap[b]?=R (av (ar.setIfInBounds o (I J a)) T (0,0)))∨((jO (bh s)=U∨∃a,jO (bh s)=R a∧c=true∧a<0)∧e=aK (I J 11)∧w'.heap[b]?=R (av ar T (0,0))))
theorem yP (b o:Nat) (ar:Array Value) (T:Nat) (v0:Value) (s:ByteArray) (w:ab) (m:fh w) (j:w.heap[b]?=R (av ar T (0,0))) (n:ar[o]?=R v0) (p:s.size<=140737488351232):Calls au 127 #[.iface 277 (bk #[af (R ⟨b,o,U⟩)]),.string s] w (vp b o ar T true s w):=by
 have q:=C j;have r:=jd j;have z:=EG;have A:=ED;go_enter func127,ntmps127;go_wp2_with fail;apply(yO s _ (m.next (bx w _)) p).mono;rintro B e ⟨⟨v,rfl,t,D⟩,u⟩;have k:=C (qA (bx w _) u);have a:=(k.block b r).trans q;have E:=bJ a n;have F:=l1 (i:=o) a;have G:=jd a;have f:=C a;have y:=C t;have g:=C (l0 (b:=b) k);cases c:jO (bh s) with
 |none=>have d:=C c;clear c;go_wp2;go_ret;exact⟨g.trans (l0 (bx e _)),.inr ⟨.inl d,rfl,nn f⟩⟩
 |some x=>
  have d:=C c;obtain rfl:=y x c;by_cases l:v<0;·have h:=C l;go_wp2;go_ret;exact⟨g.trans (l0 (bx e _)),.inr ⟨.inr ⟨v,d,rfl,h⟩,rfl,nn f⟩⟩
  ·have h:=C l;go_wp2;go_ret;refine⟨g.trans ?_,.inl ⟨v,d,λ_=>by have:=h;omega,rfl,?_⟩⟩;·exact((Kept.refl b e).setCell _).trans (l0 (bx _ _))
   ·exact nn (eL _ f)
theorem yQ (b o:Nat) (ar:Array Value) (T:Nat) (v0:Value) (s:ByteArray) (w:ab) (k:fh w) (e:w.heap[b]?=R (av ar T (0,0))) (l:ar[o]?=R v0) (m:s.size<=140737488351232):Calls au 127 #[.iface 279 (bk #[af (R ⟨b,o,U⟩)]),.string s] w (vp b o ar T false s w):=by
 have n:=C e;have p:=jd e;have y:=EH;have z:=EF;have A:=EJ;have B:=EI;go_enter func127,ntmps127;go_wp2_with fail;apply(yO s _ (k.next (bx w _)) m).mono;rintro D f ⟨⟨v,rfl,q,E⟩,r⟩;have g:=C (qA (bx w _) r);have a:=(g.block b p).trans n;have F:=bJ a l;have G:=l1 (i:=o) a;have H:=jd a;have h:=C a;have t:=C q;have j:=C (l0 (b:=b) g);cases c:jO (bh s) with
 |none=>have d:=C c;clear c;go_wp2;go_ret;exact⟨j.trans (l0 (bx f _)),.inr ⟨.inl d,rfl,nn h⟩⟩
 |some x=>
  have d:=C c;obtain rfl:=t x c;go_wp2;go_ret;refine⟨j.trans ?_,.inl ⟨v,d,(λu=>nomatch u),rfl,?_⟩⟩;·exact((Kept.refl b f).setCell _).trans (l0 (bx _ _))
  ·exact nn (eL _ h)
def kR (l:List Nat):Nat:=if l=[] then 11 else(fi l).2
def EN (b o:Nat) (ar:Array Value) (T:Nat) (s:ByteArray) (w:ab) (e:Ending) (w':ab):Prop:=Kept b w w'∧((bh s=[110,111,110,101]∧e=aK (I J 0)∧w'.heap[b]?=R (av ar T (0,0)))∨(bh s≠[110,111,110,101]∧e=aK (I J (kR (bh s):Nat))∧w'.heap[b]?=R (av (ar.setIfInBounds o (I ah ((fi (bh s)).1:Nat))) T (0,0))))
theorem yR (s:ByteArray):(s.toList==[110,111,110,101])=true↔bh s=[110,111,110,101]:=by
 rw[beq_iff_eq,Lib.toList_data];unfold bh;constructor;·intro h;rw[h];rfl
 ·intro h;have:=congrArg (List.map UInt8.ofNat) h;rw[sk] at this;exact this
theorem EO (b o:Nat) (ar:Array Value) (T:Nat) (v0:Value) (s:ByteArray) (w:ab) (u:w.heap[b]?=R (av ar T (0,0))) (v:ar[o]?=R v0) (G:s.size<=140737488351232):Calls au 127 #[.iface 282 (bk #[af (R ⟨b,o,U⟩)]),.string s] w (EN b o ar T s w):=by
 have n:=C u;have x:=jd u;have H:=EE;by_cases d:bh s=[110,111,110,101];·have k:=C d;have y:(s.toList==[110,111,110,101])=true:=(yR s).2 d;clear d;go_enter func127,ntmps127;go_wp2;go_ret;exact⟨l0 (bx w _),.inl ⟨k,rfl,nn n⟩⟩
 ·have k:=C d;have y:(s.toList==[110,111,110,101])=false:=by
   cases h:(s.toList==[110,111,110,101]);·rfl
   ·exact absurd ((yR s).1 h) d
  cases he:s.toList.isEmpty;·have l:=C (by unfold kR;rw[z0 (λh=>by unfold bh at h;rw[List.map_eq_nil_iff] at h;rw[Lib.toList_data,h] at he;cases he)]:kR (bh s)=(fi (bh s)).2);go_enter func127,ntmps127;go_wp2_with fail;refine(yN s _ (by unfold maxLen;omega)).mono ?_;rintro A e ⟨rfl,c⟩;have f:=C (qA (bx w _) c);have a:=(f.block b x).trans n;have B:=bJ a v;have D:=l1 (i:=o) a;have E:=jd a;have F:e.cell? ⟨w.heap.size,0,U⟩=R (af (R ⟨b,o,U⟩)):=bY c (by simp) ((dz (j:=0)).trans rfl);have p:=C a;have q:=C (l0 (b:=b) f);clear c a;generalize g:(fi (bh s)).1=m;generalize r:(fi (bh s)).2=z at l⊢;have t:=C g;clear g r;go_wp2;go_ret;exact⟨q.trans ((Kept.refl b e).setCell _),.inr ⟨k,by rw[l.out];rfl,by rw[t.out];exact eL _ p⟩⟩
  ·have l:=C (by unfold kR;rw[aj (by rw[Lib.toList_data,pA] at he;unfold bh;rw[he];rfl)]:kR (bh s)=11);go_enter func127,ntmps127;go_wp2_with fail;refine(yN s _ (by unfold maxLen;omega)).mono ?_;rintro A e ⟨rfl,c⟩;have f:=C (qA (bx w _) c);have a:=(f.block b x).trans n;have B:=bJ a v;have D:=l1 (i:=o) a;have E:=jd a;have F:e.cell? ⟨w.heap.size,0,U⟩=R (af (R ⟨b,o,U⟩)):=bY c (by simp) ((dz (j:=0)).trans rfl);have p:=C a;have q:=C (l0 (b:=b) f);clear c a;generalize g:(fi (bh s)).1=m;generalize r:(fi (bh s)).2=z at⊢;have t:=C g;clear g r;go_wp2;go_ret;exact⟨q.trans ((Kept.refl b e).setCell _),.inr ⟨k,by rw[l.out];rfl,by rw[t.out];exact eL _ p⟩⟩
def c7 (c:Nat):List Nat->List (List Nat)
 |[]=>[[]]
 |x::r=>if x=c then[]::c7 c r else match c7 c r with
  |[]=>[[x]]
  |p::aO=>(x::p)::aO
theorem yS (c x:Nat) (r:List Nat):c7 c (x::r)=if x=c then[]::c7 c r else match c7 c r with
 |[]=>[[x]]
 |p::aO=>(x::p)::aO:=rfl
theorem vq (c:Nat) (l:List Nat):c7 c l≠[]:=by
 cases l with
 |nil=>simp[c7]
 |cons x r=>
  unfold c7;split;·simp
  ·split<;>simp
theorem EP (c:Nat) (a b:List Nat):c7 c (a++c::b)=c7 c a++c7 c b:=by
 induction a with
 |nil=>simp[c7]
 |cons x a e=>
  rw[gM,yS,yS];by_cases d:x=c;·rw[aj d,aj d,e];rfl
  ·rw[z0 d,z0 d,e];cases f:c7 c a with
   |nil=>exact absurd f (vq c a)
   |cons p aO=>rfl
theorem yT {l:List Nat} (h:∀a∈l,a≠c):c7 c l=[l]:=by
 induction l with
 |nil=>rfl
 |cons a r b=>unfold c7;rw[z0 (h a (by simp)),b (λy d=>h y (by simp[d]))]
theorem vr (c:Nat) (l:List Nat):(c7 c l).length<=l.length+1:=by
 induction l with
 |nil=>simp[c7]
 |cons y r a=>
  unfold c7;split;·simp;omega
  ·split;·simp
   ·next p aO b=>rw[b] at a;simp at a⊢;omega
theorem ER {l p:List Nat} (h:p∈c7 c l):p.length<=l.length:=by
 induction l generalizing p with
 |nil=>simp[c7] at h;subst h;simp
 |cons y r b=>
  unfold c7 at h;by_cases d:y=c
  ·rw[aj d] at h;rcases gZ.1 h with rfl|h;·simp
   ·have:=b h;simp;omega
  ·rw[z0 d] at h;cases a:c7 c r with
   |nil=>exact absurd a (vq c r)
   |cons q e=>
    rw[a] at h;simp only at h;rcases gZ.1 h with rfl|h;·have:=b (p:=q) (by rw[a];simp);simp;omega
    ·have:=b (p:=p) (by rw[a];simp[h]);simp;omega
theorem ES (c:UInt8) (k:Nat):∀a:ByteArray,a.size<=k->(Lib.splitB ⟨#[c]⟩ 0 (Lib.countB a ⟨#[c]⟩) a).map bh=c7 c.toNat (bh a):=by
 have m:∀a:ByteArray,Lib.indexB a ⟨#[c]⟩=Lib.indexByte a.data.toList c:=λa=>Lib.index_one a.data.toList c;have n:∀a:ByteArray,Lib.indexB a ⟨#[c]⟩=-1->(Lib.splitB ⟨#[c]⟩ 0 (Lib.countB a ⟨#[c]⟩) a).map bh=c7 c.toNat (bh a):=λa d=>by
  rw[Lib.countB_miss a _ d,Lib.splitB_zero,yT];·rfl
  ·intro p e f;unfold bh at e;obtain⟨u,q,rfl⟩:=eY.1 e;obtain⟨j,b⟩:=lp.1 q;exact Lib.indexByte_none ((m a).symm.trans d) j (by rw[b,UInt8.toNat_inj.1 f])
 induction k with
 |zero=>
  intro a r;rcases Lib.indexB_cases a ⟨#[c]⟩ with d|⟨i,d,o⟩;·exact n a d
  ·have:(⟨#[c]⟩:ByteArray).size=1:=rfl;omega
 |succ k s=>
  intro a r;rcases Lib.indexB_cases a ⟨#[c]⟩ with d|⟨i,d,o⟩;·exact n a d
  ·have g:(⟨#[c]⟩:ByteArray).size=1:=rfl;rw[g] at o;rw[Lib.countB_hit a _ i (by rw[g];exact bK _) d,Nat.add_comm,Lib.splitB_hit _ _ _ _ i d,g,km,s _ (by rw[ByteArray.size_extract];omega),Nat.add_zero,D9,D8];obtain⟨t,v⟩:=Lib.indexByte_some ((m a).symm.trans d);have h:i<a.size:=(by omega);have w:(a[i]'h).toNat=c.toNat:=(by have:=D6 h;unfold bh at this;rw[dD,t] at this;simpa using this.symm);have x:c7 c.toNat ((bh a).take i)=[(bh a).take i]:=yT (λp e f=>by
    obtain⟨j,b⟩:=lp.1 e;rw[List.getElem?_take] at b;split at b;·next y=>
     unfold bh at b;rw[dD] at b;cases l:a.data.toList[j]? with
     |none=>rw[l] at b;cases b
     |some u=>rw[l] at b;simp at b;exact v j y (by rw[l,UInt8.toNat_inj.1 (b.trans f)])
    ·cases b)
   conv=>rhs;rw[<-List.take_append_drop i (bh a),yx a i h,w,EP,x]
   rfl
structure bQ where
 k:Int
 a:Int
 b:Int
 n:Int
 m:Int
 s:Nat
def pG:bQ:=⟨0,0,0,0,0,0⟩
structure bQ.Ok (e:bQ):Prop where
 k:-9223372036854775808<=e.k∧e.k<=9223372036854775807
 a:-9223372036854775808<=e.a∧e.a<=9223372036854775807
 b:-9223372036854775808<=e.b∧e.b<=9223372036854775807
 n:-9223372036854775808<=e.n∧e.n<=9223372036854775807
 m:-9223372036854775808<=e.m∧e.m<=9223372036854775807
 s:e.s<18446744073709551616
def pH:List Nat:=[110,111,110,101]
def iJ (c:Nat) (t:List Nat):Nat:=if c=115 then(if t=pH then 0 else kR t) else match jO t with
 |some x=>if(c=97∨c=98)∧x<0 then 11 else 0
 |none=>11
def vs (e:bQ) (c:Nat) (x:Int):bQ:=if c=97 then {e with a:=x} else if c=98 then {e with b:=x} else if c=110 then {e with n:=x} else {e with m:=x}
def lz (e:bQ) (c:Nat) (t:List Nat):bQ:=if c=115 then(if t=pH then e else {e with s:=(fi t).1}) else vs e c ((jO t).getD 0)
def my (a f:Nat):Nat:=if f=11 then 11 else if f=0 then a else if a=0 then 1 else a
theorem ET {t:List Nat} (a:c≠115) (h:jO t=U):iJ c t=11:=by unfold iJ;rw[z0 a,h]
theorem EU {t:List Nat} {x:Int} (a:c≠115) (h:jO t=R x) (b:(c=97∨c=98)->0<=x):iJ c t=0:=by unfold iJ;rw[z0 a,h];show(if(c=97∨c=98)∧x<0 then 11 else 0)=0;rw[z0];rintro⟨d,e⟩;have:=b d;omega
theorem EV {t:List Nat} {x:Int} (a:c=97∨c=98) (h:jO t=R x) (b:x<0):iJ c t=11:=by unfold iJ;rw[z0 (by omega),h];show(if(c=97∨c=98)∧x<0 then 11 else 0)=11;rw[aj ⟨a,b⟩]
theorem EW (t:List Nat):(fi t).2=0∨(fi t).2=1∨(fi t).2=11:=by rcases Et t with h|h|⟨m,h⟩<;>rw[h]<;>simp
theorem EX (t:List Nat):kR t=0∨kR t=1∨kR t=11:=by
 unfold kR;split;·simp
 ·exact EW t
theorem EY {a f:Nat} (h:my a f=0):a=0∧f=0:=by
 unfold my at h;split at h;·omega
 ·split at h;·omega
  ·split at h<;>omega
def ko:List (List Nat):=[[103,114,111,117,112],[100,114,111,112],[109,111,118,101],[115,104,97,114,101,115],[113,117,111,116,97],[115,112,97,119,110],[119,97,107,101],[98,108,111,99,107],[121,105,101,108,100],[101,120,105,116],[116,105,99,107],[114,101,102,105,108,108],[112,117,108,108],[110,105,99,101],[109,97,115,107]]
def l4:List (List Nat)->Nat->List Nat->Nat
 |[],_,_=>0
 |x::r,i,w=>if x=w then i else l4 r (i+1) w
def g_ (w:List Nat):Nat:=l4 ko 1 w
def jx (k:Int):List Nat:=ko.getD (k.toNat-1) []
def nu:List Nat->List (List Nat)->bQ×Nat->bQ×Nat
 |c::cs,t::ts,(e,bad)=>nu cs ts (lz e c t,my bad (iJ c t))
 |_,_,x=>x
def sn (k:Nat) (p:List (List Nat)):bQ×Nat:=if k=0∨p.length≠(eb k).length+1 then(pG,11) else nu (eb k) p.tail (⟨k,0,0,0,0,0⟩,0)
def iK (l:List Nat):bQ×Nat:=sn (g_ ((c7 32 l).headD [])) (c7 32 l)
def ib (s:List Nat):List (List Nat):=if s.getLast?=R 10 then c7 10 s.dropLast else c7 10 s
def og (a:Bool):List (List Nat)->Nat->List bQ->List bQ×Nat×Nat
 |[],_,l=>(l,0,0)
 |t::r,i,l=>if r=[]∧a=false then([],i,11) else if(iK t).2≠0 then([],i,(iK t).2) else og a r (i+1) (l++[(iK t).1])
def kp (s:List Nat):List bQ×Nat×Nat:=if s=[] then([],0,0) else if 1000<(ib s).length then([],0,3) else og (decide (s.getLast?=R 10)) (ib s) 0 []
def qD:Array Value:=(ko.map λx=>Value.string (str x)).toArray
theorem EZ (w:ab):Calls au 125 #[] w λe w'=>e=aK (ay (R ⟨w.heap.size,0,U⟩) 15 15)∧w'=w.alloc (av qD 9):=by go_enter func125,ntmps125;go_wp2;go_ret;exact⟨rfl,rfl⟩
theorem E0 (h:j<15):(w.alloc (av qD 9)).cell? ⟨w.heap.size,j,U⟩=R (.string (str (jx ((j:Int)+1)))):=by rw[dz];unfold qD jx;rw[fg,dD,show((j:Int)+1).toNat-1=j by omega,dy];have a:j<ko.length:=h;rw[b5 a];rfl
theorem yU (k:Int):eb k=[97,110]∨eb k=[97,98]∨eb k=[97,110,109]∨eb k=[97,110,115]∨eb k=[97,115]∨eb k=[97]:=by
 unfold eb;split;·simp
 ·split;·simp
  ·split;·simp
   ·split;·simp
    ·split<;>simp
theorem yV (L:List (List Nat)) (i:Nat) (w:List Nat):l4 L i w=0∨(i<=l4 L i w∧l4 L i w<i+L.length∧L[l4 L i w-i]?=R w):=by
 induction L generalizing i with
 |nil=>exact .inl rfl
 |cons x L a=>
  unfold l4;split;·next h=>right;subst h;simp
  ·rcases a (i+1) with h|⟨c,d,b⟩;·exact .inl h
   ·right;refine⟨by omega,by simp;omega,?_⟩;rw[show l4 L (i+1) w-i=(l4 L (i+1) w-(i+1))+1 by omega];exact b
theorem yW (w:List Nat):g_ w<=15:=by
 rcases yV ko 1 w with h|⟨_,h,_⟩;·unfold g_;omega
 ·have:ko.length=15:=rfl;unfold g_;omega
theorem E1 {w:List Nat} (h:g_ w≠0):jx (g_ w)=w:=by
 rcases yV ko 1 w with g|⟨_,_,g⟩;·exact absurd g h
 ·unfold jx;rw[List.getD,bZ];show(ko[l4 ko 1 w-1]?).getD []=w;rw[g];rfl
theorem E2:∀k:Fin 15,g_ (jx ((k.val+1:Nat):Int))=k.val+1:=by decide+kernel
theorem yX {k:Int} (a:1<=k) (b:k<=15):g_ (jx k)=k.toNat:=by obtain⟨n,rfl⟩:∃n:Nat,k=((n+1:Nat):Int):=⟨(k-1).toNat,by omega⟩;have:=E2 ⟨n,by omega⟩;rw[this,bZ]
theorem E3:∀w∈ko,∀x∈w,97<=x∧x<=122:=by decide+kernel
theorem E4 (k:Int):∀a∈jx k,97<=a∧a<=122:=by
 unfold jx;rw[List.getD];cases h:ko[k.toNat-1]? with
 |none=>intro a b;cases b
 |some w=>exact E3 w (ea h)
def bQ.list (e:bQ):List Value:=[I J e.k,I J e.a,I J e.b,I J e.n,I J e.m,I ah (e.s:Int)]
def yY (e:bQ):Value:=bk #[I J e.k,I J e.a,I J e.b,I J e.n,I J e.m,I ah (e.s:Int)]
def jf:cd bQ:=⟨6,bQ.list,λ_=>rfl,λe u h=>by simp[bQ.list] at h;rcases h with rfl|rfl|rfl|rfl|rfl|rfl<;>rfl,by decide⟩
theorem E5:(prog.info? 33).map (λi=>(i.zero,i.size,i.bytes))=R (R (bk #[I J 0,I J 0,I J 0,I J 0,I J 0,I ah 0]),6,48):=by kernel_rfl
theorem vt {f:Array Oper} {rest:List Oper} {o:Oper} {a:Act} {g:Exit->Act->ab->Prop} (i:o.guard=U) (s x:Operand) (l:o.op= .call {callee:=.builtin .append,args:=#[s,x],argTypes:=#[24,24]}) (base:Nat) (v:Value) (n:Nat) (zs:List bQ) (p:a.eval s=v) (q:Own jf w base 33 v n zs) (b c:Nat) (y:bQ) (r:a.eval x=ay (R ⟨b,0,U⟩) 1 c) (h0:w.cell? ⟨b,0,U⟩=R (I J y.k)) (t:w.cell? ⟨b,1,U⟩=R (I J y.a)) (z:w.cell? ⟨b,2,U⟩=R (I J y.b)) (A:w.cell? ⟨b,3,U⟩=R (I J y.n)) (B:w.cell? ⟨b,4,U⟩=R (I J y.m)) (C:w.cell? ⟨b,5,U⟩=R (I ah (y.s:Int))) (O:n<=100000) (D:base<=w.heap.size) (h:∀e w',Own jf w' base 33 e (n+1) (zs++[y])->w.grownBy w' v.ownBlock->wpList au f g rest (a.put o.dst e) w'):wpList au f g (o::rest) a w:=by
 obtain⟨E,F,G,H,K⟩:=info_parts E5;refine wpList_append_own_at _ i s x 24 l base 33 E _ 6 48 underlying24 F G H K rfl (by decide) v n _ p q ⟨b,0,U⟩ 1 c y.list r rfl ?_ ?_ (by unfold maxLen;omega) (by omega) D ?_
 ·intro j u d;rw[addr_add,lZ];have P:j<6:=by have:=(bD.1 d).1;simpa[bQ.list] using this
  have:j=0∨j=1∨j=2∨j=3∨j=4∨j=5:=by omega
  rcases this with rfl|rfl|rfl|rfl|rfl|rfl;·rw[h0];simpa[bQ.list] using d
  ·rw[t];simpa[bQ.list] using d
  ·rw[z];simpa[bQ.list] using d
  ·rw[A];simpa[bQ.list] using d
  ·rw[B];simpa[bQ.list] using d
  ·rw[C];simpa[bQ.list] using d
 ·intro u L;exact jf.one y u L
 ·intro e w' M N _ _;exact h e w' (by unfold Own;rw[cd.vk];exact M) N
structure Oy (W:ab) (b o:Nat) (e:bQ):Prop where
 c0:W.cell? ⟨b,o,U⟩=R (I J e.k)
 bR:W.cell? ⟨b,o+1,U⟩=R (I J e.a)
 c2:W.cell? ⟨b,o+2,U⟩=R (I J e.b)
 c3:W.cell? ⟨b,o+3,U⟩=R (I J e.n)
 c4:W.cell? ⟨b,o+4,U⟩=R (I J e.m)
 c5:W.cell? ⟨b,o+5,U⟩=R (I ah (e.s:Int))
inductive oh (x y:bQ):Prop
 |same (h:x=y) (h0:(x.k==y.k)=true) (aq:(x.a==y.a)=true) (aA:(x.b==y.b)=true) (aZ:(x.n==y.n)=true) (bV:(x.m==y.m)=true) (cZ:((x.s:Int)==(y.s:Int))=true):oh x y
 |k (h:x≠y) (h0:(x.k==y.k)=false):oh x y
 |a (h:x≠y) (h0:(x.k==y.k)=true) (aq:(x.a==y.a)=false):oh x y
 |b (h:x≠y) (h0:(x.k==y.k)=true) (aq:(x.a==y.a)=true) (aA:(x.b==y.b)=false):oh x y
 |n (h:x≠y) (h0:(x.k==y.k)=true) (aq:(x.a==y.a)=true) (aA:(x.b==y.b)=true) (aZ:(x.n==y.n)=false):oh x y
 |m (h:x≠y) (h0:(x.k==y.k)=true) (aq:(x.a==y.a)=true) (aA:(x.b==y.b)=true) (aZ:(x.n==y.n)=true) (bV:(x.m==y.m)=false):oh x y
 |s (h:x≠y) (h0:(x.k==y.k)=true) (aq:(x.a==y.a)=true) (aA:(x.b==y.b)=true) (aZ:(x.n==y.n)=true) (bV:(x.m==y.m)=true) (cZ:((x.s:Int)==(y.s:Int))=false):oh x y
theorem i64_in {n:Int} (h0:-9223372036854775808<=n) (a:n<=9223372036854775807):wrap64 n=n:=by unfold wrap64;omega
def mk (w:Nat):Nat->Nat
 |0=>0
 |k+1=>2^(2*w)*mk w k+(2^w-1)
theorem E6 {k:Int} (h:(eb k)[i]?=R c):c=97∨c=98∨c=110∨c=109∨c=115:=by have b:=ea h;rcases yU k with a|a|a|a|a|a<;>rw[a] at b<;>simp at b<;>omega
theorem E7 (k:Int):(eb k).length<=3:=by rcases yU k with a|a|a|a|a|a<;>rw[a]<;>simp
theorem vu {V:ab} {A:Obj} (h:w.alloc A=V):V.heap[w.heap.size]?=R A∧Below w.heap.size w V:=by subst h;exact⟨l2 w A,bx w A⟩
theorem qE (h:Below n w w') (d:n<=b) (v:Value):Below n w (w'.setCell ⟨b,i,U⟩ v):=⟨h.os,h.tape,h.output,by simpa using h.size,λa c=>(heap_setCell_other w' ⟨b,i,U⟩ a v (by show a≠b;omega)).trans (h.block a c)⟩
theorem so {a:Nat} {O:Obj} (c:b≠a) (v:Value) (h:w.heap[b]?=R O):(w.setCell ⟨a,i,U⟩ v).heap[b]?=R O:=(heap_setCell_other w ⟨a,i,U⟩ b v c).trans h
theorem E8 {t:List Nat} (h:t≠pH):iJ 115 t=kR t:=by unfold iJ;rw[aj rfl,z0 h]
theorem E9 {t:List Nat} (h:t≠pH) (e:bQ):lz e 115 t={e with s:=(fi t).1}:=by unfold lz;rw[aj rfl,z0 h]
variable {al:Nat->Prop}
def lA (c:List Nat) (P:List (List Nat)) (al:bQ×Nat) (i:Nat) (g:bQ) (a:Nat):Prop:=∃b:bQ,nu (c.drop i) (P.drop i) (b,a)=al∧(a=0->g=b)
theorem E_ (F:List Nat) (P:List (List Nat)) (e:bQ):lA F P (nu F P (e,0)) 0 e 0:=⟨e,rfl,λ_=>rfl⟩
theorem lA.next {a:List Nat} {al:bQ×Nat} {g g':bQ} {b:Nat} {t:List Nat} (h:lA a P al i g b) (d:a[i]?=R c) (e:P[i]?=R t) (f:iJ c t=0->g'=lz g c t):lA a P al (i+1) g' (my b (iJ c t)):=by
 obtain⟨j,k,l⟩:=h;have m:i<a.length:=(bD.1 d).1;have n:i<P.length:=(bD.1 e).1;refine⟨lz j c t,?_,λo=>?_⟩;·rw[<-k,px m,px n];rw[(bD.1 d).2,(bD.1 e).2];rfl
 ·obtain⟨p,q⟩:=EY o;rw[f q,l p]
theorem lA.fin {c:List Nat} {al:bQ×Nat} {g:bQ} {a:Nat} (h:lA c P al i g a) (e:c.length<=i):al.2=a∧(a=0->g=al.1):=by
 obtain⟨d,b,f⟩:=h;rw[List.drop_of_length_le e] at b;have:nu [] (P.drop i) (d,a)=(d,a):=by cases P.drop i<;>rfl
 rw[this] at b;subst b;exact⟨rfl,λj=>f j⟩
theorem Fa {l:List Nat} {v:Nat} (h:g_ ((c7 32 l).headD [])=v) (hv:v=0):iK l=(pG,11):=by unfold iK sn;rw[h,aj (.inl hv)]
theorem Fb {l:List Nat} {v:Nat} (h:g_ ((c7 32 l).headD [])=v) (hv:(c7 32 l).length≠(eb v).length+1):iK l=(pG,11):=by unfold iK sn;rw[h,aj (.inr hv)]
theorem Fc {l:List Nat} {v:Nat} (h:g_ ((c7 32 l).headD [])=v) (h0:v≠0) (hv:(c7 32 l).length=(eb v).length+1):iK l=nu (eb v) (c7 32 l).tail (⟨v,0,0,0,0,0⟩,0):=by unfold iK sn;rw[h,z0 (by omega)]
theorem yZ (k:Int):bh (str (jx k))=jx k:=yy λa b=>by have:=E4 k a b;omega
theorem vv {s:ByteArray} (h:L.map bh=c7 c (bh s)):L.length=(c7 c (bh s)).length∧0<L.length∧∀j (a:j<L.length),(L[j]'a).size<=s.size∧(c7 c (bh s))[j]?=R (bh (L[j]'a)):=by
 have b:L.length=(c7 c (bh s)).length:=by rw[<-h,dY]
 refine⟨b,?_,λj a=>?_⟩;·rw[b];exact List.length_pos_iff.2 (vq _ _)
 ·have d:(c7 c (bh s))[j]?=R (bh (L[j]'a)):=by rw[<-h,dD,b5 a];rfl
  refine⟨?_,d⟩;have:=ER (ea d);rw[l3,l3] at this;exact this
structure Oz (c:Nat) (s:ByteArray) (w:ab) (L:List ByteArray) (v:Value) (f i:Nat) (wr:ab):Prop where
 OA:f<=i
 le:i<=s.size
 len:L.length<=f
 own:Own encS wr w.heap.size 9 v L.length L
 cut:c7 c ((bh s).take i)=L.map bh++[((bh s).drop f).take (i-f)]
 OB:Below w.heap.size w wr
theorem Fe {l:List (List Nat)} {x:List Nat} (h:l[0]?=R x):l.headD []=x:=by
 cases l with
 |nil=>cases h
 |cons a l=>simp at h;exact h
theorem Ff {a b:ab} (h:b=a.alloc (av qD 9)):(∀j,j<15->b.cell? ⟨a.heap.size,j,U⟩=R (.string (str (jx ((j:Int)+1)))))∧a.heap.size<b.heap.size∧Below a.heap.size a b:=by subst h;exact⟨λj c=>E0 c,by simp,bx _ _⟩
def kS (e:bQ):Array Value:=#[I J e.k,I J e.a,I J e.b,I J e.n,I J e.m,I ah (e.s:Int)]
theorem Fg {F:List Nat} (h:F[i]?=R c):((F.map (pF b)).toArray)[i]?=R (pF b c):=by rw[fg,dD,h];rfl
variable {v1:Value} {tmps:Array Value} {fn:Func}
def Fh (c:UInt8) (s:ByteArray) (w:ab) (e:Ending) (w':ab):Prop:=∃L:List ByteArray,L.map bh=c7 c.toNat (bh s)∧e=aK (ay (R ⟨w.heap.size,0,U⟩) L.length L.length)∧(∀j (a:j<L.length),w'.cell? ⟨w.heap.size,j,U⟩=R (.string (L[j]'a)))∧w.heap.size<w'.heap.size∧Below w.heap.size w w'
theorem vw (c:UInt8) (s:ByteArray) (w:ab) (a:fh w) (b:s.size<4294967281):Calls au 68 #[.string s,.string ⟨#[c]⟩] w (Fh c s w):=by refine(Ed s ⟨#[c]⟩ w a b (bK 1)).mono ?_;rintro f w' ⟨rfl,rfl⟩;have d:(Lib.splitB ⟨#[c]⟩ 0 (Lib.countB s ⟨#[c]⟩) s).length=Lib.countB s ⟨#[c]⟩+1:=Lib.splitB_all ⟨#[c]⟩ (bK 1) 0 _ s rfl;refine⟨_,ES c s.size s zK9,by rw[d],λj e=>?_,by simp,bx _ _⟩;rw[dz,fg,dD,b5 e];rfl
def qF:List ByteArray:=ko.map str
theorem sq (h:j<15):qF.getD j ByteArray.empty=str (jx ((j:Int)+1)):=by have a:j<ko.length:=h;unfold qF jx;rw[dy,dD,show((j:Int)+1).toNat-1=j by omega,dy,b5 a];rfl
theorem Fi (x:ByteArray):Lib.idxOfS (qF.take 15) x=(g_ (bh x):Int)-1:=by
 by_cases b:g_ (bh x)=0
 ·rw[b,Lib.idxOfS_miss];·rfl
  ·intro j c a;rw[sq c] at a;have:g_ (bh x)=j+1:=(by rw[<-a,yZ,yX (by omega) (by omega)];omega);omega
 ·have e:=yW (bh x);have d:=E1 b;rw[Lib.idxOfS_hit qF 15 (g_ (bh x)-1) x (by omega) zK9 ?_ ?_];·omega
  ·rw[sq (by omega),show(((g_ (bh x)-1:Nat):Int)+1)=((g_ (bh x):Nat):Int) by omega,d,yz]
  ·intro j c a;rw[sq (by omega)] at a;have:g_ (bh x)=j+1:=(by rw[<-a,yZ,yX (by omega) (by omega)];omega);omega
theorem Fj (b v:Nat) (x:ByteArray) (W:ab) (d:∀j,j<15->W.cell? ⟨b,j,U⟩=R (.string (str (jx ((j:Int)+1))))) (hv:g_ (bh x)=v):Calls au 124 #[ay (R ⟨b,0,U⟩) 15 15,.string x] W λe w'=>e=aK (I J ((v:Int)-1))∧w'=W:=by have a:=slices_Index_string b 0 15 15 qF x W zK9 (by decide) (λj c=>by rw[lZ,sq c];exact d j c);rw[Fi,hv] at a;exact a
def y0 (g:Nat) (e:bQ) (c:Nat) (t:List Nat) (w:ab) (x:Ending) (w':ab):Prop:=Kept g w w'∧∃(a:Nat) (b:bQ),iJ c t=a∧x=aK (I J (a:Int))∧(a=0∨a=1∨a=11)∧(a=0->b=lz e c t)∧w'.heap[g]?=R (av (kS b) 33 (0,0))
theorem sr {e:bQ} {i:Bool} {t:ByteArray} {x:Ending} (h:vp g o (kS e) 33 i t w x w') (b:c≠115) (j:i=true↔(c=97∨c=98)) (l:∀y:Int,(kS e).setIfInBounds o (I J y)=kS (vs e c y)):y0 g e c (bh t) w x w':=by
 obtain⟨k,⟨y,a,m,d,f⟩|⟨a,d,f⟩⟩:=h;·refine⟨k,0,vs e c y,EU b a (λn=>m (j.2 n)),d,.inl rfl,λ_=>?_,by rw[<-l];exact f⟩;unfold lz;rw[z0 b,a];rfl
 ·refine⟨k,11,e,?_,d,.inr (.inr rfl),(λh=>nomatch h),f⟩;rcases a with a|⟨y,a,p,q⟩;·exact ET b a
  ·exact EV (j.1 p) a q
theorem Fk (g c:Nat) (e:bQ) (t:ByteArray) (w:ab) (h:fh w) (d:w.heap[g]?=R (av (kS e) 33 (0,0))) (f:t.size<=140737488351232) (m:c=97∨c=98∨c=110∨c=109∨c=115):Calls au 127 #[pF g c,.string t] w (y0 g e c (bh t) w):=by
 rcases m with rfl|rfl|rfl|rfl|rfl;·exact(yP g 1 (kS e) _ _ t w h d rfl f).mono λi w' b=>sr b (by decide) (by simp) (λy=>rfl)
 ·exact(yP g 2 (kS e) _ _ t w h d rfl f).mono λi w' b=>sr b (by decide) (by simp) (λy=>rfl)
 ·exact(yQ g 3 (kS e) _ _ t w h d rfl f).mono λi w' b=>sr b (by decide) (by simp) (λy=>rfl)
 ·exact(yQ g 4 (kS e) _ _ t w h d rfl f).mono λi w' b=>sr b (by decide) (by simp) (λy=>rfl)
 ·apply(EO g 5 (kS e) _ _ t w d rfl f).mono;rintro i w' ⟨l,⟨a,j,k⟩|⟨a,j,k⟩⟩;·have a:bh t=pH:=a;exact⟨l,0,e,by unfold iJ;rw[aj rfl,aj a],j,.inl rfl,λ_=>by unfold lz;rw[aj rfl,aj a],k⟩
  ·have a:bh t≠pH:=a;exact⟨l,kR (bh t),{e with s:=(fi (bh t)).1},E8 a,j,EX _,λ_=>(E9 a e).symm,k⟩
theorem Fl:(prog.info? 33).map (·.size)=R 6:=by kernel_rfl
theorem ss {p u:Tmp} {a:Act} {T:Nat} {v0 v2 v3 v4 v5 r:Value} (h:fn.results=#[.cell p 33,.tmp u]) (b:a.tmps.getD p undef=af (R ⟨g,0,U⟩)) (c:a.tmps.getD u undef=r) (d:w.heap[g]?=R (av #[v0,v1,v2,v3,v4,v5] T (0,0))):(results fn a.tmps).run au w= .ok (bC #[bk #[v0,v1,v2,v3,v4,v5],r]) w:=by rw[results_cell_tmp h,b,c];simp only[asAddr,Sem.run_pure,Result.andThen_ok];rw[run_loadVar_row w g T 33 _ _ _ d underlying33 rfl Fl];rfl
theorem cQ {T:Nat} {u0 u1 u2 u3 u4 u5:Value} (h:w.heap[g]?=R (av #[u0,u1,u2,u3,u4,u5] T (0,0))) (v0 v1 v2 v3 v4 v5:Value):((((((w.setCell ⟨g,0,U⟩ v0).setCell ⟨g,1,U⟩ v1).setCell ⟨g,2,U⟩ v2).setCell ⟨g,3,U⟩ v3).setCell ⟨g,4,U⟩ v4).setCell ⟨g,5,U⟩ v5).heap[g]?=R (av #[v0,v1,v2,v3,v4,v5] T (0,0)):=by have a:=eL (i:=0) v0 h;rw[show(#[u0,u1,u2,u3,u4,u5]:Array Value).setIfInBounds 0 v0=#[v0,u1,u2,u3,u4,u5] from rfl] at a;have b:=eL (i:=1) v1 a;rw[show(#[v0,u1,u2,u3,u4,u5]:Array Value).setIfInBounds 1 v1=#[v0,v1,u2,u3,u4,u5] from rfl] at b;have c:=eL (i:=2) v2 b;rw[show(#[v0,v1,u2,u3,u4,u5]:Array Value).setIfInBounds 2 v2=#[v0,v1,v2,u3,u4,u5] from rfl] at c;have d:=eL (i:=3) v3 c;rw[show(#[v0,v1,v2,u3,u4,u5]:Array Value).setIfInBounds 3 v3=#[v0,v1,v2,v3,u4,u5] from rfl] at d;have e:=eL (i:=4) v4 d;rw[show(#[v0,v1,v2,v3,u4,u5]:Array Value).setIfInBounds 4 v4=#[v0,v1,v2,v3,v4,u5] from rfl] at e;have f:=eL (i:=5) v5 e;rw[show(#[v0,v1,v2,v3,v4,u5]:Array Value).setIfInBounds 5 v5=#[v0,v1,v2,v3,v4,v5] from rfl] at f;exact f
theorem Fm (cs:List Nat) (ts:List (List Nat)) (e:bQ):(nu cs ts (e,11)).2=11:=by
 induction cs generalizing ts e with
 |nil=>cases ts<;>rfl
 |cons c cs a=>
  cases ts with
  |nil=>rfl
  |cons t ts=>show(nu cs ts (lz e c t,my 11 (iJ c t))).2=11;rw[show my 11 (iJ c t)=11 by unfold my;split<;>simp];exact a ts _
theorem lA.form {a:List Nat} {al:bQ×Nat} {g:bQ} {d:Nat} {t:List Nat} (h:lA a P al i g d) (e:a[i]?=R c) (f:P[i]?=R t) (j:iJ c t=11):al.2=11:=by have b:=h.next (g':=lz g c t) e f (λ_=>rfl);rw[j] at b;obtain⟨l,k,_⟩:=b;rw[<-k];exact Fm _ _ _
def vx (al:bQ×Nat) (w:ab) (x:Ending) (w':ab):Prop:=∃e:bQ,x=aK (bC #[yY e,I J (al.2:Int)])∧(al.2=0->e=al.1)∧Below w.heap.size w w'
theorem su {al:bQ×Nat} {e:bQ} {x:Ending} (h:al.2=b) (a:x=aK (bC #[yY e,I J (b:Int)])) (c:b=0->e=al.1) (d:Below w.heap.size w w'):vx al w x w':=⟨e,by rw[h];exact a,λf=>c (h.symm.trans f),d⟩
variable {ai:Int->Nat} {ag:List (Int×Int)}
def y1 (v:Nat) (w:ab) (p:Value) (w':ab):Prop:=∃g,p=af (R ⟨g,0,U⟩)∧w.heap.size<=g∧w'.heap[g]?=R (av (kS ⟨v,0,0,0,0,0⟩) 33 (0,0))∧Below w.heap.size w w'
theorem Fo {v:Nat} {a:ab} (h:Below w.heap.size w a) (b:g=a.heap.size):y1 v w (af (R ⟨g,0,U⟩)) (a.alloc (av #[I J (v:Int),I J 0,I J 0,I J 0,I J 0,I ah 0] 33)):=by subst b;exact⟨_,rfl,h.size,l2 _ _,h.alloc h.size _⟩
theorem Fp {a:List Nat} {al:bQ×Nat} {g g':bQ} {b f:Nat} {t:List Nat} (h:lA a P al i g b) (d:a[i]?=R c) (e:P[i]?=R t) (j:iJ c t=f) (k:f=0->g'=lz g c t):lA a P al (i+1) g' (my b f):=by subst j;exact h.next d e k
theorem Fq {a:ab} {x:Ending} (h:a=W.alloc (av qD 9)) (c:x=aK (ay (R ⟨W.heap.size,0,U⟩) 15 15)):∃b,x=aK (ay (R ⟨b,0,U⟩) 15 15)∧(∀j,j<15->a.cell? ⟨b,j,U⟩=R (.string (str (jx ((j:Int)+1)))))∧b<a.heap.size∧Below W.heap.size W a:=⟨_,c,Ff h⟩
theorem Fs {a b:ab} (h:Below a.drew.heap.size a.drew b):Below a.heap.size a b:=(Below.refl _ a).drew.trans h
theorem Ft {a b:ab} {T:Nat} (h:Below (a.drew.alloc (av ar T)).heap.size (a.drew.alloc (av ar T)) b):b.heap[a.heap.size]?=R (av ar T (0,0))∧Below a.heap.size a b:=⟨(h.block _ (by simp)).trans (l2 a.drew _),((Below.refl _ a).drew.alloc zK9 _).trans (h.mono (by simp))⟩
theorem y2 (s:ByteArray) (w:ab) (aU:fh w) (cG:s.size<=100000000):Calls au 69 #[.string s] w (vx (iK (bh s)) w):=by
 go_enter func69,ntmps69;go_upto_region 1 with(fail);generalize bz:kn w _=V;have F:=C (vu bz);have aP:=C F.2;have a2:=C F.1;have S:=jd F.1;have a3:=C (aU.next F.2);go_wp2_with fail;apply(vw 32 s _ a3 (by omega)).mono;rintro G aV ⟨L,a4,rfl,aZ,r,a6⟩;have u:=C (vv (c:=32) a4);have a5:=C aZ;have aK:=C (aP.trans (a6.mono aP.size));have bF:=C ((a6.block _ S).trans a2);have cJ:L.length<=100000001:=by have bk:=u.1;have aO:=vr 32 (bh s);rw[l3] at aO;omega
 have H:=u.2.1;have T:=aZ 0 H;have ak:=C (Fe (u.2.2 0 H).2);have a9:=C (u.2.2 0 H).1;generalize b_:(L[0]'H)=a7 at T ak a9;obtain⟨v,a8⟩:=aW (g_ (bh a7));have ba:=C a8;have cq:v<=15:=a8▸yW _;have cM:IntKind.i64.wrap (1+((v:Int)-1))=(v:Int):=by simp[IntKind.wrap,IntKind.signed,IntKind.bits];omega
 go_upto_region 2 with fail;go_cut [5] from 13 to 19 (λb aC=>y1 v aV b aC);case first=>go_region_with (first|(go_at_call 125;refine(EZ _).mono ?_;rintro G ar ⟨ao,bb⟩;have bI:=Fq bb ao;clear bb ao;obtain⟨a_,rfl,W,bL,K⟩:=bI;have ag:=C W;first|(have x:=C (Fs K);have X:=bY x r T;have Y:=dd r x.size;have bd:=λZ=>fq Z Y X;clear W K)|(have d:=Ft K;have x:=C d.2;have be:=C d.1;have X:=bY x r T;have Y:=dd r x.size;have bd:=λZ=>fq Z Y X;have cW:=bJ (i:=0) d.1 rfl;have c8:=bJ (i:=1) d.1 rfl;have c_:=bJ (i:=2) d.1 rfl;have da:=bJ (i:=3) d.1 rfl;have aI:=bJ (i:=4) d.1 rfl;have cZ:=bJ (i:=5) d.1 rfl;have de:=λi=>l1 (i:=i) d.1;clear W K d))|(go_at_call 124;refine(Fj _ v a7 _ (by first|exact ag|exactλj z=>fq _ bL (ag j z)) ba).mono ?_;rintro G bG ⟨rfl,rfl⟩));all_goals go_wp2_with fail;go_meet;first
  |(have bN:=be;exact⟨_,rfl,bK _,cQ bN _ _ _ _ _ _,by
   repeat(with_reducible refine qE ?_ zK9 _)
   exact x⟩)|exact Fo x rfl
 case rest=>
  obtain⟨g,rfl,df,f,d⟩:=hcut;have bf:wc.cell? ⟨g,0,U⟩=R (I J (v:Int)):=bJ (i:=0) f rfl;have aa:=jd f;have bS:=C (aK.trans (d.mono (Nat.le_of_lt (Nat.lt_trans S r))));have aM:w.heap.size<aV.heap.size:=Nat.lt_trans S r;have bi:=C ((d.block _ aM).trans bF);have bT:=C (λj (z:j<L.length)=>bY d r (a5 j z));have di:=d.size;have aX:=C f;go_wp2_with fail;apply(En g (v:Int) _ aa bf).mono;rintro G ax ⟨bX,rfl,bc,ca,A⟩;have bV:=C bc;have b1:=jd bc;have dA:=A.size;have aq:=C (bS.trans (A.mono (by omega)));have bg:=(A.block _ aa).trans aX;have al:=C bg;have b3:ax.cell? ⟨g,0,U⟩=R (I J (v:Int)):=bJ (i:=0) bg rfl;have h:=(A.block _ (by omega)).trans bi;have D:=C h;have b6:=C (λj (z:j<L.length)=>bY A (by omega) (bT j z));have ac:=C (by rw[ak.out];exact ba:g_ ((c7 32 (bh s)).headD [])=v);have dF:=E7 (v:Int);have az:=bJ (i:=0) h rfl;have ad:=bJ (i:=1) h rfl;have aB:=bJ (i:=2) h rfl;have aA:=bJ (i:=3) h rfl;have aG:=bJ (i:=4) h rfl;have aL:=bJ (i:=5) h rfl;have af:=λi=>l1 (i:=i) h;have bR:=jd h;by_cases M:v=0
  ·have bs:((v:Int)==0)=true:=(by simp;omega);have E:=C (Fa ac M);clear M;go_wp2;apply bodyPost_ret (ss rfl rfl rfl (cQ (by first|exact D|exact so (by omega) _ D) _ _ _ _ _ _)) rfl;refine su (e:=pG) (b:=11) (by rw[E.out]) rfl (λp=>nomatch p) ?_;repeat(with_reducible refine qE ?_ (by omega) _)
   exact aq
  ·have bs:((v:Int)==0)=false:=(by simp;omega);by_cases N:L.length=(eb v).length+1
   ·have b9:((L.length:Int)!=1+((eb v).length:Int))=false:=(by simp;omega);have E:=C (Fc ac M (by rw[<-u.out.1];exact N));have aY:=C N;clear N M;go_wp2_with fail;clear az ad aB aA aG aL af bR b3;go_loopw [7,35] (λbv ae wr=>∃(i:Nat) (e:bQ) (q:Nat),bv=I J (q:Int)∧ae=I J (i:Int)∧i<=(eb v).length∧(q=0∨q=1)∧lA (eb v) (c7 32 (bh s)).tail (iK (bh s)) i e q∧wr.heap[g]?=R (av (kS e) 33 (0,0))∧Kept g ax wr) (λ_ ae _=>(eb v).length-(intOf ae).toNat);case atStart=>exact⟨0,_,0,rfl,rfl,gN _,.inl rfl,by rw[E.out];exact E_ _ _ _,al,Kept.refl _ _⟩
    case round=>
     obtain⟨i,e,q,rfl,rfl,bn,bj,am,f,y⟩:=hrel;have a1:=C f;have an:=C bj;have dG:=y.size;have l:=(y.block w.heap.size (by omega) (by omega)).trans D;have aN:=C (aq.trans ((y.below (B:=w.heap.size) (by omega) (by omega))));have aj:=C l;have aw:=(y.block bX b1 (by omega)).trans bV;have cc:=C aw;clear bj aw;by_cases ap:i<(eb v).length
     ·clear f l;have cf:(i:Int)<((eb v).length:Int):=(by omega);have O:1+i<L.length:=(by have:=aY.out;omega);obtain⟨c,P⟩:∃c,(eb v)[i]?=R c:=⟨_,b5 ap⟩;have bl:=C P;have cg:=bJ cc (Fg (b:=g) P);have cj:=E6 P;have cm:=y.cell (by omega) (by omega) (b6 (1+i) O);have aQ:=u.2.2 (1+i) O;have aR:=C (by rw[List.getElem?_tail,Nat.add_comm];exact aQ.2:(c7 32 (bh s)).tail[i]?=R (bh (L[1+i]'O)));have cn:=aQ.1;generalize(L[1+i]'O)=t at cm aR cn;clear P aQ;generalize bo:pF g c=dH at cg;have b8:=C bo;clear bo;go_wp2_with fail;rw[<-b8.out];apply(Fk g c e t _ (aU.next aN) a1 (by omega) cj).mono;rintro G dI ⟨Q,bx,bm,aS,rfl,cr,ay,bq⟩;have bt:=C bq;have ai:=C (y.trans Q);have bw:=C (Fp am bl aR aS ay);have bB:=C aS;have o:=(Q.block w.heap.size (by omega) (by omega)).trans aj;have bW:=C (aN.trans (Q.below (B:=w.heap.size) (by omega) (by omega)));have aD:=C o;have az:=bJ (i:=0) o rfl;have ad:=bJ (i:=1) o rfl;have aB:=bJ (i:=2) o rfl;have aA:=bJ (i:=3) o rfl;have aG:=bJ (i:=4) o rfl;have aL:=bJ (i:=5) o rfl;have af:=λi=>l1 (i:=i) o;clear bq Q ay aS o;rcases cr with rfl|rfl|rfl
      ·go_wp2;go_roundw;case rel=>exact⟨i+1,bm,q,rfl,by go_num,ap,an,bw,bt,ai⟩
       case measure=>simp[intOf];omega
      ·have cu:=C (by rcases an with p|p<;>subst p<;>rfl:my q 1=1);go_wp2;go_roundw;case rel=>exact⟨i+1,bm,1,rfl,by go_num,ap,.inr rfl,(by have:=bw;rw[cu.out] at this;exact this),bt,ai⟩
       case measure=>simp[intOf];omega
      ·have cB:=C (am.form bl aR bB);go_wp2;apply bodyPost_ret (ss rfl rfl rfl (cQ (by first|exact aD|exact so (by omega) _ aD) _ _ _ _ _ _)) rfl;refine su (e:=pG) (b:=11) cB rfl (λp=>nomatch p) ?_;repeat(with_reducible refine qE ?_ (by omega) _)
       exact bW
     ·have cf:¬(i:Int)<((eb v).length:Int):=(by omega);have a0:=C (am.fin (by omega));have bf:wr.cell? ⟨g,0,U⟩=R (I J e.k):=bJ (i:=0) f rfl;have dB:wr.cell? ⟨g,1,U⟩=R (I J e.a):=bJ (i:=1) f rfl;have dT:wr.cell? ⟨g,2,U⟩=R (I J e.b):=bJ (i:=2) f rfl;have dU:wr.cell? ⟨g,3,U⟩=R (I J e.n):=bJ (i:=3) f rfl;have ce:wr.cell? ⟨g,4,U⟩=R (I J e.m):=bJ (i:=4) f rfl;have dV:wr.cell? ⟨g,5,U⟩=R (I ah (e.s:Int)):=bJ (i:=5) f rfl;have aa:=jd f;have az:=bJ (i:=0) l rfl;have ad:=bJ (i:=1) l rfl;have aB:=bJ (i:=2) l rfl;have aA:=bJ (i:=3) l rfl;have aG:=bJ (i:=4) l rfl;have aL:=bJ (i:=5) l rfl;have af:=λi=>l1 (i:=i) l;go_wp2;apply bodyPost_ret (ss rfl rfl rfl (cQ (by first|exact aj|exact so (by omega) _ aj) _ _ _ _ _ _)) rfl;apply su (e:=e) (b:=q) a0.1 rfl a0.2;repeat(with_reducible refine qE ?_ (by omega) _)
      exact aN
   ·have b9:((L.length:Int)!=1+((eb v).length:Int))=true:=(by simp;omega);have E:=C (Fb ac (by rw[<-u.out.1];exact N));go_wp2;apply bodyPost_ret (ss rfl rfl rfl (cQ (by first|exact D|exact so (by omega) _ D) _ _ _ _ _ _)) rfl;refine su (e:=pG) (b:=11) (by rw[E.out]) rfl (λp=>nomatch p) ?_;repeat(with_reducible refine qE ?_ (by omega) _)
    exact aq
theorem Fu {s b:List Nat} (h:s=b++[10]):ib s=c7 10 b:=by subst h;unfold ib;rw[aj (by simp),List.dropLast_concat]
theorem Fv {s:List Nat} (h:s.getLast?≠R 10):ib s=c7 10 s:=by unfold ib;rw[z0 h]
theorem vy (a:Bool) (t:List Nat) (r:List (List Nat)) (i:Nat) (l:List bQ):og a (t::r) i l=if r=[]∧a=false then([],i,11) else if(iK t).2≠0 then([],i,(iK t).2) else og a r (i+1) (l++[(iK t).1]):=rfl
structure OC (A T cq:List bQ×Nat×Nat) (U:Prop):Prop where
 full:A.2.2=3->cq.2.2=3∨U
 bad:A.2.2≠3->cq.2.2≠3->A.2.2≠0->cq.2.2=A.2.2∧cq.2.1=A.2.1
 OD:A.2.2=0->cq.2.2≠3->T.2.2≠0->cq.2.2=T.2.2
 ok:A.2.2=0->cq.2.2≠3->T.2.2=0->cq.2.2=0∧cq.1=A.1++T.1
variable {cap:Nat}
theorem Own.next {α:Type} {E:cd α} {T:Nat} {zs:List α} (h:Own E W B T v n zs) (b:Below W.heap.size W W'):Own E W' B T v n zs:=by
 refine⟨h.1,?_⟩;rcases h.2 with c|⟨g,cap,d,e,f,a,i⟩;·exact .inl c
 ·exact .inr ⟨g,cap,d,e,f,(b.block g (iZ.1 a).1).trans a,i⟩
variable {aT:List (List Nat)}
def jg (a:Bool) (aT:List (List Nat)) (al:List bQ×Nat×Nat) (i:Nat) (l:List bQ):Prop:=og a (aT.drop i) i l=al
theorem y3 {a:Bool}:jg a aT (og a aT 0 []) 0 []:=rfl
theorem drop_at {t:List Nat} (h:aT[i]?=R t):aT.drop i=t::aT.drop (i+1):=by obtain⟨a,b⟩:=bD.1 h;rw[px a,b]
theorem jg.next {b:Bool} {al:List bQ×Nat×Nat} {l:List bQ} {t:List Nat} {g:bQ} (h:jg b aT al i l) (d:aT[i]?=R t) (a:i+1<aT.length∨b=true) (h0:(iK t).2=0) (e:g=(iK t).1):jg b aT al (i+1) (l++[g]):=by
 subst e;unfold jg at*;rw[drop_at d,vy,z0,z0 (by omega)] at h;·exact h
 ·rintro⟨f,c⟩;rcases a with a|a;·rw[List.drop_eq_nil_iff] at f;omega
  ·rw[a] at c;cases c
theorem jg.cut {al:List bQ×Nat×Nat} {l:List bQ} (h:jg false aT al i l) (a:i+1=aT.length):al=([],i,11):=by
 unfold jg at h;rw[drop_at (b5 (by omega)),vy,aj] at h;·exact h.symm
 ·exact⟨List.drop_eq_nil_iff.2 (by omega),rfl⟩
theorem jg.bad {c:Bool} {al:List bQ×Nat×Nat} {l:List bQ} {t:List Nat} (h:jg c aT al i l) (e:aT[i]?=R t) (a:i+1<aT.length∨c=true) (f:(iK t).2=b) (h0:b≠0):al=([],i,b):=by
 unfold jg at h;rw[drop_at e,vy,z0,aj (by omega),f] at h;·exact h.symm
 ·rintro⟨g,d⟩;rcases a with a|a;·rw[List.drop_eq_nil_iff] at g;omega
  ·rw[a] at d;cases d
theorem jg.fin {a:Bool} {al:List bQ×Nat×Nat} {l:List bQ} (h:jg a aT al i l) (b:aT.length<=i):al=(l,0,0):=by unfold jg at h;rw[List.drop_of_length_le b] at h;exact h.symm
theorem Fw {s:List Nat} (h:s=[]):kp s=([],0,0):=by unfold kp;rw[aj h]
theorem y4 {s:List Nat} (h:s≠[]) (a:1000<(ib s).length):kp s=([],0,3):=by unfold kp;rw[z0 h,aj a]
theorem y5 {s:List Nat} {b:Bool} (h:s≠[]) (a:¬1000<(ib s).length) (c:decide (s.getLast?=R 10)=b):kp s=og b (ib s) 0 []:=by unfold kp;rw[z0 h,z0 a,c]
def pI (al:List bQ×Nat×Nat) (w:ab) (x:Ending) (w':ab):Prop:=∃v:Value,x=aK (bC #[v,I J (al.2.1:Int),I J (al.2.2:Int)])∧Own jf w' w.heap.size 33 v al.1.length al.1∧Below w.heap.size w w'
theorem vz {al:List bQ×Nat×Nat} {l:List bQ} {a:Nat} {x:Ending} (h:al=(l,a,b)) (c:x=aK (bC #[v,I J (a:Int),I J (b:Int)])) (d:l.length=n) (e:Own jf w' w.heap.size 33 v n l) (f:Below w.heap.size w w'):pI al w x w':=by subst h d;exact⟨v,c,e,f⟩
theorem oi {al:List bQ×Nat×Nat} {a:Nat} {x:Ending} (h:al=([],a,b)) (c:x=aK (bC #[ay U 0 0,I J (a:Int),I J (b:Int)])) (d:Below w.heap.size w w'):pI al w x w':=vz h c rfl (Own.nil _ _ _) d
theorem Own.base {α:Type} {E:cd α} {a T:Nat} {zs:List α} (h:Own E W B T v n zs) (f:a<=B):Own E W a T v n zs:=by
 refine⟨h.1,?_⟩;rcases h.2 with b|⟨g,cap,c,d,i,e⟩;·exact .inl b
 ·exact .inr ⟨g,cap,c,d,by omega,e⟩
theorem y6 {s:ByteArray}:s.toList.isEmpty=true↔bh s=[]:=by rw[Lib.toList_data,pA];unfold bh;rw[List.map_eq_nil_iff]
theorem y7 {s:ByteArray}:s.toList.isEmpty=false↔bh s≠[]:=by rw[Ne,<-y6];simp
theorem Fx (l:List UInt8):(∃b,l=b++[10]∧Lib.hasSuffix l [10]=true)∨((l.map pD).getLast?≠R 10∧Lib.hasSuffix l [10]=false):=by
 rcases List.eq_nil_or_concat l with rfl|⟨b,e,rfl⟩;·exact .inr ⟨(λa=>nomatch a),rfl⟩
 ·rw[List.concat_eq_append];by_cases f:e=10;·subst f;exact .inl ⟨b,rfl,by unfold Lib.hasSuffix;simp[List.isSuffixOf]⟩
  ·refine .inr ⟨?_,?_⟩;·rw[iI,List.getLast?_append];show R e.toNat≠R 10;intro a;have d:e.toNat=10:=Option.some.inj a;exact f (UInt8.toNat_inj.1 d)
   ·unfold Lib.hasSuffix;rw[Bool.eq_false_iff];intro a;rw[List.isSuffixOf_iff_suffix] at a;obtain⟨c,g⟩:=a;have d:=congrArg List.getLast? g;simp at d;exact f d.symm
def Fy (s:ByteArray) (w:ab) (e:Ending) (w':ab):Prop:=∃B:ByteArray,e=aK (bC #[.string B,aD (decide ((bh s).getLast?=R 10))])∧c7 10 (bh B)=ib (bh s)∧B.size<=s.size∧w'=w
theorem y8 (s:ByteArray) (w:ab) (g:s.size<=9223372036854775807):Calls au 67 #[.string s,.string ⟨#[10]⟩] w (Fy s w):=by
 apply(strings_CutSuffix s ⟨#[10]⟩ w g).mono;rintro h w' ⟨rfl,rfl⟩;rcases Fx s.data.toList with⟨b,f,a⟩|⟨c,a⟩
 ·have d:Lib.trimSuffix s.data.toList (⟨#[10]⟩:ByteArray).data.toList=b:=by unfold Lib.trimSuffix;rw[aj a,f];simp
  have e:bh s=b.map pD++[10]:=by unfold bh;rw[f,iI];rfl
  refine⟨⟨b.toArray⟩,?_,?_,?_,rfl⟩;·rw[d];show Ending.returned (bC #[.string ⟨b.toArray⟩,aD (Lib.hasSuffix s.data.toList [10])])=_;rw[a,e,decide_eq_true (by simp)]
  ·rw[Fu e];rfl
  ·rw[<-l3 s,e];show b.toArray.size<=_;simp
 ·have d:Lib.trimSuffix s.data.toList (⟨#[10]⟩:ByteArray).data.toList=s.data.toList:=by unfold Lib.trimSuffix;rw[z0 (by show¬Lib.hasSuffix s.data.toList [10]=true;rw[a];decide)]
  have c:(bh s).getLast?≠R 10:=c;refine⟨s,?_,?_,bK _,rfl⟩;·rw[d];show Ending.returned (bC #[.string _,aD (Lib.hasSuffix s.data.toList [10])])=_;rw[a,decide_eq_false c]
  ·rw[Fv c]
theorem y9 {al:bQ×Nat} {x:Ending} (h:vx al w x w'):∃(c:bQ) (b:Nat),x=aK (bC #[bk #[I J c.k,I J c.a,I J c.b,I J c.n,I J c.m,I ah (c.s:Int)],I J (b:Int)])∧al.2=b∧(b=0->c=al.1)∧Below w.heap.size w w':=by obtain⟨c,d,e,f⟩:=h;exact⟨c,_,d,rfl,e,f⟩
theorem Fz (s:ByteArray) (w:ab) (a:s.toList.isEmpty=true):Calls au 29 #[.string s] w (pI (kp (bh s)) w):=by have b:=C (Fw (y6.1 a));go_enter func29,ntmps29;go_wp2;go_ret3;exact oi b rfl (Below.refl _ _)
theorem FA (s:ByteArray) (w:ab) (E:fh w) (bo:s.size<=100000000) (af:s.toList.isEmpty=false) (ae:decide ((bh s).getLast?=R 10)=true):Calls au 29 #[.string s] w (pI (kp (bh s)) w):=by
 have U:=C (y7.1 af);have W:=C ae;have bm:=E.lo;go_enter func29,ntmps29;go_wp2_with fail;apply(y8 s _ (by omega)).mono;rintro X ay ⟨B,rfl,am,bq,rfl⟩;rw[W.out];have aN:=C am;go_wp2_with fail;apply(vw 10 B _ E (by omega)).mono;rintro X o ⟨L,Y,rfl,aj,ap,f⟩;have F:=C (vv (c:=10) Y);have aQ:=C aj;have p:=C f;have Z:L.map bh=ib (bh s):=Y.trans aN;have aR:L.length=(ib (bh s)).length:=by rw[<-Z,dY]
 have aS:=C (λj (aa:j<L.length)=>(by rw[<-Z,dD,b5 aa];rfl:(ib (bh s))[j]?=R (bh (L[j]'aa))));have G:=C aR.symm;have bt:=F.2.1;have q:=f.size;have aU:L.length<=100000001:=by have ai:=F.1;have aP:=vr 10 (bh B);rw[l3] at aP;omega
 obtain⟨m,aq⟩:∃m,L.length=m+1:=⟨L.length-1,by omega⟩;have v:=C aq;rw[aq] at aU⊢;by_cases ac:1000<m+1
 ·have aV:(1000:Int)<(m:Int)+1:=by omega
  have H:=C (y4 U (by rw[G.out,v.out];exact ac));go_wp2;go_ret3;exact oi H rfl p
 ·have aV:¬(1000:Int)<(m:Int)+1:=by omega
  have H:=C (y5 (b:=true) U (by rw[G.out,v.out];exact ac) W);go_wp2_with fail;go_loopw [8,27] (λaZ K wr=>∃(i:Nat) (l:List bQ),K=I J (i:Int)∧i<=m+1∧l.length=i∧jg true (ib (bh s)) (kp (bh s)) i l∧Own jf wr o.heap.size 33 aZ i l∧Below o.heap.size o wr) (λ_ K _=>m+1-(intOf K).toNat);case atStart=>exact⟨0,[],rfl,gN _,rfl,by rw[H.out];exact y3,Own.nil _ _ _,Below.refl _ _⟩
  case round=>
   obtain⟨i,l,rfl,bw,a6,r,az,f⟩:=hrel;have ad:=f.size;have M:=C a6;by_cases aB:i<m+1
   ·have ak:(i:Int)<(m:Int)+1:=(by omega);have x:i<L.length:=(by have:=v.out;omega);have a7:=bY f ap (aQ i x);have u:=C (aS i x);have a8:=(F.2.2 i x).1;have ba:=C (E.next (p.trans (f.mono q)));generalize(L[i]'x)=t at a7 u a8;go_wp2_with fail;apply(y2 t _ ba (by omega)).mono;intro X ao bb;obtain⟨d,b,rfl,ag,bf,N⟩:=y9 bb;have ax:=C (az.next N);have bc:=C (f.trans (N.mono ad));have aA:=cA ad N.size;have y:=C ag;have aG:=C bf;go_upto_region 12 with fail;generalize O:kn ao _=V;have bg:=C (O▸ax.out.alloc _:Own jf V o.heap.size 33 _ i l);have z:=C (vu O);have A:=C (bc.trans (z.2.mono aA));have aL:=cA aA z.2.size;have g:=z.1;have aD:=bJ (i:=0) g rfl;have a0:=bJ (i:=1) g rfl;have bz:=bJ (i:=2) g rfl;have a2:=bJ (i:=3) g rfl;have a3:=bJ (i:=4) g rfl;have a4:=bJ (i:=5) g rfl;clear O g z;have D:=C (bg.alloc (av #[I J d.k,I J d.a,I J d.b,I J d.n,I J d.m,I ah (d.s:Int)] 33));by_cases a5:i=m
    ·have bj:((i:Int)==(m:Int))=true:=(by simp;omega);by_cases e:b=0
     ·have P:((b:Int)!=0)=false:=(by simp;omega);have h:=C (r.next u (.inr rfl) (by rw[y.out];exact e) (aG e));clear e;go_wp2_with ((at_builtin;refine vt rfl _ _ rfl o.heap.size _ i l rfl D V.heap.size _ d rfl (dz.trans rfl) (dz.trans rfl) (dz.trans rfl) (dz.trans rfl) (dz.trans rfl) (dz.trans rfl) (by omega) (by simp;omega) ?_;intro an u2 Q S));have T:=C ((A.alloc aL (av #[I J d.k,I J d.a,I J d.b,I J d.n,I J d.m,I ah (d.s:Int)] 33)).grown S (by simp;omega) (λj d=>(D.lt j d).1));go_roundw;case rel=>exact⟨i+1,l++[d],by go_num,aB,by rw[eX,M.out];rfl,h,Q,T⟩
      case measure=>simp[intOf];omega
     ·have aw:((b:Int)==0)=false:=(by simp;omega);have P:((b:Int)!=0)=true:=(by simp;omega);have h:=C (r.bad u (.inr rfl) y e);clear e;go_wp2;go_ret3;exact oi h rfl (p.trans (A.mono q))
    ·have bj:((i:Int)==(m:Int))=false:=(by simp;omega);by_cases e:b=0
     ·have P:((b:Int)!=0)=false:=(by simp;omega);have h:=C (r.next u (.inr rfl) (by rw[y.out];exact e) (aG e));clear e;go_wp2_with ((at_builtin;refine vt rfl _ _ rfl o.heap.size _ i l rfl D V.heap.size _ d rfl (dz.trans rfl) (dz.trans rfl) (dz.trans rfl) (dz.trans rfl) (dz.trans rfl) (dz.trans rfl) (by omega) (by simp;omega) ?_;intro an u2 Q S));have T:=C ((A.alloc aL (av #[I J d.k,I J d.a,I J d.b,I J d.n,I J d.m,I ah (d.s:Int)] 33)).grown S (by simp;omega) (λj d=>(D.lt j d).1));go_roundw;case rel=>exact⟨i+1,l++[d],by go_num,aB,by rw[eX,M.out];rfl,h,Q,T⟩
      case measure=>simp[intOf];omega
     ·have aw:((b:Int)==0)=false:=(by simp;omega);have P:((b:Int)!=0)=true:=(by simp;omega);have h:=C (r.bad u (.inr rfl) y e);go_wp2;go_ret3;exact oi h rfl (p.trans (A.mono q))
   ·have ak:¬(i:Int)<(m:Int)+1:=(by omega);have bl:=C (r.fin (by rw[G.out,v.out];omega));go_wp2;go_ret3;exact vz bl rfl M (az.base q) (p.trans (f.mono q))
theorem FB (s:ByteArray) (w:ab) (y:fh w) (bl:s.size<=100000000) (ac:s.toList.isEmpty=false) (az:decide ((bh s).getLast?=R 10)=false):Calls au 29 #[.string s] w (pI (kp (bh s)) w):=by
 have K:=C (y7.1 ac);have M:=C az;have bo:=y.lo;go_enter func29,ntmps29;go_wp2_with fail;apply(y8 s _ (by omega)).mono;rintro N bm ⟨B,rfl,ad,ay,rfl⟩;rw[M.out];have aB:=C ad;go_wp2_with fail;apply(vw 10 B _ y (by omega)).mono;rintro N o ⟨L,O,rfl,aA,aG,e⟩;have z:=C (vv (c:=10) O);have aL:=C aA;have p:=C e;have P:L.map bh=ib (bh s):=O.trans aB;have af:L.length=(ib (bh s)).length:=by rw[<-P,dY]
 have ae:=C (λj (Q:j<L.length)=>(by rw[<-P,dD,b5 Q];rfl:(ib (bh s))[j]?=R (bh (L[j]'Q))));have g:=C af.symm;have bq:=z.2.1;have q:=e.size;have am:L.length<=100000001:=by have bt:=z.1;have aN:=vr 10 (bh B);rw[l3] at aN;omega
 obtain⟨m,S⟩:∃m,L.length=m+1:=⟨L.length-1,by omega⟩;have f:=C S;rw[S] at am⊢;by_cases T:1000<m+1
 ·have aj:(1000:Int)<(m:Int)+1:=by omega
  have A:=C (y4 K (by rw[g.out,f.out];exact T));go_wp2;go_ret3;exact oi A rfl p
 ·have aj:¬(1000:Int)<(m:Int)+1:=by omega
  have A:=C (y5 (b:=false) K (by rw[g.out,f.out];exact T) M);go_wp2_with fail;go_loopw [8,27] (λap D wr=>∃(i:Nat) (l:List bQ),D=I J (i:Int)∧i<=m+1∧l.length=i∧jg false (ib (bh s)) (kp (bh s)) i l∧Own jf wr o.heap.size 33 ap i l∧Below o.heap.size o wr) (λ_ D _=>m+1-(intOf D).toNat);case atStart=>exact⟨0,[],rfl,gN _,rfl,by rw[A.out];exact y3,Own.nil _ _ _,Below.refl _ _⟩
  case round=>
   obtain⟨i,l,rfl,ai,aQ,u,U,e⟩:=hrel;have W:=e.size;have X:=C aQ;by_cases aR:i<m+1
   ·have aS:(i:Int)<(m:Int)+1:=(by omega);have v:i<L.length:=(by have:=f.out;omega);have aU:=bY e aG (aL i v);have E:=C (ae i v);have aP:=(z.2.2 i v).1;have aV:=C (y.next (p.trans (e.mono q)));generalize(L[i]'v)=t at aU E aP;go_wp2_with fail;apply(y2 t _ aV (by omega)).mono;intro N aZ a6;obtain⟨d,b,rfl,ak,a7,F⟩:=y9 a6;have a8:=C (U.next F);have ba:=C (e.trans (F.mono W));have Y:=cA W F.size;have Z:=C ak;have ao:=C a7;go_upto_region 12 with fail;generalize aa:kn aZ _=V;have bb:=C (aa▸a8.out.alloc _:Own jf V o.heap.size 33 _ i l);have G:=C (vu aa);have H:=C (ba.trans (G.2.mono Y));have ag:=cA Y G.2.size;have h:=G.1;have bw:=bJ (i:=0) h rfl;have aD:=bJ (i:=1) h rfl;have a0:=bJ (i:=2) h rfl;have bz:=bJ (i:=3) h rfl;have a2:=bJ (i:=4) h rfl;have a3:=bJ (i:=5) h rfl;have aq:=C (bb.alloc (av #[I J d.k,I J d.a,I J d.b,I J d.n,I J d.m,I ah (d.s:Int)] 33));by_cases bf:i=m;·have ax:((i:Int)==(m:Int))=true:=(by simp;omega);have r:=C (u.cut (by rw[g.out,f.out];omega));clear bf;go_wp2;go_ret3;exact oi r rfl (p.trans (H.mono q))
    ·have ax:((i:Int)==(m:Int))=false:=(by simp;omega);by_cases x:b=0
     ·have bc:((b:Int)!=0)=false:=(by simp;omega);have r:=C (u.next E (.inl (by rw[g.out,f.out];omega)) (by rw[Z.out];exact x) (ao x));clear x;go_wp2_with ((at_builtin;refine vt rfl _ _ rfl o.heap.size _ i l rfl aq V.heap.size _ d rfl (dz.trans rfl) (dz.trans rfl) (dz.trans rfl) (dz.trans rfl) (dz.trans rfl) (dz.trans rfl) (by omega) (by simp;omega) ?_;intro a4 u2 bg bj));have an:=C ((H.alloc ag (av #[I J d.k,I J d.a,I J d.b,I J d.n,I J d.m,I ah (d.s:Int)] 33)).grown bj (by simp;omega) (λj d=>(aq.lt j d).1));go_roundw;case rel=>exact⟨i+1,l++[d],by go_num,aR,by rw[eX,X.out];rfl,r,bg,an⟩
      case measure=>simp[intOf];omega
     ·have a5:((b:Int)==0)=false:=(by simp;omega);have bc:((b:Int)!=0)=true:=(by simp;omega);have r:=C (u.bad E (.inl (by rw[g.out,f.out];omega)) Z x);go_wp2;go_ret3;exact oi r rfl (p.trans (H.mono q))
   ·have aS:¬(i:Int)<(m:Int)+1:=(by omega);have aw:=C (u.fin (by rw[g.out,f.out];omega));go_wp2;go_ret3;exact vz aw rfl X (U.base q) (p.trans (e.mono q))
theorem FC (s:ByteArray) (w:ab) (a:fh w) (b:s.size<=100000000):Calls au 29 #[.string s] w (pI (kp (bh s)) w):=by
 cases he:s.toList.isEmpty with
 |true=>exact Fz s w he
 |false=>
  cases h:decide ((bh s).getLast?=R 10) with
  |true=>exact FA s w a b he h
  |false=>exact FB s w a b he h
variable {n₀:Nat} {aE:Value} {row:Option Nat}
theorem AN:(prog.info? 3).map (λi=>(i.zero,i.size,i.bytes))=R (R (I J 0),1,8):=by kernel_rfl
def pi (n₀:Nat) (W:ab) (aE:Value) (zs:List Int):Prop:=((∃a cap,aE=ay a 0 cap)∧zs=[])∨∃b c cap,aE=ay (R ⟨b,c,U⟩) zs.length cap∧b<n₀∧∀j,j<zs.length->W.cell? ⟨b,c+j,U⟩=R (I J (a_ zs j))
theorem pi.below {B:ab} (h:Below n₀ A B):pi n₀ A aE zs->pi n₀ B aE zs
 | .inl e=>.inl e
 | .inr ⟨b,off,cap,e,a,c⟩=>.inr ⟨b,off,cap,e,a,λj d=>(h.cell (p:=⟨b,off+j,U⟩) a).trans (c j d)⟩
theorem pi.cells (h:pi n₀ W (ay a n cap) zs) (f:p<zs.length):∃b d,a=R ⟨b,d,U⟩∧b<n₀∧∀j,j<zs.length->W.cell? ⟨b,d+j,U⟩=R (I J (a_ zs j)):=by
 rcases h with⟨_,rfl⟩|⟨b,d,c,e,g,i⟩;·simp at f
 ·simp only[Value.slice.injEq] at e;exact⟨b,d,e.1,g,i⟩
theorem AO {E:TypeId} {base:Nat} {ag:List Int} (b:ag.length=n) (h:w.ownsRow base E 1 v n (ag.map (I J))):∃a cap,v=ay a n cap∧(a=U->cap=0)∧pi w.heap.size w (ay a n cap) ag:=by
 subst b;have c:=h;obtain⟨k,d⟩:=h;rcases d with⟨rfl,b⟩|⟨g,cap,l,rfl,m,e,b,o,p,q⟩;·have:ag=[]:=nY.1 b;subst this;exact⟨U,0,rfl,λ_=>rfl,.inl ⟨⟨_,_,rfl⟩,rfl⟩⟩
 ·refine⟨_,cap,rfl,λf=>by(cases f),.inr ⟨g,0,cap,rfl,(iZ.1 e).1,λj i=>?_⟩⟩;have:=c.cellAt j (by omega);rw[show 0+j=j by omega,this];simp[a_,i]
structure Ring (W:ab) (b:Nat) (r:Nat->Int) (f n:Nat):Prop where
 lt:b<W.heap.size
 f64:f<64
 n64:n<=64
 ring:∀j,j<64->W.cell? ⟨b,j,U⟩=R (I J (r j))
 from_:W.cell? ⟨b,64,U⟩=R (I J f)
 mR:W.cell? ⟨b,65,U⟩=R (I J n)
 free:∀j,W.frozen? ⟨b,j,U⟩=false
def waits (r:Nat->Int) (f n:Nat):List Int:=(gi n).map λi=>r ((f+i)%64)
theorem AP (r:Nat->Int) (f n:Nat):(waits r f n).length=n:=by simp[waits]
theorem AQ (r:Nat->Int) (f n:Nat):waits r f (n+1)=waits r f n++[r ((f+n)%64)]:=by simp[waits,oa]
def s4:Array Value:=Array.replicate 66 (I J 0)
theorem Hx (w:ab):(zeroValue 230).run au w= .ok (bk s4) w:=by kernel_rfl
theorem wW (h:j<66):s4[j]?=R (I J 0):=by simp[s4,h]
theorem wX (w:ab) (cs:Array Value) (t j:Nat):(w.alloc (av cs t)).cell? ⟨w.heap.size,j,U⟩=cs[j]?:=World.cell?_alloc_at cs t _ j rfl
theorem Hy (w:ab) (cs:Array Value) (t j:Nat):(w.alloc (av cs t)).frozen? ⟨w.heap.size,j,U⟩=false:=by simp
theorem Hz (w:ab):Ring (w.alloc (av s4 230)) w.heap.size (λ_=>0) 0 0:=⟨by simp,by omega,by omega,λj a=>by rw[wX,wW (by omega)],by rw[wX,wW (by omega)];rfl,by rw[wX,wW (by omega)];rfl,λj=>Hy _ _ _ _⟩
theorem HA (w:ab):Calls au 85 #[] w λa w'=>a=aK (af (R ⟨w.heap.size,0,U⟩))∧Ring w' w.heap.size (λ_=>0) 0 0∧w.grownBy w' U:=by have b:=Hx;go_enter func85,ntmps85;go_wp2;go_ret;exact⟨rfl,Hz w,World.grownBy_alloc w _ U⟩
theorem wY (b:Nat) (r:Nat->Int) (f n:Nat) (w:ab) (a:Ring w b r f n):Calls au 142 #[af (R ⟨b,0,U⟩)] w λc w'=>c=aK (I J n)∧w=w':=by have d:=a.mR;go_enter func142,ntmps142;go_wp2;go_ret;exact⟨rfl,rfl⟩
theorem Ring.grown {r:Nat->Int} {f:Nat} (h:Ring w b r f n) (d:w.grownBy w' row) (e:row≠R b):Ring w' b r f n:=by have c:=d.block b h.lt (λg=>e g.symm);have k:w.heap.size<=w'.heap.size:=d.size;have:=h.lt;exact⟨by omega,h.f64,h.n64,λj i=>(lq (a:=⟨b,j,U⟩) c).trans (h.ring j i),(lq (a:=⟨b,64,U⟩) c).trans h.from_,(lq (a:=⟨b,65,U⟩) c).trans h.mR,λj=>(World.frozen?_of_block (a:=⟨b,j,U⟩) c).trans (h.free j)⟩
theorem AR (b:Nat) (r:Nat->Int) (f n:Nat) (w:ab) (d:Ring w b r f n):Calls au 176 #[af (R ⟨b,0,U⟩)] w λe w'=>(∃v,e=aK v∧w'.ownsRow w.heap.size 3 1 v n ((waits r f n).map (I J)))∧Below w.heap.size w w':=by
 have L:=d.f64;have M:=d.n64;have l:=d.lt;go_enter func176,ntmps176;go_wp2_with (go_at_call 142;refine(wY _ r f n _ d).mono ?_;rintro e w' ⟨rfl,rfl⟩);go_loopw [3,7] (λv i wr=>∃a:Nat,a<=n∧i=I J a∧wr.ownsRow w.heap.size 3 1 v a ((waits r f a).map (I J))∧Below w.heap.size w wr) (λ_ i _=>n-(intOf i).toNat);case atStart=>exact⟨0,by omega,rfl,World.ownsRow_nil _ _ _ _,Below.refl _ _⟩
 case round=>
  obtain⟨a,N,rfl,h,g⟩:=hrel;by_cases O:a<n
  ·have P:(a:Int)<(n:Int):=(by omega);have Q:wr.cell? ⟨b,64,U⟩=R (I J f):=(g.cell (p:=⟨b,64,U⟩) l).trans d.from_;obtain⟨c,u⟩:=aW ((f+a)%64);have x:c<64:=(by omega);have S:wr.cell? ⟨b,c,U⟩=R (I J (r c)):=(g.cell (p:=⟨b,c,U⟩) l).trans (d.ring _ x);have y:=g.size;have m:=AQ r f a;rw[u] at m;have z:=C m;have A:∀v:Value,wr.ownsRow w.heap.size 3 1 v a ((waits r f a).map (I J))->v.ownBlock≠R b:=λv B e=>by have:=(B.lt b e).1;omega
   have o:=A _ h;have T:b<wr.heap.size:=(by omega);obtain⟨D,E,F,G,H⟩:=info_parts AN;have q:IntKind.i64.wrap ((f:Int)+(a:Int))=(f:Int)+(a:Int):=IntWalk.i64_in _ (by omega);have V:((f:Int)+(a:Int)).tmod 64=(c:Int):=(by rw[qo (by omega)];omega);have W:IntKind.i64.wrap (c:Int)=(c:Int):=IntWalk.i64_in _ (by omega);have X:(0:Int)<=(c:Int):=(by omega);have Y:(c:Int)<64:=(by omega);have Z:(c:Int).toNat=c:=(by omega);have aa:a<64:=(by omega);go_wp2_with fail
   go_region_held3 (λw'=>w'.cell? ⟨b,64,U⟩=R (I J f)∧w'.cell? ⟨b,c,U⟩=R (I J (r c))) (first
    |go_keep
    |(
     go_split_ands;refine⟨?_,?_⟩;·(rw[k.cell_far _ (by simp;omega) (Ne.symm o)];assumption)
     ·(rw[k.cell_far _ (by simp;omega) (Ne.symm o)];assumption))) ((refine step_append_lies _ (by rfl) _ _ _ (by rfl) w.heap.size 3 D _ 1 8 underlying46 E F G H rfl (by omega) _ a _ (by rfl) ((h.alloc _).drew) ⟨wr.heap.size,0,U⟩ 1 1 [I J (r c)] (by rfl) (by rfl) (World.news_of_block (cs:=#[I J (r c)]) (t:=3) (fr:=(0,0)) (heap_alloc_new wr _)) (by simp[Value.oneCell']) (by omega) (by unfold maxLen;omega) (by omega) (by simp;omega) (wr.heap.size+1) (by simp) ?_;intro aq cap q s k ac az))
   rw[<-List.map_singleton (f:=I J),<-iI,<-z.out] at s;have K:Below w.heap.size w q:=(((g.alloc y _).drew).grown k (by simp;omega) (λj e=>(h.lt j e).1));go_wp2;go_roundw;case rel=>exact⟨a+1,by omega,by go_num,s,K⟩
   case measure=>simp[intOf];omega
  ·obtain rfl:a=n:=by omega
   go_wp2;go_ret;exact⟨⟨_,rfl,h⟩,g⟩
def kB (ag:List Int) (p:Int):Nat->Int
 |0=>-1
 |k+1=>if 0<=kB ag p k then kB ag p k else if a_ ag k=p then(k:Int) else-1
theorem wZ (ag:List Int) (p:Int) (n:Nat):(kB ag p n=-1∧∀j,j<n->a_ ag j≠p)∨(∃a:Nat,a<n∧kB ag p n=a∧a_ ag a=p∧∀j,j<a->a_ ag j≠p):=by
 induction n with
 |zero=>exact .inl ⟨rfl,λj i=>by omega⟩
 |succ n e=>
  rcases e with⟨d,b⟩|⟨a,d,b,f,g⟩
  ·by_cases c:a_ ag n=p;·exact .inr ⟨n,by omega,by unfold kB;rw[d];simp[c],c,b⟩
   ·refine .inl ⟨by unfold kB;rw[d];simp[c],λj k=>?_⟩;by_cases h:j=n;·subst h;exact c
    ·exact b j (by omega)
  ·exact .inr ⟨a,by omega,by unfold kB;rw[b];simp,f,g⟩
theorem HB {ag:List Int} {p:Int} (h:∀j,j<n->a_ ag j≠p):kB ag p n=-1:=by
 rcases wZ ag p n with⟨a,_⟩|⟨b,a,_,c,_⟩;·exact a
 ·exact absurd c (h b a)
theorem HC {ag:List Int} {p:Int} {k:Nat} (hk:k<n) (c:a_ ag k=p) (h:∀j,j<k->a_ ag j≠p):kB ag p n=k:=by
 rcases wZ ag p n with⟨_,b⟩|⟨j,f,b,d,e⟩;·exact absurd c (b k hk)
 ·rw[b];rcases Nat.lt_trichotomy j k with a|a|a;·exact absurd d (h j a)
  ·rw[a]
  ·exact absurd c (e k a)
def oN (ag:List Int) (p:Int):Bool:=decide (0<=kB ag p ag.length)
theorem HD {ag:List Int} {p:Int}:oN ag p=true↔p∈ag:=by
 unfold oN;rw[decide_eq_true_iff];rcases wZ ag p ag.length with⟨a,b⟩|⟨g,a,b,c,h⟩;·rw[a];refine⟨λd=>by omega,λd=>?_⟩;obtain⟨j,e,f⟩:=List.getElem_of_mem d;exact absurd (by unfold a_;rw[b5 e];exact f) (b j e)
 ·rw[b];refine⟨λ_=>?_,λ_=>by omega⟩;unfold a_ at c;rw[b5 a] at c;rw[<-c];exact List.getElem_mem _
theorem HE (a:Option Addr) (len cap:Nat) (ag:List Int) (p:Int) (w:ab) (l:ag.length=len) (hI:pi w.heap.size w (ay a len cap) ag) (s:len<=9223372036854775807):Calls au 221 #[ay a len cap,I J p] w λd w'=>d=aK (I J (kB ag p len))∧w=w':=by
 have k:=C l;go_enter func221,ntmps221;go_wp2;go_loop [8] (λi=>∃c:Nat,c<=len∧i=I J c∧∀j,j<c->a_ ag j≠p) (λi=>len-(intOf i).toNat);case atStart=>exact⟨0,by omega,rfl,λj t=>by omega⟩
 case round=>
  obtain⟨c,u,rfl,m⟩:=hrel;have f:=C m;by_cases g:c<len
  ·have v:(c:Int)<(len:Int):=(by omega);obtain⟨b,x,n,y,o⟩:=hI.cells (p:=c) (by rw[k.out];exact g);subst n;have z:=o c (by rw[k.out];exact g);by_cases e:a_ ag c=p;·have h:=C (HC g e f);have q:(p==a_ ag c)=true:=(by simp[e]);go_wp2;go_ret;exact⟨by rw[h.out];rfl,rfl⟩
   ·have q:(p==a_ ag c)=false:=(by simpa usingλd=>e d.symm);have r:=C e;go_wp2;go_round;case rel=>exact⟨c+1,by omega,by go_num,λj A=>by
     by_cases d:j=c;·subst d;exact r
     ·exact f j (by omega)⟩
    case measure=>simp[intOf];omega
  ·obtain rfl:c=len:=by omega
   have h:=C (HB f);go_wp2;go_ret;exact⟨by rw[h.out];rfl,rfl⟩
theorem AS (a:Option Addr) (len cap:Nat) (ag:List Int) (p:Int) (w:ab) (c:ag.length=len) (hI:pi w.heap.size w (ay a len cap) ag) (f:len<=9223372036854775807):Calls au 175 #[ay a len cap,I J p] w λd w'=>d=aK (aD (oN ag p))∧w=w':=by
 have e:=C (by unfold oN;rw[c]:oN ag p=decide (0<=kB ag p len));have g:=C c;go_enter func175,ntmps175;go_wp2_with fail;apply(HE _ _ _ ag _ _ g hI f).mono;rintro d w' ⟨rfl,rfl⟩;generalize kB ag p len=h at*;cases b:decide (0<=h);·have i:=C b;clear b;go_wp2;go_ret;exact⟨by rw[e.out];rfl,rfl⟩
 ·have i:=C b;clear b;go_wp2;go_ret;exact⟨by rw[e.out];rfl,rfl⟩
theorem rm {u v:ab} (h:w.grownBy u row) (k:u.grownBy v row):w.grownBy v row:=⟨k.os.trans h.os,k.tape.trans h.tape,k.output.trans h.output,cA h.size k.size,λi a b=>(k.block i (dd a h.size) b).trans (h.block i a b)⟩
theorem s5 {u:ab} (h:Below w.heap.size w u) (row:Option Nat):w.grownBy u row:=⟨h.os,h.tape,h.output,h.size,λi a _=>h.block i a⟩
theorem s6 (w:ab) (b o:Nat) (v:Value):w.grownBy (w.setCell ⟨b,o,U⟩ v) (R b):=⟨rfl,rfl,rfl,by simp,λi _ a=>Below.heap_setCell w ⟨b,o,U⟩ v i (λc=>a (by rw[c]))⟩
theorem AT (w:ab) (n:Nat) (row:Option Nat):w.grownBy (w.drewN n) row:=⟨rfl,rfl,rfl,bK _,λ_ _ _=>rfl⟩
def gQ (W:ab) (b:Nat) (ag:List Int):Prop:=∃r f n,Ring W b r f n∧waits r f n=ag
theorem gQ.lt {W:ab} {b:Nat} {ag:List Int} (h:gQ W b ag):b<W.heap.size:=by obtain⟨r,f,n,h,_⟩:=h;exact h.lt
theorem gQ.le {ag:List Int} (h:gQ W b ag):ag.length<=64:=by obtain⟨r,f,n,h,rfl⟩:=h;rw[AP];exact h.n64
theorem HF {r:Nat->Int} {f:Nat} (p:Int) (b:f<64) (c:n<64):waits (λj=>if j=(f+n)%64 then p else r j) f (n+1)=waits r f n++[p]:=by
 rw[AQ];simp only[aj];congr 1;apply List.ext_getElem;·simp[waits]
 ·intro i a d;have e:i<n:=by simpa[waits] using a
  simp only[waits,List.getElem_map,List.getElem_range];rw[z0 (by omega)]
theorem HG {r:Nat->Int} {f:Nat} (a:f<64) (b:0<n):waits r f n=r f::waits r ((f+1)%64) (n-1):=by
 obtain⟨m,rfl⟩:∃m,n=m+1:=⟨n-1,by omega⟩;apply List.ext_getElem;·simp[waits]
 ·intro i c d;cases i with
  |zero=>simp[waits,Nat.mod_eq_of_lt a]
  |succ i=>simp only[waits,List.getElem_map,List.getElem_range,List.getElem_cons_succ];congr 1;omega
theorem AU (w:ab) (row:Option Nat):w.grownBy w.drew row:=⟨rfl,rfl,rfl,bK _,λ_ _ _=>rfl⟩
theorem HH {r:Nat->Int} {f q:Nat} {p:Int} (h:Ring W b r f n) (e:n<64) (g:q=(f+n)%64):Ring ((W.setCell ⟨b,q,U⟩ (I J p)).setCell ⟨b,65,U⟩ (I J ((n:Int)+1))) b (λj=>if j=q then p else r j) f (n+1):=by
 have i:q<64:=by omega
 refine⟨by simpa using h.lt,h.f64,by omega,λj c=>?_,?_,?_,λj=>?_⟩
 ·rw[i_ _ _ _ _ (by intro a;simp only[Addr.mk.injEq] at a;omega)];by_cases a:j=q;·subst a;simp only[aj];exact nX _ _ _ (by rw[h.ring j c];rfl)
  ·simp only[z0 a];rw[i_ _ _ _ _ (by intro d;simp only[Addr.mk.injEq] at d;omega)];exact h.ring j c
 ·rw[i_ _ _ _ _ (by intro a;simp only[Addr.mk.injEq] at a;omega),i_ _ _ _ _ (by intro a;simp only[Addr.mk.injEq] at a;omega)];exact h.from_
 ·have:(W.setCell ⟨b,q,U⟩ (I J p)).cell? ⟨b,65,U⟩=R (I J n):=by rw[i_ _ _ _ _ (by intro a;simp only[Addr.mk.injEq] at a;omega)];exact h.mR
  rw[nX _ _ _ (by rw[this];rfl)];rfl
 ·rw[nZ,nZ];exact h.free j
theorem AV {r:Nat->Int} {f:Nat} (h:Ring W b r f n) (d:0<n):Ring ((W.setCell ⟨b,64,U⟩ (I J (((f+1)%64:Nat):Int))).setCell ⟨b,65,U⟩ (I J ((n:Int)-1))) b r ((f+1)%64) (n-1):=by
 refine⟨by simpa using h.lt,Nat.mod_lt _ (by omega),by have:=h.n64;omega,λj c=>?_,?_,?_,λj=>?_⟩;·rw[i_ _ _ _ _ (by intro a;simp only[Addr.mk.injEq] at a;omega),i_ _ _ _ _ (by intro a;simp only[Addr.mk.injEq] at a;omega)];exact h.ring j c
 ·rw[i_ _ _ _ _ (by intro a;simp only[Addr.mk.injEq] at a;omega)];exact nX _ _ _ (by rw[h.from_];rfl)
 ·have:(W.setCell ⟨b,64,U⟩ (I J (((f+1)%64:Nat):Int))).cell? ⟨b,65,U⟩=R (I J n):=by rw[i_ _ _ _ _ (by intro a;simp only[Addr.mk.injEq] at a;omega)];exact h.mR
  rw[nX _ _ _ (by rw[this];rfl)];have:((n-1:Nat):Int)=(n:Int)-1:=by omega
  rw[this]
 ·rw[nZ,nZ];exact h.free j
def jn (ag:List Int) (p:Int):Bool:=decide (0<=p)&&(ag.length !=64&&!oN ag p)
theorem AW (b:Nat) (ag:List Int) (p:Int) (w:ab) (K:gQ w b ag):Calls au 119 #[af (R ⟨b,0,U⟩),I J p] w λe w'=>e=aK (aD (jn ag p))∧gQ w' b (if jn ag p=true then ag++[p] else ag)∧w.grownBy w' (R b):=by
 obtain⟨r,a,n,h,rfl⟩:=K;have i:=C h;have L:=h.f64;have W:=h.n64;have X:=h.lt;have Y:=h.mR;have k:=AP r a n;by_cases z:0<=p
 ·by_cases s:n=64;·have d:jn (waits r a n) p=false:=(by unfold jn;rw[k,s];simp);have f:=C d;have M:((n:Int)==64)=true:=(by simp;omega);have A:¬p<0:=(by omega);clear h s k d;rw[f.out];go_enter func119,ntmps119;go_wp2;go_ret;exact⟨rfl,⟨r,a,n,i,rfl⟩,World.grownBy.refl _ _⟩
  ·have M:((n:Int)==64)=false:=(by simp;omega);have A:¬p<0:=(by omega);cases q:oN (waits r a n) p;·have d:jn (waits r a n) p=true:=(by unfold jn;rw[k,q,decide_eq_true z];simp[s]);have f:=C d;have t:=C q;have l:=C k;have B:n<64:=(by omega);rw[f.out];go_enter func119,ntmps119;go_wp2_with fail;refine(AR b r a n _ i).mono ?_;rintro e m ⟨⟨v,rfl,u⟩,o⟩;obtain⟨N,O,rfl,_,x⟩:=AO l u;have y:=C x;go_wp2_with fail;refine(AS _ _ _ (waits r a n) p _ l y (by omega)).mono ?_;rintro e w' ⟨rfl,rfl⟩;rw[t.out];have g:=C (i.grown (s5 o U) (by simp));have P:=C (s5 o (R b));obtain⟨c,Q⟩:∃c,(a+n)%64=c:=⟨_,rfl⟩;have D:c<64:=(by omega);have Z:=g.from_;have aa:=g.mR;have aq:=g.ring c D;have ac:=g.free 64;have az:=g.free 65;have ad:=g.free c;have aB:IntKind.i64.wrap ((a:Int)+(n:Int))=(a:Int)+(n:Int):=IntWalk.i64_in _ (by omega);have aA:((a:Int)+(n:Int)).tmod 64=(c:Int):=(by rw[qo (by omega)];omega);have aG:IntKind.i64.wrap (c:Int)=(c:Int):=IntWalk.i64_in _ (by omega);have aL:(0:Int)<=(c:Int):=(by omega);have ae:(c:Int)<64:=(by omega);have am:(c:Int).toNat=c:=(by omega);have E:=C Q;go_wp2_with fail;go_still_tail 15,(by kernel_rfl);change wpList _ _ _ _ _ m.drew;have j:=C (g.grown (AU m U) (by simp));have F:=C (rm P (AU m (R b)));generalize m.drew=G at j F⊢;have S:=j.mR;have aN:=j.ring c D;have aj:=j.free 65;have ap:=j.free c;have aQ:(G.setCell ⟨b,c,U⟩ (I J p)).cell? ⟨b,65,U⟩=R (I J n):=(by rw[i_ _ _ _ _ (by intro e;simp only[Addr.mk.injEq] at e;omega)];exact S);have T:=C (HH (p:=p) j B E.symm);have H:=C (HF (r:=r) p L B);rw[E.out] at H;have V:=C (rm (rm F (s6 G b c (I J p))) (s6 _ b 65 (I J ((n:Int)+1))));go_wp2;go_ret;exact⟨rfl,⟨_,a,n+1,T,H⟩,V⟩
   ·have d:jn (waits r a n) p=false:=(by unfold jn;rw[q];simp);have f:=C d;have t:=C q;have l:=C k;rw[f.out];go_enter func119,ntmps119;go_wp2_with fail;refine(AR b r a n _ i).mono ?_;rintro e m ⟨⟨v,rfl,u⟩,o⟩;obtain⟨N,O,rfl,_,x⟩:=AO l u;have y:=C x;go_wp2_with fail;refine(AS _ _ _ (waits r a n) p _ l y (by omega)).mono ?_;rintro e w' ⟨rfl,rfl⟩;rw[t.out];go_wp2;go_ret;exact⟨rfl,⟨r,a,n,i.grown (s5 o U) (by simp),rfl⟩,s5 o _⟩
 ·have d:jn (waits r a n) p=false:=by unfold jn;rw[decide_eq_false z];rfl
  have f:=C d;have A:p<0:=by omega
  rw[f.out];go_enter func119,ntmps119;go_wp2;go_ret;exact⟨rfl,⟨r,a,n,i,rfl⟩,World.grownBy.refl _ _⟩
def s7:List Int->Int
 |[]=>0
 |x::_=>x
theorem w0 (b:Nat) (ag:List Int) (w:ab) (l:gQ w b ag):Calls au 93 #[af (R ⟨b,0,U⟩)] w λe w'=>e=aK (bC #[I J (s7 ag),aD (!ag.isEmpty)])∧gQ w' b ag.tail∧w.grownBy w' (R b):=by
 obtain⟨r,c,n,a,rfl⟩:=l;have i:=a.f64;have u:=a.n64;by_cases m:n=0;·subst m;go_enter func93,ntmps93;go_wp2_with (go_at_call 142;refine(wY b r c 0 _ a).mono ?_;rintro e w' ⟨rfl,rfl⟩);go_ret2;exact⟨rfl,⟨r,c,0,a,rfl⟩,World.grownBy.refl _ _⟩
 ·have o:=HG (r:=r) (n:=n) i (by omega);have v:((n:Int)==0)=false:=by simp;omega
  have g:=C (AV a (by omega:0<n));have p:0<n:=by omega
  rw[o];obtain⟨f,q⟩:=aW ((c+1)%64);have h:=C q;have x:=a.from_;have y:=a.ring c i;have z:(c:Int)<64:=by omega
  go_enter func93,ntmps93;go_wp2_with (go_at_call 142;refine(wY b r c n _ a).mono ?_;rintro e w' ⟨rfl,rfl⟩);go_quiet (fail);have d:=C (a.grown (AT w nq U) (by simp));have j:=C (AT w nq (R b));generalize w.drewN nq=k at d j⊢;have g:=C (AV d p);rw[h.out] at g;have A:=d.out.from_;have s:=d.out.mR;have B:=d.free 64;have D:=d.free 65;have E:((c:Int)+1)%64=(f:Int):=by have:=h.out;omega
  have F:(k.setCell ⟨b,64,U⟩ (I J (f:Int))).cell? ⟨b,65,U⟩=R (I J n):=by rw[i_ _ _ _ _ (by intro e;simp only[Addr.mk.injEq] at e;omega)];exact s
  have t:=C (rm (rm j (s6 k b 64 (I J (f:Int)))) (s6 _ b 65 (I J ((n:Int)-1))));go_wp2;go_ret2;exact⟨rfl,⟨r,f,n-1,g,by rw[h.out];rfl⟩,t⟩
section
open Go.Shelf
attribute [local go_sem] Oper.semAt_some
structure gE (n₀ c:Nat) (A B:ab):Prop where
 below:Below n₀ A B
 one:B.heap[c]?=A.heap[c]?
theorem gE.refl (n₀ c:Nat) (A:ab):gE n₀ c A A:=⟨Below.refl _ _,rfl⟩
theorem gE.trans {n₀ c:Nat} {A B ar:ab} (h:gE n₀ c A B) (k:gE n₀ c B ar):gE n₀ c A ar:=⟨h.below.trans k.below,k.one.trans h.one⟩
theorem A1 (f:n₀<=w.heap.size) (g:c<w.heap.size) (W:ab) (l:Nat) (o a:Obj) (b:w.heap.size<=l) (h:W.heap[l]?=R o) (d:o.isCells=false) (e:o.isWalk=false):gE n₀ c W (W.putObj l a):=⟨belowK_b f W l o a b h d e,(belowK_b (n₀:=c+1) (w:=w) (by omega) W l o a b h d e).block c (by omega)⟩
theorem gE.setCell {n₀ c:Nat} {W:ab} {p:Addr} (a:n₀<=p.block) (b:c≠p.block) (u:Value):gE n₀ c W (W.setCell p u):=⟨(Below.refl n₀ W).setCell a u,Below.heap_setCell W p u c b⟩
def rq (zs:List Int) (m:Int) (x:{p:Nat//cY zs m p=true}):Array Value:=#[I J (x.1:Int),I ah (a_ zs x.1)]
theorem H9 (r:Fence) (n:Nat) (F:r.fn 215) (G:r.round=U) (X:1<=n) (l z f n₀ b s len cap:Nat) (zs:List Int) (m:Int) (Y:zs.length=len) (Z:len*8<=140737488351232) (H:b<n₀) (h A:List {p:Nat//cY zs m p=true}->ab->Prop) (K:∀e u W,h e W->e.length<len->YieldAt r (n-1) au l (rq zs m u) W λk W'=>(k=aK (aD true)∧h (e++[u]) W'∧gE n₀ f W W')∨(k=aK (aD false)∧A (e++[u]) W')) (W:ab) (aa:W.cell? ⟨z,0,U⟩=R (ay (R ⟨b,s,U⟩) len cap)) (L:W.cell? ⟨f,0,U⟩=R (I ah m)) (M:∀j,j<len->W.cell? ⟨b,s+j,U⟩=R (I ah (a_ zs j))) (h0:h [] W):CallsIn r n au 215 #[.func (.yield l) #[] #[],af (R ⟨z,0,U⟩),af (R ⟨f,0,U⟩)] W λk W'=>(∃v,k=aK v)∧((∃B,B=eZ zs m len∧h B W')∨(∃e,(∃c,c<=len∧e=eZ zs m c)∧A e W')):=by
 refine callsIn_of_wp func215 rfl F ?_ G;simp only[ntmps215,jJ,dX,hM,jN,jM,jG,jF,jK,jH,jc,gM];gi_wp2;gi_loopw [8] (λi wr=>∃c:Nat,c<=len∧i=I J c∧h (eZ zs m c) wr∧gE n₀ f W wr) (λi _=>len-(intOf i).toNat);case atStart=>exact⟨0,gN _,rfl,h0,gE.refl _ _ _⟩
 case round=>
  obtain⟨c,aq,rfl,t,o⟩:=hrel;have N:c<len->wr.cell? ⟨b,s+c,U⟩=R (I ah (a_ zs c)):=λd=>(o.below.cell (p:=⟨b,s+c,U⟩) H).trans (M c d);have ac:wr.cell? ⟨f,0,U⟩=R (I ah m):=(lq (a:=⟨f,0,U⟩) o.one).trans L;by_cases O:c<len
  ·have az:=N O;by_cases D:c<64
   ·by_cases w:(bits BinOp.and ah (m/2^c) 1==1)=true
    ·have x:cY zs m c=true:=mI.2 ⟨by omega,D,w⟩;obtain⟨fn,tmps,ad,aB,P,Q⟩:=K _ ⟨c,x⟩ wr t (by have:=F0 zs m c;omega);simp only[rq] at P;have E:(c:Int)<64:=(by omega);have q:eZ zs m (c+1)=eZ zs m c++[⟨c,x⟩]:=wo x;have g:=C q;gi_wp2;apply Q.mono;rintro k aA (⟨rfl,S,T⟩|⟨rfl,V⟩)
     ·gi_wp2;go_roundw;case rel=>exact⟨c+1,by omega,by simp,by rw[g.out];exact S,o.trans T⟩
      case measure=>simp[intOf];omega
     ·gi_wp2;refine bodyPost_ret (results_none rfl _ _ _) rfl ?_;exact⟨⟨_,rfl⟩,.inr ⟨_,⟨c+1,by omega,g.symm⟩,V⟩⟩
    ·have y:cY zs m c=false:=by
      cases d:cY zs m c;·rfl
      ·exact absurd (mI.1 d).2.2 w
     have q:eZ zs m (c+1)=eZ zs m c:=sN y;have g:=C q;have aG:(bits BinOp.and ah (m/2^c) 1==1)=false:=(by simpa using w);have E:(c:Int)<64:=(by omega);gi_wp2;refine⟨λ_ d=>(by cases d),?_⟩;gi_wp2;go_roundw;case rel=>exact⟨c+1,by omega,by simp,by rw[g.out];exact t,o⟩
     case measure=>simp[intOf];omega
   ·have y:cY zs m c=false:=by
     cases d:cY zs m c;·rfl
     ·exact absurd (mI.1 d).2.1 D
    have q:eZ zs m (c+1)=eZ zs m c:=sN y;have g:=C q;have E:¬(c:Int)<64:=(by omega);gi_wp2;refine⟨λ_ d=>(by cases d),?_⟩;gi_wp2;go_roundw;case rel=>exact⟨c+1,by omega,by simp,by rw[g.out];exact t,o⟩
    case measure=>simp[intOf];omega
  ·obtain rfl:c=len:=by omega
   gi_wp2;go_end0;exact⟨⟨_,rfl⟩,.inl ⟨_,rfl,t⟩⟩
theorem H_ (b:Fence) (n:Nat) (e:b.fn 215) (f:b.round=U) (l d g:Nat) (zs:List Int) (m:Int) (c:List {p:Nat//cY zs m p=true}->ab->Prop) (W:ab) (a:Option Addr) (cap:Nat) (k:W.cell? ⟨d,0,U⟩=R (ay a 0 cap)) (h0:c [] W):CallsIn b n au 215 #[.func (.yield l) #[] #[],af (R ⟨d,0,U⟩),af (R ⟨g,0,U⟩)] W λh W'=>(∃v,h=aK v)∧c [] W':=by
 refine callsIn_of_wp func215 rfl e ?_ f;simp only[ntmps215,jJ,dX,hM,jN,jM,jG,jF,jK,jH,jc,gM];gi_wp2;gi_loopw [8] (λi wr=>i=I J 0∧c [] wr) (λ_ _=>0);case atStart=>exact⟨rfl,h0⟩
 case round=>obtain⟨rfl,j⟩:=hrel;gi_wp2;go_end0;exact⟨⟨_,rfl⟩,j⟩
theorem A2 (b:Fence) (n:Nat) (c:b.fn 163) (d:b.round=U) (a:Option Addr) (len cap:Nat) (m:Int) (w:ab):CallsIn b n au 163 #[ay a len cap,I ah m] w λe w'=>e=aK (.func (.func 215) #[] #[af (R ⟨w.heap.size,0,U⟩),af (R ⟨w.heap.size+1,0,U⟩)])∧w'=(w.alloc (av #[ay a len cap] 44)).alloc (av #[I ah m] 31):=by refine callsIn_of_wp func163 rfl c ?_ d;simp[ntmps163];gi_wp2;go_ret;exact⟨rfl,rfl⟩
def fa (n₀:Nat) (W:ab) (aE:Value) (zs:List Int):Prop:=((∃a cap,aE=ay a 0 cap)∧zs=[])∨∃b c cap,aE=ay (R ⟨b,c,U⟩) zs.length cap∧b<n₀∧∀j,j<zs.length->W.cell? ⟨b,c+j,U⟩=R (I ah (a_ zs j))
theorem fa.below {B:ab} (h:Below n₀ A B):fa n₀ A aE zs->fa n₀ B aE zs
 | .inl e=>.inl e
 | .inr ⟨b,off,cap,e,a,c⟩=>.inr ⟨b,off,cap,e,a,λj d=>(h.cell (p:=⟨b,off+j,U⟩) a).trans (c j d)⟩
theorem fa.grow {a:Nat} (d:n₀<=a):fa n₀ A aE zs->fa a A aE zs
 | .inl e=>.inl e
 | .inr ⟨b,off,cap,e,f,c⟩=>.inr ⟨b,off,cap,e,by omega,c⟩
theorem fa.next {B:ab} (h:Below A.heap.size A B) (hI:fa A.heap.size A aE zs):fa B.heap.size B aE zs:=(hI.below h).grow h.size
theorem A3 (e:Fence) (n:Nat) (g:e.fn 215) (h:e.round=U) (q:1<=n) (d c n₀:Nat) (aE:Value) (zs:List Int) (m:Int) (r:zs.length*8<=140737488351232) (w:ab) (s:d<w.heap.size) (t:c<w.heap.size) (u:n₀<=w.heap.size) (v:w.cell? ⟨d,0,U⟩=R aE) (x:w.cell? ⟨c,0,U⟩=R (I ah m)) (hI:fa n₀ w aE zs):SeqStopsK e n au 215 #[af (R ⟨d,0,U⟩),af (R ⟨c,0,U⟩)] (rq zs m) (gE n₀ c) (λy=>y=eZ zs m zs.length) (λz=>∃i,i<=zs.length∧z=eZ zs m i) zs.length w:=λl j A W f _ _ B k=>by
 have o:=(f.cell (p:=⟨d,0,U⟩) s).trans v;have C:=(f.cell (p:=⟨c,0,U⟩) t).trans x;rcases hI.below (f.mono u) with⟨⟨a,cap,rfl⟩,rfl⟩|⟨b,D,cap,rfl,E,F⟩;·exact(H_ e n g h l d c [] m j W a cap o k).mono λJ W' ⟨G,H⟩=>⟨G,.inl ⟨_,rfl,H⟩⟩
 ·exact H9 e n g h q l d c n₀ b D zs.length cap zs m rfl r E j A B W o C F k
end
section
open Go.Shelf
attribute [local go_sem] Oper.semAt_some
def s_ (x:Int):Array Value:=#[I J x]
theorem A4 {k:Nat} (h:k<zs.length):zs.take (k+1)=zs.take k++[a_ zs k]:=by rw[List.take_succ_eq_append_getElem h];unfold a_;rw[b5 h];rfl
theorem Ia (e:Fence) (n:Nat) (u:e.fn 237) (w:e.round=U) (L:1<=n) (l m n₀ b f len cap:Nat) (zs:List Int) (x:zs.length=len) (M:len*8<=140737488351232) (y:b<n₀) (c o:List Int->ab->Prop) (z:∀a g W,c a W->a.length<len->YieldAt e (n-1) au l (s_ g) W λd W'=>(d=aK (aD true)∧c (a++[g]) W'∧Below n₀ W W')∨(d=aK (aD false)∧o (a++[g]) W')) (W:ab) (N:W.cell? ⟨m,0,U⟩=R (ay (R ⟨b,f,U⟩) len cap)) (A:∀j,j<len->W.cell? ⟨b,f+j,U⟩=R (I J (a_ zs j))) (h0:c [] W):CallsIn e n au 237 #[.func (.yield l) #[] #[],af (R ⟨m,0,U⟩)] W λd W'=>(∃v,d=aK v)∧((∃q,q=zs∧c q W')∨(∃a,(∃k,k<=len∧a=zs.take k)∧o a W')):=by
 have B:=C x;refine callsIn_of_wp func237 rfl u ?_ w;simp only[ntmps237,jJ,dX,hM,jN,jM,jG,jF,jK,jH,jc,gM];gi_wp2;gi_loopw [7] (λi wr=>∃k:Nat,k<=len∧i=I J k∧c (zs.take k) wr∧Below n₀ W wr) (λi _=>len-(intOf i).toNat);case atStart=>exact⟨0,gN _,rfl,h0,Below.refl _ _⟩
 case round=>
  obtain⟨k,O,rfl,h,r⟩:=hrel;by_cases D:k<len
  ·have P:wr.cell? ⟨b,f+k,U⟩=R (I J (a_ zs k)):=(r.cell (p:=⟨b,f+k,U⟩) y).trans (A k D);obtain⟨fn,tmps,Q,S,E,F⟩:=z _ (a_ zs k) wr h (by rw[iG];omega);simp only[s_] at E;have s:=A4 (zs:=zs) (k:=k) (by omega);have t:=C s;clear s;have T:(k:Int)<(len:Int):=(by omega);gi_wp2;apply F.mono;rintro d V (⟨rfl,G,H⟩|⟨rfl,K⟩)
   ·gi_wp2;go_roundw;case rel=>exact⟨k+1,by omega,by simp,by rw[t.out];exact G,r.trans H⟩
    case measure=>simp[intOf];omega
   ·gi_wp2;refine bodyPost_ret (results_none rfl _ _ _) rfl ?_;exact⟨⟨_,rfl⟩,.inr ⟨_,⟨k+1,by omega,t.symm⟩,K⟩⟩
  ·obtain rfl:k=len:=by omega
   gi_wp2;go_end0;rw[<-B.out,hL] at h;exact⟨⟨_,rfl⟩,.inl ⟨_,rfl,h⟩⟩
theorem Ib (b:Fence) (n:Nat) (e:b.fn 237) (f:b.round=U) (l d:Nat) (c:List Int->ab->Prop) (W:ab) (a:Option Addr) (cap:Nat) (j:W.cell? ⟨d,0,U⟩=R (ay a 0 cap)) (h0:c [] W):CallsIn b n au 237 #[.func (.yield l) #[] #[],af (R ⟨d,0,U⟩)] W λg W'=>(∃v,g=aK v)∧c [] W':=by
 refine callsIn_of_wp func237 rfl e ?_ f;simp only[ntmps237,jJ,dX,hM,jN,jM,jG,jF,jK,jH,jc,gM];gi_wp2;gi_loopw [7] (λi wr=>i=I J 0∧c [] wr) (λ_ _=>0);case atStart=>exact⟨rfl,h0⟩
 case round=>obtain⟨rfl,h⟩:=hrel;gi_wp2;go_end0;exact⟨⟨_,rfl⟩,h⟩
theorem Ic (a:Option Addr) (len cap:Nat) (w:ab):Calls au 206 #[ay a len cap] w λe w'=>e=aK (.func (.func 237) #[] #[af (R ⟨w.heap.size,0,U⟩)])∧w'=w.alloc (av #[ay a len cap] 46):=by go_enter func206,ntmps206;go_wp2;go_ret;exact⟨rfl,rfl⟩
theorem Ie (d:Fence) (n:Nat) (e:d.fn 237) (f:d.round=U) (m:1<=n) (c n₀:Nat) (aE:Value) (zs:List Int) (o:zs.length*8<=140737488351232) (w:ab) (q:c<w.heap.size) (r:n₀<=w.heap.size) (s:w.cell? ⟨c,0,U⟩=R aE) (hI:pi n₀ w aE zs):SeqStopsK d n au 237 #[af (R ⟨c,0,U⟩)] s_ (Below n₀) (λt=>t=zs) (λu=>∃g,g<=zs.length∧u=zs.take g) zs.length w:=λl h v W i _ _ x j=>by
 have k:=(i.cell (p:=⟨c,0,U⟩) q).trans s;rcases hI.below (i.mono r) with⟨⟨a,cap,rfl⟩,rfl⟩|⟨b,y,cap,rfl,z,A⟩;·exact(Ib d n e f l c h W a cap k j).mono λD W' ⟨B,C⟩=>⟨B,.inl ⟨_,rfl,C⟩⟩
 ·exact Ia d n e f m l c n₀ b y zs.length cap zs rfl o z h v x W k A j
end
section
open Go.Shelf
attribute [local go_sem] Oper.semAt_some
theorem ir (h:W.cell? ⟨b,o,U⟩=R v):b<W.heap.size:=by
 rcases nm b W.heap.size with q|q;·exact q
 ·unfold World.cell? at h;simp[Array.getElem?_eq_none q] at h
theorem w8 {base:Nat} {e:TypeId} {b:Nat} {k:Nat} {ag:List Value} (h:W.ownsRow base e b v k ag):∃a cap,v=ay a k cap:=by
 rcases h.2 with⟨rfl,rfl⟩|⟨g,cap,c,rfl,_⟩;·exact⟨_,_,rfl⟩
 ·exact⟨_,_,rfl⟩
theorem Ig {base:Nat} {e:TypeId} {c:Nat} {k:Nat} {ag:List Value} (h:W.ownsRow base e c v k ag) {o:Obj} (a:v.ownBlock=R j) (b:W.heap[j]?=R o):o.isCells=true:=by
 rcases h.2 with⟨rfl,_⟩|⟨g,cap,f,rfl,_,d,_⟩;·simp[Value.ownBlock] at a
 ·have:g=j:=by simpa[Value.ownBlock] using a
  subst this;rw[d] at b;cases b;rfl
theorem Ih {base:Nat} {e:TypeId} {a:Nat} {k:Nat} {ag:List Value} (h:W.ownsRow base e a v k ag) (c:v.ownBlock≠R b):(W.setCell ⟨b,o,U⟩ u).ownsRow base e a v k ag:=h.kept (row:=R b) ⟨rfl,rfl,rfl,by simp,λi _ d=>Below.heap_setCell W ⟨b,o,U⟩ u i (λe=>d (by rw[e]))⟩ (.inr c)
theorem A5 {base:Nat} {e:TypeId} {a:Nat} {k:Nat} {ag:List Value} (h:W.ownsRow base e a v k ag) (d:W.grownBy W' row) (f:∀b,row=R b->∃o:Obj,W.heap[b]?=R o∧o.isCells=false):W'.ownsRow base e a v k ag:=by
 refine h.kept d ?_;rcases h.2 with⟨rfl,_⟩|⟨g,cap,m,rfl,_,i,_⟩;·exact .inl rfl
 ·refine .inr λj=>?_;obtain⟨o,c,l⟩:=f g j.symm;rw[i] at c;cases c;cases l
theorem Ii (q:Fence) (n:Nat) (az:q.fn 257) (P:q.fn 237) (y:q.round=U) (bb:3<=n) (g n₀:Nat) (aE:Value) (zs:List Int) (w:ab) (ag:zs.length<=1000000) (ad:g<w.heap.size) (aB:n₀<=w.heap.size) (hv:w.cell? ⟨g,0,U⟩=R aE) (hI:pi n₀ w aE zs):CallsIn q n au 257 #[ay U 0 0,.func (.func 237) #[] #[af (R ⟨g,0,U⟩)]] w λb w'=>∃v,b=aK v∧w'.ownsRow w.heap.size 3 1 v zs.length (zs.map (I J))∧Below w.heap.size w w':=by
 have aA:1<=n:=by omega
 obtain⟨aG,aL,ae,am,aN⟩:=info_parts AN;refine callsIn_of_wp_marks func257 rfl az ?_ y;simp only[ntmps257,jJ,dX,hM,jN,jM,jG,jF,jK,jH,jc,gM];gi_wp2;have Q:=Boxed.new w 46 (ay U 0 0);have z:Below w.heap.size w (w.alloc (av #[ay U 0 0] 46)):=(Below.refl _ w).alloc (bK _) _;refine wpIn_rangeFunc_ownG y aA (gf:=237) (lb:=#[af (R ⟨g,0,U⟩)]) rfl P (enters_of func237 (by kernel_rfl) rfl) (Ie q (n-1) P y (by omega) g n₀ aE zs (by omega) _ (by simp;omega) (by simp;omega) ((z.cell (p:=⟨g,0,U⟩) ad).trans hv) (hI.below (z.mono aB))) (λD d=>D.trans d) (belowK_b (by simp;omega)) (Below.refl _ _) (λ_=>rfl) (λf W=>(∃a cap,W.cell? ⟨w.heap.size,0,U⟩=R (ay a f.length cap)∧W.frozen? ⟨w.heap.size,0,U⟩=false∧W.ownsRow (w.heap.size+1) 3 1 (ay a f.length cap) f.length (f.map (I J)))∧Below w.heap.size w W) (λ_ _ _=>False) (OwnFrom.and (Own.from (λbf A B row E F G=>by obtain⟨v,cap,i,s,k⟩:=E;exact⟨v,cap,cell_kept i F G,(frozen_kept i F G).trans s,A5 k F G⟩) _) (ownFrom_below (bK _) (by simp))) (λ_ _ _ _ _ E _ _=>E) ⟨⟨U,0,Q.cell,Q.frozen,by simpa using World.ownsRow_nil _ _ _ _⟩,z⟩ (λe=>{tmps:=#[ay U 0 0,.func (.func 237) #[] #[af (R ⟨g,0,U⟩)],af (R ⟨w.heap.size,0,U⟩),undef,ay U 0 0,I J e,.func (.func 237) #[] #[af (R ⟨g,0,U⟩)],I J e,undef,undef,undef,undef,undef],defers:=[]}) ?assign ?body ?done ?stop;case assign=>intro l e W ax r;simp only[s_];gi_wp2;exact r
 case body=>
  rintro l f e W ⟨⟨H,K,i,s,k⟩,t⟩ bc;have x:=t.size;have aj:w.heap.size<W.heap.size:=ir i;have h:=C (k.alloc (av #[I J e] 3));have ap:w.heap.size+1<=(W.alloc (av #[I J e] 3)).heap.size:=by simp;omega
  have aQ:f.length<=1000000:=by omega
  have S:=C i;have ah:=C s;have T:=C (λd b=>by have:=(h.lt d b).1;omega:∀d,(ay H f.length K).ownBlock=R d->d≠w.heap.size);generalize aR:f.length=m at h S T aQ i;have V:=C aR;have aS:=C (show∀j u,([I J e]:List Value)[j]?=R u->(W.alloc (av #[I J e] 3)).cell? ((⟨W.heap.size,0,U⟩:Addr).add j)=R u fromλj u X=>by
   have bg:j<1:=(by have:=(bD.1 X).1;simpa using this);obtain rfl:j=0:=by omega
   rw[addr_add];exact dz.trans (by rw[<-X];rfl))
  have aU:=C (λu Y=>by simp at Y;subst Y;rfl:∀u∈([I J e]:List Value),u.oneCell'=true);have aP:m+1<=maxLen:=by unfold maxLen;omega
  have aV:(m+1)*8<=140737488355328:=by omega
  gi_wp2_with (first|(gi_at_builtin;refine wpListIn_append_own _ rfl _ _ 46 rfl (w.heap.size+1) 3 aG (.int .i64 0) 1 8 underlying46 aL ae am aN rfl (by decide) _ _ _ rfl h ⟨W.heap.size,0,U⟩ 1 1 [.int .i64 e] rfl rfl aS aU aP aV ap ?_;intro bj w' Z aa _;obtain⟨L,M,rfl⟩:=w8 Z;have aq:w'.heap[w.heap.size]?=W.heap[w.heap.size]?:=(aa.block w.heap.size (by simp;omega) (λb=>T _ b.symm rfl)).trans (Below.heap_alloc _ _ _ aj);have aZ:w'.cell? ⟨w.heap.size,0,U⟩=R (ay H m K):=(lq (a:=⟨w.heap.size,0,U⟩) aq).trans S;have a6:w'.frozen? ⟨w.heap.size,0,U⟩=false:=(World.frozen?_of_block (a:=⟨w.heap.size,0,U⟩) aq).trans ah;have ac:=C Z;have N:=C aa));have ak:(ay L (m+1) M).ownBlock≠R w.heap.size:=λb=>by have:=(ac.lt _ b).1;omega
  have a7:KeepsOthers W (w'.setCell ⟨w.heap.size,0,U⟩ (ay L (m+1) M)):=((KeepsOthers.alloc W _).trans (KeepsOthers.of_grownBy N (λj o b k=>Ig h b k))).trans (KeepsOthers.setCell _ _ _);have a8:Below w.heap.size w w':=(t.alloc x _).grown N (by simp;have:=x;omega) (λd b=>by have:=(h.lt d b).1;omega);have ba:Below n₀ W w':=((Below.refl n₀ W).alloc (by have:=x;omega) _).grown N (by simp;have:=x;omega) (λd b=>by have:=(h.lt d b).1;omega);refine⟨a7.from _,ba.setCell (by show n₀<=w.heap.size;omega) _,⟨L,M,?_,?_,?_⟩,a8.setCell (bK _) _⟩;·rw[eX,V.out];exact nX _ _ _ (by rw[aZ];rfl)
  ·rw[nZ];exact a6
  ·rw[eX,V.out,iI];exact Ih ac ak
 case done=>rintro O an W ao rfl ⟨⟨H,K,i,s,k⟩,t⟩ r;have h:=C k;gi_wp2;refine⟨by simp,.inl ⟨_,_,rfl,run_takeDeferred r,?_⟩⟩;exact⟨_,results_tmp rfl _ _ _,_,rfl,A5 (ownsRow_base_a h.out (by omega)) (grownBy_putObj' _ O (.deferred U)) (λaw b=>by cases b;exact⟨_,r,rfl⟩),t.trans (belowK_b (w:=w) (bK _) W O _ _ (by simp at ao;omega) r rfl rfl)⟩
 case stop=>rintro O c f W _ _ D _;exact D.elim
end
variable {k x:Key} {r:T}
theorem A6 (zs:List Int):(zs.mergeSort λx y=>decide (x<=y)).Pairwise (λx y=>x<=y):=by have:=List.pairwise_mergeSort (le:=λ(x y:Int)=>decide (x<=y)) (λa b c e f=>by simp only[decide_eq_true_eq] at*;omega) (λa b=>by simp;omega) zs;exact this.imp (λd=>by simpa using d)
theorem Ij {S:List Int} (f:S.Pairwise (λx y=>x<=y)):(Lib.compact S).length=S.length↔S.Nodup:=by
 have g:∀j,j<S.length->(Lib.keeps S.toArray j=true↔(j=0∨∃a b,S[j]?=R a∧S[j-1]?=R b∧a≠b)):=λj c=>by
  unfold Lib.keeps;rw[decide_eq_true_iff];have n:S.toArray[j]! =S[j]:=by simp[getElem!_def,b5 c]
  have o:S.toArray[j-1]! =S[j-1]'(by omega):=by simp[getElem!_def,b5 (by omega:j-1<S.length)]
  rw[n,o,b5 c,b5 (by omega:j-1<S.length)];simp
 constructor
 ·intro e;have p:∀j,j<S.length->Lib.keeps S.toArray j=true:=by unfold Lib.compact Lib.compactUpTo at e;rw[dY] at e;have h:((gi S.length).filter (Lib.keeps S.toArray)).length=(gi S.length).length:=(by rw[e,List.length_range]);have q:=(List.length_filter_eq_length_iff).1 h;intro j c;exact q j (pB.2 c)
  rw[qn,qp];intro i j r c t k;have u:S[j-1]'(by omega)<=S[j]:=by
   rcases nm (j-1) j with d|d;·exact qp.1 f (j-1) j (by omega) c d
   ·omega
  have h:S[i]<=S[j-1]'(by omega):=by
   rcases nm i (j-1) with d|d;·exact qp.1 f i (j-1) r (by omega) d
   ·have:i=j-1:=(by omega);subst this;omega
  rcases(g j c).1 (p j c) with d|⟨a,b,l,m,v⟩;·omega
  ·rw[b5 c] at l;rw[b5 (by omega:j-1<S.length)] at m;cases l;cases m;omega
 ·intro e;rw[Lib.compact_all S (λj c=>(g j c).2 (by
  by_cases s:j=0;·exact .inl s
  ·refine .inr ⟨_,_,b5 c,b5 (by omega:j-1<S.length),?_⟩;intro k;have:=qp.1 (qn.1 e) (j-1) j (by omega) c (by omega);exact this k.symm))]
def hB (zs:List Int):List Int:=zs.mergeSort λx y=>decide (x<=y)
theorem p0 (zs:List Int):(hB zs).length=zs.length:=(List.mergeSort_perm _ _).length_eq
theorem Ik (zs:List Int):(Lib.compact (hB zs)).length=zs.length↔zs.Nodup:=by have h:=Ij (A6 zs);rw[show(zs.mergeSort λx y=>decide (x<=y))=hB zs from rfl,p0] at h;rw[h];exact(List.mergeSort_perm _ _).nodup_iff
theorem Il (h:0<zs.length):∃x,(hB zs)[0]?=R x∧(0<=x↔∀y∈zs,0<=y):=by
 have g:=p0 zs;refine⟨_,b5 (by omega),?_⟩;have b:∀y,y∈hB zs↔y∈zs:=λy=>(List.mergeSort_perm zs (λx y=>decide (x<=y))).mem_iff;constructor
 ·intro a y d;obtain⟨k,e,c⟩:=u_.1 ((b y).2 d);rcases Nat.eq_zero_or_pos k with rfl|f;·rw[<-c];exact a
  ·have:=qp.1 (A6 zs) 0 k (by omega:0<(hB zs).length) e f;have i:(hB zs)[k]=y:=c;have j:(hB zs)[0]'(by omega)<=(hB zs)[k]:=this;omega
 ·intro a;exact a _ ((b _).1 (List.getElem_mem _))
theorem Im (zs:List Int):mc zs=true↔(∀y∈zs,0<=y)∧zs.Nodup:=by unfold mc;simp
section
open Go.Shelf Go.Sort
def w9 (w w':ab) (v:Value) (zs:List Int):Prop:=w'.ownsRow w.heap.size 3 1 v zs.length (zs.map (I J))∧Below w.heap.size w w'
theorem Io (a n₀:Nat) (aE:Value) (zs:List Int) (w:ab) (b:zs.length<=1000000) (c:a<w.heap.size) (d:n₀<=w.heap.size) (hv:w.cell? ⟨a,0,U⟩=R aE) (hI:pi n₀ w aE zs):Calls au 257 #[ay U 0 0,.func (.func 237) #[] #[af (R ⟨a,0,U⟩)]] w λe w'=>∃v,e=aK v∧w9 w w' v zs:=(callsIn_wide (n:=3)).1 (Ii Fence.wide 3 trivial trivial rfl (bK _) a n₀ aE zs w b c d hv hI)
theorem Ip (b n₀:Nat) (aE:Value) (zs:List Int) (w:ab) (d:zs.length<=1000000) (e:b<w.heap.size) (f:n₀<=w.heap.size) (hv:w.cell? ⟨b,0,U⟩=R aE) (hI:pi n₀ w aE zs):Calls au 235 #[.func (.func 237) #[] #[af (R ⟨b,0,U⟩)]] w λg w'=>∃v,g=aK v∧w9 w w' v zs:=by have h:=C (Io b n₀ aE zs w d e f hv hI);clear d e f hv hI;go_enter func235,ntmps235;go_wp2_with fail;refine h.mono ?_;rintro g j ⟨v,rfl,c⟩;obtain⟨a,cap,rfl⟩:=w8 c.1;have i:=C c;clear c;go_wp2_with fail;go_ret;exact⟨_,rfl,i⟩
theorem Iq (a n₀:Nat) (aE:Value) (zs:List Int) (w:ab) (u:zs.length<=1000000) (i:a<w.heap.size) (l:n₀<=w.heap.size) (hv:w.cell? ⟨a,0,U⟩=R aE) (hI:pi n₀ w aE zs):Calls au 205 #[.func (.func 237) #[] #[af (R ⟨a,0,U⟩)]] w λb w'=>∃v,b=aK v∧w9 w w' v (hB zs):=by
 have x:=C (Ip a n₀ aE zs w u i l hv hI);clear i l hv hI;go_enter func205,ntmps205;go_wp2_with fail;refine x.mono ?_;rintro b c ⟨v,rfl,d,f⟩;rcases d.2 with⟨rfl,m⟩|⟨g,cap,G,rfl,h,e,o,p,q,r⟩;·have y:zs=[]:=List.eq_nil_of_length_eq_zero m;subst y;have z:=C d;clear d m;go_wp2_with fail;refine(slices_Sort_int_none U 0 c).mono ?_;rintro b A ⟨rfl,rfl⟩;go_wp2_with fail;go_ret;exact⟨_,rfl,by simpa[hB] using z.out,f⟩
 ·have s:Holds (I J) c g 0 zs.toArray:=holds_of_block_i e (by simpa using r);have t:g<c.heap.size:=(iZ.1 e).1;have B:=C (slices_Sort_int g 0 cap zs c s t (by omega));have D:=C (λ(k:Nat) (os:Array Obj)=>ownsRow_sorted_i (os:=os) (n:=k) (ts:=hB zs) (p0 zs) h e o p q);have E:=C h;clear d h e o p q r s t;go_wp2_with fail;refine B.mono ?_;rintro b A ⟨rfl,k,os,rfl⟩;go_wp2_with fail;go_ret;exact⟨_,rfl,by rw[p0];exact D k os,f.grown (grownBy_sorted_i _) f.size (λj F=>by cases F;exact E)⟩
end
section
open Go.Shelf Go.Sort
theorem A7 {base:Nat} {e:TypeId} {k:Nat} {ag:List Int} {x:Int} (h:W.ownsRow base e 1 v k (ag.map (I J))) (b:ag[0]?=R x):∃g cap a,v=ay (R ⟨g,0,U⟩) k cap∧W.cell? ⟨g,0,U⟩=R (I J x)∧(base<=g∧W.heap[g]?=R (av a e (0,0))∧k<=cap∧cap<=maxLen∧a.size=cap*1∧a.toList.take (k*1)=ag.map (I J)):=by
 have c:=h.1;rcases h.2 with⟨rfl,j⟩|⟨g,cap,a,rfl,l,d,m,n,o,f⟩
 ·subst j;have:ag=[]:=by simpa using c
  subst this;cases b
 ·refine⟨g,cap,a,rfl,?_,l,d,m,n,o,f⟩;have i:(a.toList.take (k*1))[0]?=(ag.map (I J))[0]?:=by rw[f]
  have p:0<k:=by have:=(bD.1 b).1;simp at c;omega
  rw[List.getElem?_take_of_lt (by omega),dD,b] at i;simp only[World.cell?,d];simpa using i
theorem Ir (a:Option Addr) (cap:Nat) (zs:List Int) (w:ab) (K:zs.length<=1000000) (hI:pi w.heap.size w (ay a zs.length cap) zs):Calls au 159 #[ay a zs.length cap] w λd w'=>d=aK (aD (mc zs))∧Below w.heap.size w w':=by
 obtain⟨V,y⟩:=aW (w.alloc (av #[ay a zs.length cap] 46));have f:Below w.heap.size w V:=y▸bx _ _;have L:ak V w.heap.size #[ay a zs.length cap] 46:=y▸ak.new w _ _;have z:=C (Iq w.heap.size w.heap.size _ zs V K L.lt f.size (L.cell 0 rfl) (hI.below f));have p:=C y;have q:=Im zs;have s:=C (Ic a zs.length cap w);generalize j:zs.length=n at s p K⊢;have A:=C j;have B:=C (p0 zs);by_cases D:n=0;·subst D;have ac:zs=[]:=List.eq_nil_of_length_eq_zero j;have E:=C (by rw[ac];rfl:mc zs=true);rw[E.out];go_enter func159,ntmps159;go_wp2_with (first|(go_at_call 206;refine s.mono ?_;rintro d M ⟨rfl,h⟩;rw[p.out] at h;subst h)|(go_at_call 205;refine z.mono ?_;rintro d N ⟨v,rfl,e⟩;obtain⟨am,i,rfl⟩:=w8 e.1;have l:=C e;have b:=B;rw[A.out] at b;rw[b];have O:=C b;clear e b));go_ret;exact⟨rfl,f.trans (l.2.mono f.size)⟩
 ·have F:0<zs.length:=by omega
  obtain⟨x,G,t⟩:=Il F;have P:=C G;have aN:((n:Int)==0)=false:=by simp;omega
  have aj:(0:Int)<(n:Int):=by omega
  by_cases Q:0<=x
  ·have S:=C (λ(g i:Nat) (m:Array Value) (W:ab) (az:V.heap.size<=g) (T:W.heap[g]?=R (av m 3 (0,0))) (ap:n<=i) (ad:m.toList.take (n*1)=(hB zs).map (I J))=>show Calls au 207 #[ay (R ⟨g,0,U⟩) n i] W λd w'=>d=aK (ay (R ⟨g,0,U⟩) (Lib.compact (hB zs)).length i)∧Below V.heap.size W w' from by have b:(hB zs).length=n:=(by rw[p0];exact j);have aB:Holds (I J) W g 0 (hB zs).toArray:=holds_of_block_i T (by rw[b];simpa using ad);have X:=slices_Compact_int g 0 i (hB zs) W aB (by omega) (by omega);rw[b] at X;refine X.mono ?_;rintro d w' ⟨rfl,aA,rfl⟩;have u:g<W.heap.size:=(iZ.1 T).1;refine⟨rfl,(Below.refl _ W).grown (row:=R g) ?_ (by omega) (λk d=>by cases d;exact az)⟩;have:=grownBy_sorted_i (w:=W) (g:=g) (n:=aA) (os:=#[]) (Lib.compact (hB zs)++gY (n-(Lib.compact (hB zs)).length) 0).toArray;rw[grow_empty] at this;exact this);obtain⟨c,H⟩:=aW ((Lib.compact (hB zs)).length);have Y:mc zs=decide ((c:Int)=(n:Int)):=by
    have I:=Ik zs;rw[H,j] at I;rw[hN,q,decide_eq_true_iff];constructor;·rintro⟨_,Z⟩;have:=I.2 Z;omega
    ·intro Z;exact⟨t.1 Q,I.1 (by omega)⟩
   rw[H] at S;rw[Y];have aG:((c:Int)==(n:Int))=decide ((c:Int)=(n:Int)):=rfl;generalize e:(decide ((c:Int)=(n:Int)))=r at aG⊢;clear q j G t F D H Y e;go_enter func159,ntmps159;go_wp2_with (first|(go_at_call 206;refine s.mono ?_;rintro d M ⟨rfl,h⟩;rw[p.out] at h;subst h)|(go_at_call 205;refine z.mono ?_;rintro d N ⟨v,rfl,e⟩;obtain⟨aa,i,m,rfl,aL,u⟩:=A7 e.1 P;have l:=C e;have o:=C u;have b:=B;rw[A.out] at b;rw[b] at o;rw[b];have O:=C b;clear e b u)|(go_at_call 207;refine(S aa i m _ o.1 o.2.1 o.2.2.1 o.2.2.2.2.2).mono ?_;rintro d aQ ⟨rfl,aq⟩;have af:=C aq;clear aq));go_ret;exact⟨by simp,f.trans (l.2.trans af|>.mono f.size)⟩
  ·have E:=C (show mc zs=false by
    cases ae:mc zs with
    |false=>rfl
    |true=>exact absurd (t.2 (q.1 ae).1) Q)
   rw[E.out];clear q j G t F D;go_enter func159,ntmps159;go_wp2_with (first|(go_at_call 206;refine s.mono ?_;rintro d M ⟨rfl,h⟩;rw[p.out] at h;subst h)|(go_at_call 205;refine z.mono ?_;rintro d N ⟨v,rfl,e⟩;obtain⟨aa,i,m,rfl,aL,u⟩:=A7 e.1 P;have l:=C e;have b:=B;rw[A.out] at b;rw[b];have O:=C b;clear e b));go_ret;exact⟨rfl,f.trans (l.2.mono f.size)⟩
end
section
open Go.Shelf
attribute [local go_sem] Oper.semAt_some
theorem K_ (j:Fence) (n:Nat) (Z:j.fn 113) (aa:j.fn 163) (K:j.fn 215) (u:j.round=U) (aR:3<=n) (a:Option Addr) (len cap:Nat) (zs:List Int) (e m:Int) (w:ab) (hI:fa w.heap.size w (ay a len cap) zs) (aq:zs.length*8<=140737488351232):CallsIn j n au 113 #[ay a len cap,I J e,I ah m] w λf W'=>f=aK (I J (lG zs e m))∧Below w.heap.size w W':=by
 have p:1<=n:=by omega
 refine callsIn_of_wp_marks func113 rfl Z ?_ u;simp only[ntmps113,jJ,dX,hM,jN,jM,jG,jF,jK,jH,jc,gM];gi_wp2_with (gi_at_call 163;refine(A2 j (n-1) aa u _ _ _ _ _).mono ?_;rintro f w' ⟨rfl,rfl⟩);have ac:=Boxed.new w 44 (ay a len cap);have L:=Boxed.new (w.alloc (av #[ay a len cap] 44)) 3 (I J e);have M:=Boxed.new ((w.alloc (av #[ay a len cap] 44)).alloc (av #[I J e] 3)) 3 (I J (-1));have N:=Boxed.new (((w.alloc (av #[ay a len cap] 44)).alloc (av #[I J e] 3)).alloc (av #[I J (-1)] 3)) 44 (ay a len cap);have O:=Boxed.new ((((w.alloc (av #[ay a len cap] 44)).alloc (av #[I J e] 3)).alloc (av #[I J (-1)] 3)).alloc (av #[ay a len cap] 44)) 31 (I ah m);simp only[lr] at L M N O;have az:=(((ac.alloc (av #[I J e] 3)).alloc (av #[I J (-1)] 3)).alloc (av #[ay a len cap] 44)).alloc (av #[I ah m] 31);have ad:=((L.alloc (av #[I J (-1)] 3)).alloc (av #[ay a len cap] 44)).alloc (av #[I ah m] 31);have P:=(M.alloc (av #[ay a len cap] 44)).alloc (av #[I ah m] 31);have aB:=N.alloc (av #[I ah m] 31);have Q:Below w.heap.size w (((((w.alloc (av #[ay a len cap] 44)).alloc (av #[I J e] 3)).alloc (av #[I J (-1)] 3)).alloc (av #[ay a len cap] 44)).alloc (av #[I ah m] 31)):=((((((Below.refl _ w).alloc (bK _) _).alloc (by simp) _).alloc (by simp;omega) _).alloc (by simp;omega) _).alloc (by simp;omega) _);refine wpIn_rangeFunc_ownG u p (gf:=215) (lb:=#[af (R ⟨w.heap.size+1+1+1,0,U⟩),af (R ⟨w.heap.size+1+1+1+1,0,U⟩)]) rfl K (enters_of func215 (by kernel_rfl) rfl) (A3 j (n-1) K u (by omega) (w.heap.size+1+1+1) (w.heap.size+1+1+1+1) w.heap.size _ zs m aq _ (by simp) (by simp) (by simp;omega) aB.cell O.cell (hI.below Q)) gE.trans (A1 (by simp;omega) (by simp)) (Below.refl _ _) (λ_=>rfl) (λg W=>(W.cell? ⟨w.heap.size,0,U⟩=R (ay a len cap)∧W.cell? ⟨w.heap.size+1,0,U⟩=R (I J e)∧W.cell? ⟨w.heap.size+1+1,0,U⟩=R (I J (gz zs e m g))∧W.frozen? ⟨w.heap.size+1+1,0,U⟩=false)∧Below w.heap.size w W) (λ_ _ _=>False) (OwnFrom.and (Own.from (λaS A B row k v x=>⟨cell_kept k.1 v x,cell_kept k.2.1 v x,cell_kept k.2.2.1 v x,(frozen_kept k.2.2.1 v x).trans k.2.2.2⟩) _) (ownFrom_below (bK _) (by simp;omega))) (λ_ _ _ _ _ k _ _=>k) ⟨⟨az.cell,ad.cell,P.cell,P.frozen⟩,Q⟩ (λd=>{tmps:=#[ay a len cap,I J e,I ah m,af (R ⟨w.heap.size,0,U⟩),af (R ⟨w.heap.size+1,0,U⟩),undef,I J 0,af (R ⟨w.heap.size+1+1,0,U⟩),I J (d.1:Int),I ah (a_ zs d.1),ay a len cap,I ah m,.func (.func 215) #[] #[af (R ⟨w.heap.size+1+1+1,0,U⟩),af (R ⟨w.heap.size+1+1+1+1,0,U⟩)],I J (d.1:Int),I ah (a_ zs d.1),undef,undef,undef,undef,undef,undef,undef,undef,undef,undef,undef,undef,undef,undef,undef,undef,undef],defers:=[]}) ?assign ?body ?done ?stop;case assign=>intro l d W aU y;simp only[rq];gi_wp2;exact y
 case body=>
  rintro l g ⟨d,h⟩ W ⟨⟨D,E,q,F⟩,r⟩ _;have G:=wi zs e m g ⟨d,h⟩;have aA:=FY zs e m g;have S:=(mI.1 h).1;have aG:=fa.below r hI;dsimp only at G;generalize gz zs e m g=B at G aA q;have z:=C G;have T:gz zs e m (g++[⟨d,h⟩])=B->∀H,(KeepsFrom H W W∧gE w.heap.size (w.heap.size+1+1+1+1) W W∧(W.cell? ⟨w.heap.size,0,U⟩=R (ay a len cap)∧W.cell? ⟨w.heap.size+1,0,U⟩=R (I J e)∧W.cell? ⟨w.heap.size+1+1,0,U⟩=R (I J (gz zs e m (g++[⟨d,h⟩])))∧W.frozen? ⟨w.heap.size+1+1,0,U⟩=false)∧Below w.heap.size w W):=λf _=>⟨KeepsFrom.refl _ _,gE.refl _ _ _,⟨D,E,by rw[f];exact q,F⟩,r⟩;have V:gz zs e m (g++[⟨d,h⟩])=(d:Int)->∀H,(KeepsFrom H W (W.setCell ⟨w.heap.size+1+1,0,U⟩ (I J (d:Int)))∧gE w.heap.size (w.heap.size+1+1+1+1) W (W.setCell ⟨w.heap.size+1+1,0,U⟩ (I J (d:Int)))∧((W.setCell ⟨w.heap.size+1+1,0,U⟩ (I J (d:Int))).cell? ⟨w.heap.size,0,U⟩=R (ay a len cap)∧(W.setCell ⟨w.heap.size+1+1,0,U⟩ (I J (d:Int))).cell? ⟨w.heap.size+1,0,U⟩=R (I J e)∧(W.setCell ⟨w.heap.size+1+1,0,U⟩ (I J (d:Int))).cell? ⟨w.heap.size+1+1,0,U⟩=R (I J (gz zs e m (g++[⟨d,h⟩])))∧(W.setCell ⟨w.heap.size+1+1,0,U⟩ (I J (d:Int))).frozen? ⟨w.heap.size+1+1,0,U⟩=false)∧Below w.heap.size w (W.setCell ⟨w.heap.size+1+1,0,U⟩ (I J (d:Int)))):=by
   intro f _;refine⟨(KeepsOthers.setCell _ _ _).from _,gE.setCell (by show w.heap.size<=w.heap.size+1+1;omega) (by show w.heap.size+1+1+1+1≠w.heap.size+1+1;omega) _,⟨?_,?_,?_,?_⟩,r.setCell (by show w.heap.size<=w.heap.size+1+1;omega) _⟩;·rw[i_ _ _ _ _ (by intro f;simp only[Addr.mk.injEq] at f;omega)];exact D
   ·rw[i_ _ _ _ _ (by intro f;simp only[Addr.mk.injEq] at f;omega)];exact E
   ·rw[f];exact nX _ _ _ (by rw[q];rfl)
   ·rw[nZ];exact F
  by_cases s:(d:Int)=e;·have aL:(((d:Int))!=e)=false:=(by simp[s]);have f:gz zs e m (g++[⟨d,h⟩])=B:=(by rw[z.out];unfold kX;rw[z0 (by intro i;exact i.1 s)]);have o:=C (T f);gi_wp2;exact o _
  ·have aL:(((d:Int))!=e)=true:=(by simp[s]);by_cases ae:B<0;·have f:gz zs e m (g++[⟨d,h⟩])=(d:Int):=(by rw[z.out];unfold kX;rw[aj ⟨s,.inl ae⟩]);have o:=C (V f);gi_wp2;exact o _
   ·obtain⟨t,rfl⟩:=dS (by omega:0<=B);rcases aG with⟨p,am⟩|⟨b,aP,aV,p,aZ,aN⟩;·rw[am] at S;simp at S
    ·have ap:t<zs.length:=(by omega);have a6:=aN t ap;simp only[Value.slice.injEq] at p;obtain⟨rfl,rfl,rfl⟩:=p;have ak:(t:Int)<(zs.length:Int):=(by omega);by_cases X:a_ zs t<a_ zs d;·have f:gz zs e m (g++[⟨d,h⟩])=(d:Int):=(by rw[z.out];unfold kX;rw[aj ⟨s,.inr (by simpa using X)⟩]);have o:=C (V f);gi_wp2;exact o _
     ·have f:gz zs e m (g++[⟨d,h⟩])=(t:Int):=(by rw[z.out];unfold kX;rw[z0 (by rintro⟨_,i⟩;exact i.elim (λi=>by omega) (λi=>X (by simpa using i)))]);have o:=C (T f);gi_wp2;exact o _
 case done=>rintro Y a7 W aQ rfl ⟨⟨D,E,q,F⟩,r⟩ y;rw[F1] at q;gi_wp2;refine⟨by simp,.inl ⟨_,_,rfl,run_takeDeferred y,?_⟩⟩;exact⟨_,results_tmp rfl _ _ _,rfl,r.trans (belowK_b (w:=w) (bK _) W Y _ _ (by simp at aQ;omega) y rfl rfl)⟩
 case stop=>rintro Y c g W _ _ i _;exact i.elim
theorem La (h:Fence) (n:Nat) (S:h.fn 194) (T:h.fn 163) (F:h.fn 215) (s:h.round=U) (aL:3<=n) (a:Option Addr) (len cap:Nat) (zs:List Int) (m:Int) (w:ab) (hI:fa w.heap.size w (ay a len cap) zs) (V:zs.length*8<=140737488351232):CallsIn h n au 194 #[ay a len cap,I ah m] w λe W'=>e=aK (I J (least zs m))∧Below w.heap.size w W':=by
 have k:1<=n:=by omega
 refine callsIn_of_wp_marks func194 rfl S ?_ s;simp only[ntmps194,jJ,dX,hM,jN,jM,jG,jF,jK,jH,jc,gM];gi_wp2_with (gi_at_call 163;refine(A2 h (n-1) T s _ _ _ _ _).mono ?_;rintro e w' ⟨rfl,rfl⟩);have X:=Boxed.new w 44 (ay a len cap);have G:=Boxed.new (w.alloc (av #[ay a len cap] 44)) 3 (I J (-1));have H:=Boxed.new ((w.alloc (av #[ay a len cap] 44)).alloc (av #[I J (-1)] 3)) 44 (ay a len cap);have K:=Boxed.new (((w.alloc (av #[ay a len cap] 44)).alloc (av #[I J (-1)] 3)).alloc (av #[ay a len cap] 44)) 31 (I ah m);simp only[lr] at G H K;have Y:=((X.alloc (av #[I J (-1)] 3)).alloc (av #[ay a len cap] 44)).alloc (av #[I ah m] 31);have L:=(G.alloc (av #[ay a len cap] 44)).alloc (av #[I ah m] 31);have Z:=H.alloc (av #[I ah m] 31);have M:Below w.heap.size w ((((w.alloc (av #[ay a len cap] 44)).alloc (av #[I J (-1)] 3)).alloc (av #[ay a len cap] 44)).alloc (av #[I ah m] 31)):=(((((Below.refl _ w).alloc (bK _) _).alloc (by simp) _).alloc (by simp;omega) _).alloc (by simp;omega) _);refine wpIn_rangeFunc_ownG s k (gf:=215) (lb:=#[af (R ⟨w.heap.size+1+1,0,U⟩),af (R ⟨w.heap.size+1+1+1,0,U⟩)]) rfl F (enters_of func215 (by kernel_rfl) rfl) (A3 h (n-1) F s (by omega) (w.heap.size+1+1) (w.heap.size+1+1+1) w.heap.size _ zs m V _ (by simp) (by simp) (by simp;omega) Z.cell K.cell (hI.below M)) gE.trans (A1 (by simp;omega) (by simp)) (Below.refl _ _) (λ_=>rfl) (λf W=>(W.cell? ⟨w.heap.size,0,U⟩=R (ay a len cap)∧W.cell? ⟨w.heap.size+1,0,U⟩=R (I J (hg zs m f))∧W.frozen? ⟨w.heap.size+1,0,U⟩=false)∧Below w.heap.size w W) (λ_ _ _=>False) (OwnFrom.and (Own.from (λae A B row i u v=>⟨cell_kept i.1 u v,cell_kept i.2.1 u v,(frozen_kept i.2.1 u v).trans i.2.2⟩) _) (ownFrom_below (bK _) (by simp;omega))) (λ_ _ _ _ _ i _ _=>i) ⟨⟨Y.cell,L.cell,L.frozen⟩,M⟩ (λd=>{tmps:=#[ay a len cap,I ah m,af (R ⟨w.heap.size,0,U⟩),undef,I J 0,af (R ⟨w.heap.size+1,0,U⟩),I J (d.1:Int),I ah (a_ zs d.1),ay a len cap,I ah m,.func (.func 215) #[] #[af (R ⟨w.heap.size+1+1,0,U⟩),af (R ⟨w.heap.size+1+1+1,0,U⟩)],I J (d.1:Int),I ah (a_ zs d.1),undef,undef,undef,undef,undef,undef,undef,undef,undef,undef,undef,undef],defers:=[]}) ?assign ?body ?done ?stop;case assign=>intro l d W am t;simp only[rq];gi_wp2;exact t
 case body=>
  rintro l f ⟨d,g⟩ W ⟨⟨x,o,y⟩,p⟩ _;have z:=wj zs m f ⟨d,g⟩;have aa:=FZ zs m f;have N:=(mI.1 g).1;have aq:=fa.below p hI;dsimp only at z;generalize hg zs m f=B at z aa o;have D:=C z;have ac:hg zs m (f++[⟨d,g⟩])=B->∀E,(KeepsFrom E W W∧gE w.heap.size (w.heap.size+1+1+1) W W∧(W.cell? ⟨w.heap.size,0,U⟩=R (ay a len cap)∧W.cell? ⟨w.heap.size+1,0,U⟩=R (I J (hg zs m (f++[⟨d,g⟩])))∧W.frozen? ⟨w.heap.size+1,0,U⟩=false)∧Below w.heap.size w W):=λe _=>⟨KeepsFrom.refl _ _,gE.refl _ _ _,⟨x,by rw[e];exact o,y⟩,p⟩;have O:hg zs m (f++[⟨d,g⟩])=(d:Int)->∀E,(KeepsFrom E W (W.setCell ⟨w.heap.size+1,0,U⟩ (I J (d:Int)))∧gE w.heap.size (w.heap.size+1+1+1) W (W.setCell ⟨w.heap.size+1,0,U⟩ (I J (d:Int)))∧((W.setCell ⟨w.heap.size+1,0,U⟩ (I J (d:Int))).cell? ⟨w.heap.size,0,U⟩=R (ay a len cap)∧(W.setCell ⟨w.heap.size+1,0,U⟩ (I J (d:Int))).cell? ⟨w.heap.size+1,0,U⟩=R (I J (hg zs m (f++[⟨d,g⟩])))∧(W.setCell ⟨w.heap.size+1,0,U⟩ (I J (d:Int))).frozen? ⟨w.heap.size+1,0,U⟩=false)∧Below w.heap.size w (W.setCell ⟨w.heap.size+1,0,U⟩ (I J (d:Int)))):=by
   intro e _;refine⟨(KeepsOthers.setCell _ _ _).from _,gE.setCell (by show w.heap.size<=w.heap.size+1;omega) (by show w.heap.size+1+1+1≠w.heap.size+1;omega) _,⟨?_,?_,?_⟩,p.setCell (by show w.heap.size<=w.heap.size+1;omega) _⟩;·rw[i_ _ _ _ _ (by intro e;simp only[Addr.mk.injEq] at e;omega)];exact x
   ·rw[e];exact nX _ _ _ (by rw[o];rfl)
   ·rw[nZ];exact y
  by_cases az:B<0;·have e:hg zs m (f++[⟨d,g⟩])=(d:Int):=(by rw[D.out];unfold me;rw[aj (.inl az)]);have q:=C (O e);gi_wp2;exact q _
  ·obtain⟨r,rfl⟩:=dS (by omega:0<=B);rcases aq with⟨k,ad⟩|⟨b,aN,ap,k,aQ,aB⟩;·rw[ad] at N;simp at N
   ·have aA:r<zs.length:=(by omega);have aR:=aB r aA;simp only[Value.slice.injEq] at k;obtain⟨rfl,rfl,rfl⟩:=k;have aS:(r:Int)<(zs.length:Int):=(by omega);by_cases P:a_ zs d<a_ zs r;·have e:hg zs m (f++[⟨d,g⟩])=(d:Int):=(by rw[D.out];unfold me;rw[aj (.inr (by simpa using P))]);have q:=C (O e);gi_wp2;exact q _
    ·have e:hg zs m (f++[⟨d,g⟩])=(r:Int):=(by rw[D.out];unfold me;rw[z0 (λj=>j.elim (λj=>by omega) (λj=>P (by simpa using j)))]);have q:=C (ac e);gi_wp2;exact q _
 case done=>rintro Q aU W aG rfl ⟨⟨x,o,y⟩,p⟩ t;rw[zI] at o;gi_wp2;refine⟨by simp,.inl ⟨_,_,rfl,run_takeDeferred t,?_⟩⟩;exact⟨_,results_tmp rfl _ _ _,rfl,p.trans (belowK_b (w:=w) (bK _) W Q _ _ (by simp at aG;omega) t rfl rfl)⟩
 case stop=>rintro Q c f W _ _ j _;exact j.elim
theorem Lb (a:Option Addr) (len cap:Nat) (zs:List Int) (b m:Int) (w:ab) (hI:fa w.heap.size w (ay a len cap) zs) (c:zs.length*8<=140737488351232):Calls au 113 #[ay a len cap,I J b,I ah m] w λd W'=>d=aK (I J (lG zs b m))∧Below w.heap.size w W':=callsIn_wide.1 (K_ Fence.wide 3 trivial trivial trivial rfl (bK _) a len cap zs b m w hI c)
theorem m_ (a:Option Addr) (len cap:Nat) (zs:List Int) (m:Int) (w:ab) (hI:fa w.heap.size w (ay a len cap) zs) (b:zs.length*8<=140737488351232):Calls au 194 #[ay a len cap,I ah m] w λc W'=>c=aK (I J (least zs m))∧Below w.heap.size w W':=callsIn_wide.1 (La Fence.wide 3 trivial trivial trivial rfl (bK _) a len cap zs m w hI b)
end
theorem fa.cells (h:fa n₀ W (ay a n cap) zs) (f:p<zs.length):∃b d,a=R ⟨b,d,U⟩∧b<n₀∧∀j,j<zs.length->W.cell? ⟨b,d+j,U⟩=R (I ah (a_ zs j)):=by
 rcases h with⟨_,rfl⟩|⟨b,d,c,e,g,i⟩;·simp at f
 ·simp only[Value.slice.injEq] at e;exact⟨b,d,e.1,g,i⟩
theorem h6 {B:ab} (h:Below A.heap.size A B) (hI:fa A.heap.size A aE zs):fa B.heap.size B aE zs:=(hI.below h).grow h.size
theorem e4 {B ar:ab} (h:Below A.heap.size A B) (k:Below B.heap.size B ar):Below A.heap.size A ar:=h.trans (k.mono h.size)
def kj (n₀:Nat) (W:ab) (aE:Value) (bs:List Bool):Prop:=((∃a cap,aE=ay a 0 cap)∧bs=[])∨∃b c cap,aE=ay (R ⟨b,c,U⟩) bs.length cap∧b<n₀∧∀j,j<bs.length->W.cell? ⟨b,c+j,U⟩=R (aD (qX bs j))
theorem kj.below {B:ab} (h:Below n₀ A B) {bs:List Bool}:kj n₀ A aE bs->kj n₀ B aE bs
 | .inl e=>.inl e
 | .inr ⟨b,off,cap,e,a,c⟩=>.inr ⟨b,off,cap,e,a,λj d=>(h.cell (p:=⟨b,off+j,U⟩) a).trans (c j d)⟩
theorem kj.grow {a:Nat} (d:n₀<=a) {bs:List Bool}:kj n₀ A aE bs->kj a A aE bs
 | .inl e=>.inl e
 | .inr ⟨b,off,cap,e,f,c⟩=>.inr ⟨b,off,cap,e,by omega,c⟩
theorem kj.cells {bs:List Bool} (h:kj n₀ W (ay a n cap) bs) (f:p<bs.length):∃b d,a=R ⟨b,d,U⟩∧b<n₀∧∀j,j<bs.length->W.cell? ⟨b,d+j,U⟩=R (aD (qX bs j)):=by
 rcases h with⟨_,rfl⟩|⟨b,d,c,e,g,i⟩;·simp at f
 ·simp only[Value.slice.injEq] at e;exact⟨b,d,e.1,g,i⟩
theorem iY {B:ab} (h:Below A.heap.size A B) {bs:List Bool} (hI:kj A.heap.size A aE bs):kj B.heap.size B aE bs:=(hI.below h).grow h.size
theorem mr (p:Int) (a:Option Addr) (cap:Nat) (j:Option Addr) (f k:Nat) (zs:List Int) (bs:List Bool) (m:Int) (l n o:Nat) (w:ab) (n₀:Nat) (hI:fa n₀ w (ay a zs.length cap) zs) (v:kj n₀ w (ay j f k) bs) (x:bs.length=f) (H:zs.length<=1000) (K:f<=9223372036854775807) (c0:w.cell? ⟨l,0,U⟩=R (ay a zs.length cap)) (L:w.cell? ⟨n,0,U⟩=R (I ah m)) (c2:w.cell? ⟨o,0,U⟩=R (ay j f k)):Calls au 231 #[I J p,af (R ⟨l,0,U⟩),af (R ⟨n,0,U⟩),af (R ⟨o,0,U⟩)] w λy w'=>y=aK (aD (jX zs bs m p))∧w=w':=by
 have q:=C x;by_cases r:0<=p
 ·obtain⟨c,rfl⟩:=dS r;rw[wA];rcases zN zs m c with⟨e,g⟩|⟨e,g,z⟩|⟨g,z,e⟩;·have d:=C (by unfold hS;rw[e];rfl:hS zs bs m c=false);have s:¬(c:Int)<(zs.length:Int):=(by omega);go_enter func231,ntmps231;go_wp2;go_ret;exact⟨by rw[d.out];rfl,rfl⟩
  ·have d:=C (by unfold hS;rw[e];rfl:hS zs bs m c=false);have s:(c:Int)<(zs.length:Int):=(by omega);have A:¬(c:Int)<64:=(by omega);go_enter func231,ntmps231;go_wp2;go_ret;exact⟨by rw[d.out];rfl,rfl⟩
  ·have s:(c:Int)<(zs.length:Int):=(by omega);have A:(c:Int)<64:=(by omega);have t:(bits BinOp.and ah (m/2^c) 1==1)=bW m c:=rfl;cases h:bW m c;·have d:=C (by unfold hS;rw[e,h];rfl:hS zs bs m c=false);rw[h] at t;go_enter func231,ntmps231;go_wp2;go_ret;exact⟨by rw[d.out];rfl,rfl⟩
   ·rw[h] at e t;obtain⟨b,M,B,N,D⟩:=hI.cells g;subst B;have O:=D c g;cases i:(a_ zs c==0);·have d:=C (by unfold hS;rw[e,i];rfl:hS zs bs m c=false);go_enter func231,ntmps231;go_wp2;go_ret;exact⟨by rw[d.out];rfl,rfl⟩
    ·by_cases u:bs.length<=c;·have d:=C (show hS zs bs m c=true by unfold hS;rw[e,i];simp[u]);have E:(f:Int)<=(c:Int):=(by have:=q.out;omega);go_enter func231,ntmps231;go_wp2;go_ret;exact⟨by rw[d.out];rfl,rfl⟩
     ·have d:=C (show hS zs bs m c=!qX bs c by unfold hS;rw[e,i];simp[u]);have E:¬(f:Int)<=(c:Int):=(by have:=q.out;omega);have P:(c:Int)<(f:Int):=(by omega);have Q:c<f:=(by omega);obtain⟨S,T,F,V,G⟩:=v.cells (by omega:c<bs.length);subst F;have W:=G c (by omega);go_enter func231,ntmps231;go_wp2;go_ret;exact⟨by rw[d.out];rfl,rfl⟩
 ·have d:=C (by unfold jX;rw[decide_eq_false r];rfl:jX zs bs m p=false);go_enter func231,ntmps231;go_wp2;go_ret;exact⟨by rw[d.out];rfl,rfl⟩
theorem na (a:Option Addr) (len cap:Nat) (b:Option Addr) (c d:Nat) (m:Int) (w:ab):Calls au 195 #[ay a len cap,ay b c d,I ah m] w λg w'=>g=aK (.func (.func 231) #[] #[af (R ⟨w.heap.size,0,U⟩),af (R ⟨w.heap.size+1+1,0,U⟩),af (R ⟨w.heap.size+1,0,U⟩)])∧Below w.heap.size w w'∧w.heap.size+3<=w'.heap.size∧w'.cell? ⟨w.heap.size,0,U⟩=R (ay a len cap)∧w'.cell? ⟨w.heap.size+1,0,U⟩=R (ay b c d)∧w'.cell? ⟨w.heap.size+1+1,0,U⟩=R (I ah m):=by
 go_enter func195,ntmps195;go_wp2;go_ret;refine⟨rfl,(((Below.refl _ w).alloc (bK _) _).alloc (by simp) _).alloc (by simp;omega) _,by simp,?_,?_,?_⟩;·have h:=Boxed.new w 44 (ay a len cap);exact((h.alloc _).alloc _).cell
 ·have e:=Boxed.new (w.alloc (av #[ay a len cap] 44)) 43 (ay b c d);rw[lr] at e;exact(e.alloc _).cell
 ·have f:=Boxed.new ((w.alloc (av #[ay a len cap] 44)).alloc (av #[ay b c d] 43)) 31 (I ah m);simp only[lr] at f;exact f.cell
theorem o_ (a:Option Addr) (cap:Nat) (k:Option Addr) (e l:Nat) (zs:List Int) (bs:List Bool) (m:Int) (w:ab) (hI:fa w.heap.size w (ay a zs.length cap) zs) (v:kj w.heap.size w (ay k e l) bs) (x:bs.length=e) (n:zs.length<=1000) (o:e<=9223372036854775807):Calls au 196 #[ay a zs.length cap,ay k e l,I ah m] w λc w'=>c=aK (I J (iP zs bs m))∧Below w.heap.size w w':=by
 have p:=C x;go_enter func196,ntmps196;go_wp2_with fail;refine(na _ _ _ _ _ _ _ _).mono ?_;rintro c B ⟨rfl,f,D,q,r,s⟩;have t:=C (h6 f hI);have u:=C (iY f v);go_wp2_with fail;go_loop [15] (λi=>∃b:Nat,b<=zs.length∧i=I J b∧∀d,d<b->hS zs bs m d=false) (λi=>zs.length-(intOf i).toNat);case atStart=>exact⟨0,by omega,rfl,λd E=>by omega⟩
 case round=>
  obtain⟨b,F,rfl,y⟩:=hrel;have g:=C y;by_cases z:b<zs.length
  ·have G:(b:Int)<(zs.length:Int):=(by omega);cases hid:hS zs bs m b
   ·have h:=C (show jX zs bs m b=false by rw[wA];exact hid);have A:=C hid;go_wp2_with fail;refine(mr _ _ _ _ _ _ zs bs m _ _ _ _ _ t.out u.out p.out n o q s r).mono ?_;rintro c w' ⟨rfl,rfl⟩;rw[h.out];go_wp2;go_round;case rel=>exact⟨b+1,by omega,by go_num,λd H=>by
     by_cases c:d=b;·subst c;exact A.out
     ·exact g.out d (by omega)⟩
    case measure=>simp[intOf];omega
   ·have h:=C (show jX zs bs m b=true by rw[wA];exact hid);have j:=C (show iP zs bs m=b from wg z hid g.out);go_wp2_with fail;refine(mr _ _ _ _ _ _ zs bs m _ _ _ _ _ t.out u.out p.out n o q s r).mono ?_;rintro c w' ⟨rfl,rfl⟩;rw[h.out];go_wp2;go_ret;exact⟨by rw[j.out];rfl,f⟩
  ·obtain rfl:b=zs.length:=by omega
   have j:=C (show iP zs bs m=-1 from wh g.out);go_wp2;go_ret;exact⟨by rw[j.out];rfl,f⟩
theorem Lc (a:Option Addr) (cap:Nat) (V:Option Addr) (O W:Nat) (zs:List Int) (bs:List Bool) (prev m:Int) (w:ab) (hI:fa w.heap.size w (ay a zs.length cap) zs) (u:kj w.heap.size w (ay V O W) bs) (az:bs.length=O) (j:zs.length<=1000) (k:O<=9223372036854775807):Calls au 145 #[ay a zs.length cap,ay V O W,I J prev,I ah m] w λc w'=>c=aK (bC #[I J (choose zs bs prev m).1,I J (choose zs bs prev m).2])∧Below w.heap.size w w':=by
 have z:=C u;have l:=C az;have v:zs.length*8<=140737488351232:=by omega
 rcases F2 zs m with⟨G,X⟩|⟨L,G,X,am,aN⟩;·have t:=C G;have H:=C (F6 (bs:=bs) (prev:=prev) (by omega:least zs m<0));go_enter func145,ntmps145;go_wp2_with fail;refine(m_ _ _ _ zs _ _ hI v).mono ?_;rintro c A ⟨rfl,d⟩;rw[t.out];go_wp2;go_ret2;exact⟨by rw[H.out];rfl,d⟩
 ·have t:=C G;have S:¬least zs m<0:=by omega
  cases hid:jX zs bs m prev
  ·have x:=C hid;by_cases T:0<=iP zs bs m;·have H:=C (F8 S hid T);go_enter func145,ntmps145;go_wp2_with fail;refine(m_ _ _ _ zs _ _ hI v).mono ?_;rintro c A ⟨rfl,d⟩;rw[t.out];have n:=C (h6 d hI);have o:=C (iY d z);go_wp2_with fail;refine(na _ _ _ _ _ _ _ _).mono ?_;rintro c E ⟨rfl,e,F,p,q,r⟩;have f:=C (h6 e n);have g:=C (iY e o);go_wp2_with fail;refine(mr _ _ _ _ _ _ zs bs m _ _ _ _ _ f g l j k p r q).mono ?_;rintro c w' ⟨rfl,rfl⟩;rw[x.out];go_wp2_with fail;refine(o_ _ _ _ _ _ zs bs m _ f g l j k).mono ?_;rintro c K ⟨rfl,s⟩;go_wp2;go_ret2;exact⟨by rw[H.out];rfl,e4 (e4 d e) s⟩
   ·have Z:∀(al:Int),choose zs bs prev m=(al,0)->((al=prev∧jy zs m prev=true∧a_ zs prev.toNat<=a_ zs L)∨(al=L∧¬(jy zs m prev=true∧a_ zs prev.toNat<=a_ zs L)))->Calls au 145 #[ay a zs.length cap,ay V O W,I J prev,I ah m] w λc w'=>c=aK (bC #[I J (choose zs bs prev m).1,I J (choose zs bs prev m).2])∧Below w.heap.size w w':=by
     intro al aa P;have H:=C aa;have M:=C T;rw[aa];have aj:(L:Int)<(zs.length:Int):=(by omega);rcases Ga zs m prev with⟨y,B⟩|⟨i,rfl,y,B⟩|⟨i,rfl,y,B,aq⟩|⟨i,rfl,y,B,aq,D⟩|⟨i,rfl,y,ap,B,aq,D⟩
     ·have u:al=L:=by
       rcases P with⟨_,h,_⟩|⟨h,_⟩;·rw[y] at h;cases h
       ·exact h
      subst u;have U:¬(0:Int)<=prev:=(by omega);go_enter func145,ntmps145;go_wp2_with fail;refine(m_ _ _ _ zs _ _ hI v).mono ?_;rintro c A ⟨rfl,d⟩;rw[t.out];have n:=C (h6 d hI);have o:=C (iY d z);go_wp2_with fail;refine(na _ _ _ _ _ _ _ _).mono ?_;rintro c E ⟨rfl,e,F,p,q,r⟩;have f:=C (h6 e n);have g:=C (iY e o);go_wp2_with fail;refine(mr _ _ _ _ _ _ zs bs m _ _ _ _ _ f g l j k p r q).mono ?_;rintro c w' ⟨rfl,rfl⟩;rw[x.out];go_wp2_with fail;refine(o_ _ _ _ _ _ zs bs m _ f g l j k).mono ?_;rintro c K ⟨rfl,s⟩;have Q:iP zs bs m<0:=M;go_wp2;go_quiet (fail);go_wp2;go_ret2;exact⟨rfl,e4 (e4 d e) (s.trans ((iM.refl _).drewN _|>.below _))⟩
     ·have u:al=L:=by
       rcases P with⟨_,h,_⟩|⟨h,_⟩;·rw[y] at h;cases h
       ·exact h
      subst u;have U:¬(i:Int)<(zs.length:Int):=(by omega);go_enter func145,ntmps145;go_wp2_with fail;refine(m_ _ _ _ zs _ _ hI v).mono ?_;rintro c A ⟨rfl,d⟩;rw[t.out];have n:=C (h6 d hI);have o:=C (iY d z);go_wp2_with fail;refine(na _ _ _ _ _ _ _ _).mono ?_;rintro c E ⟨rfl,e,F,p,q,r⟩;have f:=C (h6 e n);have g:=C (iY e o);go_wp2_with fail;refine(mr _ _ _ _ _ _ zs bs m _ _ _ _ _ f g l j k p r q).mono ?_;rintro c w' ⟨rfl,rfl⟩;rw[x.out];go_wp2_with fail;refine(o_ _ _ _ _ _ zs bs m _ f g l j k).mono ?_;rintro c K ⟨rfl,s⟩;have Q:iP zs bs m<0:=M;go_wp2;go_quiet (fail);go_wp2;go_ret2;exact⟨rfl,e4 (e4 d e) (s.trans ((iM.refl _).drewN _|>.below _))⟩
     ·have u:al=L:=by
       rcases P with⟨_,h,_⟩|⟨h,_⟩;·rw[y] at h;cases h
       ·exact h
      subst u;have U:(i:Int)<(zs.length:Int):=(by omega);have ac:¬(i:Int)<64:=(by omega);go_enter func145,ntmps145;go_wp2_with fail;refine(m_ _ _ _ zs _ _ hI v).mono ?_;rintro c A ⟨rfl,d⟩;rw[t.out];have n:=C (h6 d hI);have o:=C (iY d z);go_wp2_with fail;refine(na _ _ _ _ _ _ _ _).mono ?_;rintro c E ⟨rfl,e,F,p,q,r⟩;have f:=C (h6 e n);have g:=C (iY e o);go_wp2_with fail;refine(mr _ _ _ _ _ _ zs bs m _ _ _ _ _ f g l j k p r q).mono ?_;rintro c w' ⟨rfl,rfl⟩;rw[x.out];go_wp2_with fail;refine(o_ _ _ _ _ _ zs bs m _ f g l j k).mono ?_;rintro c K ⟨rfl,s⟩;have Q:iP zs bs m<0:=M;go_wp2;go_quiet (fail);go_wp2;go_ret2;exact⟨rfl,e4 (e4 d e) (s.trans ((iM.refl _).drewN _|>.below _))⟩
     ·have u:al=L:=by
       rcases P with⟨_,h,_⟩|⟨h,_⟩;·rw[y] at h;cases h
       ·exact h
      subst u;have U:(i:Int)<(zs.length:Int):=(by omega);have ac:(i:Int)<64:=(by omega);have ad:(bits BinOp.and ah (m/2^i) 1==1)=false:=D;go_enter func145,ntmps145;go_wp2_with fail;refine(m_ _ _ _ zs _ _ hI v).mono ?_;rintro c A ⟨rfl,d⟩;rw[t.out];have n:=C (h6 d hI);have o:=C (iY d z);go_wp2_with fail;refine(na _ _ _ _ _ _ _ _).mono ?_;rintro c E ⟨rfl,e,F,p,q,r⟩;have f:=C (h6 e n);have g:=C (iY e o);go_wp2_with fail;refine(mr _ _ _ _ _ _ zs bs m _ _ _ _ _ f g l j k p r q).mono ?_;rintro c w' ⟨rfl,rfl⟩;rw[x.out];go_wp2_with fail;refine(o_ _ _ _ _ _ zs bs m _ f g l j k).mono ?_;rintro c K ⟨rfl,s⟩;have Q:iP zs bs m<0:=M;go_wp2;go_quiet (fail);go_wp2;go_ret2;exact⟨rfl,e4 (e4 d e) (s.trans ((iM.refl _).drewN _|>.below _))⟩
     ·have U:(i:Int)<(zs.length:Int):=(by omega);have ac:(i:Int)<64:=(by omega);have ad:(bits BinOp.and ah (m/2^i) 1==1)=true:=D;have aB:(al=(i:Int)∧a_ zs i<=a_ zs L)∨(al=L∧¬a_ zs i<=a_ zs L):=by
       rcases P with⟨a,_,b⟩|⟨a,b⟩;·exact .inl ⟨a,by simpa using b⟩
       ·exact .inr ⟨a,λh=>b ⟨y,by simpa using h⟩⟩
      rcases aB with⟨rfl,aA⟩|⟨rfl,aA⟩;·go_enter func145,ntmps145;go_wp2_with fail;refine(m_ _ _ _ zs _ _ hI v).mono ?_;rintro c A ⟨rfl,d⟩;rw[t.out];have n:=C (h6 d hI);have o:=C (iY d z);go_wp2_with fail;refine(na _ _ _ _ _ _ _ _).mono ?_;rintro c E ⟨rfl,e,F,p,q,r⟩;have f:=C (h6 e n);have g:=C (iY e o);go_wp2_with fail;refine(mr _ _ _ _ _ _ zs bs m _ _ _ _ _ f g l j k p r q).mono ?_;rintro c w' ⟨rfl,rfl⟩;rw[x.out];go_wp2_with fail;refine(o_ _ _ _ _ _ zs bs m _ f g l j k).mono ?_;rintro c K ⟨rfl,s⟩;have Q:iP zs bs m<0:=M;obtain⟨b,aG,Y,aL,R⟩:=(h6 s f).cells B;subst Y;have af:=R i B;have ae:=R L X;go_wp2;go_quiet (fail);go_wp2;go_ret2;exact⟨rfl,e4 (e4 d e) (s.trans ((iM.refl _).drewN _|>.below _))⟩
      ·go_enter func145,ntmps145;go_wp2_with fail;refine(m_ _ _ _ zs _ _ hI v).mono ?_;rintro c A ⟨rfl,d⟩;rw[t.out];have n:=C (h6 d hI);have o:=C (iY d z);go_wp2_with fail;refine(na _ _ _ _ _ _ _ _).mono ?_;rintro c E ⟨rfl,e,F,p,q,r⟩;have f:=C (h6 e n);have g:=C (iY e o);go_wp2_with fail;refine(mr _ _ _ _ _ _ zs bs m _ _ _ _ _ f g l j k p r q).mono ?_;rintro c w' ⟨rfl,rfl⟩;rw[x.out];go_wp2_with fail;refine(o_ _ _ _ _ _ zs bs m _ f g l j k).mono ?_;rintro c K ⟨rfl,s⟩;have Q:iP zs bs m<0:=M;obtain⟨b,aG,Y,aL,R⟩:=(h6 s f).cells B;subst Y;have af:=R i B;have ae:=R L X;go_wp2;go_quiet (fail);go_wp2;go_ret2;exact⟨rfl,e4 (e4 d e) (s.trans ((iM.refl _).drewN _|>.below _))⟩
    by_cases D:jy zs m prev=true∧a_ zs prev.toNat<=a_ zs (least zs m).toNat;·have N:=D;rw[G] at N;exact Z prev (F9 S hid T D) (.inl ⟨rfl,N.1,by simpa using N.2⟩)
    ·have N:=D;rw[G] at N;exact Z L (by rw[F_ S hid T D,G]) (.inr ⟨rfl,by simpa using N⟩)
  ·have H:=C (F7 S hid);have x:=C hid;go_enter func145,ntmps145;go_wp2_with fail;refine(m_ _ _ _ zs _ _ hI v).mono ?_;rintro c A ⟨rfl,d⟩;rw[t.out];have n:=C (h6 d hI);have o:=C (iY d z);go_wp2_with fail;refine(na _ _ _ _ _ _ _ _).mono ?_;rintro c E ⟨rfl,e,F,p,q,r⟩;have f:=C (h6 e n);have g:=C (iY e o);go_wp2_with fail;refine(mr _ _ _ _ _ _ zs bs m _ _ _ _ _ f g l j k p r q).mono ?_;rintro c w' ⟨rfl,rfl⟩;rw[x.out];go_wp2;go_ret2;exact⟨by rw[H.out];rfl,e4 d e⟩
variable {gap:Int}
def lW (x:Int):Prop:=0<=x∧x<18446744073709551616
theorem Cz (a b:Int) (w:ab) (e:0<=a) (f:0<=b) (g:a<18446744073709551616) (h:b<18446744073709551616):Calls au 33 #[I ah a,I ah b] w λd w'=>d=aK (I ah (gB a b))∧w=w':=by
 by_cases i:b<a;·have c:=C (by unfold gB;rw[aj (by omega)]:gB a b=a-b);go_enter func33,ntmps33;go_wp2;all_goals first|omega|(go_ret;exact⟨by rw[c.out];first|rfl|(simp<;>omega),rfl⟩)
 ·have c:=C (by unfold gB;split<;>omega:gB a b=0);have j:a-a=0:=by omega
  go_enter func33,ntmps33;go_wp2;all_goals first|omega|(go_ret;exact⟨by rw[c.out];first|rfl|(simp<;>omega),rfl⟩)|(
   obtain rfl:a=b:=by omega
   go_ret;exact⟨by rw[c.out];simp,rfl⟩)
theorem Lh (m p:Nat) (c:m<18446744073709551616):bW (m:Int) p=(m/2^p%2==1):=by
 unfold bW;have d:((m:Int)/2^p)=((m/2^p:Nat):Int):=by simp
 have e:m/2^p<18446744073709551616:=n9 (Nat.div_le_self _ _) c;have a:=u64_and_nat (m/2^p) 1 e (by decide);rw[d];have f:((1:Nat):Int)=1:=rfl;rw[f] at a;rw[a,nat_mask1];cases b:(m/2^p%2==1);·simp at b⊢;omega
 ·simp at b⊢;omega
def tU (c:dc):Prop:=lW c.w∧lW c.m
theorem Li {c:dc} {p:Int} (h:¬0<=p):gA c gap p=false:=by unfold gA;rw[decide_eq_false h];rfl
theorem Lj {c:dc} {p:Int} (h:¬p<64):gA c gap p=false:=by unfold gA;rw[decide_eq_false h];simp
theorem Lk {c:dc} {k:Nat} (h:bW c.m k=false):gA c gap k=false:=by unfold gA;simp[h]
theorem Ll {c:dc} {p:Int} (h:c.r=true):gA c gap p=false:=by unfold gA;simp[h]
theorem Lm {c:dc} {p:Int} (h:¬0<c.w):gA c gap p=false:=by unfold gA;rw[decide_eq_false h];simp
theorem Ln {c:dc} {p:Int} (h:¬c.w<gap):gA c gap p=false:=by unfold gA;rw[decide_eq_false h];simp
theorem Lo (c:dc) (gap p:Int) (w:ab) (n:tU c):Calls au 165 #[bk #[I J c.id,I ah c.w,I ah c.m,aD c.r],I ah gap,I J p] w λo w'=>o=aK (aD (gA c gap p))∧w'=w.alloc (av #[I J c.id,I ah c.w,I ah c.m,aD c.r] 197):=by
 obtain⟨i,b,m,e⟩:=c;obtain⟨⟨q,s⟩,⟨t,u⟩⟩:=n;simp only at q s t u;by_cases g:0<=p
 ·obtain⟨d,rfl⟩:=dS g;by_cases h:(d:Int)<64
  ·have j:(bits BinOp.and ah (m/2^d) 1==1)=bW m d:=rfl;cases f:bW m d;·have a:=C (Lk (c:=⟨i,b,m,e⟩) (gap:=gap) f);rw[f] at j;go_enter func165,ntmps165;go_wp2;go_ret;exact⟨by rw[a.out];rfl,rfl⟩
   ·rw[f] at j;cases e
    ·by_cases k:0<b
     ·by_cases l:b<gap;·have a:=C (zJ.2 ⟨g,h,by simpa using f,rfl,k,l⟩:gA ⟨i,b,m,false⟩ gap d=true);go_enter func165,ntmps165;go_wp2;go_ret;exact⟨by rw[a.out];rfl,rfl⟩
      ·have a:=C (Ln (c:=⟨i,b,m,false⟩) (p:=d) l);go_enter func165,ntmps165;go_wp2;go_ret;exact⟨by rw[a.out];rfl,rfl⟩
     ·have a:=C (Lm (c:=⟨i,b,m,false⟩) (gap:=gap) (p:=d) k);go_enter func165,ntmps165;go_wp2;go_ret;exact⟨by rw[a.out];rfl,rfl⟩
    ·have a:=C (Ll (c:=⟨i,b,m,true⟩) (gap:=gap) (p:=d) rfl);go_enter func165,ntmps165;go_wp2;go_ret;exact⟨by rw[a.out];rfl,rfl⟩
  ·have a:=C (Lj (c:=⟨i,b,m,e⟩) (gap:=gap) h);go_enter func165,ntmps165;go_wp2;go_ret;exact⟨by rw[a.out];rfl,rfl⟩
 ·have a:=C (Li (c:=⟨i,b,m,e⟩) (gap:=gap) g);go_enter func165,ntmps165;go_wp2;go_ret;exact⟨by rw[a.out];rfl,rfl⟩
def dx (a b:Int):Int:=if a<b then-1 else if b<a then 1 else 0
theorem xH (x:Int) (w:ab):Calls au 216 #[I ah x] w λe w'=>e=aK (aD false)∧w=w':=by go_enter func216,ntmps216;go_wp2;go_ret;exact⟨rfl,rfl⟩
theorem xI (x:Int) (w:ab):Calls au 242 #[I J x] w λe w'=>e=aK (aD false)∧w=w':=by go_enter func242,ntmps242;go_wp2;go_ret;exact⟨rfl,rfl⟩
theorem Lp (x y:Int) (w:ab):Calls au 168 #[I ah x,I ah y] w λb w'=>b=aK (I J (dx x y))∧w=w':=by
 by_cases c:x<y;·have a:=C (by unfold dx;rw[aj c]:dx x y=-1);go_enter func168,ntmps168;go_wp2_with (go_at_call 216;refine(xH _ _).mono ?_;rintro b w' ⟨rfl,rfl⟩);go_ret;exact⟨by rw[a.out];rfl,rfl⟩
 ·by_cases d:y<x;·have a:=C (by unfold dx;rw[z0 c,aj d]:dx x y=1);go_enter func168,ntmps168;go_wp2_with (go_at_call 216;refine(xH _ _).mono ?_;rintro b w' ⟨rfl,rfl⟩);go_ret;exact⟨by rw[a.out];rfl,rfl⟩
  ·have a:=C (by unfold dx;rw[z0 c,z0 d]:dx x y=0);go_enter func168,ntmps168;go_wp2_with (go_at_call 216;refine(xH _ _).mono ?_;rintro b w' ⟨rfl,rfl⟩);go_ret;exact⟨by rw[a.out];rfl,rfl⟩
theorem CA (x y:Int) (w:ab):Calls au 218 #[I J x,I J y] w λb w'=>b=aK (I J (dx x y))∧w=w':=by
 by_cases c:x<y;·have a:=C (by unfold dx;rw[aj c]:dx x y=-1);go_enter func218,ntmps218;go_wp2_with (go_at_call 242;refine(xI _ _).mono ?_;rintro b w' ⟨rfl,rfl⟩);go_ret;exact⟨by rw[a.out];rfl,rfl⟩
 ·by_cases d:y<x;·have a:=C (by unfold dx;rw[z0 c,aj d]:dx x y=1);go_enter func218,ntmps218;go_wp2_with (go_at_call 242;refine(xI _ _).mono ?_;rintro b w' ⟨rfl,rfl⟩);go_ret;exact⟨by rw[a.out];rfl,rfl⟩
  ·have a:=C (by unfold dx;rw[z0 c,z0 d]:dx x y=0);go_enter func218,ntmps218;go_wp2_with (go_at_call 242;refine(xI _ _).mono ?_;rintro b w' ⟨rfl,rfl⟩);go_ret;exact⟨by rw[a.out];rfl,rfl⟩
def kN (x y:Int):Int:=if x=0 then y else x
theorem CB (b cap:Nat) (x y:Int) (w:ab) (c0:w.cell? ⟨b,0,U⟩=R (I J x)) (k:w.cell? ⟨b,1,U⟩=R (I J y)):Calls au 217 #[ay (R ⟨b,0,U⟩) 2 cap] w λe w'=>e=aK (I J (kN x y))∧w=w':=by
 cases d:(x !=0)
 ·have f:x=0:=by simpa using d
  subst f;cases g:(y !=0)
  ·have h:y=0:=(by simpa using g);subst h;go_enter func217,ntmps217;go_wp2;go_loop [8] (λi=>∃a:Nat,a<=2∧i=I J a) (λi=>2-(intOf i).toNat);case atStart=>exact⟨0,by omega,rfl⟩
   case round=>
    obtain⟨a,l,rfl⟩:=hrel;have j:a=0∨a=1∨a=2:=(by omega);rcases j with rfl|rfl|rfl
    ·go_wp2;go_round;case rel=>exact⟨1,by omega,by go_num⟩
     case measure=>simp[intOf]
    ·go_wp2;go_round;case rel=>exact⟨2,by omega,by go_num⟩
     case measure=>simp[intOf]
    ·go_wp2;go_ret;exact⟨rfl,rfl⟩
  ·have c:=C (by simp[kN]:kN 0 y=y);go_enter func217,ntmps217;go_wp2;go_loop [8] (λi=>i=I J 0∨i=I J 1) (λi=>2-(intOf i).toNat);case atStart=>exact .inl rfl
   case round=>
    rcases hrel with rfl|rfl
    ·go_wp2;go_round;case rel=>exact .inr rfl
     case measure=>simp[intOf]
    ·go_wp2;go_ret;exact⟨by rw[c.out];rfl,rfl⟩
 ·have c:=C (by unfold kN;rw[z0 (by simpa using d)]:kN x y=x);go_enter func217,ntmps217;go_wp2;go_loop [8] (λi=>i=I J 0) (λi=>2-(intOf i).toNat);case atStart=>rfl
  case round=>subst hrel;go_wp2;go_ret;exact⟨by rw[c.out];rfl,rfl⟩
theorem CC (a b:dc) (w:ab):Calls au 167 #[bk #[I J a.id,I ah a.w,I ah a.m,aD a.r],bk #[I J b.id,I ah b.w,I ah b.m,aD b.r]] w λe w'=>e=aK (I J (dx b.w a.w))∧w'=(w.alloc (av #[I J a.id,I ah a.w,I ah a.m,aD a.r] 197)).alloc (av #[I J b.id,I ah b.w,I ah b.m,aD b.r] 197):=by go_enter func167,ntmps167;go_wp2_with (go_at_call 168;refine(Lp _ _ _).mono ?_;rintro e w' ⟨rfl,rfl⟩);go_ret;exact⟨rfl,rfl⟩
theorem Lq (a b:dc) (d:Nat) (w:ab) (f:w.cell? ⟨d,0,U⟩=R (.func (.func 167) #[] #[])):Calls au 170 #[bk #[I J a.id,I ah a.w,I ah a.m,aD a.r],bk #[I J b.id,I ah b.w,I ah b.m,aD b.r],af (R ⟨d,0,U⟩)] w λe w'=>e=aK (I J (-dx b.w a.w))∧w'=(((w.alloc (av #[I J a.id,I ah a.w,I ah a.m,aD a.r] 197)).alloc (av #[I J b.id,I ah b.w,I ah b.m,aD b.r] 197)).alloc (av #[I J a.id,I ah a.w,I ah a.m,aD a.r] 197)).alloc (av #[I J b.id,I ah b.w,I ah b.m,aD b.r] 197):=by
 have c:dx b.w a.w=-1∨dx b.w a.w=0∨dx b.w a.w=1:=by unfold dx;split<;>(try split)<;>simp
 have h:=jv w _ f;go_enter func170,ntmps170;go_wp2_with fail;refine(CC a b _).mono ?_;rintro e w' ⟨rfl,rfl⟩;rcases c with c|c|c;all_goals have g:=C c;rw[c];go_wp2;go_ret;exact⟨by rw[g.out];rfl,rfl⟩
section
variable {α:Type} {E:cd α}
theorem Own.block {T:Nat} {zs:List α} (h:Own E W B T v n zs) (k:0<n):∃g cap a,v=ay (R ⟨g,0,U⟩) n cap∧B<=g∧g<W.heap.size∧n<=cap∧cap<=maxLen∧W.heap[g]?=R (av a T (0,0))∧a.size=cap*E.c∧a.toList.take (n*E.c)=E.all zs:=by
 rcases h.2 with⟨rfl,l⟩|⟨g,cap,a,rfl,d,b,e,f,i,j⟩;·omega
 ·exact⟨g,cap,a,rfl,d,(iZ.1 b).1,e,f,b,i,j⟩
theorem Mr {T:Nat} {cur:Array Value} (h:W.heap[g]?=R (av cur T (0,0))):W.frozen? ⟨g,j,U⟩=false:=by simp[World.frozen?,h]
theorem rW {zs:List α} {z z':α} {q:Nat} (a:zs[j]?=R z) (d:q<E.c) (f:E.e z'=(E.e z).set q u):E.all (zs.set j z')=(E.all zs).set (j*E.c+q) u:=by
 induction zs generalizing j with
 |nil=>simp at a
 |cons y zs g=>
  have b:∀(y:α) zs,E.all (y::zs)=E.e y++E.all zs:=λy zs=>by simp[cd.all]
  cases j with
  |zero=>simp at a;subst a;rw[List.set_cons_zero,b,b,f,Nat.zero_mul,lZ,List.set_append_left _ _ (by rw[E.len];exact d)]
  |succ j=>rw[List.set_cons_succ,b,b,g (by simpa using a),n1 _ _ (by rw[E.len,pE];omega),E.len,show(j+1)*E.c+q-E.c=j*E.c+q by rw[pE];omega]
theorem Own.set {W:ab} {B T n g cap j q:Nat} {zs:List α} {z z':α} {u:Value} (h:Own E W B T (ay (R ⟨g,0,U⟩) n cap) n zs) (a:zs[j]?=R z) (b:q<E.c) (l:E.e z'=(E.e z).set q u) (p:Nat) (m:p=j*E.c+q):Own E (W.setCell ⟨g,p,U⟩ u) B T (ay (R ⟨g,0,U⟩) n cap) n (zs.set j z')∧W.frozen? ⟨g,p,U⟩=false∧W.cell? ⟨g,p,U⟩=(E.e z)[q]?∧B<=g∧g<W.heap.size:=by
 subst m;have o:=h.rd.1;have A:=(bD.1 a).1;have r:j*E.c+q<n*E.c:=by have:(j+1)*E.c<=n*E.c:=n3 _ (by omega);rw[pE] at this;omega
 obtain⟨C,D,s,d,f,t,v,w,i,x,y⟩:=h.block (by omega);simp only[Value.slice.injEq,Option.some.injEq,Addr.mk.injEq,and_true,true_and] at d;obtain⟨rfl,rfl⟩:=d;refine⟨⟨by rw[cd.lv,eg,o],.inr ⟨g,cap,s.setIfInBounds (j*E.c+q) u,rfl,f,?_,v,w,by simpa using x,?_⟩⟩,Mr i,?_,f,t⟩;·simp[World.setCell,Array.getElem?_modify,i]
 ·rw[Array.toList_setIfInBounds,List.take_set,y,rW a b l]
 ·have k:=h;unfold Own at k;exact(k.cellAt (j*E.c+q) r).trans (cd.lx a b)
end
theorem gX (a:Below W.heap.size W W') (h:b<W.heap.size) (c:W.cell? ⟨b,o,U⟩=R v):W'.cell? ⟨b,o,U⟩=R v:=(a.cell (p:=⟨b,o,U⟩) h).trans c
theorem uK {a:Addr} (b:W.cell? a=R v):W.drew.cell? a=R v:=b
theorem Dh {x y:Value} {t:Nat} (h:b=W.heap.size):(W.alloc (av #[x,y] t)).drew.cell? ⟨b,0,U⟩=R x:=by subst h;exact uK (by simp)
theorem Di {x y:Value} {t:Nat} (h:b=W.heap.size):(W.alloc (av #[x,y] t)).drew.cell? ⟨b,1,U⟩=R y:=by subst h;exact uK (by simp)
theorem Dj {O:Obj} (h:b<W.heap.size):b<(W.alloc O).heap.size:=by simp;omega
theorem Dk (h:b<W.heap.size):b<W.drew.heap.size:=h
theorem kO (O:Obj) (h:b<W.heap.size) (a:W.cell? ⟨b,o,U⟩=R v):(W.alloc O).cell? ⟨b,o,U⟩=R v:=gX ((Below.refl _ _).alloc (bK _) _) h a
def uL (zs:List dc):Prop:=∀k,tU (cat zs k)
theorem r8 (c:dc) (gap p:Int) (a b:Nat) (w:ab) (e:tU c) (f:w.cell? ⟨a,0,U⟩=R (I ah gap)) (g:w.cell? ⟨b,0,U⟩=R (I J p)):Calls au 164 #[bk #[I J c.id,I ah c.w,I ah c.m,aD c.r],af (R ⟨a,0,U⟩),af (R ⟨b,0,U⟩)] w λd w'=>d=aK (aD (gA c gap p))∧Below w.heap.size w w':=by have h:=jv w _ f;have i:=jv w _ g;go_enter func164,ntmps164;go_wp2_with fail;refine(Lo c gap p _ e).mono ?_;rintro d w' ⟨rfl,rfl⟩;go_wp2;go_ret;exact⟨rfl,((Below.refl _ w).alloc (bK _) _).alloc (by simp) _⟩
theorem x9 (c:dc) (gap p:Int) (n a e:Nat) (w:ab) (o:tU c) (h0:0<=gap) (t:gap<=18446744073709551615) (f:w.cell? ⟨a,0,U⟩=R (I ah gap)) (h:w.cell? ⟨e,0,U⟩=R (I J p)) (q:w.cell? ⟨n,0,U⟩=R (.func (.func 164) #[] #[af (R ⟨a,0,U⟩),af (R ⟨e,0,U⟩)])):Calls au 166 #[bk #[I J c.id,I ah c.w,I ah c.m,aD c.r],af (R ⟨n,0,U⟩),af (R ⟨a,0,U⟩)] w λi w'=>i=aK (aD (mf c gap p))∧Below w.heap.size w w':=by
 have g:=jv w _ f;have j:=jv w _ h;have s:=jv w _ q;simp only at g j s;cases b:gA c gap p;·have k:=C (by unfold mf;rw[b];rfl:mf c gap p=false);have l:=C b;clear b;go_enter func166,ntmps166;go_wp2_with fail;refine(r8 c gap p a e _ o (kO _ g f) (kO _ j h)).mono ?_;rintro i w' ⟨rfl,d⟩;rw[l.out];go_wp2;go_ret;exact⟨by rw[k.out];rfl,((Below.refl _ w).alloc (bK _) _).trans (d.mono (by simp))⟩
 ·have k:=C (by unfold mf;rw[b];rfl:mf c gap p=decide (c.w<=gap/2));have l:=C b;clear b;go_enter func166,ntmps166;go_wp2_with fail;refine(r8 c gap p a e _ o (kO _ g f) (kO _ j h)).mono ?_;rintro i w' ⟨rfl,d⟩;rw[l.out];have u:w'.cell? ⟨a,0,U⟩=R (I ah gap):=gX d (by simp;omega) (kO _ g f);have v:w'.cell? ⟨w.heap.size,1,U⟩=R (I ah c.w):=(d.cell (p:=⟨w.heap.size,1,U⟩) (by simp)).trans (by simp);go_wp2;go_ret;exact⟨by rw[k.out];rfl,((Below.refl _ w).alloc (bK _) _).trans (d.mono (by simp))⟩
theorem Dl {P:Nat->Bool} {a c:Nat->Int} {b:Int} {k q:Nat} (d:P k=true) (e:b=q) (h:kY a c k q=true):iN P a c b k=k:=by subst e;unfold iN;exact aj ⟨d,.inr (by simpa using h)⟩
theorem Dm {P:Nat->Bool} {c d:Nat->Int} {b:Int} {k q:Nat} (e:b=q) (h:¬kY c d k q=true):iN P c d b k=q:=by subst e;unfold iN;exact z0 (λ⟨_,a⟩=>a.elim (λa=>by omega) (λa=>h (by simpa using a)))
theorem Dn {a b:Int}:dx a b<0↔a<b:=by unfold dx;split<;>(try split)<;>simp<;>omega
theorem Dp {a b:Int}:dx a b=0↔a=b:=by unfold dx;split<;>(try split)<;>simp<;>omega
theorem MB (a b:Int):-dx a b=dx b a:=by unfold dx;split<;>(try split)<;>(try split)<;>omega
theorem Dq {a b c d:Int}:kN (dx a b) (dx c d)<0↔a<b∨(a=b∧c<d):=by
 unfold kN;by_cases h:dx a b=0;·rw[aj h,Dn];have:=Dp.1 h;omega
 ·rw[z0 h,Dn];have:a≠b:=λe=>h (Dp.2 e);omega
theorem MC (zs:List dc) (k q:Nat):kN (dx (cat zs q).w (cat zs k).w) (dx (cat zs k).id (cat zs q).id)<0↔kY (b_ zs) (eP zs) k q=true:=by rw[Dq,lH];unfold b_ eP;omega
theorem MD (zs:List dc) (k q:Nat):kN (-dx (cat zs q).w (cat zs k).w) (dx (cat zs k).id (cat zs q).id)<0↔kY (jk zs) (eP zs) k q=true:=by rw[MB,Dq,lH];unfold jk eP;omega
def r9 (b:Int) (len:Nat) (u v:Value):Prop:=(b=-1∧u=I J 0∧v=aD false)∨∃p:Nat,b=p∧p<len∧u=I J p∧v=aD true
theorem ME (a:Option Addr) (len cap:Nat) (zs:List dc) (gap p:Int) (t o x Q:Nat) (w:ab) (aG:zs.length=len) (hI:iO w.heap.size w (ay a len cap) zs) (aL:uL zs) (bj:len<=1000000) (h0:0<=gap) (M:gap<=18446744073709551615) (S:w.cell? ⟨o,0,U⟩=R (I ah gap)) (T:w.cell? ⟨x,0,U⟩=R (I J p)) (W:w.cell? ⟨t,0,U⟩=R (.func (.func 164) #[] #[af (R ⟨o,0,U⟩),af (R ⟨x,0,U⟩)])) (X:w.cell? ⟨Q,0,U⟩=R (.func (.func 167) #[] #[])):Calls au 169 #[ay a len cap,.func (.func 166) #[] #[af (R ⟨t,0,U⟩),af (R ⟨o,0,U⟩)],.func (.func 167) #[] #[]] w λq w'=>(∃u v,q=aK (bC #[u,v])∧r9 (fO (ij zs gap p) (b_ zs) (eP zs) len) len u v)∧Below w.heap.size w w':=by
 have Y:=jv w _ S;have Z:=jv w _ T;have aa:=jv w _ W;have aq:=jv w _ X;simp only at Y Z aa aq;have N:=C aG;have O:=C aL;have ae:=C (br S (br T (br W X)));go_enter func169,ntmps169;go_wp2_with fail;go_loopw [8,9,14] (λu v i wr=>∃c:Nat,c<=len∧i=I J c∧r9 (fO (ij zs gap p) (b_ zs) (eP zs) c) len u v∧Below w.heap.size w wr) (λ_ _ i _=>len-(intOf i).toNat);case atStart=>exact⟨0,gN _,rfl,.inl ⟨rfl,rfl,rfl⟩,Below.refl _ _⟩
 case round=>
  obtain⟨c,an,rfl,ac,e⟩:=hrel;by_cases B:c<len
  ·obtain⟨b,f,am,l,az⟩:=hI.cells (p:=c) (by rw[N.out];exact B);subst am;have aw:(c:Int)<(len:Int):=(by omega);obtain⟨aN,ap,aQ,aR⟩:=az c (by rw[N.out];exact B);have bl:=(e.cell (p:=⟨b,f+c*4,U⟩) l).trans aN;have bo:=(e.cell (p:=⟨b,f+c*4+1,U⟩) l).trans ap;have bm:=(e.cell (p:=⟨b,f+c*4+2,U⟩) l).trans aQ;have bq:=(e.cell (p:=⟨b,f+c*4+3,U⟩) l).trans aR;have aS:=C az;have bt:=e.size;obtain⟨aU,aP,aV,aZ⟩:=ae.out;have j:=C (br ((e.cell (p:=⟨o,0,U⟩) Y).trans aU) (br ((e.cell (p:=⟨x,0,U⟩) Z).trans aP) (br ((e.cell (p:=⟨t,0,U⟩) aa).trans aV) ((e.cell (p:=⟨Q,0,U⟩) aq).trans aZ))));have D:=C (show fO (ij zs gap p) (b_ zs) (eP zs) (c+1)=iN (ij zs gap p) (b_ zs) (eP zs) (fO (ij zs gap p) (b_ zs) (eP zs) c) c from rfl);have ad:=C ac;cases E:ij zs gap p c
   ·have s:=C (show fO (ij zs gap p) (b_ zs) (eP zs) (c+1)=fO (ij zs gap p) (b_ zs) (eP zs) c by rw[D.out];unfold iN;rw[z0 (by rw[E];simp)]);have F:=C E;go_wp2_with fail;obtain⟨V,k⟩:∃V,wr.alloc (av #[I J (cat zs c).id,I ah (cat zs c).w,I ah (cat zs c).m,aD (cat zs c).r] 197)=V:=⟨_,rfl⟩;have g:Below wr.heap.size wr V:=(by rw[<-k];exact(Below.refl _ _).alloc (bK _) _);rw[k];refine(x9 (cat zs c) gap p t o x _ (O.out c) h0 M (gX g (by omega) j.out.1) (gX g (by omega) j.out.2.1) (gX g (by omega) j.out.2.2.1)).mono ?_;rintro q G ⟨rfl,h⟩;have n:=C (e4 (e4 e g) h);have a6:=C (show mf (cat zs c) gap p=false from F.out);rw[a6.out];go_wp2;go_roundw;case rel=>exact⟨c+1,by omega,by go_num,by rw[s.out];exact ad.out,n.out⟩
    case measure=>simp[intOf];omega
   ·have F:=C E;have aB:=C (show mf (cat zs c) gap p=true from E);rcases ad.out with⟨y,rfl,rfl⟩|⟨d,y,H,rfl,rfl⟩
    ·have s:=C (show fO (ij zs gap p) (b_ zs) (eP zs) (c+1)=c by rw[D.out];unfold iN;rw[aj ⟨F.out,.inl (by omega)⟩]);go_wp2_with fail;obtain⟨V,k⟩:∃V,wr.alloc (av #[I J (cat zs c).id,I ah (cat zs c).w,I ah (cat zs c).m,aD (cat zs c).r] 197)=V:=⟨_,rfl⟩;have g:Below wr.heap.size wr V:=(by rw[<-k];exact(Below.refl _ _).alloc (bK _) _);rw[k];refine(x9 (cat zs c) gap p t o x _ (O.out c) h0 M (gX g (by omega) j.out.1) (gX g (by omega) j.out.2.1) (gX g (by omega) j.out.2.2.1)).mono ?_;rintro q G ⟨rfl,h⟩;have n:=C (e4 (e4 e g) h);rw[aB.out];go_wp2;go_quiet (fail);go_wp2;go_roundw;case rel=>exact⟨c+1,by omega,by go_num,.inr ⟨c,s,B,by go_num,rfl⟩,(iM.drewN (iM.refl _) _).below w.heap.size|>n.trans⟩
     case measure=>simp[intOf];omega
    ·obtain⟨z0,aj,ak,a7⟩:=aS d (by rw[N.out];exact H);have a8:=(e.cell (p:=⟨b,f+d*4,U⟩) l).trans z0;have v1:=(e.cell (p:=⟨b,f+d*4+1,U⟩) l).trans aj;have ba:=(e.cell (p:=⟨b,f+d*4+2,U⟩) l).trans ak;have ao:=(e.cell (p:=⟨b,f+d*4+3,U⟩) l).trans a7;have ai:(d:Int)<(len:Int):=(by omega);have z:=C y;have P:=C (MC zs c d);go_wp2_with fail;obtain⟨V,k⟩:∃V,wr.alloc (av #[I J (cat zs c).id,I ah (cat zs c).w,I ah (cat zs c).m,aD (cat zs c).r] 197)=V:=⟨_,rfl⟩;have g:Below wr.heap.size wr V:=(by rw[<-k];exact(Below.refl _ _).alloc (bK _) _);have bb:=C (by rw[<-k];simp:wr.heap.size<V.heap.size∧V.cell? ⟨wr.heap.size,0,U⟩=R (I J (cat zs c).id)∧V.cell? ⟨wr.heap.size,1,U⟩=R (I ah (cat zs c).w)∧V.cell? ⟨wr.heap.size,2,U⟩=R (I ah (cat zs c).m)∧V.cell? ⟨wr.heap.size,3,U⟩=R (aD (cat zs c).r));rw[k];refine(x9 (cat zs c) gap p t o x _ (O c) h0 M (gX g (by omega) j.1) (gX g (by omega) j.2.1) (gX g (by omega) j.2.2.1)).mono ?_;rintro q G ⟨rfl,h⟩;have n:=C (e4 (e4 e g) h);have K:=C (e4 g h);rw[aB.out];have L:b<wr.heap.size:=(by omega);obtain⟨A,ag,bf,ax,bc⟩:=bb;have bw:=(h.cell (p:=⟨wr.heap.size,0,U⟩) A).trans ag;have a0:=(h.cell (p:=⟨wr.heap.size,1,U⟩) A).trans bf;have bz:=(h.cell (p:=⟨wr.heap.size,2,U⟩) A).trans ax;have a2:=(h.cell (p:=⟨wr.heap.size,3,U⟩) A).trans bc;have a3:=(K.cell (p:=⟨b,f+d*4,U⟩) L).trans a8;have a4:=(K.cell (p:=⟨b,f+d*4+1,U⟩) L).trans v1;have a5:=(K.cell (p:=⟨b,f+d*4+2,U⟩) L).trans ba;have bF:=(K.cell (p:=⟨b,f+d*4+3,U⟩) L).trans ao;have aO:wr.heap.size<G.heap.size:=dd A h.size;have a9:b<G.heap.size:=(by omega);have aC:=C (by rw[hN,<-P.out];simp:kY (b_ zs) (eP zs) c d=decide (kN (dx (cat zs d).w (cat zs c).w) (dx (cat zs c).id (cat zs d).id)<0));go_wp2;go_region_held3 (λW'=>W'.cell? ⟨wr.heap.size,0,U⟩=R (I J (cat zs c).id)∧W'.cell? ⟨wr.heap.size,1,U⟩=R (I ah (cat zs c).w)∧W'.cell? ⟨wr.heap.size,2,U⟩=R (I ah (cat zs c).m)∧W'.cell? ⟨wr.heap.size,3,U⟩=R (aD (cat zs c).r)∧W'.cell? ⟨b,f+d*4,U⟩=R (I J (cat zs d).id)∧W'.cell? ⟨b,f+d*4+1,U⟩=R (I ah (cat zs d).w)∧W'.cell? ⟨b,f+d*4+2,U⟩=R (I ah (cat zs d).m)∧W'.cell? ⟨b,f+d*4+3,U⟩=R (aD (cat zs d).r)) ((refine⟨?_,?_,?_,?_,?_,?_,?_,?_⟩)<;>(repeat(first|assumption|refine uK ?_|refine kO _ ?_ ?_|refine Dj ?_|refine Dk ?_))) (first|(go_at_call 218;refine(CA _ _ _).mono ?_;rintro q w' ⟨rfl,rfl⟩)|(go_at_call 217;refine(CB _ _ (dx (cat zs d).w (cat zs c).w) (dx (cat zs c).id (cat zs d).id) _ ?_ ?_).mono ?_;(exact Dh (by simp));(exact Di (by simp));rintro q w' ⟨rfl,rfl⟩)|(go_at_call 167;refine(CC (cat zs c) (cat zs d) _).mono ?_;rintro q w' ⟨rfl,rfl⟩));all_goals
     by_cases aA:kN (dx (cat zs d).w (cat zs c).w) (dx (cat zs c).id (cat zs d).id)<0
     ·have s:=C (D.trans (Dl F z (P.1 aA)):fO (ij zs gap p) (b_ zs) (eP zs) (c+1)=c);go_wp2;go_roundw;case rel=>exact⟨c+1,by omega,by go_num,.inr ⟨c,s,B,by go_num,rfl⟩,n.trans (by repeat(first|exact Below.refl _ _|refine Below.drew ?_|refine Below.alloc ?_ (by have:=n.size;first|(simp only[lr];omega)|omega) _))⟩
      case measure=>simp[intOf];omega
     ·have s:=C (D.trans (Dm z (λbg=>aA (P.2 bg))):fO (ij zs gap p) (b_ zs) (eP zs) (c+1)=d);go_wp2;go_roundw;case rel=>exact⟨c+1,by omega,by go_num,.inr ⟨d,s,H,by go_num,rfl⟩,n.trans (by repeat(first|exact Below.refl _ _|refine Below.drew ?_|refine Below.alloc ?_ (by have:=n.size;first|(simp only[lr];omega)|omega) _))⟩
      case measure=>simp[intOf];omega
  ·obtain rfl:c=len:=by omega
   rcases ac with⟨y,rfl,rfl⟩|⟨d,y,H,rfl,rfl⟩;all_goals have z:=C y;go_wp2;go_ret2;refine⟨⟨_,_,rfl,?_⟩,e⟩
   ·exact .inl ⟨z,rfl,rfl⟩
   ·exact .inr ⟨d,z,H,rfl,rfl⟩
theorem MF (a:Option Addr) (len cap:Nat) (zs:List dc) (gap p:Int) (Q n o y:Nat) (w:ab) (aG:zs.length=len) (hI:iO w.heap.size w (ay a len cap) zs) (aL:uL zs) (an:len<=1000000) (h0:0<=gap) (aw:gap<=18446744073709551615) (S:w.cell? ⟨n,0,U⟩=R (I ah gap)) (T:w.cell? ⟨o,0,U⟩=R (I J p)) (W:w.cell? ⟨Q,0,U⟩=R (.func (.func 164) #[] #[af (R ⟨n,0,U⟩),af (R ⟨o,0,U⟩)])) (X:w.cell? ⟨y,0,U⟩=R (.func (.func 167) #[] #[])):Calls au 169 #[ay a len cap,.func (.func 164) #[] #[af (R ⟨n,0,U⟩),af (R ⟨o,0,U⟩)],.func (.func 170) #[] #[af (R ⟨y,0,U⟩)]] w λq w'=>(∃u v,q=aK (bC #[u,v])∧r9 (fO (hA zs gap p) (jk zs) (eP zs) len) len u v)∧Below w.heap.size w w':=by
 have Y:=jv w _ S;have Z:=jv w _ T;have aa:=jv w _ W;have aq:=jv w _ X;simp only at Y Z aa aq;have ae:=C hI;have N:=C aG;have O:=C aL;have am:=C (br S (br T (br W X)));go_enter func169,ntmps169;go_wp2_with fail;go_loopw [8,9,14] (λu v i wr=>∃c:Nat,c<=len∧i=I J c∧r9 (fO (hA zs gap p) (jk zs) (eP zs) c) len u v∧Below w.heap.size w wr) (λ_ _ i _=>len-(intOf i).toNat);case atStart=>exact⟨0,gN _,rfl,.inl ⟨rfl,rfl,rfl⟩,Below.refl _ _⟩
 case round=>
  obtain⟨c,bl,rfl,ac,g⟩:=hrel;by_cases F:c<len
  ·obtain⟨b,e,aN,k,az⟩:=ae.out.cells (p:=c) (by rw[N.out];exact F);subst aN;have bo:(c:Int)<(len:Int):=(by omega);obtain⟨ap,aQ,aR,aS⟩:=az c (by rw[N.out];exact F);have bm:=(g.cell (p:=⟨b,e+c*4,U⟩) k).trans ap;have bq:=(g.cell (p:=⟨b,e+c*4+1,U⟩) k).trans aQ;have bt:=(g.cell (p:=⟨b,e+c*4+2,U⟩) k).trans aR;have ai:=(g.cell (p:=⟨b,e+c*4+3,U⟩) k).trans aS;have aU:=C az;have bw:=g.size;obtain⟨aP,aV,aZ,a6⟩:=am.out;have s:=C (br ((g.cell (p:=⟨n,0,U⟩) Y).trans aP) (br ((g.cell (p:=⟨o,0,U⟩) Z).trans aV) (br ((g.cell (p:=⟨Q,0,U⟩) aa).trans aZ) ((g.cell (p:=⟨y,0,U⟩) aq).trans a6))));have G:=C (show fO (hA zs gap p) (jk zs) (eP zs) (c+1)=iN (hA zs gap p) (jk zs) (eP zs) (fO (hA zs gap p) (jk zs) (eP zs) c) c from rfl);have t:=C g;have ad:=C ac;cases H:hA zs gap p c
   ·have x:=C (show fO (hA zs gap p) (jk zs) (eP zs) (c+1)=fO (hA zs gap p) (jk zs) (eP zs) c by rw[G.out];unfold iN;rw[z0 (by rw[H];simp)]);have K:=C H;go_wp2_with fail;obtain⟨V,j⟩:∃V,wr.alloc (av #[I J (cat zs c).id,I ah (cat zs c).w,I ah (cat zs c).m,aD (cat zs c).r] 197)=V:=⟨_,rfl⟩;have f:Below wr.heap.size wr V:=(by rw[<-j];exact(Below.refl _ _).alloc (bK _) _);rw[j];refine(r8 (cat zs c) gap p n o _ (O.out c) (gX f (by omega) s.out.1) (gX f (by omega) s.out.2.1)).mono ?_;rintro q A ⟨rfl,h⟩;have l:=C (e4 (e4 t.out f) h);have ak:=C (show gA (cat zs c) gap p=false from K.out);rw[ak.out];go_wp2;go_roundw;case rel=>exact⟨c+1,by omega,by go_num,by rw[x.out];exact ad.out,l.out⟩
    case measure=>simp[intOf];omega
   ·have K:=C H;have aB:=C (show gA (cat zs c) gap p=true from H);rcases ad.out with⟨B,rfl,rfl⟩|⟨d,B,L,rfl,rfl⟩
    ·have x:=C (show fO (hA zs gap p) (jk zs) (eP zs) (c+1)=c by rw[G.out];unfold iN;rw[aj ⟨K.out,.inl (by omega)⟩]);go_wp2_with fail;obtain⟨V,j⟩:∃V,wr.alloc (av #[I J (cat zs c).id,I ah (cat zs c).w,I ah (cat zs c).m,aD (cat zs c).r] 197)=V:=⟨_,rfl⟩;have f:Below wr.heap.size wr V:=(by rw[<-j];exact(Below.refl _ _).alloc (bK _) _);rw[j];refine(r8 (cat zs c) gap p n o _ (O.out c) (gX f (by omega) s.out.1) (gX f (by omega) s.out.2.1)).mono ?_;rintro q A ⟨rfl,h⟩;have l:=C (e4 (e4 t.out f) h);rw[aB.out];go_wp2;go_quiet (fail);go_wp2;go_roundw;case rel=>exact⟨c+1,by omega,by go_num,.inr ⟨c,x,F,by go_num,rfl⟩,(iM.drewN (iM.refl _) _).below w.heap.size|>l.trans⟩
     case measure=>simp[intOf];omega
    ·obtain⟨z0,aj,a7,a8⟩:=aU d (by rw[N.out];exact L);have ba:=(t.cell (p:=⟨b,e+d*4,U⟩) k).trans z0;have v1:=(t.cell (p:=⟨b,e+d*4+1,U⟩) k).trans aj;have ao:=(t.cell (p:=⟨b,e+d*4+2,U⟩) k).trans a7;have bb:=(t.cell (p:=⟨b,e+d*4+3,U⟩) k).trans a8;have a0:(d:Int)<(len:Int):=(by omega);have D:=C B;have P:=C (MD zs c d);go_wp2_with fail;obtain⟨V,j⟩:∃V,wr.alloc (av #[I J (cat zs c).id,I ah (cat zs c).w,I ah (cat zs c).m,aD (cat zs c).r] 197)=V:=⟨_,rfl⟩;have f:Below wr.heap.size wr V:=(by rw[<-j];exact(Below.refl _ _).alloc (bK _) _);have ag:=C (by rw[<-j];simp:wr.heap.size<V.heap.size∧V.cell? ⟨wr.heap.size,0,U⟩=R (I J (cat zs c).id)∧V.cell? ⟨wr.heap.size,1,U⟩=R (I ah (cat zs c).w)∧V.cell? ⟨wr.heap.size,2,U⟩=R (I ah (cat zs c).m)∧V.cell? ⟨wr.heap.size,3,U⟩=R (aD (cat zs c).r));rw[j];refine(r8 (cat zs c) gap p n o _ (O c) (gX f (by omega) s.1) (gX f (by omega) s.2.1)).mono ?_;rintro q A ⟨rfl,h⟩;have l:=C (e4 (e4 t f) h);have z:=C (e4 f h);rw[aB.out];have M:b<wr.heap.size:=(by omega);obtain⟨E,bf,ax,bc,bg⟩:=ag;have bz:=(h.cell (p:=⟨wr.heap.size,0,U⟩) E).trans bf;have a2:=(h.cell (p:=⟨wr.heap.size,1,U⟩) E).trans ax;have a3:=(h.cell (p:=⟨wr.heap.size,2,U⟩) E).trans bc;have a4:=(h.cell (p:=⟨wr.heap.size,3,U⟩) E).trans bg;have a5:=(z.cell (p:=⟨b,e+d*4,U⟩) M).trans ba;have bF:=(z.cell (p:=⟨b,e+d*4+1,U⟩) M).trans v1;have aO:=(z.cell (p:=⟨b,e+d*4+2,U⟩) M).trans ao;have a9:=(z.cell (p:=⟨b,e+d*4+3,U⟩) M).trans bb;have aC:=gX z (by omega) s.2.2.2;have bI:y<A.heap.size:=(by have:=z.size;omega);have bL:wr.heap.size<A.heap.size:=dd E h.size;have bd:b<A.heap.size:=(by omega);have be:=C (by rw[hN,<-P.out];simp:kY (jk zs) (eP zs) c d=decide (kN (-dx (cat zs d).w (cat zs c).w) (dx (cat zs c).id (cat zs d).id)<0));go_wp2;go_region_held3 (λW'=>W'.cell? ⟨wr.heap.size,0,U⟩=R (I J (cat zs c).id)∧W'.cell? ⟨wr.heap.size,1,U⟩=R (I ah (cat zs c).w)∧W'.cell? ⟨wr.heap.size,2,U⟩=R (I ah (cat zs c).m)∧W'.cell? ⟨wr.heap.size,3,U⟩=R (aD (cat zs c).r)∧W'.cell? ⟨b,e+d*4,U⟩=R (I J (cat zs d).id)∧W'.cell? ⟨b,e+d*4+1,U⟩=R (I ah (cat zs d).w)∧W'.cell? ⟨b,e+d*4+2,U⟩=R (I ah (cat zs d).m)∧W'.cell? ⟨b,e+d*4+3,U⟩=R (aD (cat zs d).r)∧W'.cell? ⟨y,0,U⟩=R (.func (.func 167) #[] #[])) ((refine⟨?_,?_,?_,?_,?_,?_,?_,?_,?_⟩)<;>(repeat(first|assumption|refine uK ?_|refine kO _ ?_ ?_|refine Dj ?_|refine Dk ?_))) (first|(go_at_call 218;refine(CA _ _ _).mono ?_;rintro q w' ⟨rfl,rfl⟩)|(go_at_call 217;refine(CB _ _ (-dx (cat zs d).w (cat zs c).w) (dx (cat zs c).id (cat zs d).id) _ ?_ ?_).mono ?_;(exact Dh (by simp));(exact Di (by simp));rintro q w' ⟨rfl,rfl⟩)|(go_at_call 170;refine(Lq (cat zs c) (cat zs d) y _ ?_).mono ?_;(simp[*]);rintro q w' ⟨rfl,rfl⟩));all_goals
     by_cases aA:kN (-dx (cat zs d).w (cat zs c).w) (dx (cat zs c).id (cat zs d).id)<0
     ·have x:=C (G.trans (Dl K D (P.1 aA)):fO (hA zs gap p) (jk zs) (eP zs) (c+1)=c);go_wp2;go_roundw;case rel=>exact⟨c+1,by omega,by go_num,.inr ⟨c,x,F,by go_num,rfl⟩,l.trans (by repeat(first|exact Below.refl _ _|refine Below.drew ?_|refine Below.alloc ?_ (by have:=l.size;first|(simp only[lr];omega)|omega) _))⟩
      case measure=>simp[intOf];omega
     ·have x:=C (G.trans (Dm D (λbj=>aA (P.2 bj))):fO (hA zs gap p) (jk zs) (eP zs) (c+1)=d);go_wp2;go_roundw;case rel=>exact⟨c+1,by omega,by go_num,.inr ⟨d,x,L,by go_num,rfl⟩,l.trans (by repeat(first|exact Below.refl _ _|refine Below.drew ?_|refine Below.alloc ?_ (by have:=l.size;first|(simp only[lr];omega)|omega) _))⟩
      case measure=>simp[intOf];omega
  ·obtain rfl:c=len:=by omega
   rcases ac with⟨B,rfl,rfl⟩|⟨d,B,L,rfl,rfl⟩;all_goals have D:=C B;go_wp2;go_ret2;refine⟨⟨_,_,rfl,?_⟩,g⟩
   ·exact .inl ⟨D,rfl,rfl⟩
   ·exact .inr ⟨d,D,L,rfl,rfl⟩
theorem uM {cs:Array Value} {t:Nat} (h:b=W.heap.size):(W.alloc (av cs t)).cell? ⟨b,j,U⟩=cs[j]?:=by subst h;exact World.cell?_alloc_at cs t _ j rfl
theorem MG {a b:Int} (c:lW a) (d:lW b):lW (gB a b):=by unfold gB lW at*;split<;>omega
theorem MH (a:Option Addr) (len cap:Nat) (zs:List dc) (fr b p:Int) (w:ab) (H:zs.length=len) (hI:iO w.heap.size w (ay a len cap) zs) (K:uL zs) (q:len<=1000000) (i:lW fr) (j:lW b):Calls au 114 #[ay a len cap,I ah fr,I ah b,I J p] w λg w'=>(∃u v,g=aK (bC #[u,v])∧r9 (kZ zs (gB fr b) p) len u v)∧Below w.heap.size w w':=by
 have h:=C H;have r:=C K;have L:=MG i j;obtain⟨s,W⟩:=L;have t:=C (show kZ zs (gB fr b) p=if 0<=nC zs (gB fr b) p then nC zs (gB fr b) p else qW zs (gB fr b) p from rfl);have M:=C (Cz fr b · i.1 j.1 i.2 j.2);generalize gB fr b=gap at*;go_enter func114,ntmps114;go_wp2_with fail;refine(M.out _).mono ?_;rintro g w' ⟨rfl,rfl⟩;go_wp2_with fail;have N:Below w.heap.size w (w.alloc (av #[I J p] 3)):=(Below.refl _ _).alloc (bK _) _;obtain⟨V,c⟩:∃V,(((w.alloc (av #[I J p] 3)).alloc (av #[I ah gap] 31)).alloc (av #[.func (.func 164) #[] #[af (R ⟨w.heap.size+1,0,U⟩),af (R ⟨w.heap.size,0,U⟩)]] 262)).alloc (av #[.func (.func 167) #[] #[]] 264)=V:=⟨_,rfl⟩;have x:Below w.heap.size w V:=by rw[<-c];exact(((N.alloc (by simp) _).alloc (by simp<;>omega) _).alloc (by simp<;>omega) _)
 have y:V.cell? ⟨w.heap.size,0,U⟩=R (I J p):=by rw[<-c];exact kO _ (by simp<;>omega) (kO _ (by simp<;>omega) (kO _ (by simp<;>omega) ((uM rfl).trans rfl)))
 have z:V.cell? ⟨w.heap.size+1,0,U⟩=R (I ah gap):=by rw[<-c];exact kO _ (by simp<;>omega) (kO _ (by simp<;>omega) ((uM (by simp)).trans rfl))
 have A:V.cell? ⟨w.heap.size+1+1,0,U⟩=R (.func (.func 164) #[] #[af (R ⟨w.heap.size+1,0,U⟩),af (R ⟨w.heap.size,0,U⟩)]):=by rw[<-c];exact kO _ (by simp<;>omega) ((uM (by simp)).trans rfl)
 have B:V.cell? ⟨w.heap.size+1+1+1,0,U⟩=R (.func (.func 167) #[] #[]):=by rw[<-c];exact(uM (by simp)).trans rfl
 have X:w.heap.size+4<=V.heap.size:=by rw[<-c];simp<;>omega
 have D:=C (iO.next x hI);rw[c];refine(ME a len cap zs gap p _ _ _ (w.heap.size+1+1+1) _ h.out D.out r.out q s (by omega) z y A B).mono ?_;rintro g Y ⟨⟨u,v,rfl,e⟩,d⟩;have O:=C (iO.next d D.out);have k:=gX d (by omega) y;have l:=gX d (by omega) z;have m:=gX d (by omega) A;have n:=gX d (by omega) B;have E:=C (e4 x d);have P:=C (show fO (ij zs gap p) (b_ zs) (eP zs) len=nC zs gap p by unfold nC;rw[h.out]);rw[P.out] at e;rcases e with⟨f,rfl,rfl⟩|⟨F,f,Q,rfl,rfl⟩;·have o:=C (show kZ zs gap p=qW zs gap p by rw[t.out,f,z0 (by omega)]);clear f;go_wp2_with fail;refine(MF a len cap zs gap p (w.heap.size+1+1) _ _ _ _ h.out O.out r.out q s (by omega) l k m n).mono ?_;rintro g Z ⟨⟨u,v,rfl,e⟩,G⟩;have S:=C (e4 E.out G);have T:=C e;clear G e k l m n;go_wp2;go_ret2;refine⟨⟨_,_,rfl,?_⟩,S.out⟩;have:=T.out;rw[o.out];unfold qW;rw[h.out];exact this
 ·have o:=C (by rw[t.out,f,aj (by omega)]:kZ zs gap p=F);clear f k l m n;go_wp2;go_ret2;exact⟨⟨_,_,rfl,.inr ⟨F,o,Q,rfl,rfl⟩⟩,E⟩
section
open Go.ChangeAt Go.ChangeShapes Go.WideShapes
def yo (w:ab) (a:Option Addr) (len cap:Nat) (zs:List bQ):Prop:=len<=cap∧cap<=maxLen∧Rd jf w.heap.size w a len zs∧∀e∈zs,e.Ok
end
end Go.Proofs.YtddbkdjcjoofpaaGreatDoor
