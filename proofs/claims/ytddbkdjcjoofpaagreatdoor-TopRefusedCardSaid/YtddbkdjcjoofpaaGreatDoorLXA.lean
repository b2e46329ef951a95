/- Joined by a program out of the session's own texts. -/
import Derived.Test.YtddbkdjcjoofpaaGreatDoorLA
import Derived.Test.YtddbkdjcjoofpaaGreatDoorLD
import Derived.Test.YtddbkdjcjoofpaaGreatDoorLC
import Derived.Test.YtddbkdjcjoofpaaGreatDoorLE
import Derived.Test.YtddbkdjcjoofpaaGreatDoorLF
import Derived.Test.YtddbkdjcjoofpaaGreatDoorLG
import Derived.Test.YtddbkdjcjoofpaaGreatDoorLL
import Derived.Test.YtddbkdjcjoofpaaGreatDoorLP
import Derived.WalkKit
import Derived.Lib.Strings
import Derived.Lib.IndexBytes
import Derived.Lib.Hide
import Derived.Test.YtddbkdjcjoofpaaGreatDoorProg
import Derived.Deep.QuietTactic
import Derived.Below
import Derived.Maps.AppendAt
import Derived.Laws.AppendOwnNone
import Derived.IntWalk
import Derived.Lib.SlicesCompact
import Derived.Deep.CutRange
import Derived.Deep.RegionHeld3
import Derived.Deep.Cut
import Derived.Laws.StructEq
import Derived.WalkSmall
import Derived.Outline
import Derived.RegionTactic
import Derived.ChangeAlike
import Derived.BigQuiet
import Derived.Laws.Rows
import Derived.Laws.AppendOwn
import Derived.Deep.LoopGhost
import Derived.StillTailTactics
import Derived.StillTactics
import Derived.OwnWalk
import Derived.Laws.Pointers
import Derived.Deep.AppendLies
import Derived.Laws.ResultCell
import Derived.Shelf.Sort.Plain
import Derived.Shelf.Bits.Mul64
import Derived.Shelf.Slices.Turned
import Derived.Shelf.Slices.Reverse
import Derived.Ground.Names2Prog
import Derived.Shelf.Slices.CompactI
import Derived.Shelf.Slices.Cells
import Derived.Shelf.Slices.In.SortNone
import Derived.Ground.SlgnProg
import Derived.Shelf.SlicesG.Turned
import Derived.Lib.SlKeysI
import Derived.RangeFuncNested
import Derived.RangeFuncBound
import Derived.RangeFuncCalls
import Derived.RangeFuncLeaves
import Derived.RangeFuncBox
import Derived.Shelf.Abstract
import Derived.Shelf.RegionOpen
import Derived.OwnWalkIn
import Derived.TacticsInMore
import Derived.LoopNIn
import Derived.LoopIn
import Derived.Shelf.SlIterI.Sorted
import Derived.Ground.GgzProg
import Derived.MapKept
import Derived.Maps.OwnSet
import Derived.Defers
import Derived.Laws.OwnMore
import Derived.Lib.SliceRun
import Derived.ChangeKeysEq
import Derived.Deep.MidRow
import Derived.LaidEqlPtr
import Derived.OpenShut
import Derived.OneCell
import Derived.Laws.BitsAllLaws
import Derived.Test.YtddbkdjcjoofpaaGreatDoorChecked
import Derived.Laws.EntriesVeiled
import Derived.Deep.RegionWith
import Derived.Lib.SlicesS
import Derived.Lib.SplitLaws
import Derived.Laws.RangeAny
import Derived.Stop.LaidErr
import Derived.Lib.LaidTab
import Derived.ShapedOpen
import Derived.Shelf.Spec.TrailingZeros
import Derived.Shelf.Small.Wraps
import Derived.Shelf.LaysM
import Derived.Shelf.Strconv.Itoa4
import Derived.Shelf.LaysC
import Derived.Shelf.Strconv.ParseIntPublic10
import Derived.Shelf.Strconv.ErrVarParseInt
import Derived.Shelf.Strings.SplitShaped
import Derived.Test.YtddbkdjcjoofpaaGreatDoorRows
import Derived.Lib.ItoaNum
import Derived.Lib.ItoaLen
import Derived.Lib.ParseIntB
import Derived.Lib.TrailingZeros
import Derived.Lib.OthersKept
import Derived.Lib.ConvBytes
import Derived.Lib.CountLaws
import Derived.Laws.BytesArg
import Derived.Lib.AppendStr
import Derived.Lib.Slices
import Derived.Lib.Walk
import Derived.Lib.Builder
import Derived.Lib.UnsafeStr
import Derived.Lib.MakeNoZero
import Derived.Laws.Externs
import Derived.Laws.IdiomCopy
import Derived.Laws.BitsLemmas
import Derived.ProofKit
import Derived.DataReads
import Derived.ChangeSame
import Derived.Lib.SmallJoins
import Derived.LaidMore
import Derived.LaidLaws
import Derived.Shelf.Vars
import Derived.Lay
import Derived.Deep.DeepHandedRow
import Derived.Stop.Joined
import Derived.SizedLaws
namespace Go.Proofs.YtddbkdjcjoofpaaGreatDoor
set_option linter.unusedVariables false
set_option linter.unusedSimpArgs false
set_option maxRecDepth 100000
set_option maxHeartbeats 20000000
open _root_.Go.Proofs.Tryz Go.RowKit
open Go renaming World→ab
open _root_.Go.Proofs.Tryz renaming prog→au
open Option renaming none→U,some→R
open _root_.Go.Value renaming int→I,pointer→af,slice→ay,bool→aD,agg→bk,tuple→bC
open _root_.Go.IntKind renaming i64→J,u64→ah
open _root_.Go.Obj renaming cells→av
open _root_.Go.Ending renaming returned→aK
open _root_.Nat renaming le_refl→bK,le_trans→cA,lt_of_lt_of_le→dd,zero_add→lZ,zero_le→gN,add_assoc→qy
open _root_.Array renaming getElem?_eq_some_iff→iZ
open _root_.Go renaming World→ab
open _root_.List renaming getElem?_eq_getElem→b5,getElem?_map→dD,drop_eq_getElem_cons→px,getElem?_eq_some_iff→bD,getElem?_append_right→gJ,getElem?_append_left→ja,mem_map→eY,mem_cons→gZ,getElem?_toArray→fg,mem_of_getElem?→ea,length_map→dY,map_append→iI,nodup_cons→jL,mem_cons_self→e5,mem_cons_of_mem→hK,getElem?_set_self→cV,getElem?_set_ne→dN,mem_append→nj,mem_singleton→qt,take_add_one→gL,take_length→hL,length_take→iG
open _root_.Bool renaming and_eq_true→jb
open _root_.And renaming intro→br
open _root_.Int renaming toNat_natCast→bZ
open _root_.Option renaming isSome_iff_exists→gK,map_eq_some_iff→h9,toList_some→lY
open _root_.Go.World renaming block_lt_of_cell?→jv
variable {b:Nat} {v:Value} {a:Option Addr}
instance:DecidableEq Key:=λa b=>decidable_of_iff (a.v=b.v∧a.id=b.id) (Key.eq_iff a b).symm
instance (a b:Key):Decidable (a.lt b):=inferInstanceAs (Decidable (_∨_))
variable {n g i p j c B m o:Nat} {A:ab} {u:Value} {t:ex} {G:aJ} {k x:Key} {f:Int->Option aJ} {l:List Int} {e:aI} {s:bp (aF×Int)} {r:T}
variable {w y:ab}
variable {cap:Nat} {S:Nat->Prop} {w':ab} {L:List ByteArray}
section
variable {ao w:ab} {S:Nat->Prop} {L:bu} {s:aa} {k:Nat}
theorem Pg (H:ax ao S L s w):Calls au 11 #[aX L.b] w λe w'=>e=aK (I J s.groups.length)∧w'=w:=by have c:=H.top.cell 8 p5;obtain⟨T,g⟩:=H.fy .e1;obtain⟨a,cap,h⟩:=dM.form g;rw[h,show(fV L s).length=s.groups.length by simp[fV]] at c;unfold aX;obtain⟨b,d⟩:∃b,L.b=b:=⟨_,rfl⟩;obtain⟨n,f⟩:∃n,s.groups.length=n:=⟨_,rfl⟩;rw[d,f] at c;rw[d,f];clear H d f g h;go_enter func11,ntmps11;go_wp2;go_ret;exact⟨rfl,rfl⟩
end
def ad.queue (h:ad) (g:Int):List aI:=match h.at g with|none=>[]|some x=>x.q.es
variable {Z al:Nat->Prop} {W:ab} {ai:Int->Nat} {ag:List (Int×Int)} {P:List (List Nat)} {V:List (Int×Int)->ab->Prop}
def Dw (f:Nat):Value:=.func (.func f) #[] #[]
def nU (k:Int):Option Nat:=if k=1 then R 45 else if k=2 then R 46 else if k=3 then R 47 else if k=4 then R 48 else if k=5 then R 49 else if k=6 then R 51 else if k=7 then R 52 else if k=8 then R 55 else if k=9 then R 57 else if k=10 then R 56 else if k=11 then R 58 else if k=12 then R 50 else if k=13 then R 59 else if k=14 then R 53 else if k=15 then R 54 else U
def ps (k:Int):Option Value:=(nU k).map Dw
theorem Dx (w:ab):Calls au 19 #[] w λe w'=>∃m n,e=aK (.map (R m))∧ej w' m ps n∧Below w.heap.size w w':=by
 have a9:=@run_makeMap au;have aP:=ej.new w;have aV:Mod (λ_=>False) w (w.alloc (.map #[] 0)):=(Mod.refl _ _).alloc _;have a:∀{c:ab} (b:Obj),Mod (λ_=>False) w c->Mod (λ_=>False) w (ef c w.heap.size b):=λb aZ=>aZ.trans (ru _ _ b) (λi a6 ak=>by subst ak;exact absurd a6 (by omega));obtain⟨d,a7,f⟩:=aP.put underlying58 underlying3 1 (.func (.func 45) #[] #[]);have h:=a d aV;generalize aC:ef (w.alloc (.map #[] 0)) w.heap.size d=a8 at a7 f h;obtain⟨j,ba,k⟩:=f.put underlying58 underlying3 2 (.func (.func 46) #[] #[]);have l:=a j h;generalize bI:ef a8 w.heap.size j=av at ba k l;obtain⟨o,ao,p⟩:=k.put underlying58 underlying3 3 (.func (.func 47) #[] #[]);have q:=a o l;generalize bL:ef av w.heap.size o=bb at ao p q;obtain⟨r,ag,s⟩:=p.put underlying58 underlying3 4 (.func (.func 48) #[] #[]);have t:=a r q;generalize bd:ef bb w.heap.size r=bf at ag s t;obtain⟨u,ax,v⟩:=s.put underlying58 underlying3 5 (.func (.func 49) #[] #[]);have y:=a u t;generalize be:ef bf w.heap.size u=bc at ax v y;obtain⟨z,bg,A⟩:=v.put underlying58 underlying3 12 (.func (.func 50) #[] #[]);have B:=a z y;generalize bN:ef bc w.heap.size z=bj at bg A B;obtain⟨D,an,E⟩:=A.put underlying58 underlying3 6 (.func (.func 51) #[] #[]);have F:=a D B;generalize bS:ef bj w.heap.size D=aw at an E F;obtain⟨G,bl,H⟩:=E.put underlying58 underlying3 7 (.func (.func 52) #[] #[]);have I:=a G F;generalize aM:ef aw w.heap.size G=bo at bl H I;obtain⟨J,bm,K⟩:=H.put underlying58 underlying3 14 (.func (.func 53) #[] #[]);have L:=a J I;generalize bi:ef bo w.heap.size J=ay at bm K L;obtain⟨M,bq,N⟩:=K.put underlying58 underlying3 15 (.func (.func 54) #[] #[]);have O:=a M L;generalize bT:ef ay w.heap.size M=bt at bq N O;obtain⟨P,ai,Q⟩:=N.put underlying58 underlying3 8 (.func (.func 55) #[] #[]);have S:=a P O;generalize aX:ef bt w.heap.size P=bw at ai Q S;obtain⟨T,aD,U⟩:=Q.put underlying58 underlying3 10 (.func (.func 56) #[] #[]);have V:=a T S;generalize bX:ef bw w.heap.size T=a0 at aD U V;obtain⟨W,bz,X⟩:=U.put underlying58 underlying3 9 (.func (.func 57) #[] #[]);have Y:=a W V;generalize bV:ef a0 w.heap.size W=a2 at bz X Y;obtain⟨Z,a3,aa⟩:=X.put underlying58 underlying3 11 (.func (.func 58) #[] #[]);have aq:=a Z Y;generalize b1:ef a2 w.heap.size Z=a4 at a3 aa aq;obtain⟨ac,a5,az⟩:=aa.put underlying58 underlying3 13 (.func (.func 59) #[] #[]);have ad:=a ac aq;generalize al:ef a4 w.heap.size ac=b3 at a5 az ad
 have bF:=C (az.congr (g:=ps) (λx=>by
  unfold ps nU Dw;simp only[nG];by_cases aB:x=1;·subst aB;rfl
  by_cases aA:x=2;·subst aA;rfl
  by_cases aG:x=3;·subst aG;rfl
  by_cases aL:x=4;·subst aL;rfl
  by_cases af:x=5;·subst af;rfl
  by_cases ae:x=6;·subst ae;rfl
  by_cases am:x=7;·subst am;rfl
  by_cases aN:x=8;·subst aN;rfl
  by_cases aj:x=9;·subst aj;rfl
  by_cases ap:x=10;·subst ap;rfl
  by_cases aQ:x=11;·subst aQ;rfl
  by_cases ah:x=12;·subst ah;rfl
  by_cases aR:x=13;·subst aR;rfl
  by_cases aS:x=14;·subst aS;rfl
  by_cases aU:x=15;·subst aU;rfl
  simp only[z0 aB,z0 aA,z0 aG,z0 aL,z0 af,z0 ae,z0 am,z0 aN,z0 aj,z0 ap,z0 aQ,z0 ah,z0 aR,z0 aS,z0 aU,if_false];rfl) rfl)
 have aO:=C ad.toBelow;go_enter func19,ntmps19;go_wp2;go_ret;exact⟨w.heap.size,rfl,⟨_,bF⟩,aO⟩
variable {W':ab} {v1:Value} {tmps:Array Value} {fn:Func}
theorem M4:(prog.info? 29).map (·.size)=R 2:=by kernel_rfl
theorem yb {p:Tmp} {w:ab} {T:Nat} {v0:Value} (h:fn.results=#[.cell p 29]) (a:tmps.getD p undef=af (R ⟨g,0,U⟩)) (b:w.heap[g]?=R (av #[v0,v1] T (0,0))):(results fn tmps).run au w= .ok (bk #[v0,v1]) w:=results_cell_row h tmps w g T _ _ _ a b underlying29 rfl M4
section
variable {ao w w':ab} {S:Nat->Prop} {L:bu} {s:aa} {k:Nat}
def sa (ao:ab) (S:Nat->Prop) (L:bu) (d:dO) (e:Ending) (w':ab):Prop:=e=aK (bk #[I J d.2.1,I J d.2.2])∧∃a,a.b=L.b∧ax ao S a d.1 w'
theorem M5 (d a b n m h:Int) (c:Int) (H:ax ao S L s w) (hk:s.Ok k) (bL:k<100000) (an:bA c s.groups) (h0:0<=c) (F:c+10000000000<=1000000000000000) (aw:0<=h∧h<18446744073709551616) (ae:∀f,nU d=R f->nb f∧∀(am W:ab) (p:Nat->Prop),ax am p L s W->Calls au f #[aX L.b,bk (cx d a b n m h)] W (mo am p L (s.event ⟨d,a,b,n,m,h⟩))) (aN:nU d=U->s.event ⟨d,a,b,n,m,h⟩=(s,0,1)) (ap:(s.event ⟨d,a,b,n,m,h⟩).2.2≠0->(s.event ⟨d,a,b,n,m,h⟩).1=s):Calls au 8 #[aX L.b,bk (cx d a b n m h)] w (sa ao S L (s.dP ⟨d,a,b,n,m,h⟩)):=by
 obtain⟨V,G⟩:=aW ((w.alloc (av (cx d a b n m h) 33)).alloc (av #[I J 0,I J 0] 29));have bl:Below w.heap.size w V:=G▸(bx _ _).alloc (by simp) _;have aQ:ak V w.heap.size (cx d a b n m h) 33:=G▸(ak.new w _ _).alloc _;have aR:ak V (w.heap.size+1) #[I J 0,I J 0] 29:=G▸(by have:=ak.new (w.alloc (av (cx d a b n m h) 33)) #[I J 0,I J 0] 29;simpa using this);obtain⟨p,aS,aU,bo⟩:=H.nS bl;have P:=C (λ(j:bu) (aP:aa) (w':ab) (y:ax V (λk=>p k∨k=w.heap.size+1) j aP w')=>bo j aP w' (y.lX (λk e=>e.elim .inl (λe=>.inr (by omega)))));have K:=C (show¬p (w.heap.size+1) fromλy=>by have:=(aS _ y).1;omega);have Q:=C aR.lt;have bm:∀k,p k->k<w.heap.size:=λk y=>(aS k y).1;have X:=C G;have t:=C (λ(W:ab) (j:bu) (r:aa) (o:Nat) (v:Value) (Y:ax V p j r W) (F:(cx d a b n m h)[o]?=R v)=>Y.kept bm (aQ.cell o F) zK9);have Z:=C (λ(W:ab) (j:bu) (r:aa) (Y:ax V p j r W)=>show ak W (w.heap.size+1) #[I J 0,I J 0] 29 from aR.mod Y.1 K.out);obtain⟨⟨M,ay,aq⟩,N⟩:∃bq,s.event ⟨d,a,b,n,m,h⟩=bq:=⟨_,rfl⟩;generalize l:s.dP ⟨d,a,b,n,m,h⟩=D;unfold aa.dP at l;have aV:=hk.event ⟨d,a,b,n,m,h⟩ aw;have aZ:=an.event h0 F ⟨d,a,b,n,m,h⟩;rw[N] at l ae aN ap aV aZ;have ac:=C l;have az:=C ae;have bt:=C aN;have ai:=C ap;have bw:=C (λ(W:ab) (j:bu) (aD:ax V p j M W)=>K2 aZ (by omega) F aD aV (by omega));have bd:=aQ.cell 0 (v:=I J d) rfl;unfold aX at*;obtain⟨be,a6⟩:=aW L.b;have a0:=C a6;rw[a6] at az⊢;unfold cx at X t az⊢;cases O:nU d with
 |none=>have ad:=C (show ps d=U by unfold ps;rw[O];rfl);have l:=ac.out;have N:=bt.out O;simp only[Prod.mk.injEq] at N;obtain⟨rfl,rfl,rfl⟩:=N;rw[aj (show(1:Int)≠0 by decide)] at l;have A:=C l;go_enter func8,ntmps8;go_upto_region 1 with fail;rw[X.out];go_region_held3 (λW'=>W'.cell? ⟨w.heap.size,0,U⟩=R (I J d)) (with_reducible repeat(first|assumption|refine b2 ?_)) (first|(go_at_call 19;refine(Dx _).mono ?_;rintro e q ⟨bz,a2,rfl,aB,aA⟩;have x:=aU.drew.next aA;have a3:=t.out q L M 0 (I J d) x rfl;have aG:=aB.A8 underlying58 underlying3 (z:=.nilFunc) (by kernel_rfl) d;rw[ad.out] at aG;have u:=C x;have i:=Z.out q L M x;have a7:=i.cell 0 (v:=I J 0) rfl;have a8:=i.cell 1 (v:=I J 0) rfl;have ba:=i.free 0;have bb:=i.free 1;have B:=C i));all_goals go_wp2_with fail;refine bodyPost_ret (yb (g:=w.heap.size+1) (T:=29) rfl rfl ((B.set 0 (I J 0)).set 1 (I J 1))) rfl ?_;rw[<-A.out];exact⟨rfl,L,rfl,P.out _ _ _ (u.out.out (nT _ _ _ _ _ _) K.out Q.out)⟩
 |some f=>have ad:=C (show ps d=R (.func (.func f) #[] #[]) by unfold ps;rw[O];rfl);obtain⟨a4,a5⟩:=az.out f O;have aK:=C a5;unfold nb at a4;go_enter func8,ntmps8;go_upto_region 1 with fail;rw[X.out];go_region_held3 (λW'=>W'.cell? ⟨w.heap.size,0,U⟩=R (I J d)) (with_reducible repeat(first|assumption|refine b2 ?_)) (first|(go_at_call 19;refine(Dx _).mono ?_;rintro e q ⟨bz,a2,rfl,aB,aA⟩;have x:=aU.drew.next aA;have a3:=t.out q L s 0 (I J d) x rfl;have aG:=aB.A8 underlying58 underlying3 (z:=.nilFunc) (by kernel_rfl) d;rw[ad.out] at aG;have u:=C x));all_goals
  have bN:=t.out q L s 1 (I J a) u.out rfl;have bS:=t.out q L s 2 (I J b) u.out rfl;have aM:=t.out q L s 3 (I J n) u.out rfl;have bi:=t.out q L s 4 (I J m) u.out rfl;have bT:=t.out q L s 5 (I ah h) u.out rfl;have bF:=C (aK.out V q p u.out);go_wp2_with fail;refine bF.mono ?_;rintro e ag ⟨rfl,j,aL,af⟩;have bf:=C aL;rw[a0.out] at aL;by_cases E:aq=0;·have l:=ac.out;rw[E,z0 (by decide)] at l;have A:=C l;have bc:=C (bw.out ag j af);rw[aL] at bc;subst E;go_wp2_with fail;refine bc.mono ?_;rintro e aO ⟨rfl,bg⟩;have i:=Z.out aO j _ bg;have a7:=i.cell 0 (v:=I J 0) rfl;have a8:=i.cell 1 (v:=I J 0) rfl;have ba:=i.free 0;have bb:=i.free 1;have B:=C i;have a9:=C bg;go_wp2_with fail;refine bodyPost_ret (yb (g:=w.heap.size+1) (T:=29) rfl rfl ((B.set 0 (I J ay)).set 1 (I J 0))) rfl ?_;rw[<-A.out];exact⟨rfl,j,bf.out,P.out _ _ _ (a9.out.out (nT _ _ _ _ _ _) K.out Q.out)⟩
  ·have l:=ac.out;rw[aj (E)] at l;have A:=C l;have bX:(aq !=0)=true:=(by simp[E]);have aC:=ai.out (E);have i:=Z.out ag j _ af;have a7:=i.cell 0 (v:=I J 0) rfl;have a8:=i.cell 1 (v:=I J 0) rfl;have ba:=i.free 0;have bb:=i.free 1;have B:=C i;have bI:=C (show M=s from aC);go_wp2_with fail;refine bodyPost_ret (yb (g:=w.heap.size+1) (T:=29) rfl rfl ((B.set 0 (I J 0)).set 1 (I J aq))) rfl ?_;rw[<-A.out];refine⟨rfl,j,bf.out,?_⟩;have bj:=af;rw[bI.out] at bj;exact P.out _ _ _ (bj.out (nT _ _ _ _ _ _) K.out Q.out)
end
section
variable {ao w w':ab} {S:Nat->Prop} {L:bu} {s:aa} {k:Nat}
theorem aa.Nc {e:gm} (h:nU e.kind=U) (s:aa):s.event e=(s,0,1):=by
 by_cases a:e.kind=1;·rw[a] at h;cases h
 by_cases b:e.kind=2;·rw[b] at h;cases h
 by_cases c:e.kind=3;·rw[c] at h;cases h
 by_cases d:e.kind=4;·rw[d] at h;cases h
 by_cases f:e.kind=5;·rw[f] at h;cases h
 by_cases g:e.kind=6;·rw[g] at h;cases h
 by_cases i:e.kind=7;·rw[i] at h;cases h
 by_cases j:e.kind=8;·rw[j] at h;cases h
 by_cases k:e.kind=9;·rw[k] at h;cases h
 by_cases l:e.kind=10;·rw[l] at h;cases h
 by_cases m:e.kind=11;·rw[m] at h;cases h
 by_cases n:e.kind=12;·rw[n] at h;cases h
 by_cases o:e.kind=13;·rw[o] at h;cases h
 by_cases p:e.kind=14;·rw[p] at h;cases h
 by_cases q:e.kind=15;·rw[q] at h;cases h
 unfold aa.event;rw[z0 a,z0 b,z0 c,z0 d,z0 f,z0 g,z0 i,z0 j,z0 k,z0 l,z0 m,z0 n,z0 o,z0 p,z0 q]
theorem aa.Nd (s:aa) (e:gm) (h:(s.event e).2.2≠0):(s.event e).1=s:=by
 revert h;have c:∀{p:Prop} [Decidable p] {a b:dO},(a.2.2≠0->a.1=s)->(b.2.2≠0->b.1=s)->((if p then a else b).2.2≠0->(if p then a else b).1=s):=by
  intro p _ a b i j;split;·exact i
  ·exact j
 have g:∀{r:aa} {n:Int},((r,n,(0:Int)):dO).2.2≠0->((r,n,(0:Int)):dO).1=s:=λh=>absurd rfl h;have d:∀{n f:Int},((s,n,f):dO).2.2≠0->((s,n,f):dO).1=s:=λ_=>rfl;unfold aa.event;refine c ?_ (c ?_ (c ?_ (c ?_ (c ?_ (c ?_ (c ?_ (c ?_ (c ?_ (c ?_ (c ?_ (c ?_ (c ?_ (c ?_ (c ?_ ?_))))))))))))))
 ·unfold aa.grow;split;·exact d
  ·exact c d (c d g)
 ·unfold aa.drop;split;·exact d
  ·exact c d (c d g)
 ·unfold aa.move;split;·exact c d (c d g)
  ·exact d
 ·unfold aa.shares;split;·exact d
  ·exact c d (c d g)
 ·unfold aa.lJ;split;·exact d
  ·exact c d (c d g)
 ·unfold aa.spawn;split;·exact d
  ·exact c d (c d (c d (c d g)))
 ·unfold aa.k0;split;·exact d
  ·exact c d g
 ·unfold aa.block;exact c d (c d g)
 ·unfold aa.yield;exact c d (c d g)
 ·unfold aa.exit;refine c d (c d ?_);split;·exact d
  ·exact g
 ·unfold aa.tick;refine c d (c d (c g ?_));split;·exact d
  ·exact c d (c g g)
 ·unfold aa.gy;split;·exact d
  ·exact c d g
 ·unfold aa.pull;exact c d (c d (c d g))
 ·unfold aa.nice;split;·exact d
  ·exact c d (c d (c g g))
 ·unfold aa.mask;split;·exact d
  ·exact c d (c g g)
 ·exact d
theorem Nf (h a b n m g:Int) (p:0<=g∧g<18446744073709551616) (hk:s.Ok k) (q:k<100000) {f:Nat} (i:nU h=R f):nb f∧∀(j W:ab) (l:Nat->Prop),ax j l L s W->Calls au f #[aX L.b,bk (cx h a b n m g)] W (mo j l L (s.event ⟨h,a,b,n,m,g⟩)):=by
 have o:k<=100000:=by omega
 by_cases r:h=1;·subst r;cases i;refine⟨enters_of func45 (by kernel_rfl) rfl,λj W l c=>?_⟩;exact(Nb _ a b n m g c hk q)
 by_cases t:h=2;·subst t;cases i;refine⟨enters_of func46 (by kernel_rfl) rfl,λj W l c=>?_⟩;exact(MA _ a b n m g c hk o).mono (λe w' d=>d.kM)
 by_cases u:h=3;·subst u;cases i;refine⟨enters_of func47 (by kernel_rfl) rfl,λj W l c=>?_⟩;exact(Mq _ a b n m g c hk o).mono (λe w' d=>d.kM)
 by_cases v:h=4;·subst v;cases i;refine⟨enters_of func48 (by kernel_rfl) rfl,λj W l c=>?_⟩;exact(K3 _ a b n m g c hk)
 by_cases w:h=5;·subst w;cases i;refine⟨enters_of func49 (by kernel_rfl) rfl,λj W l c=>?_⟩;exact(Lx _ a b n m g c hk).mono (λe w' d=>d.kM)
 by_cases x:h=6;·subst x;cases i;refine⟨enters_of func51 (by kernel_rfl) rfl,λj W l c=>?_⟩;exact(M7 _ a b n m g p c hk q)
 by_cases y:h=7;·subst y;cases i;refine⟨enters_of func52 (by kernel_rfl) rfl,λj W l c=>?_⟩;exact(Ls _ a b n m g c hk o).mono (λe w' d=>d.kM)
 by_cases z:h=8;·subst z;cases i;refine⟨enters_of func55 (by kernel_rfl) rfl,λj W l c=>?_⟩;exact(Cv _ a b n m g c hk).mono (λe w' d=>d.kM)
 by_cases A:h=9;·subst A;cases i;refine⟨enters_of func57 (by kernel_rfl) rfl,λj W l c=>?_⟩;exact(K9 _ a b n m g c hk).mono (λe w' d=>d.kM)
 by_cases B:h=10;·subst B;cases i;refine⟨enters_of func56 (by kernel_rfl) rfl,λj W l c=>?_⟩;exact(K8 _ a b n m g c hk).mono (λe w' d=>d.kM)
 by_cases C:h=11;·subst C;cases i;refine⟨enters_of func58 (by kernel_rfl) rfl,λj W l c=>?_⟩;exact(Ma _ a b n m g c hk o).mono (λe w' d=>d.kM)
 by_cases D:h=12;·subst D;cases i;refine⟨enters_of func50 (by kernel_rfl) rfl,λj W l c=>?_⟩;exact(K4 _ a b n m g c hk)
 by_cases E:h=13;·subst E;cases i;refine⟨enters_of func59 (by kernel_rfl) rfl,λj W l c=>?_⟩;exact(MP _ a b n m g c hk o).mono (λe w' d=>d.kM)
 by_cases F:h=14;·subst F;cases i;refine⟨enters_of func53 (by kernel_rfl) rfl,λj W l c=>?_⟩;exact(Lu _ a b n m g c hk).mono (λe w' d=>d.kM)
 by_cases G:h=15;·subst G;cases i;refine⟨enters_of func54 (by kernel_rfl) rfl,λj W l c=>?_⟩;exact(Lt _ a b n m g p c hk o).mono (λe w' d=>d.kM)
 unfold nU at i;rw[z0 r,z0 t,z0 u,z0 v,z0 w,z0 x,z0 y,z0 z,z0 A,z0 B,z0 C,z0 D,z0 E,z0 F,z0 G] at i;cases i
theorem Ng (g a b n m d:Int) (c:Int) (H:ax ao S L s w) (hk:s.Ok k) (i:k<100000) (l:bA c s.groups) (h0:0<=c) (o:c+10000000000<=1000000000000000) (j:0<=d∧d<18446744073709551616):Calls au 8 #[aX L.b,bk (cx g a b n m d)] w (sa ao S L (s.dP ⟨g,a,b,n,m,d⟩)):=M5 g a b n m d c H hk i l h0 o j (λf p=>Nf g a b n m d j hk i p) (λh=>aa.Nc (e:=⟨g,a,b,n,m,d⟩) h s) (λh=>s.Nd _ h)
end
structure aa.In (k:Nat) (s:aa):Prop where
 ok:s.Ok k
 DA:bA (10000000000*(k:Int)) s.groups
def nf (e:gm):Prop:=0<=e.mask∧e.mask<18446744073709551616
def Nh (e:gm):Value:=bk #[I J e.kind,I J e.a,I J e.b,I J e.n,I J e.m,I ah e.mask]
section
variable {ao w w':ab} {S:Nat->Prop} {L:bu} {s:aa} {k:Nat}
theorem aa.In.dP (h:s.In k) (hk:k<90000) (e:gm) (a:nf e):(s.dP e).1.In (k+1):=by refine⟨h.ok.dP e a,?_⟩;have b:=h.DA.dP (by omega) (by omega) e;rw[show 10000000000*((k+1:Nat):Int)=10000000000*(k:Int)+10000000000 by push_cast;omega];exact b
theorem DB (e:gm) (c:nf e) (H:ax ao S L s w) (h:s.In k) (hk:k<90000):Calls au 8 #[aX L.b,Nh e] w (sa ao S L (s.dP e)):=Ng e.kind e.a e.b e.n e.m e.mask _ H h.ok (by omega) h.DA (by omega) (by omega) c
end
section
variable {ao w w':ab} {S:Nat->Prop} {L:bu} {s:aa} {k:Nat}
theorem ax.DC {n0:Nat} (H:ax ao S L s w) (d:Mod Z w w') (n:∀k,Z k->¬S k∧k<ao.heap.size∧n0<=k):∃h:Nat->Prop,(∀k,h k->k<w.heap.size∧¬Z k)∧ax w' h L s w'∧∀(j:bu) (l:aa) (m:ab),ax w' (λk=>h k∨n0<=k) j l m->ax ao (λk=>S k∨n0<=k) j l m:=by
 obtain⟨o,tag,H⟩:=H;have y:=o.size;have z:=d.size;have p:∀b,Z b->tag b= .no:=λb t=>by
  by_cases e:tag b= .no;·exact e
  ·have:=n b t;rcases H.own b (by omega) e with a|a;·exact absurd a this.1
   ·omega
 refine⟨λk=>tag k≠ .no∧k<w.heap.size,λk a=>⟨a.2,λe=>a.1 (p k e)⟩,hZ.start (tag:=fQ w tag .no) ⟨λa=>?_,λk c e=>?_⟩,?_⟩
 ·by_cases q:a= .no;·subst q;trivial
  ·refine(H.part a).frame d (λk e f=>q (by rw[<-e,p k f])) (λk c e=>by unfold fQ;rw[aj c];exact e)
 ·unfold fQ at e;split at e;·rename_i a;exact⟨e,a⟩
  ·exact absurd rfl e
 ·rintro j l m ⟨u,v,r⟩;refine⟨((o.mono (λk _ a=>.inl a)).trans d (λi _ a=>.inr (n i a).2.2)).trans u (λi x a=>?_),v,r.part,λk c e=>?_⟩
  ·rcases a with a|a
   ·rcases H.own i a.2 a.1 with g|g;·exact .inl g
    ·exact absurd x (by omega)
   ·exact .inr a
  ·rcases r.own k c e with a|a
   ·rcases a with a|a
    ·rcases H.own k a.2 a.1 with g|g;·exact .inl (.inl g)
     ·exact .inr g
    ·exact .inl (.inr a)
   ·exact .inr (by omega)
end
def qk:cd (Int×Int):=⟨2,λp=>[I J p.1,I J p.2],λ_=>rfl,λe u h=>by simp at h;rcases h with rfl|rfl<;>rfl,by decide⟩
theorem Ni:iv qk 95 29 16:=⟨underlying95,⟨.agg #[.int .i64 0,.int .i64 0],by kernel_rfl,rfl⟩,by decide⟩
theorem DD:∀(l m:List gm) (s:aa),fm (l++m) s=((fm l s).1++(fm m (fm l s).2).1,(fm m (fm l s).2).2)
 |[],m,s=>by simp[fm]
 |e::l,m,s=>by show((s.dP e).2::(fm (l++m) (s.dP e).1).1,(fm (l++m) (s.dP e).1).2)=_;rw[DD l m];rfl
theorem uN:∀(l:List gm) (s:aa) (k:Nat),s.In k->k+l.length<90000->(∀e∈l,nf e)->(fm l s).2.In (k+l.length)
 |[],s,k,h,_,_=>h
 |e::l,s,k,h,hk,he=>by have a:=h.dP (by simp at hk;omega) e (he e e5);have:=uN l _ (k+1) a (by simp at hk;omega) (λx b=>he x (hK _ b));rw[show k+(e::l).length=k+1+l.length by simp;omega];exact this
theorem ax.Nj {ao w:ab} {L:bu} {s:aa} (H:ax ao (λk=>False∨ao.heap.size<=k) L s w):ax ao (λ_=>False) L s w:=by obtain⟨b,c,d⟩:=H;exact⟨b.mono (λk e a=>a.elim id (λa=>by omega)),c,d.mono (λk a=>a.elim (λa=>a.elim .inl .inr) .inr)⟩
theorem DE {l:List bQ} {x:bQ} (h:l[j]?=R x) (s:aa):fm ((l.take (j+1)).map er) s=((fm ((l.take j).map er) s).1++[((fm ((l.take j).map er) s).2.dP (er x)).2],((fm ((l.take j).map er) s).2.dP (er x)).1):=by rw[gL,h,lY,iI,DD];rfl
theorem Nk {ao w:ab} {L:bu} {s:aa} {k:Nat} (l:List bQ) (v:Value) (B:Nat) (ba:∀e∈l,nf (er e)) (bb:l.length<=1000) (az:Own jf ao B 33 v l.length l) (H:ax ao (λ_=>False) L s w) (ag:s.In k) (hk:k+1000<90000):Calls au 30 #[aX L.b,v] w λe w'=>∃ad,e=aK ad∧Own qk w' 0 29 ad l.length (fm (l.map er) s).1∧∃f,f.b=L.b∧ax ao (λ_=>False) f (fm (l.map er) s).2 w':=by
 obtain⟨a,cap,rfl⟩:=az.mV;have M:=C az;have bf:=C ag;have aB:=C ba;obtain⟨n,aA⟩:=aW l.length;have N:=C aA;unfold aX;obtain⟨aG,aL⟩:=aW L.b;have bc:=C aL;rw[aA] at bb M⊢;rw[aL];go_enter func30,ntmps30;go_wp2_with fail;go_loopw [5,10] (λu5 u W=>∃j:Nat,j<=n∧u=I J (j:Int)∧∃(i:ab) (q:Nat->Prop) (r:bu),Own qk i 0 29 u5 j (fm ((l.take j).map er) s).1∧r.b=aG∧ax i q r (fm ((l.take j).map er) s).2 W∧(∀g,u5.ownBlock=R g->¬q g∧g<i.heap.size∧ao.heap.size<=g)∧∀(f:bu) (D:aa) (w':ab),ax i (λk=>q k∨ao.heap.size<=k) f D w'->ax ao (λ_=>False) f D w') (λ_ u _=>n-(intOf u).toNat);case atStart=>exact⟨0,by omega,rfl,ao,λ_=>False,L,Own.nil _ _ _,bc.out,H,λg e=>(by cases e),λf D w' c=>c.Nj⟩
 case round=>
  obtain⟨j,b9,rfl,i,q,r,E,bg,t,bj,ae⟩:=hrel;have O:=C E;have P:=C bg;have F:=C bj;have Q:=C ae;have an:Mod (λ_=>False) ao wr:=(ae _ _ _ (t.lX (λk c=>.inl c))).1;by_cases aw:j<n
  ·obtain⟨x,am⟩:∃x,l[j]?=R x:=⟨_,b5 (by rw[N.out];exact aw)⟩;have aN:=C am;obtain⟨g,aY,aj,bl⟩:=M.form (by omega);simp only[Value.slice.injEq] at aj;obtain⟨rfl,_,rfl⟩:=aj;have o:∀(c:Nat) (u:Value),(jf.e x)[c]?=R u->wr.cell? ⟨g,j*6+c,U⟩=R u:=λc u z=>an.cell (M.at_ am z) bl id;have bv:wr.cell? ⟨g,j*6,U⟩=R (I J x.k):=o 0 (I J x.k) rfl;have a1:=o 1 (I J x.a) rfl;have cc:=o 2 (I J x.b) rfl;have cf:=o 3 (I J x.n) rfl;have cg:=o 4 (I J x.m) rfl;have cj:=o 5 (I ah (x.s:Int)) rfl;have cm:(j:Int)<(n:Int):=(by omega);have cn:(0:Int)<=(j:Int):=(by omega);have b8:(j:Int).toNat=j:=(by omega);go_upto_region 5 with fail;obtain⟨A,S⟩:∃A,wr.alloc (av #[I J x.k,I J x.a,I J x.b,I J x.n,I J x.m,I ah (x.s:Int)] 33)=A:=⟨_,rfl⟩;rw[S];have bo:Below wr.heap.size wr A:=S▸bx _ _;have p:ak A wr.heap.size #[I J x.k,I J x.a,I J x.b,I J x.n,I J x.m,I ah (x.s:Int)] 33:=S▸ak.new _ _ _;have bm:=p.cell 0 (v:=I J x.k) rfl;have bq:=p.cell 1 (v:=I J x.a) rfl;have bt:=p.cell 2 (v:=I J x.b) rfl;have ai:=p.cell 3 (v:=I J x.n) rfl;have bw:=p.cell 4 (v:=I J x.m) rfl;have aD:=p.cell 5 (v:=I ah (x.s:Int)) rfl;have ap:(l.take j).length=j:=(by rw[iG,N.out];omega);have a0:=uN ((l.take j).map er) s k bf.out (by rw[dY,ap];have:=hk;omega) (λe bz=>by obtain⟨y,a2,rfl⟩:=eY.1 bz;exact aB.out y (List.mem_of_mem_take a2));have a3:Calls au 8 #[af (R ⟨aG,0,U⟩),bk #[I J x.k,I J x.a,I J x.b,I J x.n,I J x.m,I ah (x.s:Int)]] A (sa i q r ((fm ((l.take j).map er) s).2.dP (er x))):=(by have T:=DB (er x) (aB.out x (ea aN.out)) (t.next bo) a0 (by rw[dY,ap];have:=hk;omega);unfold aX at T;rw[P.out] at T;exact T);have V:=C a3;have G:=C (DE aN.out s);obtain⟨aQ,a4⟩:∃x,fm ((l.take j).map er) s=x:=⟨_,rfl⟩;rw[a4] at t V O G;obtain⟨d,a5⟩:∃d,aQ.2.dP (er x)=d:=⟨_,rfl⟩;rw[a5] at G V;obtain⟨cr,aR⟩:∃x,wr.heap.size=x:=⟨_,rfl⟩;rw[aR] at bm bq bt ai bw aD;simp only[aR];go_wp2_with fail;refine V.mono ?_;rintro e h ⟨rfl,aS,bF,X⟩;have aO:=C bF;have aU:=O.mod X.1 (λg e=>(F.out g e).1);have a9:=C (aU.alloc (av #[I J d.2.1,I J d.2.2] 29));have aC:=C (show∀c u,(qk.e d.2)[c]?=R u->(h.alloc (av #[I J d.2.1,I J d.2.2] 29)).cell? ⟨h.heap.size,c,U⟩=R u fromλc u z=>dz.trans (by rw[<-z];show([I J d.2.1,I J d.2.2]:List Value).toArray[c]?=_;rw[fg];rfl));have bI:0<=(h.alloc (av #[I J d.2.1,I J d.2.2] 29)).heap.size:=gN _;have bL:j<=10000000:=(by omega);have bd:=C (aU.mV);obtain⟨Y,Z,rfl⟩:=bd.out;go_upto_region 6 with((at_builtin;refine jB Ni rfl _ _ rfl 0 _ j aQ.1 rfl a9.out h.heap.size _ d.2 rfl aC.out bL bI ?_;intro aq u9 be bN bS;have aM:=C (show Grow _ u9 (ay Y j Z) aq from Grow.gR bN bS);have aP:=C be));have aV:=aM.out;have bi:Mod (λk=>(ay Y j Z).ownBlock=R k) h u9:=((Mod.refl _ h).alloc _).grow aV (λg e=>e);obtain⟨ac,aZ,bT,bX⟩:=X.DC (n0:=ao.heap.size) bi (λg e=>F.out g e);have bV:=Q.out _ _ _ (X.lX (λk c=>.inl c));have bB:=bV.1.size;have b1:∀c,aq.ownBlock=R c->¬ac c∧c<u9.heap.size∧ao.heap.size<=c:=λc e=>by
    have a6:=(aP.lt c e).2;rcases aV.loc with K|⟨bW,K,z⟩;·have a7:(ay Y j Z).ownBlock=R c:=(by rw[<-K];exact e);exact⟨λy=>(aZ c y).2 a7,a6,(F.out c a7).2.2⟩
    ·rw[e] at K;cases K;have cu:h.heap.size<c:=dd (by simp) z;exact⟨λy=>by have:=(aZ c y).1;omega,a6,by omega⟩
   have al:=C (show Own qk u9 0 29 aq (j+1) (fm ((l.take (j+1)).map er) s).1 from by rw[G.out];exact aP.out);have b3:=C (show ax u9 ac aS (fm ((l.take (j+1)).map er) s).2 u9 from by rw[G.out];exact bT);have b6:=C b1;have bR:=C bX;go_wp2_with fail;go_roundw;case rel=>exact⟨j+1,by omega,by go_num,u9,ac,aS,al.out,aO.trans P.out,b3.out,b6.out,λf D w' c=>Q.out _ _ _ (bR.out _ _ _ c)⟩
   case measure=>simp[intOf];omega
  ·obtain rfl:j=n:=by omega
   have bs:=C (show l.take j=l by rw[<-N.out,hL]);have E:=O.mod t.1 (λg e=>(F.out g e).1);have a8:=Q.out _ _ _ (t.lX (λk c=>.inl c));rw[bs.out] at E a8;go_wp2_with fail;go_ret;exact⟨_,rfl,E,r,P.out,a8⟩
def nV (z:List Int):hT:=⟨1+(a_ z 0%8).toNat,1+a_ z 1,a_ z 2,a_ z 3,1+(a_ z 4).toNat⟩
structure sb (z:List Int):Prop where
 len:z.length=5
 at_:∀i,0<=a_ z i∧a_ z i<65536
theorem sb.rt {z:List Int} (h:sb z):(nV z).Good:=by have a:=h.at_ 0;have b:=h.at_ 1;have c:=h.at_ 2;have d:=h.at_ 3;have e:=h.at_ 4;constructor<;>(unfold nV;dsimp only;omega)
def sc (z:List Int):Value:=bk #[I .u16 (a_ z 0),I .u16 (a_ z 1),I .u16 (a_ z 2),I .u16 (a_ z 3),I .u16 (a_ z 4)]
theorem ym {c:hT} (h:c.Good):(aa.new c).In 0:=⟨aa.qR h.aO h.tick h.iq.2,bA.new c⟩
theorem NM (z:List Int) (h:sb z) (w:ab):Calls au 7 #[sc z] w λe w'=>∃L:bu,e=aK (aX L.b)∧ax w (λ_=>False) L (aa.new (nV z)) w':=by
 obtain⟨V,p⟩:=aW (w.alloc (av #[I .u16 (a_ z 0),I .u16 (a_ z 1),I .u16 (a_ z 2),I .u16 (a_ z 3),I .u16 (a_ z 4)] 23));have a:ak V w.heap.size #[I .u16 (a_ z 0),I .u16 (a_ z 1),I .u16 (a_ z 2),I .u16 (a_ z 3),I .u16 (a_ z 4)] 23:=p▸ak.new _ _ _;have q:=C (show Below w.heap.size w V from p▸bx _ _);have r:=C p;have x:=h.at_ 0;have y:=h.at_ 1;have A:=h.at_ 2;have B:=h.at_ 3;have D:=h.at_ 4;have l:=C (DK (nV z) h.rt V);unfold qm nV at l;dsimp only at l;obtain⟨n,c⟩:=aW (a_ z 0);obtain⟨s,d⟩:=aW (a_ z 1);obtain⟨t,f⟩:=aW (a_ z 2);obtain⟨u,g⟩:=aW (a_ z 3);obtain⟨o,j⟩:=aW (a_ z 4);have E:=C (br c (br d (br f (br g j))));unfold sc;rw[c,d,f,g,j] at l r a;rw[c,d,f,g,j];rw[c] at x;rw[d] at y;rw[f] at A;rw[g] at B;rw[j] at D;rw[show(((1+(n%8).toNat:Nat)):Int)=1+n%8 by omega,show(((1+o.toNat:Nat)):Int)=1+o by omega] at l;have N:=a.cell 0 (v:=I .u16 n) rfl;have O:=a.cell 1 (v:=I .u16 s) rfl;have P:=a.cell 2 (v:=I .u16 t) rfl;have Q:=a.cell 3 (v:=I .u16 u) rfl;have R:=a.cell 4 (v:=I .u16 o) rfl;go_enter func7,ntmps7;go_upto_region 1 with fail;rw[r.out];go_wp2_with fail;refine l.mono ?_;rintro e S ⟨L,rfl,F⟩;generalize G:aX L.b=T;have H:=C G;go_wp2_with fail;go_ret;refine⟨L,by rw[H.out];rfl,?_⟩;obtain⟨J,K,h⟩:=F;obtain⟨c,d,f,g,j⟩:=E;have M:nV z=⟨1+(n%8).toNat,1+s,t,u,1+o.toNat⟩:=by unfold nV;rw[c,d,f,g,j]
 rw[M];exact⟨(zF9 q).trans J (λi _ m=>m),K,h.mono (λk m=>m.elim .inl (λm=>.inr (cA q.size m)))⟩
def uU:aa:=(fm q_ (aa.new mK)).2
def pv:List (Int×Int):=(fm q_ (aa.new mK)).1
theorem NN:uQ uU 1=10:=by decide+kernel
theorem NO:uU.book.tasks 1=10:=GN
theorem uV {x:Int} (h:(pv.map (·.1))[j]?=R x):∃y,pv[j]?=R (x,y):=by rw[dD] at h;obtain⟨⟨a,b⟩,c,rfl⟩:=h9.1 h;exact⟨b,c⟩
theorem yn:mK.Good:=⟨by decide,by decide,by decide,by decide,by decide⟩
theorem DL:∀e∈oI,nf (er e):=by intro e a;unfold oI at a;simp only[gZ,List.not_mem_nil,or_false] at a;rcases a with rfl|rfl|rfl|rfl|rfl|rfl|rfl<;>(unfold nf er;dsimp only;omega)
theorem NP:bh (str oH)=oH:=by kernel_rfl
theorem NQ (w:ab) (c:fh w):Calls au 29 #[.string (str oH)] w λe w'=>∃a cap,e=aK (bC #[ay a 7 cap,I J 0,I J 0])∧Own jf w' w.heap.size 33 (ay a 7 cap) 7 oI∧Below w.heap.size w w':=by
 have d:(str oH).size<=100000000:=by
  have:(str oH).size=84:=by kernel_rfl
  omega
 refine(FC (str oH) w c d).mono ?_;rintro e w' ⟨v,rfl,b,f⟩;rw[NP,GO] at*;obtain⟨a,cap,rfl⟩:=b.mV;exact⟨a,cap,rfl,b,f⟩
theorem DM (w:ab) (z:fh w):Calls au 13 #[] w λe w'=>e=aK (aD true)∧Below w.heap.size w w':=by
 have A:=C (NQ w z);have l:=C (λ(W:ab)=>DK mK yn W);unfold qm mK at l;dsimp only at l;go_enter func13,ntmps13;go_wp2_with fail;refine A.mono ?_;rintro e m ⟨B,D,rfl,E,F⟩;go_wp2_with fail;refine(l m).mono ?_;rintro e G ⟨L,rfl,H⟩;have K:=C (show ax m (λ_=>False) L (aa.new mK) G from H);have n:=Nk oI (ay B 7 D) w.heap.size DL (by decide) E K (ym yn) (by omega);unfold aX at n;obtain⟨aG,s⟩:=aW L.b;unfold aX;rw[s] at n;simp only[s];have M:=C n;go_wp2_with fail;refine M.mono ?_;rintro e a ⟨N,rfl,t,O,P,u⟩;rw[Av] at t u;have c:Own qk a 0 29 N 7 pv:=t;obtain⟨f,aL,rfl,af⟩:=c.form (by omega);have o:uU.Ok 7:=by have v:=uN (oI.map er) (aa.new mK) 0 (ym yn) (by decide) (λe Q=>by obtain⟨y,S,rfl⟩:=eY.1 Q;exact DL y S);rw[Av] at v;exact v.ok
 have g:ax m (λ_=>False) O uU a:=u;have h:=GM;obtain⟨ae,T⟩:=uV (j:=3) (x:=0) (by unfold pv;rw[h];rfl);obtain⟨am,V⟩:=uV (j:=4) (x:=1) (by unfold pv;rw[h];rfl);obtain⟨aN,X⟩:=uV (j:=5) (x:=0) (by unfold pv;rw[h];rfl);obtain⟨aj,Y⟩:=uV (j:=6) (x:=1) (by unfold pv;rw[h];rfl);have ap:a.cell? ⟨f,6,U⟩=R (I J 0):=c.at_ T (q:=0) rfl;have aQ:a.cell? ⟨f,8,U⟩=R (I J 1):=c.at_ V (q:=0) rfl;have ah:a.cell? ⟨f,10,U⟩=R (I J 0):=c.at_ X (q:=0) rfl;have aR:a.cell? ⟨f,12,U⟩=R (I J 1):=c.at_ Y (q:=0) rfl;have d:=Nw 1 g o;unfold uR at d;rw[NN] at d;have k:=λ(Z:ab) (aq:Below a.heap.size a Z)=>uP 1 (g.next aq) o;obtain⟨aS,aU,aP,aV,aZ,a6,ac⟩:=Nx 1 g o;rw[ac,NO] at k;unfold aX at d k;rw[P] at d k;have az:=C d;have ad:=C k;have p:=C (show Below w.heap.size w a from((zF9 F).trans g.1 (λi _ q=>q)).toBelow);have ak:=Nu;have a7:=Nv;go_wp2_with fail;refine az.mono ?_;rintro e aB ⟨rfl,r⟩;go_wp2_with fail;refine(ad aB r).mono ?_;rintro e a8 ⟨rfl,aA⟩;go_wp2_with fail;go_ret;exact⟨rfl,(p.trans (r.mono p.size)).trans (aA.mono (cA p.size r.size))⟩
variable {zs:List Int}
def pw (zs:List bQ) (c:hT) (i:Nat):aa:=(fm ((zs.take i).map er) (aa.new c)).2
section
variable {zs:List bQ} {c:hT} {i:Nat} {x:bQ}
theorem NR (h:∀e∈zs,e.Ok):∀e∈(zs.take i).map er,nf e:=λe a=>by obtain⟨y,b,rfl⟩:=eY.1 a;have:=(h y (List.mem_of_mem_take b)).s;exact⟨by show(0:Int)<=(y.s:Int);omega,by show(y.s:Int)<_;omega⟩
theorem NS (h:∀e∈zs,e.Ok) (a:zs[i]?=R x):nf (er x):=by have:=(h x (ea a)).s;exact⟨by show(0:Int)<=(x.s:Int);omega,by show(x.s:Int)<_;omega⟩
theorem NT (a:c.Good) (h:∀e∈zs,e.Ok) (b:i<=1000):(pw zs c i).In ((zs.take i).map er).length:=by have:=uN ((zs.take i).map er) (aa.new c) 0 (ym a) (by rw[dY,iG];omega) (NR h);rw[lZ] at this;exact this
theorem NU:((zs.take i).map er).length<=i:=by rw[dY,iG];omega
theorem NV (a:zs[i]?=R x):pw zs c (i+1)=((pw zs c i).dP (er x)).1:=by unfold pw;rw[DE a]
theorem DN {len:Nat} (h:yo w a len cap zs) (l:Mod (λ_=>False) w W) (g:zs[i]?=R x):∃c d,a=R ⟨c,d,U⟩∧W.cell? ⟨c,d+i*6,U⟩=R (I J x.k)∧W.cell? ⟨c,d+i*6+1,U⟩=R (I J x.a)∧W.cell? ⟨c,d+i*6+2,U⟩=R (I J x.b)∧W.cell? ⟨c,d+i*6+3,U⟩=R (I J x.n)∧W.cell? ⟨c,d+i*6+4,U⟩=R (I J x.m)∧W.cell? ⟨c,d+i*6+5,U⟩=R (I ah (x.s:Int)):=by obtain⟨_,_,j,_⟩:=h;have r:=(bD.1 g).1;have t:=j.1;obtain⟨c,d,rfl,o,p⟩:=j.cells (by omega);have k:∀(f:Nat) (u:Value),(jf.e x)[f]?=R u->W.cell? ⟨c,d+(i*6+f),U⟩=R u:=λf u q=>l.cell (p i x g f u q) o id;exact⟨c,d,rfl,k 0 _ rfl,k 1 _ rfl,k 2 _ rfl,k 3 _ rfl,k 4 _ rfl,k 5 _ rfl⟩
end
structure Twin (V:ab) (bH eW:Nat->Prop) (PO P9:bu) (s1 s2:aa) (W:ab):Prop where
 a:ax W bH PO s1 W
 b:ax W eW P9 s2 W
 PR:∀k,bH k->V.heap.size<=k∧k<W.heap.size
 PS:∀k,eW k->V.heap.size<=k∧k<W.heap.size
 ap:∀k,bH k->¬eW k
 m:Mod (λ_=>False) V W
section
variable {V W W' fe aN:ab} {bH eW:Nat->Prop} {PO P9 pk:bu} {s1 s2 lf:aa}
theorem Twin.swap (h:Twin V bH eW PO P9 s1 s2 W):Twin V eW bH P9 PO s2 s1 W:=⟨h.b,h.a,h.PS,h.PR,λk p q=>h.ap k q p,h.m⟩
theorem Twin.nz (h:Twin V bH eW PO P9 s1 s2 W) (j:ax W bH pk lf W'):∃s,Twin V s eW pk P9 lf s2 W':=by
 have u:=h.m.size;have g:=j.1;have v:=g.size;obtain⟨T,l,t,_⟩:=j.nS (Below.refl _ _);have n:∀k,T k->bH k∨W.heap.size<=k:=λk a=>(l k a).2;obtain⟨_,tag,o⟩:=h.b;have q:∀k,k<W.heap.size->tag k≠ .no->eW k:=λk d e=>(o.own k d e).elim id (λa=>by omega);refine⟨T,t,hZ.start (tag:=fQ W tag .no) ⟨λa=>?_,λk d e=>?_⟩,λk a=>⟨?_,(l k a).1⟩,λk a=>⟨(h.PS k a).1,by have:=(h.PS k a).2;omega⟩,λk p a=>?_,h.m.trans g (λi w a=>by have:=(h.PR i a).1;omega)⟩
 ·by_cases r:a= .no;·subst r;trivial
  ·refine(o.part a).frame g (λk e f=>?_) (λk d e=>by unfold fQ;rw[aj d];exact e);exact h.ap k f (q k (h.PR k f).2 (λc=>r (e.symm.trans c)))
 ·unfold fQ at e;split at e;·rename_i a;exact q k a e
  ·exact absurd rfl e
 ·rcases n k a with a|a;·exact(h.PR k a).1
  ·omega
 ·rcases n k p with p|p;·exact h.ap k p a
  ·have:=(h.PS k a).2;omega
theorem Twin.start (b:ax V (λ_=>False) PO s1 fe) (c:ax fe (λ_=>False) P9 s2 aN):∃bH eW,Twin V bH eW PO P9 s1 s2 aN:=by
 have f:=c.1.toBelow;have m:=b.1.size;have n:=f.size;obtain⟨g,d,h,_⟩:=b.nS f;obtain⟨j,e,l,_⟩:=c.nS (Below.refl _ _);refine⟨g,j,h,l,λk a=>⟨?_,by have:=(d k a).1;omega⟩,λk a=>⟨?_,(e k a).1⟩,λk p a=>?_,b.1.trans c.1 (λi _ a=>a)⟩;·exact(d k a).2.elim (λa=>a.elim) id
 ·have:=(e k a).2.elim (λa=>a.elim) id;omega
 ·have:=(d k p).1;have:=(e k a).2.elim (λa=>a.elim) id;omega
end
variable {ar:Array Value} {gp:Int->Nat}
def PT (s:aa) (t:ex):List aI->Int×Bool
 |[]=>(0,false)
 |x::l=>if x.id=2*t.h.idx then((kT x.v (s.least t t.p)).1,true) else PT s t l
def aa.behind (s:aa) (n:Int):Int×Bool:=match s.task n with
 |none=>(0,false)
 |some t=>if t.on=true then PT s t ((s.aY t.p).queue (s.aw t.g).h.idx) else(0,false)
section
variable {ao w:ab} {S:Nat->Prop} {L:bu} {s:aa} {k:Nat}
theorem PU (S:Nat->Prop) (b:Nat) (h:ad) (g:Int) (w:ab) (H:cO w S b h) (hk:h.Ok):Calls au 34 #[af (R ⟨b,0,U⟩),I J g] w (BA (h.queue g) w):=by
 obtain⟨gp,ai,H⟩:=H.start;have d:=C (oT g H hk.len);cases a:h.at g with
 |none=>
  have c:h.queue g=[]:=by unfold ad.queue;rw[a]
  rw[wd a] at d;rw[c];clear H hk a c;go_enter func34,ntmps34;go_wp2_with fail;refine d.out.mono ?_;rintro e f ⟨rfl,rfl⟩;go_wp2_with fail;go_ret;exact⟨_,rfl,Own.nil _ _ _,Below.refl _ _⟩
 |some x=>
  have c:h.queue g=x.q.es:=by unfold ad.queue;rw[a]
  rw[j3 a] at d;have k:=C (H.rK a (hk.g.q g x a));have n:=(H.cp a).cell 2 (v:=af (R ⟨ai g,0,U⟩)) rfl;rw[c];clear H hk a c;go_enter func34,ntmps34;go_wp2_with fail;refine d.out.mono ?_;rintro e f ⟨rfl,rfl⟩;go_wp2_with fail;refine k.out.mono ?_;rintro e f ⟨v,rfl,i,j⟩;have l:=C i;have m:=C j;clear i j;go_wp2_with fail;go_ret;exact⟨v,rfl,l.out,m.out⟩
theorem PV (n:Int) (H:ax ao S L s w) (hk:s.Ok k):Calls au 16 #[aX L.b,I J n] w λe w'=>e=aK (bC #[I J (s.behind n).1,aD (s.behind n).2])∧Below w.heap.size w w':=by
 have l:=C (tA n H);have cf:=C H;have cg:=C hk;unfold aX at*;obtain⟨cj,q⟩:∃b,L.b=b:=⟨_,rfl⟩;have ca:=C q;rw[q] at l⊢;cases d:s.task n with
 |none=>rw[Nn d] at l;have E:=C (show s.behind n=(0,false) by unfold aa.behind;rw[d]);rw[E.out];clear H hk q d;go_enter func16,ntmps16;go_wp2_with fail;refine l.out.mono ?_;rintro e bt ⟨rfl,rfl⟩;go_wp2_with fail;go_ret2;exact⟨rfl,Below.refl _ _⟩
 |some t=>
  rw[No d] at l;have cm:=C d;cases K:t.on with
  |false=>have E:=C (show s.behind n=(0,false) by unfold aa.behind;rw[d];dsimp only;rw[z0 (by rw[K];decide)]);rw[E.out];obtain⟨ai,f,aS⟩:=aa.oE d;obtain⟨aU,bw,a0,M,N,O,bz,a2,a3,a4,a5,bF,a9,aC,bI⟩:=H.en f rfl;rw[K] at M;clear H hk q d;go_enter func16,ntmps16;go_wp2_with fail;refine l.out.mono ?_;rintro e bt ⟨rfl,P⟩;obtain rfl:=P.symm;clear P;go_wp2_with fail;go_ret2;exact⟨rfl,Below.refl _ _⟩
  |true=>obtain⟨ai,f,aS⟩:=aa.oE d;have cn:=(hk.task _ t f).p;have b8:=hk;obtain⟨i,ac⟩:∃i:Nat,t.p=(i:Int):=⟨t.p.toNat,by omega⟩;have az:i<s.c.aO:=(by omega);obtain⟨g,cap,cr,ad,aB⟩:=H.BL hk az;have aA:=hk.ep (p:=(i:Int)) (by omega) (by omega);rw[bZ] at aA;obtain⟨T,bL⟩:=H.drew.aY aA;have aG:=C (PU T (L.hk i) (s.aY i) (s.aw t.g).h.idx w.drew bL (hk.aY i _ aA).1);obtain⟨a,aP⟩:∃x,(s.aY (i:Int)).queue (s.aw t.g).h.idx=x:=⟨_,rfl⟩;have E:=C (show s.behind n=PT s t a by unfold aa.behind;rw[d];dsimp only;rw[if_pos K,ac,aP]);rw[E.out];obtain⟨r,aV⟩:∃r,PT s t a=r:=⟨_,rfl⟩;rw[aV];have bB:=C aV;rw[aP] at aG;have Q:=C (λ(W':ab) (x o:Nat) (bd:Value) (z:Below w.drew.heap.size w.drew W') (be:w.cell? ⟨x,o,U⟩=R bd)=>show W'.cell? ⟨x,o,U⟩=R bd from(Mod.below (S:=λ_=>False) z).cell (b2 be) (ir be) id);have bN:=C (show Below w.heap.size w w.drew from(Below.refl _ _).drew);have aL:=C (λ(W:ab) (z:Below w.heap.size w W)=>(BN f i az (H.next z) hk).mono (λe w' F=>(⟨F.1,by obtain⟨_,nq,ae⟩:=F;rw[ae];exact below_drewN (Below.refl _ _) nq⟩:e=aK (I J (s.least t i))∧Below W.heap.size W w')));unfold aX at aL;rw[q] at aL;have bS:=C (λ(W:ab) (z:Below w.heap.size w W)=>(H.next z).en f rfl);obtain⟨bW,cu⟩:=hk.sS f aS;obtain⟨aU,bw,a0,M,N,O,bz,a2,a3,a4,a5,bF,a9,aC,bI⟩:=H.en f rfl;have am:=(H.aw (hk.jz f)).cell 1 (v:=I J (s.aw t.g).h.idx) rfl;rw[K] at M;rw[ac] at N;obtain⟨m,aM⟩:∃m,s.c.aO=m:=⟨_,rfl⟩;rw[aM] at aB az;have dA:(i:Int)<(m:Int):=(by omega);have dF:(i:Int).toNat=i:=(by omega);have bn:(0:Int)<=(i:Int):=(by omega);have bi:=C ac;obtain⟨z,bT⟩:∃x,L.hk i=x:=⟨_,rfl⟩;rw[bT] at ad aG;unfold aX at ad;rw[q] at aB;obtain⟨X,bX⟩:∃b,L.tk n.toNat=b:=⟨_,rfl⟩;rw[bX] at aL bS aU M N O l;obtain⟨bV,b1⟩:∃b,L.gk t.g=b:=⟨_,rfl⟩;rw[b1] at O am;obtain⟨cB,al⟩:∃x,(s.aw t.g).h.idx=x:=⟨_,rfl⟩;rw[al] at am aG;obtain⟨aZ,a6⟩:∃x,t.h.idx=x:=⟨_,rfl⟩;have a7:=C a6;rw[a6] at bW cu;clear H hk q cf cg cm d ai f aS cn b8 cr aA bL aP aV E aU bw a0 bz a2 a3 a4 a5 bF a9 aC bI K ac aM bT bX b1 al a6 az;go_enter func16,ntmps16;go_wp2_with fail;refine l.out.mono ?_;rintro e bt ⟨rfl,P⟩;obtain rfl:=P.symm;clear P;go_upto_region 4 with fail;go_region_held3 (λW'=>W'.cell? ⟨cj,105,U⟩=R (ay (R ⟨g,0,U⟩) m cap)∧W'.cell? ⟨g,i,U⟩=R (af (R ⟨z,0,U⟩))∧W'.cell? ⟨X,4,U⟩=R (I J (i:Int))∧W'.cell? ⟨X,5,U⟩=R (af (R ⟨bV,0,U⟩))∧W'.cell? ⟨bV,1,U⟩=R (I J cB)) ((refine⟨?_,?_,?_,?_,?_⟩)<;>(repeat(first|(with_reducible assumption)|(with_reducible refine b2 ?_)))) (first|(go_at_call 34;refine aG.out.mono ?_;rintro e A ⟨v,rfl,a8,B⟩;obtain⟨_,dG,dH,rfl,cG,b3,_⟩:=a8.rd;have cJ:=C (show a.length<=9223372036854775807 by unfold maxLen at b3;omega);have bk:=Q.out A _ _ _ B aB;have b_:=Q.out A _ _ _ B ad;have cq:=Q.out A _ _ _ B N;have cM:=Q.out A _ _ _ B O;have ar:=Q.out A _ _ _ B am;have ba:=C a8;have b6:=C (bN.out.trans (B.mono bN.out.size));clear B a8 cG b3 ad aB N O am));all_goals
   clear b_ bk cq cM ar;go_wp2_with fail;go_loopw [43] (λu W=>∃j:Nat,j<=a.length∧u=I J (j:Int)∧Below A.heap.size A W∧PT s t (a.drop j)=r) (λu _=>a.length-(intOf u).toNat);case atStart=>exact⟨0,by omega,rfl,Below.refl _ _,by rw[List.drop_zero];exact bB.out⟩
   case round=>
    obtain⟨j,dI,rfl,Y,D⟩:=hrel;have bR:=C Y;have bb:=C (b6.out.trans (Y.mono b6.out.size));have dB:=cJ.out;by_cases bs:j<a.length
    ·obtain⟨x,ag,b9⟩:∃x,a[j]?=R x∧a.drop j=x::a.drop (j+1):=⟨a[j],b5 bs,px bs⟩;rw[b9] at D;obtain⟨bf,dT,a_,_⟩:=ba.out.form (by omega);injection a_ with cW dU c8
     subst cW;subst c8;have Z:=C (λ(F:Nat) (u:Value) (ae:(rJ.e x)[F]?=R u)=>show wr.cell? ⟨bf,j*4+F,U⟩=R u from(Y.cell (p:=⟨bf,j*4+F,U⟩) (ir (ba.out.at_ ag ae))).trans (ba.out.at_ ag ae));have c_:wr.cell? ⟨bf,j*4,U⟩=R (I J x.id):=Z.out 0 _ rfl;have da:=Z.out 1 (I ah (x.wt:Int)) rfl;have aI:=Z.out 2 (I J x.v) rfl;have cZ:=Z.out 3 (I ah (x.rem:Int)) rfl;have de:(j:Int)<(a.length:Int):=(by omega);have ce:(0:Int)<=(j:Int):=(by omega);have dV:(j:Int).toNat=j:=(by omega);have bv:=C D;clear Y ag b9 D;go_upto_region 7 with fail;obtain⟨V,aN⟩:∃V,wr.alloc (av #[I J x.id,I ah (x.wt:Int),I J x.v,I ah (x.rem:Int)] 79)=V:=⟨_,rfl⟩;rw[aN];have bc:Below wr.heap.size wr V:=aN▸bx _ _;have bg:ak V wr.heap.size #[I J x.id,I ah (x.wt:Int),I J x.v,I ah (x.rem:Int)] 79:=aN▸ak.new _ _ _;have bj:=bb.out.trans (bc.mono bb.out.size);have bh:=bg.cell 0 (v:=I J x.id) rfl;have aj:=bg.cell 2 (v:=I J x.v) rfl;obtain⟨bG,_,_,_,ap,_⟩:=bS.out V bj;rw[a7.out] at bG;rw[bi.out] at ap;have df:=C (bR.out.trans (bc.mono bR.out.size));have an:=C bj;obtain⟨bl,bo⟩:∃y,wr.heap.size=y:=⟨_,rfl⟩;rw[bo] at bh aj;simp only[bo];clear aN bc bg bj bo c_ da aI cZ Z M;by_cases G:x.id=2*aZ;·have D:(x.id==2*aZ)=true:=(by simp[G]);have aq:=C (show r=((kT x.v (s.least t (i:Int))).1,true) by rw[<-bv.out];show(if x.id=2*t.h.idx then((kT x.v (s.least t t.p)).1,true) else _)=_;rw[if_pos (by rw[a7.out];exact G),bi.out]);clear G;go_region;have a1:=C (aL.out V.drew.drew an.out.drew.drew);go_wp2_with fail;go_region_held3 (λW'=>W'.cell? ⟨bl,2,U⟩=R (I J x.v)∧W'.cell? ⟨X,4,U⟩=R (I J (i:Int))) ((refine⟨?_,?_⟩)<;>(repeat(first|(with_reducible assumption)|(with_reducible refine b2 ?_)))) (first|(go_at_call 36;refine a1.out.mono ?_;rintro e bu ⟨rfl,aQ⟩;have bm:=(aQ.cell (p:=⟨bl,2,U⟩) (ir (b2 (b2 aj)))).trans (b2 (b2 aj));have bq:=(aQ.cell (p:=⟨X,4,U⟩) (ir (b2 (b2 ap)))).trans (b2 (b2 ap));have cc:=C (an.out.drew.drew.trans (aQ.mono an.out.drew.drew.size));clear a1 aQ aj ap)|(go_at_call 35;refine(HS _ _ _).mono ?_;rintro e eo ⟨rfl,aR⟩;have ci:=(aR.cell (p:=⟨bl,2,U⟩) (ir bm)).trans bm;have eu:=(aR.cell (p:=⟨X,4,U⟩) (ir bq)).trans bq;have di:=C (cc.out.trans (aR.mono cc.out.size));clear aR bm bq));all_goals
      go_wp2_with fail;go_ret2;refine⟨?_,?_⟩;·rw[aq.out];rfl
      ·exact di.out
     ·have D:(x.id==2*aZ)=false:=(by simp[G]);have aq:=C (show PT s t (a.drop (j+1))=r by rw[<-bv.out];show _=(if x.id=2*t.h.idx then((kT x.v (s.least t t.p)).1,true) else _);rw[z0 (by rw[a7.out];exact G)]);clear G;go_region;go_wp2_with fail;go_roundw;case rel=>exact⟨j+1,by omega,by go_num,below_drewN df.out 1,aq.out⟩
      case measure=>simp[intOf];omega
    ·obtain rfl:j=a.length:=by omega
     have de:¬(a.length:Int)<(a.length:Int):=(by omega);have aq:=C (show r=(0,false) by rw[<-D,List.drop_length];rfl);clear D Y;go_wp2_with fail;go_ret2;refine⟨?_,bb.out⟩;rw[aq.out];rfl
end
variable {aE:Value}
theorem PZ (s:aa) (n:Int):∃a v1 b c d e f:Int,ll s n=#[I J a,I J v1,I J b,I J c,I ah d,I ah e,I J f]:=by
 unfold ll;cases s.task n with
 |none=>exact⟨_,_,_,_,_,_,_,rfl⟩
 |some t=>exact⟨_,_,_,_,_,_,_,rfl⟩
theorem P2 (s:aa) (n:Int):∃(b:Bool) (v1 a c d e f g:Int),uR s n=#[aD b,I J v1,I ah a,I J c,I J d,I J e,I J f,I ah g]:=⟨_,_,_,_,_,_,_,_,rfl⟩
theorem P5 {i d:ab} {L:bu} {s:aa} {k a f g:Nat} (j:L.b=a) (l:s.tasks.length=f) (m:s.groups.length=g) (h:ax i S L s d) (hk:s.Ok k) (o:Below d.heap.size d W):Calls au 9 #[af (R ⟨a,0,U⟩)] W (λe w'=>e=aK (I J (f:Int))∧w'=W)∧Calls au 11 #[af (R ⟨a,0,U⟩)] W (λe w'=>e=aK (I J (g:Int))∧w'=W)∧(∀n:Int,Calls au 16 #[af (R ⟨a,0,U⟩),I J n] W λe w'=>e=aK (bC #[I J (s.behind n).1,aD (s.behind n).2])∧Below W.heap.size W w')∧(∀n:Int,Calls au 10 #[af (R ⟨a,0,U⟩),I J n] W λe w'=>e=aK (bk (ll s n))∧Below W.heap.size W w')∧(∀n:Int,Calls au 12 #[af (R ⟨a,0,U⟩),I J n] W λe w'=>e=aK (bk (uR s n))∧Below W.heap.size W w')∧(∀p:Int,Calls au 17 #[af (R ⟨a,0,U⟩),I J p] W λe w'=>e=aK (I J (s.running p))∧Below W.heap.size W w'):=by subst j l m;have c:=h.next o;exact⟨BJ c,Pg c,λn=>PV n c hk,λn=>uP n c hk,λn=>Nw n c hk,λp=>o0 p c hk⟩
theorem topRefused_any (z:List Int) (aj:sb z) (a:Option Addr) (len cap:Nat) (zs:List bQ) (w:ab) (bb:yo w a len cap zs) (bV:fh w):Calls au 6 #[sc z,ay a len cap] w λe w'=>e=aK (aD true)∧Below w.heap.size w w':=by
 obtain⟨V,ap⟩:∃V,w.alloc (av #[I .u16 (a_ z 0),I .u16 (a_ z 1),I .u16 (a_ z 2),I .u16 (a_ z 3),I .u16 (a_ z 4)] 23)=V:=⟨_,rfl⟩;have t:ak V w.heap.size #[I .u16 (a_ z 0),I .u16 (a_ z 1),I .u16 (a_ z 2),I .u16 (a_ z 3),I .u16 (a_ z 4)] 23:=ap▸ak.new _ _ _;have ag:=C (show Below w.heap.size w V from ap▸bx _ _);have b1:=C ap;have Y:=C (λW=>NM z aj W);have bf:=C aj.rt;have al:=C (aj.at_ 0);unfold sc at*;obtain⟨D,bc⟩:∃x,a_ z 0=x:=⟨_,rfl⟩;obtain⟨b3,b6⟩:∃x,a_ z 1=x:=⟨_,rfl⟩;obtain⟨bR,aQ⟩:∃x,a_ z 2=x:=⟨_,rfl⟩;obtain⟨bs,b9⟩:∃x,a_ z 3=x:=⟨_,rfl⟩;obtain⟨aY,bv⟩:∃x,a_ z 4=x:=⟨_,rfl⟩;rw[bc,b6,aQ,b9,bv] at Y b1 t⊢;rw[bc] at al;obtain⟨c,a1⟩:∃c,nV z=c:=⟨_,rfl⟩;rw[a1] at Y bf;have bg:=t.cell 0 (v:=I .u16 D) rfl;have ey:=t.cell 1 (v:=I .u16 b3) rfl;have co:=t.cell 2 (v:=I .u16 bR) rfl;have eG:=t.cell 3 (v:=I .u16 bs) rfl;have eH:=t.cell 4 (v:=I .u16 aY) rfl;have cc:=C t;have Z:=C bb;have eI:=C (bb.2.2.1.1);have cs:=C bV;clear ap t aj bc b6 aQ b9 bv a1 bb bV;go_enter func6,ntmps6;go_upto_region 1 with fail;rw[b1.out];go_wp2_with fail;refine(Y.out V).mono ?_;rintro e bj ⟨an,rfl,aw⟩;have cf:=C (show ax V (λ_=>False) an (pw zs c 0) bj from aw);have N:=cc.out.mod aw.1 id;have bl:=N.cell 0 (v:=I .u16 D) rfl;have bo:=N.cell 1 (v:=I .u16 b3) rfl;have bm:=N.cell 2 (v:=I .u16 bR) rfl;have bq:=N.cell 3 (v:=I .u16 bs) rfl;have bt:=N.cell 4 (v:=I .u16 aY) rfl;obtain⟨cg,ai⟩:∃x,an.b=x:=⟨_,rfl⟩;unfold aX;simp only[ai];have cj:=C ai;clear aw N ai bg ey co eG eH;go_wp2_with fail;refine(Y.out bj).mono ?_;rintro e o ⟨bw,rfl,cm⟩;obtain⟨eT,eU,aq⟩:=Twin.start cf.out (show ax bj (λ_=>False) bw (pw zs c 0) o from cm);have cn:=C aq;obtain⟨b8,a0⟩:∃x,bw.b=x:=⟨_,rfl⟩;unfold aX;simp only[a0];have cr:=C a0;clear cm aq a0 bl bo bm bq bt;go_wp2_with fail;go_loopw [7] (λu7 W=>∃i:Nat,i<=len∧i<=100∧u7=I J (i:Int)∧∃(bz O:Nat->Prop) (aR ac:bu),aR.b=cg∧ac.b=b8∧Twin V bz O aR ac (pw zs c i) (pw zs c i) W) (λu7 _=>100-(intOf u7).toNat);case atStart=>exact⟨0,by omega,by omega,rfl,eT,eU,an,bw,cj.out,cr.out,cn.out⟩
 case round=>
  obtain⟨i,gH,gI,rfl,bz,O,aR,ac,bB,bW,aq⟩:=hrel;have aS:=C bB;have az:=C bW;have h:=C aq;clear bB bW aq cn cf Y;by_cases cv:i<len∧i<100
  ·obtain⟨eW,gV⟩:=cv;obtain⟨x,aU⟩:∃x,zs[i]?=R x:=⟨_,b5 (by rw[eI.out];exact eW)⟩;have cu:=C aU;have q:=NT (i:=i) bf.out Z.out.2.2.2 (by omega);have ad:=NU (zs:=zs) (i:=i);have cB:=NS Z.out.2.2.2 aU;have aB:=C (NV (c:=c) aU);obtain⟨s,aA⟩:∃y,pw zs c i=y:=⟨_,rfl⟩;rw[aA] at q aB h;obtain⟨k,aG⟩:∃y,((zs.take i).map er).length=y:=⟨_,rfl⟩;rw[aG] at q ad;obtain⟨f,aP⟩:∃f,s.dP (er x)=f:=⟨_,rfl⟩;rw[aP] at aB;have bA:=C (show f.2.2≠0->f.1=s fromλP=>by rw[<-aP] at P⊢;exact aa.GI P);have cG:=C (λ(L:bu) (cJ:Nat) (e2:L.b=cJ) (b_ W:ab) (S:Nat->Prop) (e3:ax b_ S L s W)=>show Calls au 8 #[af (R ⟨cJ,0,U⟩),bk #[I J x.k,I J x.a,I J x.b,I J x.n,I J x.m,I ah (x.s:Int)]] W (sa b_ S L f) from by have P:=DB (er x) cB e3 q (by omega);unfold aX at P;rw[e2,aP] at P;exact P);have gW:(i:Int)<(len:Int):=(by omega);have c0:(i:Int)<100:=(by omega);have bM:(0:Int)<=(i:Int):=(by omega);have c2:(i:Int).toNat=i:=(by omega);have cq:Mod (λ_=>False) w wr:=(Mod.below (S:=λ_=>False) ag.out).trans h.out.m (λi _ r=>r);obtain⟨c3,c4,rfl,bl,bo,bm,bq,bt,fe⟩:=DN Z.out cq cu.out;have bH:=C (cG.out aR cg aS.out wr wr bz h.out.a);have c5:=C (λr=>(by have:=(h.out.PS _ r).2;omega):¬O wr.heap.size);clear aU q cB ad aA aG aP cq;go_wp2_with fail;refine bH.out.mono ?_;rintro e E ⟨rfl,cM,ar,cW⟩;have c8:=C (ar.trans aS.out);have c_:=C cW;clear ar cW bl bo bm bq bt fe;go_upto_region 9 with fail;obtain⟨F,aV⟩:∃F,E.alloc (av #[I J f.2.1,I J f.2.2] 29)=F:=⟨_,rfl⟩;rw[aV];have u:Below E.heap.size E F:=aV▸bx _ _;have aZ:ak F E.heap.size #[I J f.2.1,I J f.2.2] 29:=aV▸ak.new _ _ _;obtain⟨da,a2⟩:=h.out.nz (c_.out.next u);have a6:=C a2;have aI:=C aZ;have cZ:=C (λr=>(by have bU:=(h.out.PS _ r).2;have d:=c_.out.1.size;omega):¬O E.heap.size);have de:Mod (λ_=>False) w F:=(Mod.below (S:=λ_=>False) ag.out).trans a2.m (λi _ r=>r);obtain⟨h3,h4,aQ,bh,bG,df,di,ca,dA⟩:=DN Z.out de cu.out;cases aQ;have a3:=aZ.cell 0 (v:=I J f.2.1) rfl;have a4:=aZ.cell 1 (v:=I J f.2.2) rfl;obtain⟨c9,a5⟩:∃y,E.heap.size=y:=⟨_,rfl⟩;rw[a5] at a3 a4 aI cZ;simp only[a5];clear aV u aZ a2 de a5;by_cases aL:f.2.2=0
   ·have dF:(f.2.2==0)=true:=(by simp[aL]);have bC:=C (cG.out ac b8 az.out F F O a6.out.b);clear aL;go_wp2_with fail;refine bC.out.mono ?_;rintro e ae ⟨rfl,fG,bn,dG⟩;have fH:=C (bn.trans az.out);have dH:=C dG;clear bn dG bh bG df di ca dA a3 a4 dF;go_upto_region 11 with fail;obtain⟨a7,a8⟩:∃a7,ae.alloc (av #[I J f.2.1,I J f.2.2] 29)=a7:=⟨_,rfl⟩;rw[a8];have bF:Below ae.heap.size ae a7:=a8▸bx _ _;have aO:ak a7 ae.heap.size #[I J f.2.1,I J f.2.2] 29:=a8▸ak.new _ _ _;obtain⟨fI,dI⟩:=a6.out.swap.nz (dH.out.next bF);have fJ:=C dI.swap;have a9:=(aI.out.mod dH.out.1 cZ.out).next bF;have a3:=a9.cell 0 (v:=I J f.2.1) rfl;have a4:=a9.cell 1 (v:=I J f.2.2) rfl;have cF:=aO.cell 0 (v:=I J f.2.1) rfl;have fK:=aO.cell 1 (v:=I J f.2.2) rfl;obtain⟨h5,aC⟩:∃y,ae.heap.size=y:=⟨_,rfl⟩;rw[aC] at cF fK;simp only[aC];clear a8 bF aO dI a9 aC;go_wp2_with fail;go_roundw;case rel=>exact⟨i+1,by omega,by omega,by go_num,da,fI,cM,fG,c8.out,fH.out,by rw[aB.out];exact fJ.out⟩
    case measure=>simp[intOf];omega
   ·have dF:(f.2.2==0)=false:=(by simp[aL]);have fR:=C (bA.out aL);rw[fR.out] at a6 aB;clear aL bh bG df di ca dA;go_wp2_with fail;go_roundw;case rel=>exact⟨i+1,by omega,by omega,by go_num,da,O,cM,ac,c8.out,az.out,by rw[aB.out];exact a6.out⟩
    case measure=>simp[intOf];omega
  ·have q:=NT (i:=i) bf.out Z.out.2.2.2 (by omega);have ad:=NU (zs:=zs) (i:=i);obtain⟨s,aA⟩:∃y,pw zs c i=y:=⟨_,rfl⟩;rw[aA] at q h;obtain⟨k,aG⟩:∃y,((zs.take i).map er).length=y:=⟨_,rfl⟩;rw[aG] at q ad;have am:=q.ok;obtain⟨Q,bI⟩:∃y,s.tasks.length=y:=⟨_,rfl⟩;obtain⟨T,bL⟩:∃y,s.groups.length=y:=⟨_,rfl⟩;have db:Q<=1000:=(by have:=am.eJ.1;omega);have iz:T<=1001:=(by have:=am.eJ.2;omega);have j:=C (λW bd=>P5 (W:=W) aS.out bI bL h.out.a am bd);have G:=C (λW bd=>P5 (W:=W) az.out bI bL h.out.b am bd);have be:=C (show Below w.heap.size w wr from((Mod.below (S:=λ_=>False) ag.out).trans h.out.m (λi _ r=>r)).toBelow);have bN:=C ((cc.out.mod h.out.m id).cell 0 (v:=I .u16 D) rfl);have dB:=C (ir bN.out);have bE:(¬(i:Int)<(len:Int))∨((i:Int)<(len:Int)∧¬(i:Int)<100):=(by omega);obtain⟨X,bS⟩:∃y,wr=y:=⟨_,rfl⟩;rw[bS];rw[bS] at j G be bN dB;clear bS q ad aA aG am bI bL h aS az cj cr;rcases bE with dT|dT;all_goals
   (try obtain⟨iA,iB⟩:=dT);go_wp2_with fail;refine(j.out _ (Below.refl _ _)).1.mono ?_;rintro e o ⟨rfl,d⟩;obtain rfl:=d.symm;clear d;go_wp2_with fail;refine(G.out _ (Below.refl _ _)).1.mono ?_;rintro e o ⟨rfl,d⟩;obtain rfl:=d.symm;clear d;go_wp2_with fail;refine(j.out _ (Below.refl _ _)).2.1.mono ?_;rintro e o ⟨rfl,d⟩;obtain rfl:=d.symm;clear d;go_wp2_with fail;refine(G.out _ (Below.refl _ _)).2.1.mono ?_;rintro e o ⟨rfl,d⟩;obtain rfl:=d.symm;clear d;go_wp2_with fail;go_loopw [10] (λu10 W=>∃n:Nat,n<=Q∧u10=I J (n:Int)∧Below X.heap.size X W) (λu10 _=>Q-(intOf u10).toNat);case atStart=>exact⟨0,by omega,rfl,Below.refl _ _⟩
   case round=>
    obtain⟨n,dg,rfl,dU⟩:=hrel;have H:=C dU;clear dU;by_cases iC:n<Q
    ·have aJ:(n:Int)<(Q:Int):=(by omega);obtain⟨fX,v1,fY,dv,fZ,f_,gw,aN⟩:=PZ s (n:Int);have ce:=C aN;clear aN;go_wp2_with fail;refine(j.out _ H.out).1.mono ?_;rintro e o ⟨rfl,d⟩;obtain rfl:=d.symm;clear d;go_wp2_with fail;refine((j.out _ H.out).2.2.1 (n:Int)).mono ?_;rintro e dV ⟨rfl,A⟩;have l:=C (H.out.trans (A.mono H.out.size));clear A;go_wp2_with fail;refine((G.out _ l.out).2.2.1 (n:Int)).mono ?_;rintro e eo ⟨rfl,B⟩;have K:=C (l.out.trans (B.mono l.out.size));clear B;go_wp2_with fail;refine((j.out _ K.out).2.2.2.1 (n:Int)).mono ?_;rintro e E ⟨rfl,ci⟩;have aM:=C (K.out.trans (ci.mono K.out.size));clear ci;rw[ce.out];go_wp2_with fail;refine((G.out _ aM.out).2.2.2.1 (n:Int)).mono ?_;rintro e ch ⟨rfl,u⟩;have bi:=C (aM.out.trans (u.mono aM.out.size));clear u;rw[ce.out];go_wp2_with fail;go_roundw;case rel=>exact⟨n+1,by omega,by go_num,bi.out⟩
     case measure=>simp[intOf];omega
    ·obtain rfl:n=Q:=by omega
     have aJ:¬(n:Int)<(n:Int):=(by omega);go_wp2_with fail;refine(j.out _ H.out).1.mono ?_;rintro e o ⟨rfl,d⟩;obtain rfl:=d.symm;clear d;go_wp2_with fail;go_loopw [15] (λu15 W=>∃g:Nat,g<=T∧u15=I J (g:Int)∧Below X.heap.size X W) (λu15 _=>T-(intOf u15).toNat);case atStart=>exact⟨0,by omega,rfl,H.out⟩
     case round=>
      obtain⟨g,aE,rfl,eu⟩:=hrel;have M:=C eu;clear eu H;by_cases hH:g<T
      ·have gF:(g:Int)<(T:Int):=(by omega);obtain⟨fX,v1,fY,dv,fZ,f_,gw,iD,aN⟩:=P2 s (g:Int);have ck:=C aN;clear aN;go_wp2_with fail;refine(j.out _ M.out).2.1.mono ?_;rintro e o ⟨rfl,d⟩;obtain rfl:=d.symm;clear d;go_wp2_with fail;refine((j.out _ M.out).2.2.2.2.1 (g:Int)).mono ?_;rintro e dV ⟨rfl,A⟩;have l:=C (M.out.trans (A.mono M.out.size));clear A;rw[ck.out];go_wp2_with fail;refine((G.out _ l.out).2.2.2.2.1 (g:Int)).mono ?_;rintro e eo ⟨rfl,B⟩;have K:=C (l.out.trans (B.mono l.out.size));clear B;rw[ck.out];go_wp2_with fail;go_roundw;case rel=>exact⟨g+1,by omega,by go_num,K.out⟩
       case measure=>simp[intOf];omega
      ·obtain rfl:g=T:=by omega
       have gF:¬(g:Int)<(g:Int):=(by omega);go_wp2_with fail;refine(j.out _ M.out).2.1.mono ?_;rintro e o ⟨rfl,d⟩;obtain rfl:=d.symm;clear d;have dl:=al.out;obtain⟨ba,ev⟩:∃y:Nat,1+D%8=(y:Int):=⟨(1+D%8).toNat,by omega⟩;have iW:ba<=8:=(by omega);have ew:=C ev;clear ev;go_wp2_with fail;go_loopw [16] (λu16 W=>∃p:Nat,p<=ba∧u16=I J (p:Int)∧Below X.heap.size X W) (λu16 _=>ba-(intOf u16).toNat);case atStart=>exact⟨0,by omega,rfl,M.out⟩
       case round=>
        obtain⟨p,iX,rfl,bT⟩:=hrel;have bg:=(bT.cell (p:=⟨w.heap.size,0,U⟩) dB.out).trans bN.out;have ao:=C bT;clear bT M;by_cases bP:p<ba
        ·have gG:(p:Int)<1+D%8:=(by rw[ew.out];omega);go_wp2_with fail;refine((j.out _ ao.out).2.2.2.2.2 (p:Int)).mono ?_;rintro e dV ⟨rfl,A⟩;have l:=C (ao.out.trans (A.mono ao.out.size));clear A bg;go_wp2_with fail;refine((G.out _ l.out).2.2.2.2.2 (p:Int)).mono ?_;rintro e eo ⟨rfl,B⟩;have K:=C (l.out.trans (B.mono l.out.size));clear B;go_wp2_with fail;go_roundw;case rel=>exact⟨p+1,by omega,by go_num,K.out⟩
         case measure=>simp[intOf];omega
        ·have gG:¬(p:Int)<1+D%8:=(by rw[ew.out];omega);have bX:=C (be.out.trans (ao.out.mono be.out.size));have bJ:=C (DM wr (cs.out.next bX.out));go_wp2_with fail;refine bJ.out.mono ?_;rintro e ch ⟨rfl,u⟩;have bi:=C u;clear u;go_wp2_with fail;go_ret;exact⟨rfl,bX.out.trans (bi.out.mono bX.out.size)⟩
variable {H:Type} {enc:TypeId×Value->H} {base fuel:Nat} {spare:Nat->Bool} {held:Bool}
section
open Go.ChangeAt Go.ChangeShapes Go.WideShapes
theorem ev_dec {w:ab} {cs:List Value} {y:DataW H×List MemPlace} (h:DataW.trod enc au w base spare held fuel 33 cs=some y) (aP:cs.length=6):∃z:bQ,cs=jf.e z∧z.Ok:=by
 match cs,aP with
 |[u0,u1,u2,u3,u4,u5],_=>
  obtain⟨ag,m,_,rfl,_,yr,bc⟩:=DataW.trod_struct underlying33 h;match ag,yr with
  |[r5,qi,CJ,Oi,Oj,Pa],_=>obtain⟨n0,iL,_,f0⟩:=DataW.trod_int underlying3 (bc 0 _ rfl);obtain⟨ys,g1,_,f1⟩:=DataW.trod_int underlying3 (bc 1 _ rfl);obtain⟨yt,dB,_,f2⟩:=DataW.trod_int underlying3 (bc 2 _ rfl);obtain⟨yu,g3,_,f3⟩:=DataW.trod_int underlying2 (bc 3 _ rfl);obtain⟨yv,g4,_,f4⟩:=DataW.trod_int underlying2 (bc 4 _ rfl);obtain⟨DU,Ol,_,f5⟩:=DataW.trod_int underlying31 (bc 5 _ rfl);cases iL;cases g1;cases dB;cases g3;cases g4;cases Ol;have pb:=bounds_i64 f0;have hH:=bounds_i64 f1;have qh:=bounds_i64 f2;have Om:=bounds_i64 f3;have On:=bounds_i64 f4;have Pb:=bounds_u64 f5;obtain⟨s,rfl⟩:∃s:Nat,DU=(s:Int):=⟨DU.toNat,by omega⟩;exact⟨⟨n0,ys,yt,yu,yv,s⟩,rfl,by constructor<;>(simp only;omega)⟩
theorem open_evs {w:ab} {a:Option Addr} {len cap:Nat} {x:DataW H×List MemPlace} (h:DataW.trod enc au w base spare held fuel 24 [.slice a len cap]=some x):∃zs,yo w a len cap zs:=by
 rcases DataW.trod_slice underlying24 h with⟨mu,_⟩|⟨az,l,c',elems,rest,n,_,mu,_,_,aP,hm,hlen,hel,_⟩;·cases mu;exact⟨[],bK _,gN _,⟨rfl,λh=>by omega⟩,nofun⟩
 ·cases mu;have each:∀k,k<=len->∃zs:List bQ,zs.length=k∧(∀e∈zs,e.Ok)∧∀i z,zs[i]?=some z->∀q,q<6->w.cell? ((az.add (i*6)).add q)=(jf.e z)[q]?:=by
   intro k;induction k with
   |zero=>exactλ_=>⟨[],rfl,nofun,nofun⟩
   |succ i bv=>
    intro aV;obtain⟨zs,bm,bl,aR⟩:=bv (by omega);have aq:=hel i aV;rw[b5 (by omega),show au.cellsOf 33=6 by kernel_rfl,Option.bind_eq_some_iff] at aq;obtain⟨cs,mu,bj⟩:=aq;obtain⟨_,ki,Oo⟩:=World.cells?_some mu;obtain⟨z,rfl,aB⟩:=ev_dec bj ki;refine⟨zs++[z],by simp[bm],λe he=>?_,λj y bg=>?_⟩
    ·rcases nj.1 he with he|he;·exact bl e he
     ·cases qt.1 he;exact aB
    ·by_cases e:j<i;·rw[ja (by omega)] at bg;exact aR j y bg
     ·rw[gJ (by omega),bm] at bg;obtain rfl:i=j:=by have:=(bD.1 bg).1;simp at this;omega
      simp at bg;exact bg▸Oo
  obtain⟨zs,bm,bl,aR⟩:=each len (bK _);refine⟨zs,aP,hm,⟨bm,λh0=>?_⟩,bl⟩;have aq:=aR 0 zs[0] (b5 _) 0 (by omega);obtain⟨b,off,Oq⟩:=az;have aS:=World.cell?_spot aq;have az:=jv w _ aq;cases(show Oq=none from aS);refine⟨b,off,rfl,az,λj z bg q v a8=>?_⟩;have:=aR j z bg q (bD.1 a8).1;rw[addr_add,addr_add] at this;rw[←qy];exact this.trans a8
theorem iface_head {n oQ:String} {d:DataW Unit} {r:List (String×DataW Unit)} {W:ab} {g:Nat} {uY:TypeId} {ms:Array (String×TypeId)} (h:laidMet au ((n,.iface oQ d)::r) W) (aB:au.globalNamed n=some g) (aU:(au.globals[g]?).map (·.type)=some uY) (aV:au.underlying uY=some (.interface ms)):∃mx p,W.var? au n=some #[.iface mx p]:=by obtain⟨_,⟨iL,t0,cs0,f0,Pc,ks,g8,Ot,Ou,bM,_⟩,_⟩:=h;cases aB.symm.trans g8;cases aU.symm.trans Ot;obtain⟨_,u,v,e,_⟩:=iface_of_trod aV bM;obtain⟨Ov⟩:=cs0;cases(show Ov=_ from e);exact⟨u,v,Ou⟩
theorem known_of {W:ab} (h:laidMetH au Rows.topLedgerRow.laid W) (aS:W.ShapedOpen au):fh W:=by
 rw[MakeChecks.laidMetH_plain _ _ _ (by kernel_rfl)] at h;have aq:=laidMet.tail (show laidMet au (_::_) W from h);have aA:=laidMet.tail (show laidMet au (_::_) W from aq);have bV:=laidMet.tail (show laidMet au (_::_) W from laidMet.tail (show laidMet au (_::_) W from aA));have cZ:=laidMet.tail (show laidMet au (_::_) W from bV);have r5:au.globalNamed (Rows.topLedgerRow.laid.getD 1 ("",.nil)).1=some 9:=by kernel_rfl
 have aU:=Lib.tabIs_of_head (zs:=Lib.deBruijn64tab.map Int.ofNat) (k:=.u8) r5 (t:=398) (by kernel_rfl) underlying398 underlying5 (by kernel_rfl) (by kernel_rfl) aq;refine⟨?_,λj bg=>?_,vh.s1_3 W aS,Lib.tabIs_of_head yB (t:=383) (by kernel_rfl) underlying383 underlying31 (by kernel_rfl) (by kernel_rfl) aA,iface_head cZ yC (uY:=301) (by kernel_rfl) underlying301,iface_head bV yD (uY:=301) (by kernel_rfl) underlying301⟩;·obtain⟨⟨z,t⟩,aG⟩:=gK.1 (show(((begin au (λ_ _=>0) default).world.heap[9]?).bind Obj.row?).isSome=true by kernel_rfl);obtain⟨cs,aR,_⟩:=aS.1 9 z t (of_decide_eq_true (by kernel_rfl)) aG;have:=(iZ.1 aR).1;omega
 ·rw[aU.cell r5 j (by simpa using bg),List.getD,List.getD,dD];cases Lib.deBruijn64tab[j]?<;>rfl
def IsTerms (w:ab) (v:Value) (z:List Int):Prop:=v=sc z∧sb z
theorem open_terms {W:ab} {base pb:Nat} {v:Value} {d:DataW H} {p:List MemPlace} (gU:Value.okWide au W .any base 23 v) (h:DataW.Trod enc au W pb spare held 23 v d p):∃z,IsTerms W v z:=by
 simp only[Value.okWide,underlying23] at gU;obtain⟨⟨l⟩,rfl,aA,_⟩:=gU;obtain⟨fuel,bc⟩:=h;match l,aA.trans (show _=5 by kernel_rfl) with
 |[u0,u1,u2,u3,u4],_=>
  obtain⟨ag,m,_,_,_,yr,aB⟩:=DataW.trod_array underlying23 bc;match ag,yr with
  |[r5,qi,CJ,Oi,Oj],_=>rw[show au.cellsOf 22=1 by kernel_rfl] at aB;obtain⟨n0,iL,_,f0⟩:=DataW.trod_int underlying22 (aB 0 (by omega));obtain⟨ys,g1,_,f1⟩:=DataW.trod_int underlying22 (aB 1 (by omega));obtain⟨yt,dB,_,f2⟩:=DataW.trod_int underlying22 (aB 2 (by omega));obtain⟨yu,g3,_,f3⟩:=DataW.trod_int underlying22 (aB 3 (by omega));obtain⟨yv,g4,_,f4⟩:=DataW.trod_int underlying22 (aB 4 (by omega));cases iL;cases g1;cases dB;cases g3;cases g4;have pb:=bounds_u16 f0;have hH:=bounds_u16 f1;have qh:=bounds_u16 f2;have Om:=bounds_u16 f3;have On:=bounds_u16 f4;exact⟨[n0,ys,yt,yu,yv],rfl,rfl,λi=>by rcases i with _|_|_|_|_|i<;>(simp[a_];try omega)⟩
theorem witness_lay {ar:Checked} {os:Os} {f:FuncId} {fn:Func} {s:OpenSpec} {conds:List PathCond} {apart:Bool} {laid:List (String×DataW Unit)} (ao:ab) (args:Array Value) (hos:ao.os=os) (Ow:(ao.forCall (λ_ _=>0) ⟨#[],args,[]⟩).Shaped ar.prog) (gU:Input.okWideB ar.prog (ao.forCall (λ_ _=>0) ⟨#[],args,[]⟩) f ⟨#[],args,[]⟩=true) (Ox:s.preRow enc ar.prog fn conds apart laid (ao.forCall (λ_ _=>0) ⟨#[],args,[]⟩).memory args):∃(w:ab) (tape:Tape) (i:Input),w.os=os∧(w.forCall tape i).Shaped ar.prog∧i.vars=[]∧Input.okWide ar.prog (w.forCall tape i) .any w.heap.size f i∧s.preRow enc ar.prog fn conds apart laid (w.forCall tape i).memory i.args∧({}:Assume).holds ar.prog (lone (Frame.enter ar.prog f i.args .normal) [] (w.forCall tape i)):=⟨ao,λ_ _=>0,⟨#[],args,[]⟩,hos,Ow,(Input.okWide_of_okWideB (base:=0) gU).1,(Input.okWide_of_okWideB gU).2,Ox,by simp only[Assume.holds];exact⟨by simp,by simp,λh=>by simp at h,by simp,by simp⟩⟩
end
end Go.Proofs.YtddbkdjcjoofpaaGreatDoor
