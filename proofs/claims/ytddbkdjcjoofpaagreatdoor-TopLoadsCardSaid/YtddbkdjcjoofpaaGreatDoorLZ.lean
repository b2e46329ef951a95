import Derived.Test.YtddbkdjcjoofpaaGreatDoorLA
import Derived.Test.YtddbkdjcjoofpaaGreatDoorLC
import Derived.Test.YtddbkdjcjoofpaaGreatDoorLD
import Derived.Test.YtddbkdjcjoofpaaGreatDoorLE
import Derived.Test.YtddbkdjcjoofpaaGreatDoorLF
import Derived.Test.YtddbkdjcjoofpaaGreatDoorLG
import Derived.Test.YtddbkdjcjoofpaaGreatDoorLL
import Derived.Test.YtddbkdjcjoofpaaGreatDoorLP
import Derived.LaidMore
import Derived.LaidLaws
import Derived.Shelf.Vars
import Derived.Lay
import Derived.Deep.DeepHandedRow
import Derived.Stop.Joined
import Derived.SizedLaws
namespace Go.Proofs.YtddbkdjcjoofpaaGreatDoor
set_option linter.unusedVariables false
set_option linter.unusedSimpArgs false
set_option maxRecDepth 100000
set_option maxHeartbeats 20000000
open _root_.Go.Proofs.Tryz Go.RowKit
open Go renaming World→ab
open _root_.Go.Proofs.Tryz renaming prog→au
open Option renaming none→U,some→R
open _root_.Go.Value renaming int→I,pointer→af,slice→ay,bool→aD,agg→bk,tuple→bC
open _root_.Go.IntKind renaming i64→J,u64→ah,wrap_u64→ni
open _root_.Go.Obj renaming cells→av
open _root_.Go.Ending renaming returned→aK
open _root_.Nat renaming le_refl→bK,le_trans→cA,lt_of_lt_of_le→dd,zero_add→lZ,zero_le→gN,lt_of_le_of_lt→n9,add_assoc→qy
open _root_.Array renaming getElem?_eq_some_iff→iZ
open _root_.Go.World renaming cell?_of_block→lq,cell?_setCell_other→i_,cell?_setCell_same'→nX,frozen?_setCell→nZ,block_lt_of_cell?→jv
open _root_.Go renaming World→ab
open _root_.List renaming getElem?_eq_getElem→b5,getElem?_map→dD,getElem?_eq_some_iff→bD,getElem?_append_right→gJ,getElem?_append_left→ja,mem_map→eY,mem_cons→gZ,getElem?_toArray→fg,mem_of_getElem?→ea,length_map→dY,map_append→iI,mem_cons_self→e5,mem_cons_of_mem→hK,getElem?_eq_none→gh,mem_append→nj,mem_singleton→qt,take_add_one→gL,take_length→hL,length_take→iG
open _root_.And renaming intro→br
open _root_.Int renaming toNat_natCast→bZ,eq_ofNat_of_zero_le→dS,tmod_eq_emod_of_nonneg→qo
open _root_.Option renaming isSome_iff_exists→gK,map_eq_some_iff→h9,map_some→iH,toList_some→lY
variable {b n g i p j c B m o:Nat} {S Z al:Nat->Prop} {w W w' y A:ab} {v u:Value} {a:Option Addr} {k x:Key} {l:List Int} {ai:Int->Nat} {e:aI} {ag:List (Int×Int)} {r:T} {P:List (List Nat)} {V:List (Int×Int)->ab->Prop} {L:List ByteArray}
def Dw (f:Nat):Value:=.func (.func f) #[] #[]
def nU (k:Int):Option Nat:=if k=1 then R 45 else if k=2 then R 46 else if k=3 then R 47 else if k=4 then R 48 else if k=5 then R 49 else if k=6 then R 51 else if k=7 then R 52 else if k=8 then R 55 else if k=9 then R 57 else if k=10 then R 56 else if k=11 then R 58 else if k=12 then R 50 else if k=13 then R 59 else if k=14 then R 53 else if k=15 then R 54 else U
def ps (k:Int):Option Value:=(nU k).map Dw
theorem Dx (w:ab):Calls au 19 #[] w λe w'=>∃m n,e=aK (.map (R m))∧ej w' m ps n∧Below w.heap.size w w':=by
 have a9:=@run_makeMap au;have aP:=ej.new w;have aV:Mod (λ_=>False) w (w.alloc (.map #[] 0)):=(Mod.refl _ _).alloc _;have a:∀{c:ab} (b:Obj),Mod (λ_=>False) w c->Mod (λ_=>False) w (ef c w.heap.size b):=λb aZ=>aZ.trans (ru _ _ b) (λi a6 ak=>by subst ak;exact absurd a6 (by omega));obtain⟨d,a7,f⟩:=aP.put underlying58 underlying3 1 (.func (.func 45) #[] #[]);have h:=a d aV;generalize aC:ef (w.alloc (.map #[] 0)) w.heap.size d=a8 at a7 f h;obtain⟨j,ba,k⟩:=f.put underlying58 underlying3 2 (.func (.func 46) #[] #[]);have l:=a j h;generalize bI:ef a8 w.heap.size j=av at ba k l;obtain⟨o,ao,p⟩:=k.put underlying58 underlying3 3 (.func (.func 47) #[] #[]);have q:=a o l;generalize bL:ef av w.heap.size o=bb at ao p q;obtain⟨r,ag,s⟩:=p.put underlying58 underlying3 4 (.func (.func 48) #[] #[]);have t:=a r q;generalize bd:ef bb w.heap.size r=bf at ag s t;obtain⟨u,ax,v⟩:=s.put underlying58 underlying3 5 (.func (.func 49) #[] #[]);have y:=a u t;generalize be:ef bf w.heap.size u=bc at ax v y;obtain⟨z,bg,A⟩:=v.put underlying58 underlying3 12 (.func (.func 50) #[] #[]);have B:=a z y;generalize bN:ef bc w.heap.size z=bj at bg A B;obtain⟨D,an,E⟩:=A.put underlying58 underlying3 6 (.func (.func 51) #[] #[]);have F:=a D B;generalize bS:ef bj w.heap.size D=aw at an E F;obtain⟨G,bl,H⟩:=E.put underlying58 underlying3 7 (.func (.func 52) #[] #[]);have I:=a G F;generalize aM:ef aw w.heap.size G=bo at bl H I;obtain⟨J,bm,K⟩:=H.put underlying58 underlying3 14 (.func (.func 53) #[] #[]);have L:=a J I;generalize bi:ef bo w.heap.size J=ay at bm K L;obtain⟨M,bq,N⟩:=K.put underlying58 underlying3 15 (.func (.func 54) #[] #[]);have O:=a M L;generalize bT:ef ay w.heap.size M=bt at bq N O;obtain⟨P,ai,Q⟩:=N.put underlying58 underlying3 8 (.func (.func 55) #[] #[]);have S:=a P O;generalize aX:ef bt w.heap.size P=bw at ai Q S;obtain⟨T,aD,U⟩:=Q.put underlying58 underlying3 10 (.func (.func 56) #[] #[]);have V:=a T S;generalize bX:ef bw w.heap.size T=a0 at aD U V;obtain⟨W,bz,X⟩:=U.put underlying58 underlying3 9 (.func (.func 57) #[] #[]);have Y:=a W V;generalize bV:ef a0 w.heap.size W=a2 at bz X Y;obtain⟨Z,a3,aa⟩:=X.put underlying58 underlying3 11 (.func (.func 58) #[] #[]);have aq:=a Z Y;generalize b1:ef a2 w.heap.size Z=a4 at a3 aa aq;obtain⟨ac,a5,az⟩:=aa.put underlying58 underlying3 13 (.func (.func 59) #[] #[]);have ad:=a ac aq;generalize al:ef a4 w.heap.size ac=b3 at a5 az ad
 have bF:=C (az.congr (g:=ps) (λx=>by
  unfold ps nU Dw;simp only[nG];by_cases aB:x=1;·subst aB;rfl
  by_cases aA:x=2;·subst aA;rfl
  by_cases aG:x=3;·subst aG;rfl
  by_cases aL:x=4;·subst aL;rfl
  by_cases af:x=5;·subst af;rfl
  by_cases ae:x=6;·subst ae;rfl
  by_cases am:x=7;·subst am;rfl
  by_cases aN:x=8;·subst aN;rfl
  by_cases aj:x=9;·subst aj;rfl
  by_cases ap:x=10;·subst ap;rfl
  by_cases aQ:x=11;·subst aQ;rfl
  by_cases ah:x=12;·subst ah;rfl
  by_cases aR:x=13;·subst aR;rfl
  by_cases aS:x=14;·subst aS;rfl
  by_cases aU:x=15;·subst aU;rfl
  simp only[z0 aB,z0 aA,z0 aG,z0 aL,z0 af,z0 ae,z0 am,z0 aN,z0 aj,z0 ap,z0 aQ,z0 ah,z0 aR,z0 aS,z0 aU,if_false];rfl) rfl)
 have aO:=C ad.toBelow;go_enter func19,ntmps19;go_wp2;go_ret;exact⟨w.heap.size,rfl,⟨_,bF⟩,aO⟩
variable {W':ab} {v1:Value} {t:ex} {tmps:Array Value} {G:aJ} {f:Int->Option aJ} {fn:Func} {s:bp (aF×Int)}
theorem M4:(prog.info? 29).map (·.size)=R 2:=by kernel_rfl
theorem yb {p:Tmp} {w:ab} {T:Nat} {v0:Value} (h:fn.results=#[.cell p 29]) (a:tmps.getD p undef=af (R ⟨g,0,U⟩)) (b:w.heap[g]?=R (av #[v0,v1] T (0,0))):(results fn tmps).run au w= .ok (bk #[v0,v1]) w:=results_cell_row h tmps w g T _ _ _ a b underlying29 rfl M4
section
variable {ao w w':ab} {S:Nat->Prop} {L:bu} {s:aa} {k:Nat}
def sa (ao:ab) (S:Nat->Prop) (L:bu) (d:dO) (e:Ending) (w':ab):Prop:=e=aK (bk #[I J d.2.1,I J d.2.2])∧∃a,a.b=L.b∧ax ao S a d.1 w'
theorem M5 (d a b n m h:Int) (c:Int) (H:ax ao S L s w) (hk:s.Ok k) (bL:k<100000) (an:bA c s.groups) (h0:0<=c) (F:c+10000000000<=1000000000000000) (aw:0<=h∧h<18446744073709551616) (ae:∀f,nU d=R f->nb f∧∀(am W:ab) (p:Nat->Prop),ax am p L s W->Calls au f #[aX L.b,bk (cx d a b n m h)] W (mo am p L (s.event ⟨d,a,b,n,m,h⟩))) (aN:nU d=U->s.event ⟨d,a,b,n,m,h⟩=(s,0,1)) (ap:(s.event ⟨d,a,b,n,m,h⟩).2.2≠0->(s.event ⟨d,a,b,n,m,h⟩).1=s):Calls au 8 #[aX L.b,bk (cx d a b n m h)] w (sa ao S L (s.dP ⟨d,a,b,n,m,h⟩)):=by
 obtain⟨V,G⟩:=aW ((w.alloc (av (cx d a b n m h) 33)).alloc (av #[I J 0,I J 0] 29));have bl:Below w.heap.size w V:=G▸(bx _ _).alloc (by simp) _;have aQ:ak V w.heap.size (cx d a b n m h) 33:=G▸(ak.new w _ _).alloc _;have aR:ak V (w.heap.size+1) #[I J 0,I J 0] 29:=G▸(by have:=ak.new (w.alloc (av (cx d a b n m h) 33)) #[I J 0,I J 0] 29;simpa using this);obtain⟨p,aS,aU,bo⟩:=H.nS bl;have P:=C (λ(j:bu) (aP:aa) (w':ab) (y:ax V (λk=>p k∨k=w.heap.size+1) j aP w')=>bo j aP w' (y.lX (λk e=>e.elim .inl (λe=>.inr (by omega)))));have K:=C (show¬p (w.heap.size+1) fromλy=>by have:=(aS _ y).1;omega);have Q:=C aR.lt;have bm:∀k,p k->k<w.heap.size:=λk y=>(aS k y).1;have X:=C G;have t:=C (λ(W:ab) (j:bu) (r:aa) (o:Nat) (v:Value) (Y:ax V p j r W) (F:(cx d a b n m h)[o]?=R v)=>Y.kept bm (aQ.cell o F) zK9);have Z:=C (λ(W:ab) (j:bu) (r:aa) (Y:ax V p j r W)=>show ak W (w.heap.size+1) #[I J 0,I J 0] 29 from aR.mod Y.1 K.out);obtain⟨⟨M,ay,aq⟩,N⟩:∃bq,s.event ⟨d,a,b,n,m,h⟩=bq:=⟨_,rfl⟩;generalize l:s.dP ⟨d,a,b,n,m,h⟩=D;unfold aa.dP at l;have aV:=hk.event ⟨d,a,b,n,m,h⟩ aw;have aZ:=an.event h0 F ⟨d,a,b,n,m,h⟩;rw[N] at l ae aN ap aV aZ;have ac:=C l;have az:=C ae;have bt:=C aN;have ai:=C ap;have bw:=C (λ(W:ab) (j:bu) (aD:ax V p j M W)=>K2 aZ (by omega) F aD aV (by omega));have bd:=aQ.cell 0 (v:=I J d) rfl;unfold aX at*;obtain⟨be,a6⟩:=aW L.b;have a0:=C a6;rw[a6] at az⊢;unfold cx at X t az⊢;cases O:nU d with
 |none=>have ad:=C (show ps d=U by unfold ps;rw[O];rfl);have l:=ac.out;have N:=bt.out O;simp only[Prod.mk.injEq] at N;obtain⟨rfl,rfl,rfl⟩:=N;rw[aj (show(1:Int)≠0 by decide)] at l;have A:=C l;go_enter func8,ntmps8;go_upto_region 1 with fail;rw[X.out];go_region_held3 (λW'=>W'.cell? ⟨w.heap.size,0,U⟩=R (I J d)) (with_reducible repeat(first|assumption|refine b2 ?_)) (first|(go_at_call 19;refine(Dx _).mono ?_;rintro e q ⟨bz,a2,rfl,aB,aA⟩;have x:=aU.drew.next aA;have a3:=t.out q L M 0 (I J d) x rfl;have aG:=aB.A8 underlying58 underlying3 (z:=.nilFunc) (by kernel_rfl) d;rw[ad.out] at aG;have u:=C x;have i:=Z.out q L M x;have a7:=i.cell 0 (v:=I J 0) rfl;have a8:=i.cell 1 (v:=I J 0) rfl;have ba:=i.free 0;have bb:=i.free 1;have B:=C i));all_goals go_wp2_with fail;refine bodyPost_ret (yb (g:=w.heap.size+1) (T:=29) rfl rfl ((B.set 0 (I J 0)).set 1 (I J 1))) rfl ?_;rw[<-A.out];exact⟨rfl,L,rfl,P.out _ _ _ (u.out.out (nT _ _ _ _ _ _) K.out Q.out)⟩
 |some f=>have ad:=C (show ps d=R (.func (.func f) #[] #[]) by unfold ps;rw[O];rfl);obtain⟨a4,a5⟩:=az.out f O;have aK:=C a5;unfold nb at a4;go_enter func8,ntmps8;go_upto_region 1 with fail;rw[X.out];go_region_held3 (λW'=>W'.cell? ⟨w.heap.size,0,U⟩=R (I J d)) (with_reducible repeat(first|assumption|refine b2 ?_)) (first|(go_at_call 19;refine(Dx _).mono ?_;rintro e q ⟨bz,a2,rfl,aB,aA⟩;have x:=aU.drew.next aA;have a3:=t.out q L s 0 (I J d) x rfl;have aG:=aB.A8 underlying58 underlying3 (z:=.nilFunc) (by kernel_rfl) d;rw[ad.out] at aG;have u:=C x));all_goals
  have bN:=t.out q L s 1 (I J a) u.out rfl;have bS:=t.out q L s 2 (I J b) u.out rfl;have aM:=t.out q L s 3 (I J n) u.out rfl;have bi:=t.out q L s 4 (I J m) u.out rfl;have bT:=t.out q L s 5 (I ah h) u.out rfl;have bF:=C (aK.out V q p u.out);go_wp2_with fail;refine bF.mono ?_;rintro e ag ⟨rfl,j,aL,af⟩;have bf:=C aL;rw[a0.out] at aL;by_cases E:aq=0;·have l:=ac.out;rw[E,z0 (by decide)] at l;have A:=C l;have bc:=C (bw.out ag j af);rw[aL] at bc;subst E;go_wp2_with fail;refine bc.mono ?_;rintro e aO ⟨rfl,bg⟩;have i:=Z.out aO j _ bg;have a7:=i.cell 0 (v:=I J 0) rfl;have a8:=i.cell 1 (v:=I J 0) rfl;have ba:=i.free 0;have bb:=i.free 1;have B:=C i;have a9:=C bg;go_wp2_with fail;refine bodyPost_ret (yb (g:=w.heap.size+1) (T:=29) rfl rfl ((B.set 0 (I J ay)).set 1 (I J 0))) rfl ?_;rw[<-A.out];exact⟨rfl,j,bf.out,P.out _ _ _ (a9.out.out (nT _ _ _ _ _ _) K.out Q.out)⟩
  ·have l:=ac.out;rw[aj (E)] at l;have A:=C l;have bX:(aq !=0)=true:=(by simp[E]);have aC:=ai.out (E);have i:=Z.out ag j _ af;have a7:=i.cell 0 (v:=I J 0) rfl;have a8:=i.cell 1 (v:=I J 0) rfl;have ba:=i.free 0;have bb:=i.free 1;have B:=C i;have bI:=C (show M=s from aC);go_wp2_with fail;refine bodyPost_ret (yb (g:=w.heap.size+1) (T:=29) rfl rfl ((B.set 0 (I J 0)).set 1 (I J aq))) rfl ?_;rw[<-A.out];refine⟨rfl,j,bf.out,?_⟩;have bj:=af;rw[bI.out] at bj;exact P.out _ _ _ (bj.out (nT _ _ _ _ _ _) K.out Q.out)
end
section
variable {ao w w':ab} {S:Nat->Prop} {L:bu} {s:aa} {k:Nat}
theorem aa.Nc {e:gm} (h:nU e.kind=U) (s:aa):s.event e=(s,0,1):=by
 by_cases a:e.kind=1;·rw[a] at h;cases h
 by_cases b:e.kind=2;·rw[b] at h;cases h
 by_cases c:e.kind=3;·rw[c] at h;cases h
 by_cases d:e.kind=4;·rw[d] at h;cases h
 by_cases f:e.kind=5;·rw[f] at h;cases h
 by_cases g:e.kind=6;·rw[g] at h;cases h
 by_cases i:e.kind=7;·rw[i] at h;cases h
 by_cases j:e.kind=8;·rw[j] at h;cases h
 by_cases k:e.kind=9;·rw[k] at h;cases h
 by_cases l:e.kind=10;·rw[l] at h;cases h
 by_cases m:e.kind=11;·rw[m] at h;cases h
 by_cases n:e.kind=12;·rw[n] at h;cases h
 by_cases o:e.kind=13;·rw[o] at h;cases h
 by_cases p:e.kind=14;·rw[p] at h;cases h
 by_cases q:e.kind=15;·rw[q] at h;cases h
 unfold aa.event;rw[z0 a,z0 b,z0 c,z0 d,z0 f,z0 g,z0 i,z0 j,z0 k,z0 l,z0 m,z0 n,z0 o,z0 p,z0 q]
theorem aa.Nd (s:aa) (e:gm) (h:(s.event e).2.2≠0):(s.event e).1=s:=by
 revert h;have c:∀{p:Prop} [Decidable p] {a b:dO},(a.2.2≠0->a.1=s)->(b.2.2≠0->b.1=s)->((if p then a else b).2.2≠0->(if p then a else b).1=s):=by
  intro p _ a b i j;split;·exact i
  ·exact j
 have g:∀{r:aa} {n:Int},((r,n,(0:Int)):dO).2.2≠0->((r,n,(0:Int)):dO).1=s:=λh=>absurd rfl h;have d:∀{n f:Int},((s,n,f):dO).2.2≠0->((s,n,f):dO).1=s:=λ_=>rfl;unfold aa.event;refine c ?_ (c ?_ (c ?_ (c ?_ (c ?_ (c ?_ (c ?_ (c ?_ (c ?_ (c ?_ (c ?_ (c ?_ (c ?_ (c ?_ (c ?_ ?_))))))))))))))
 ·unfold aa.grow;split;·exact d
  ·exact c d (c d g)
 ·unfold aa.drop;split;·exact d
  ·exact c d (c d g)
 ·unfold aa.move;split;·exact c d (c d g)
  ·exact d
 ·unfold aa.shares;split;·exact d
  ·exact c d (c d g)
 ·unfold aa.lJ;split;·exact d
  ·exact c d (c d g)
 ·unfold aa.spawn;split;·exact d
  ·exact c d (c d (c d (c d g)))
 ·unfold aa.k0;split;·exact d
  ·exact c d g
 ·unfold aa.block;exact c d (c d g)
 ·unfold aa.yield;exact c d (c d g)
 ·unfold aa.exit;refine c d (c d ?_);split;·exact d
  ·exact g
 ·unfold aa.tick;refine c d (c d (c g ?_));split;·exact d
  ·exact c d (c g g)
 ·unfold aa.gy;split;·exact d
  ·exact c d g
 ·unfold aa.pull;exact c d (c d (c d g))
 ·unfold aa.nice;split;·exact d
  ·exact c d (c d (c g g))
 ·unfold aa.mask;split;·exact d
  ·exact c d (c g g)
 ·exact d
theorem Nf (h a b n m g:Int) (p:0<=g∧g<18446744073709551616) (hk:s.Ok k) (q:k<100000) {f:Nat} (i:nU h=R f):nb f∧∀(j W:ab) (l:Nat->Prop),ax j l L s W->Calls au f #[aX L.b,bk (cx h a b n m g)] W (mo j l L (s.event ⟨h,a,b,n,m,g⟩)):=by
 have o:k<=100000:=by omega
 by_cases r:h=1;·subst r;cases i;refine⟨enters_of func45 (by kernel_rfl) rfl,λj W l c=>?_⟩;exact(Nb _ a b n m g c hk q)
 by_cases t:h=2;·subst t;cases i;refine⟨enters_of func46 (by kernel_rfl) rfl,λj W l c=>?_⟩;exact(MA _ a b n m g c hk o).mono (λe w' d=>d.kM)
 by_cases u:h=3;·subst u;cases i;refine⟨enters_of func47 (by kernel_rfl) rfl,λj W l c=>?_⟩;exact(Mq _ a b n m g c hk o).mono (λe w' d=>d.kM)
 by_cases v:h=4;·subst v;cases i;refine⟨enters_of func48 (by kernel_rfl) rfl,λj W l c=>?_⟩;exact(K3 _ a b n m g c hk)
 by_cases w:h=5;·subst w;cases i;refine⟨enters_of func49 (by kernel_rfl) rfl,λj W l c=>?_⟩;exact(Lx _ a b n m g c hk).mono (λe w' d=>d.kM)
 by_cases x:h=6;·subst x;cases i;refine⟨enters_of func51 (by kernel_rfl) rfl,λj W l c=>?_⟩;exact(M7 _ a b n m g p c hk q)
 by_cases y:h=7;·subst y;cases i;refine⟨enters_of func52 (by kernel_rfl) rfl,λj W l c=>?_⟩;exact(Ls _ a b n m g c hk o).mono (λe w' d=>d.kM)
 by_cases z:h=8;·subst z;cases i;refine⟨enters_of func55 (by kernel_rfl) rfl,λj W l c=>?_⟩;exact(Cv _ a b n m g c hk).mono (λe w' d=>d.kM)
 by_cases A:h=9;·subst A;cases i;refine⟨enters_of func57 (by kernel_rfl) rfl,λj W l c=>?_⟩;exact(K9 _ a b n m g c hk).mono (λe w' d=>d.kM)
 by_cases B:h=10;·subst B;cases i;refine⟨enters_of func56 (by kernel_rfl) rfl,λj W l c=>?_⟩;exact(K8 _ a b n m g c hk).mono (λe w' d=>d.kM)
 by_cases C:h=11;·subst C;cases i;refine⟨enters_of func58 (by kernel_rfl) rfl,λj W l c=>?_⟩;exact(Ma _ a b n m g c hk o).mono (λe w' d=>d.kM)
 by_cases D:h=12;·subst D;cases i;refine⟨enters_of func50 (by kernel_rfl) rfl,λj W l c=>?_⟩;exact(K4 _ a b n m g c hk)
 by_cases E:h=13;·subst E;cases i;refine⟨enters_of func59 (by kernel_rfl) rfl,λj W l c=>?_⟩;exact(MP _ a b n m g c hk o).mono (λe w' d=>d.kM)
 by_cases F:h=14;·subst F;cases i;refine⟨enters_of func53 (by kernel_rfl) rfl,λj W l c=>?_⟩;exact(Lu _ a b n m g c hk).mono (λe w' d=>d.kM)
 by_cases G:h=15;·subst G;cases i;refine⟨enters_of func54 (by kernel_rfl) rfl,λj W l c=>?_⟩;exact(Lt _ a b n m g p c hk o).mono (λe w' d=>d.kM)
 unfold nU at i;rw[z0 r,z0 t,z0 u,z0 v,z0 w,z0 x,z0 y,z0 z,z0 A,z0 B,z0 C,z0 D,z0 E,z0 F,z0 G] at i;cases i
theorem Ng (g a b n m d:Int) (c:Int) (H:ax ao S L s w) (hk:s.Ok k) (i:k<100000) (l:bA c s.groups) (h0:0<=c) (o:c+10000000000<=1000000000000000) (j:0<=d∧d<18446744073709551616):Calls au 8 #[aX L.b,bk (cx g a b n m d)] w (sa ao S L (s.dP ⟨g,a,b,n,m,d⟩)):=M5 g a b n m d c H hk i l h0 o j (λf p=>Nf g a b n m d j hk i p) (λh=>aa.Nc (e:=⟨g,a,b,n,m,d⟩) h s) (λh=>s.Nd _ h)
end
structure aa.In (k:Nat) (s:aa):Prop where
 ok:s.Ok k
 DA:bA (10000000000*(k:Int)) s.groups
def nf (e:gm):Prop:=0<=e.mask∧e.mask<18446744073709551616
def Nh (e:gm):Value:=bk #[I J e.kind,I J e.a,I J e.b,I J e.n,I J e.m,I ah e.mask]
section
variable {ao w w':ab} {S:Nat->Prop} {L:bu} {s:aa} {k:Nat}
theorem aa.In.dP (h:s.In k) (hk:k<90000) (e:gm) (a:nf e):(s.dP e).1.In (k+1):=by refine⟨h.ok.dP e a,?_⟩;have b:=h.DA.dP (by omega) (by omega) e;rw[show 10000000000*((k+1:Nat):Int)=10000000000*(k:Int)+10000000000 by push_cast;omega];exact b
theorem DB (e:gm) (c:nf e) (H:ax ao S L s w) (h:s.In k) (hk:k<90000):Calls au 8 #[aX L.b,Nh e] w (sa ao S L (s.dP e)):=Ng e.kind e.a e.b e.n e.m e.mask _ H h.ok (by omega) h.DA (by omega) (by omega) c
end
variable {cap:Nat}
section
variable {ao w w':ab} {S:Nat->Prop} {L:bu} {s:aa} {k:Nat}
theorem ax.DC {n0:Nat} (H:ax ao S L s w) (d:Mod Z w w') (n:∀k,Z k->¬S k∧k<ao.heap.size∧n0<=k):∃h:Nat->Prop,(∀k,h k->k<w.heap.size∧¬Z k)∧ax w' h L s w'∧∀(j:bu) (l:aa) (m:ab),ax w' (λk=>h k∨n0<=k) j l m->ax ao (λk=>S k∨n0<=k) j l m:=by
 obtain⟨o,tag,H⟩:=H;have y:=o.size;have z:=d.size;have p:∀b,Z b->tag b= .no:=λb t=>by
  by_cases e:tag b= .no;·exact e
  ·have:=n b t;rcases H.own b (by omega) e with a|a;·exact absurd a this.1
   ·omega
 refine⟨λk=>tag k≠ .no∧k<w.heap.size,λk a=>⟨a.2,λe=>a.1 (p k e)⟩,hZ.start (tag:=fQ w tag .no) ⟨λa=>?_,λk c e=>?_⟩,?_⟩
 ·by_cases q:a= .no;·subst q;trivial
  ·refine(H.part a).frame d (λk e f=>q (by rw[<-e,p k f])) (λk c e=>by unfold fQ;rw[aj c];exact e)
 ·unfold fQ at e;split at e;·rename_i a;exact⟨e,a⟩
  ·exact absurd rfl e
 ·rintro j l m ⟨u,v,r⟩;refine⟨((o.mono (λk _ a=>.inl a)).trans d (λi _ a=>.inr (n i a).2.2)).trans u (λi x a=>?_),v,r.part,λk c e=>?_⟩
  ·rcases a with a|a
   ·rcases H.own i a.2 a.1 with g|g;·exact .inl g
    ·exact absurd x (by omega)
   ·exact .inr a
  ·rcases r.own k c e with a|a
   ·rcases a with a|a
    ·rcases H.own k a.2 a.1 with g|g;·exact .inl (.inl g)
     ·exact .inr g
    ·exact .inl (.inr a)
   ·exact .inr (by omega)
end
def qk:cd (Int×Int):=⟨2,λp=>[I J p.1,I J p.2],λ_=>rfl,λe u h=>by simp at h;rcases h with rfl|rfl<;>rfl,by decide⟩
theorem Ni:iv qk 95 29 16:=⟨underlying95,⟨.agg #[.int .i64 0,.int .i64 0],by kernel_rfl,rfl⟩,by decide⟩
theorem DD:∀(l m:List gm) (s:aa),fm (l++m) s=((fm l s).1++(fm m (fm l s).2).1,(fm m (fm l s).2).2)
 |[],m,s=>by simp[fm]
 |e::l,m,s=>by show((s.dP e).2::(fm (l++m) (s.dP e).1).1,(fm (l++m) (s.dP e).1).2)=_;rw[DD l m];rfl
theorem uN:∀(l:List gm) (s:aa) (k:Nat),s.In k->k+l.length<90000->(∀e∈l,nf e)->(fm l s).2.In (k+l.length)
 |[],s,k,h,_,_=>h
 |e::l,s,k,h,hk,he=>by have a:=h.dP (by simp at hk;omega) e (he e e5);have:=uN l _ (k+1) a (by simp at hk;omega) (λx b=>he x (hK _ b));rw[show k+(e::l).length=k+1+l.length by simp;omega];exact this
theorem ax.Nj {ao w:ab} {L:bu} {s:aa} (H:ax ao (λk=>False∨ao.heap.size<=k) L s w):ax ao (λ_=>False) L s w:=by obtain⟨b,c,d⟩:=H;exact⟨b.mono (λk e a=>a.elim id (λa=>by omega)),c,d.mono (λk a=>a.elim (λa=>a.elim .inl .inr) .inr)⟩
theorem DE {l:List bQ} {x:bQ} (h:l[j]?=R x) (s:aa):fm ((l.take (j+1)).map er) s=((fm ((l.take j).map er) s).1++[((fm ((l.take j).map er) s).2.dP (er x)).2],((fm ((l.take j).map er) s).2.dP (er x)).1):=by rw[gL,h,lY,iI,DD];rfl
theorem Nk {ao w:ab} {L:bu} {s:aa} {k:Nat} (l:List bQ) (v:Value) (B:Nat) (ba:∀e∈l,nf (er e)) (bb:l.length<=1000) (az:Own jf ao B 33 v l.length l) (H:ax ao (λ_=>False) L s w) (ag:s.In k) (hk:k+1000<90000):Calls au 30 #[aX L.b,v] w λe w'=>∃ad,e=aK ad∧Own qk w' 0 29 ad l.length (fm (l.map er) s).1∧∃f,f.b=L.b∧ax ao (λ_=>False) f (fm (l.map er) s).2 w':=by
 obtain⟨a,cap,rfl⟩:=az.mV;have M:=C az;have bf:=C ag;have aB:=C ba;obtain⟨n,aA⟩:=aW l.length;have N:=C aA;unfold aX;obtain⟨aG,aL⟩:=aW L.b;have bc:=C aL;rw[aA] at bb M⊢;rw[aL];go_enter func30,ntmps30;go_wp2_with fail;go_loopw [5,10] (λu5 u W=>∃j:Nat,j<=n∧u=I J (j:Int)∧∃(i:ab) (q:Nat->Prop) (r:bu),Own qk i 0 29 u5 j (fm ((l.take j).map er) s).1∧r.b=aG∧ax i q r (fm ((l.take j).map er) s).2 W∧(∀g,u5.ownBlock=R g->¬q g∧g<i.heap.size∧ao.heap.size<=g)∧∀(f:bu) (D:aa) (w':ab),ax i (λk=>q k∨ao.heap.size<=k) f D w'->ax ao (λ_=>False) f D w') (λ_ u _=>n-(intOf u).toNat);case atStart=>exact⟨0,by omega,rfl,ao,λ_=>False,L,Own.nil _ _ _,bc.out,H,λg e=>(by cases e),λf D w' c=>c.Nj⟩
 case round=>
  obtain⟨j,b9,rfl,i,q,r,E,bg,t,bj,ae⟩:=hrel;have O:=C E;have P:=C bg;have F:=C bj;have Q:=C ae;have an:Mod (λ_=>False) ao wr:=(ae _ _ _ (t.lX (λk c=>.inl c))).1;by_cases aw:j<n
  ·obtain⟨x,am⟩:∃x,l[j]?=R x:=⟨_,b5 (by rw[N.out];exact aw)⟩;have aN:=C am;obtain⟨g,aY,aj,bl⟩:=M.form (by omega);simp only[Value.slice.injEq] at aj;obtain⟨rfl,_,rfl⟩:=aj;have o:∀(c:Nat) (u:Value),(jf.e x)[c]?=R u->wr.cell? ⟨g,j*6+c,U⟩=R u:=λc u z=>an.cell (M.at_ am z) bl id;have bv:wr.cell? ⟨g,j*6,U⟩=R (I J x.k):=o 0 (I J x.k) rfl;have a1:=o 1 (I J x.a) rfl;have cc:=o 2 (I J x.b) rfl;have cf:=o 3 (I J x.n) rfl;have cg:=o 4 (I J x.m) rfl;have cj:=o 5 (I ah (x.s:Int)) rfl;have cm:(j:Int)<(n:Int):=(by omega);have cn:(0:Int)<=(j:Int):=(by omega);have b8:(j:Int).toNat=j:=(by omega);go_upto_region 5 with fail;obtain⟨A,S⟩:∃A,wr.alloc (av #[I J x.k,I J x.a,I J x.b,I J x.n,I J x.m,I ah (x.s:Int)] 33)=A:=⟨_,rfl⟩;rw[S];have bo:Below wr.heap.size wr A:=S▸bx _ _;have p:ak A wr.heap.size #[I J x.k,I J x.a,I J x.b,I J x.n,I J x.m,I ah (x.s:Int)] 33:=S▸ak.new _ _ _;have bm:=p.cell 0 (v:=I J x.k) rfl;have bq:=p.cell 1 (v:=I J x.a) rfl;have bt:=p.cell 2 (v:=I J x.b) rfl;have ai:=p.cell 3 (v:=I J x.n) rfl;have bw:=p.cell 4 (v:=I J x.m) rfl;have aD:=p.cell 5 (v:=I ah (x.s:Int)) rfl;have ap:(l.take j).length=j:=(by rw[iG,N.out];omega);have a0:=uN ((l.take j).map er) s k bf.out (by rw[dY,ap];have:=hk;omega) (λe bz=>by obtain⟨y,a2,rfl⟩:=eY.1 bz;exact aB.out y (List.mem_of_mem_take a2));have a3:Calls au 8 #[af (R ⟨aG,0,U⟩),bk #[I J x.k,I J x.a,I J x.b,I J x.n,I J x.m,I ah (x.s:Int)]] A (sa i q r ((fm ((l.take j).map er) s).2.dP (er x))):=(by have T:=DB (er x) (aB.out x (ea aN.out)) (t.next bo) a0 (by rw[dY,ap];have:=hk;omega);unfold aX at T;rw[P.out] at T;exact T);have V:=C a3;have G:=C (DE aN.out s);obtain⟨aQ,a4⟩:∃x,fm ((l.take j).map er) s=x:=⟨_,rfl⟩;rw[a4] at t V O G;obtain⟨d,a5⟩:∃d,aQ.2.dP (er x)=d:=⟨_,rfl⟩;rw[a5] at G V;obtain⟨cr,aR⟩:∃x,wr.heap.size=x:=⟨_,rfl⟩;rw[aR] at bm bq bt ai bw aD;simp only[aR];go_wp2_with fail;refine V.mono ?_;rintro e h ⟨rfl,aS,bF,X⟩;have aO:=C bF;have aU:=O.mod X.1 (λg e=>(F.out g e).1);have a9:=C (aU.alloc (av #[I J d.2.1,I J d.2.2] 29));have aC:=C (show∀c u,(qk.e d.2)[c]?=R u->(h.alloc (av #[I J d.2.1,I J d.2.2] 29)).cell? ⟨h.heap.size,c,U⟩=R u fromλc u z=>dz.trans (by rw[<-z];show([I J d.2.1,I J d.2.2]:List Value).toArray[c]?=_;rw[fg];rfl));have bI:0<=(h.alloc (av #[I J d.2.1,I J d.2.2] 29)).heap.size:=gN _;have bL:j<=10000000:=(by omega);have bd:=C (aU.mV);obtain⟨Y,Z,rfl⟩:=bd.out;go_upto_region 6 with((at_builtin;refine jB Ni rfl _ _ rfl 0 _ j aQ.1 rfl a9.out h.heap.size _ d.2 rfl aC.out bL bI ?_;intro aq u9 be bN bS;have aM:=C (show Grow _ u9 (ay Y j Z) aq from Grow.gR bN bS);have aP:=C be));have aV:=aM.out;have bi:Mod (λk=>(ay Y j Z).ownBlock=R k) h u9:=((Mod.refl _ h).alloc _).grow aV (λg e=>e);obtain⟨ac,aZ,bT,bX⟩:=X.DC (n0:=ao.heap.size) bi (λg e=>F.out g e);have bV:=Q.out _ _ _ (X.lX (λk c=>.inl c));have bB:=bV.1.size;have b1:∀c,aq.ownBlock=R c->¬ac c∧c<u9.heap.size∧ao.heap.size<=c:=λc e=>by
    have a6:=(aP.lt c e).2;rcases aV.loc with K|⟨bW,K,z⟩;·have a7:(ay Y j Z).ownBlock=R c:=(by rw[<-K];exact e);exact⟨λy=>(aZ c y).2 a7,a6,(F.out c a7).2.2⟩
    ·rw[e] at K;cases K;have cu:h.heap.size<c:=dd (by simp) z;exact⟨λy=>by have:=(aZ c y).1;omega,a6,by omega⟩
   have al:=C (show Own qk u9 0 29 aq (j+1) (fm ((l.take (j+1)).map er) s).1 from by rw[G.out];exact aP.out);have b3:=C (show ax u9 ac aS (fm ((l.take (j+1)).map er) s).2 u9 from by rw[G.out];exact bT);have b6:=C b1;have bR:=C bX;go_wp2_with fail;go_roundw;case rel=>exact⟨j+1,by omega,by go_num,u9,ac,aS,al.out,aO.trans P.out,b3.out,b6.out,λf D w' c=>Q.out _ _ _ (bR.out _ _ _ c)⟩
   case measure=>simp[intOf];omega
  ·obtain rfl:j=n:=by omega
   have bs:=C (show l.take j=l by rw[<-N.out,hL]);have E:=O.mod t.1 (λg e=>(F.out g e).1);have a8:=Q.out _ _ _ (t.lX (λk c=>.inl c));rw[bs.out] at E a8;go_wp2_with fail;go_ret;exact⟨_,rfl,E,r,P.out,a8⟩
def nV (z:List Int):hT:=⟨1+(a_ z 0%8).toNat,1+a_ z 1,a_ z 2,a_ z 3,1+(a_ z 4).toNat⟩
structure sb (z:List Int):Prop where
 len:z.length=5
 at_:∀i,0<=a_ z i∧a_ z i<65536
theorem sb.rt {z:List Int} (h:sb z):(nV z).Good:=by have a:=h.at_ 0;have b:=h.at_ 1;have c:=h.at_ 2;have d:=h.at_ 3;have e:=h.at_ 4;constructor<;>(unfold nV;dsimp only;omega)
def sc (z:List Int):Value:=bk #[I .u16 (a_ z 0),I .u16 (a_ z 1),I .u16 (a_ z 2),I .u16 (a_ z 3),I .u16 (a_ z 4)]
theorem ym {c:hT} (h:c.Good):(aa.new c).In 0:=⟨aa.qR h.aO h.tick h.iq.2,bA.new c⟩
theorem NM (z:List Int) (h:sb z) (w:ab):Calls au 7 #[sc z] w λe w'=>∃L:bu,e=aK (aX L.b)∧ax w (λ_=>False) L (aa.new (nV z)) w':=by
 obtain⟨V,p⟩:=aW (w.alloc (av #[I .u16 (a_ z 0),I .u16 (a_ z 1),I .u16 (a_ z 2),I .u16 (a_ z 3),I .u16 (a_ z 4)] 23));have a:ak V w.heap.size #[I .u16 (a_ z 0),I .u16 (a_ z 1),I .u16 (a_ z 2),I .u16 (a_ z 3),I .u16 (a_ z 4)] 23:=p▸ak.new _ _ _;have q:=C (show Below w.heap.size w V from p▸bx _ _);have r:=C p;have x:=h.at_ 0;have y:=h.at_ 1;have A:=h.at_ 2;have B:=h.at_ 3;have D:=h.at_ 4;have l:=C (DK (nV z) h.rt V);unfold qm nV at l;dsimp only at l;obtain⟨n,c⟩:=aW (a_ z 0);obtain⟨s,d⟩:=aW (a_ z 1);obtain⟨t,f⟩:=aW (a_ z 2);obtain⟨u,g⟩:=aW (a_ z 3);obtain⟨o,j⟩:=aW (a_ z 4);have E:=C (br c (br d (br f (br g j))));unfold sc;rw[c,d,f,g,j] at l r a;rw[c,d,f,g,j];rw[c] at x;rw[d] at y;rw[f] at A;rw[g] at B;rw[j] at D;rw[show(((1+(n%8).toNat:Nat)):Int)=1+n%8 by omega,show(((1+o.toNat:Nat)):Int)=1+o by omega] at l;have N:=a.cell 0 (v:=I .u16 n) rfl;have O:=a.cell 1 (v:=I .u16 s) rfl;have P:=a.cell 2 (v:=I .u16 t) rfl;have Q:=a.cell 3 (v:=I .u16 u) rfl;have R:=a.cell 4 (v:=I .u16 o) rfl;go_enter func7,ntmps7;go_upto_region 1 with fail;rw[r.out];go_wp2_with fail;refine l.mono ?_;rintro e S ⟨L,rfl,F⟩;generalize G:aX L.b=T;have H:=C G;go_wp2_with fail;go_ret;refine⟨L,by rw[H.out];rfl,?_⟩;obtain⟨J,K,h⟩:=F;obtain⟨c,d,f,g,j⟩:=E;have M:nV z=⟨1+(n%8).toNat,1+s,t,u,1+o.toNat⟩:=by unfold nV;rw[c,d,f,g,j]
 rw[M];exact⟨(zF9 q).trans J (λi _ m=>m),K,h.mono (λk m=>m.elim .inl (λm=>.inr (cA q.size m)))⟩
def uU:aa:=(fm q_ (aa.new mK)).2
def pv:List (Int×Int):=(fm q_ (aa.new mK)).1
theorem NN:uQ uU 1=10:=by decide+kernel
theorem NO:uU.book.tasks 1=10:=GN
theorem uV {x:Int} (h:(pv.map (·.1))[j]?=R x):∃y,pv[j]?=R (x,y):=by rw[dD] at h;obtain⟨⟨a,b⟩,c,rfl⟩:=h9.1 h;exact⟨b,c⟩
theorem yn:mK.Good:=⟨by decide,by decide,by decide,by decide,by decide⟩
theorem DL:∀e∈oI,nf (er e):=by intro e a;unfold oI at a;simp only[gZ,List.not_mem_nil,or_false] at a;rcases a with rfl|rfl|rfl|rfl|rfl|rfl|rfl<;>(unfold nf er;dsimp only;omega)
theorem NP:bh (str oH)=oH:=by kernel_rfl
theorem NQ (w:ab) (c:fh w):Calls au 29 #[.string (str oH)] w λe w'=>∃a cap,e=aK (bC #[ay a 7 cap,I J 0,I J 0])∧Own jf w' w.heap.size 33 (ay a 7 cap) 7 oI∧Below w.heap.size w w':=by
 have d:(str oH).size<=100000000:=by
  have:(str oH).size=84:=by kernel_rfl
  omega
 refine(FC (str oH) w c d).mono ?_;rintro e w' ⟨v,rfl,b,f⟩;rw[NP,GO] at*;obtain⟨a,cap,rfl⟩:=b.mV;exact⟨a,cap,rfl,b,f⟩
theorem DM (w:ab) (z:fh w):Calls au 13 #[] w λe w'=>e=aK (aD true)∧Below w.heap.size w w':=by
 have A:=C (NQ w z);have l:=C (λ(W:ab)=>DK mK yn W);unfold qm mK at l;dsimp only at l;go_enter func13,ntmps13;go_wp2_with fail;refine A.mono ?_;rintro e m ⟨B,D,rfl,E,F⟩;go_wp2_with fail;refine(l m).mono ?_;rintro e G ⟨L,rfl,H⟩;have K:=C (show ax m (λ_=>False) L (aa.new mK) G from H);have n:=Nk oI (ay B 7 D) w.heap.size DL (by decide) E K (ym yn) (by omega);unfold aX at n;obtain⟨aG,s⟩:=aW L.b;unfold aX;rw[s] at n;simp only[s];have M:=C n;go_wp2_with fail;refine M.mono ?_;rintro e a ⟨N,rfl,t,O,P,u⟩;rw[Av] at t u;have c:Own qk a 0 29 N 7 pv:=t;obtain⟨f,aL,rfl,af⟩:=c.form (by omega);have o:uU.Ok 7:=by have v:=uN (oI.map er) (aa.new mK) 0 (ym yn) (by decide) (λe Q=>by obtain⟨y,S,rfl⟩:=eY.1 Q;exact DL y S);rw[Av] at v;exact v.ok
 have g:ax m (λ_=>False) O uU a:=u;have h:=GM;obtain⟨ae,T⟩:=uV (j:=3) (x:=0) (by unfold pv;rw[h];rfl);obtain⟨am,V⟩:=uV (j:=4) (x:=1) (by unfold pv;rw[h];rfl);obtain⟨aN,X⟩:=uV (j:=5) (x:=0) (by unfold pv;rw[h];rfl);obtain⟨aj,Y⟩:=uV (j:=6) (x:=1) (by unfold pv;rw[h];rfl);have ap:a.cell? ⟨f,6,U⟩=R (I J 0):=c.at_ T (q:=0) rfl;have aQ:a.cell? ⟨f,8,U⟩=R (I J 1):=c.at_ V (q:=0) rfl;have ah:a.cell? ⟨f,10,U⟩=R (I J 0):=c.at_ X (q:=0) rfl;have aR:a.cell? ⟨f,12,U⟩=R (I J 1):=c.at_ Y (q:=0) rfl;have d:=Nw 1 g o;unfold uR at d;rw[NN] at d;have k:=λ(Z:ab) (aq:Below a.heap.size a Z)=>uP 1 (g.next aq) o;obtain⟨aS,aU,aP,aV,aZ,a6,ac⟩:=Nx 1 g o;rw[ac,NO] at k;unfold aX at d k;rw[P] at d k;have az:=C d;have ad:=C k;have p:=C (show Below w.heap.size w a from((zF9 F).trans g.1 (λi _ q=>q)).toBelow);have ak:=Nu;have a7:=Nv;go_wp2_with fail;refine az.mono ?_;rintro e aB ⟨rfl,r⟩;go_wp2_with fail;refine(ad aB r).mono ?_;rintro e a8 ⟨rfl,aA⟩;go_wp2_with fail;go_ret;exact⟨rfl,(p.trans (r.mono p.size)).trans (aA.mono (cA p.size r.size))⟩
variable {zs:List Int}
def pw (zs:List bQ) (c:hT) (i:Nat):aa:=(fm ((zs.take i).map er) (aa.new c)).2
section
variable {zs:List bQ} {c:hT} {i:Nat} {x:bQ}
theorem NR (h:∀e∈zs,e.Ok):∀e∈(zs.take i).map er,nf e:=λe a=>by obtain⟨y,b,rfl⟩:=eY.1 a;have:=(h y (List.mem_of_mem_take b)).s;exact⟨by show(0:Int)<=(y.s:Int);omega,by show(y.s:Int)<_;omega⟩
theorem NS (h:∀e∈zs,e.Ok) (a:zs[i]?=R x):nf (er x):=by have:=(h x (ea a)).s;exact⟨by show(0:Int)<=(x.s:Int);omega,by show(x.s:Int)<_;omega⟩
theorem NT (a:c.Good) (h:∀e∈zs,e.Ok) (b:i<=1000):(pw zs c i).In ((zs.take i).map er).length:=by have:=uN ((zs.take i).map er) (aa.new c) 0 (ym a) (by rw[dY,iG];omega) (NR h);rw[lZ] at this;exact this
theorem NU:((zs.take i).map er).length<=i:=by rw[dY,iG];omega
theorem NV (a:zs[i]?=R x):pw zs c (i+1)=((pw zs c i).dP (er x)).1:=by unfold pw;rw[DE a]
theorem DN {len:Nat} (h:yo w a len cap zs) (l:Mod (λ_=>False) w W) (g:zs[i]?=R x):∃c d,a=R ⟨c,d,U⟩∧W.cell? ⟨c,d+i*6,U⟩=R (I J x.k)∧W.cell? ⟨c,d+i*6+1,U⟩=R (I J x.a)∧W.cell? ⟨c,d+i*6+2,U⟩=R (I J x.b)∧W.cell? ⟨c,d+i*6+3,U⟩=R (I J x.n)∧W.cell? ⟨c,d+i*6+4,U⟩=R (I J x.m)∧W.cell? ⟨c,d+i*6+5,U⟩=R (I ah (x.s:Int)):=by obtain⟨_,_,j,_⟩:=h;have r:=(bD.1 g).1;have t:=j.1;obtain⟨c,d,rfl,o,p⟩:=j.cells (by omega);have k:∀(f:Nat) (u:Value),(jf.e x)[f]?=R u->W.cell? ⟨c,d+(i*6+f),U⟩=R u:=λf u q=>l.cell (p i x g f u q) o id;exact⟨c,d,rfl,k 0 _ rfl,k 1 _ rfl,k 2 _ rfl,k 3 _ rfl,k 4 _ rfl,k 5 _ rfl⟩
end
theorem DO {P:Program} (t e:TypeId) (i:TypeInfo) (z:Value) (f:P.underlying t=R (.slice e)) (g:P.info? e=R i) (h:i.zero=R z) (a b:IntKind) (n c:Nat) (l:n<=c) (m:i.bytes*c<=281474976710656) (o:c<=9223372036854775807) (w:ab):(Instr.makeSlice t (I a (n:Int)) (I b (c:Int))).run P w= .ok (ay (R ⟨w.heap.size,0,U⟩) n c) (w.alloc (av (madeCells z.cells (c*i.size)) e)):=by
 have j:(i.bytes:Int)*(c:Int)<=281474976710656:=by
  have k:((i.bytes*c:Nat):Int)<=281474976710656:=by omega
  rwa[Int.natCast_mul] at k
 have d:=run_make (P:=P) w t e i z f g h a b n c (by omega) (by omega) j (by omega);simp only[bZ] at d;exact d
structure hJ (W:ab) (g n i:Nat) (f:Nat->Value) (z:Value):Prop where
 lt:g<W.heap.size
 cell:∀j,j<n->W.cell? ⟨g,j,U⟩=R (if j<i then f j else z)
 free:∀j,W.frozen? ⟨g,j,U⟩=false
theorem DP (w:ab) (n T:Nat) (f:Nat->Value) (z:Value):hJ (w.alloc (av (madeCells #[z] n) T)) w.heap.size n 0 f z:=by refine⟨by simp,λj a=>?_,λj=>by simp⟩;rw[World.cell?_alloc_at _ T _ j rfl];simp[madeCells,a,Nat.mod_one]
theorem hJ.put {f:Nat->Value} {z:Value} (h:hJ W g n i f z) (d:i<n):hJ (W.setCell ⟨g,i,U⟩ (f i)) g n (i+1) f z:=by
 refine⟨by simpa using h.lt,λj a=>?_,λj=>by rw[nZ];exact h.free j⟩;by_cases e:j=i;·subst e;rw[nX _ _ _ (by rw[h.cell j a];rfl),aj (by omega)]
 ·rw[i_ _ _ _ _ (by intro c;simp only[Addr.mk.injEq] at c;omega),h.cell j a];by_cases b:j<i;·rw[aj b,aj (by omega)]
  ·rw[z0 b,z0 (by omega)]
theorem hJ.mod {f:Nat->Value} {z:Value} (h:hJ W g n i f z) (b:Mod S W W') (d:¬S g):hJ W' g n i f z:=by have c:=b.block g h.lt d;exact⟨dd h.lt b.size,λj e=>(lq (a:=⟨g,j,U⟩) c).trans (h.cell j e),λj=>(World.frozen?_of_block (a:=⟨g,j,U⟩) c).trans (h.free j)⟩
def nW (s:aa) (n:Int):Int:=match s.task n with|none=>4|some t=>ql s n t
def hs (zs:List Int):Nat->Int
 |0=>0
 |k+1=>hs zs k+a_ zs k
theorem NW {zs:List Int} (a:∀b,0<=a_ zs b) (k:Nat):0<=hs zs k:=by
 induction k with
 |zero=>simp[hs]
 |succ k c=>have:=a k;unfold hs;omega
theorem NX {zs:List Int} (a:∀b,0<=a_ zs b) {j k:Nat} (h:j<=k):hs zs j<=hs zs k:=by
 induction k with
 |zero=>
  obtain rfl:j=0:=by omega
  omega
 |succ k c=>
  by_cases d:j=k+1;·subst d;omega
  ·have:=c (by omega);have:=a k;show _<=hs zs k+a_ zs k;omega
def ng (zs:List Int):Int:=if hs zs zs.length<=18446744073709551615 then hs zs zs.length else 18446744073709551615
theorem NY {zs:List Int} (a:∀b,0<=a_ zs b) {k:Nat} (hk:k<=zs.length) (h:18446744073709551615<hs zs k):ng zs=18446744073709551615:=by have:=NX a hk;unfold ng;rw[z0 (by omega)]
theorem DQ (a:Option Addr) (cap:Nat) (zs:List Int) (w:ab) (hI:fa w.heap.size w (ay a zs.length cap) zs) (e:∀p,0<=a_ zs p∧a_ zs p<18446744073709551616) (r:zs.length<=140737488351232):Calls au 32 #[ay a zs.length cap] w λs t=>s=aK (I ah (ng zs))∧w=t:=by
 have j:∀p,0<=a_ zs p:=λp=>(e p).1;obtain⟨b,f⟩:=aW zs.length;have d:=C f;have l:=C e;have m:=C j;have u:=C hI;rw[f] at r⊢;clear f e j hI;go_enter func32,ntmps32;go_wp2;go_loop [3,8] (λv g=>∃k:Nat,k<=b∧g=I J k∧v=I ah (hs zs k)∧hs zs k<=18446744073709551615) (λ_ g=>b-(intOf g).toNat);case atStart=>exact⟨0,gN _,rfl,rfl,by simp[hs]⟩
 case round=>
  obtain⟨k,z,rfl,rfl,x⟩:=hrel;have A:=NW m k;by_cases n:k<b
  ·obtain⟨B,D,y,E,o⟩:=u.cells (p:=k) (by rw[d.out];exact n);have F:=o k (by rw[d.out];exact n);clear o;subst y;have G:=(l k).1;have H:=(l k).2;have q:hs zs (k+1)=hs zs k+a_ zs k:=rfl;have h:=C q;clear q;have K:(k:Int)<(b:Int):=(by omega);generalize hs zs k=S at*;generalize a_ zs k=Z at*;by_cases L:18446744073709551615-S<Z;·have c:=NY m (k:=k+1) (by rw[d.out];omega) (by rw[h.out];omega);have i:=C c;clear c;go_wp2;go_ret;exact⟨by rw[i.out];rfl,rfl⟩
   ·go_wp2;go_round;case rel=>exact⟨k+1,by omega,by go_num,by rw[h.out],by rw[h.out];omega⟩
    case measure=>simp[intOf];omega
  ·obtain rfl:k=b:=by omega
   have c:ng zs=hs zs k:=(by unfold ng;rw[d.out,aj x]);have i:=C c;clear c;go_wp2;go_ret;exact⟨by rw[i.out];rfl,rfl⟩
theorem NZ {m:Int} {k:Nat} (h0:0<=m) (c:m<18446744073709551616) (h:bW m k=true):m/2^k%2=1:=by
 obtain⟨a,rfl⟩:=dS h0;unfold bW at h;have b:((a:Int)/2^k)=((a/2^k:Nat):Int):=by simp
 rw[b,show(1:Int)=((1:Nat):Int) from rfl,u64_and_nat _ _ (n9 (Nat.div_le_self _ _) (by omega)) (by decide),Nat.and_one_is_mod] at h;rw[b];simp at h;omega
theorem yp (zs:List Int):∀n:Nat,hs zs n=nD (λi=>a_ zs i.toNat) n
 |0=>rfl
 |n+1=>by show hs zs n+a_ zs n=nD (λi=>a_ zs i.toNat) n+a_ zs ((n:Int)).toNat;rw[yp zs n,bZ]
theorem N0 {s r:aa} {n f A:Nat} (a:q9 s r n f A):ng r.dt=ng s.dt:=by
 have g:r.c.aO=s.c.aO:=by rw[a.c]
 have h:s.dt.length=s.c.aO:=by unfold aa.dt;rw[dY,List.length_range]
 have i:r.dt.length=s.c.aO:=by unfold aa.dt;rw[dY,List.length_range];exact g
 obtain⟨j,q,t,u,v⟩:=a.less;have b:=a.As;have d:=a.from_
 have k:=Au s.dt r.dt f A (j:Int) (by rw[r.jZ (by omega),s.jZ d];omega) (by rw[r.jZ (by omega),s.jZ b];omega) a.ne (λe l m=>by
  by_cases o:e<s.c.aO;·rw[r.jZ (by omega),s.jZ o,a.other e l m]
  ·unfold a_;rw[gh (by omega),gh (by omega)]) s.c.aO
 rw[aj d,aj b,<-yp,<-yp] at k;have p:hs r.dt s.c.aO=hs s.dt s.c.aO:=by omega
 unfold ng;rw[h,i,p]
theorem N1 {bw w:ab} {S:Nat->Prop} {L:bu} {s r:aa} {k:Nat} (H:ax bw S L r w) (hk:r.Ok k) {n f A a:Nat} (j:q9 s r n f A) (o:s.c.aO=a) (b6:a<=64) (aq:∀p:Nat,s.load 0 p<=1000000000000) (ac:∀p:Nat,r.load 0 p<=1000000000000) (aU a2:Option Addr) (az c2:Nat) (a0:fa w.heap.size w (ay aU a az) s.dt) (bz:fa w.heap.size w (ay a2 a c2) r.dt):Calls au 15 #[aX L.b,ay aU a az,ay a2 a c2,I J (f:Int),I J (A:Int),I J (n:Int)] w λq a3=>q=aK (aD true)∧Below w.heap.size w a3:=by
 have ad:r.c.aO=a:=by rw[j.c];exact o
 have t:s.dt.length=a:=by unfold aa.dt;rw[dY,List.length_range];exact o
 have u:r.dt.length=a:=by unfold aa.dt;rw[dY,List.length_range];exact ad
 have x:=j.As;have e:=j.from_;rw[o] at x e;obtain⟨bR,D,bs,b9,aY,aP,a4,a5,bF⟩:=j.task;have E:=uP (n:Int) H hk;have a9:∃F G K M N,ll r (n:Int)=#[I J F,I J (A:Int),I J G,I J K,I ah M,I ah D.mask,I J N]:=by
  have aC:r.task (n:Int)=R D:=by unfold aa.task;rw[z0 (by omega),bZ,aP];dsimp only;rw[z0 (by rw[a4];decide)]
  unfold ll;rw[aC];dsimp only;rw[a5];exact⟨_,_,_,_,_,rfl⟩
 obtain⟨F,G,K,M,N,bI⟩:=a9;rw[bI] at E;unfold aX at E⊢;obtain⟨bv,bL⟩:∃y,L.b=y:=⟨_,rfl⟩;rw[bL] at E⊢;have aV:=C E;have aZ:=C a0;have a6:=C bz;have a7:=C j;have a8:=C bF;have a1:((f:Int)==(A:Int))=false:=by have:=j.ne;simp;omega
 have cc:(f:Int)<(a:Int):=by omega
 have cf:(A:Int)<(a:Int):=by omega
 have cg:(0:Int)<=(f:Int):=by omega
 have cj:(0:Int)<=(A:Int):=by omega
 have cm:(f:Int).toNat=f:=by omega
 have cn:(A:Int).toNat=A:=by omega
 obtain⟨d,ba⟩:∃y,D.mask=y:=⟨_,rfl⟩;have O:=C (show 0<=d∧d<18446744073709551616 by rw[<-ba];exact(hk.task n D aP).mask);rw[ba] at aV a8;go_enter func15,ntmps15;go_wp2_with fail;refine aV.out.mono ?_;rintro q aB ⟨rfl,aA⟩;go_upto_region 4 with fail;obtain⟨P,Q⟩:∃P,aB.alloc (av #[I J F,I J (A:Int),I J G,I J K,I ah M,I ah d,I J N] 36)=P:=⟨_,rfl⟩;rw[Q];have T:Below w.heap.size w P:=Q▸aA.alloc aA.size _;have aG:ak P aB.heap.size #[I J F,I J (A:Int),I J G,I J K,I ah M,I ah d,I J N] 36:=Q▸ak.new _ _ _;have bd:=aG.cell 1 (v:=I J (A:Int)) rfl;have be:=aG.cell 5 (v:=I ah d) rfl;obtain⟨ao,aL⟩:∃y,aB.heap.size=y:=⟨_,rfl⟩;rw[aL] at bd be;simp only[aL];have bb:=aZ.below T;have ag:=a6.below T;obtain⟨af,ae,rfl,b8,am⟩:=bb.cells (p:=f) (by rw[t];exact e);obtain⟨aN,aj,rfl,cr,ap⟩:=ag.cells (p:=f) (by rw[u];exact e);have bf:=am f (by rw[t];exact e);have bc:=am A (by rw[t];exact x);have bg:=ap f (by rw[u];exact e);have bj:=ap A (by rw[u];exact x);rw[s.jZ (by rw[o];exact e)] at bf;rw[s.jZ (by rw[o];exact x)] at bc;rw[r.jZ (by rw[ad];exact e)] at bg;rw[r.jZ (by rw[ad];exact x)] at bj;have bN:=aq f;have bS:=aq A;have aM:=ac f;have bi:=ac A;obtain⟨bB,bW,V,W,X⟩:=a7.less;obtain⟨l,an⟩:=aW (s.load 0 (f:Int));obtain⟨m,aw⟩:=aW (s.load 0 (A:Int));obtain⟨Y,bl⟩:=aW (r.load 0 (f:Int));obtain⟨Z,bo⟩:=aW (r.load 0 (A:Int));rw[an] at bf bN V X;rw[aw] at bc bS W X;rw[bl] at bg aM V;rw[bo] at bj bi W;have g:=C T;have bm:=C (br V (br W X));clear Q aG aL bb ag am ap an aw bl bo aA T V W X;have cu:(0:Int)<=(Y:Int):=by omega
 have cB:(0:Int)<=(Z:Int):=by omega
 go_region_held3 (λh=>h.cell? ⟨aN,aj+f,U⟩=R (I ah (Y:Int))∧h.cell? ⟨aN,aj+A,U⟩=R (I ah (Z:Int))) ((refine⟨?_,?_⟩)<;>(repeat(first|(with_reducible assumption)|(with_reducible refine b2 ?_)))) (fail);all_goals
  obtain⟨bT,bq⟩:=aW (IntKind.u64.wrap (max (Y:Int) (Z:Int)-min (Y:Int) (Z:Int)):Int);simp only[bq];have bX:gB (l:Int) (m:Int)=(l:Int)-(m:Int):=by have:=bm.out;unfold gB;split<;>omega
  have bV:bT<gB (l:Int) (m:Int):=by rw[bX,<-bq,ni];have:=bm.out;omega
  have aQ:=C (λ(i:ab) (z:Below w.heap.size w i)=>DQ (R ⟨af,ae,U⟩) az s.dt i (by rw[t];exact(aZ.below z).grow z.size) (λp=>by
   by_cases aR:p<s.c.aO;·rw[s.jZ aR];have:=aq p;omega
   ·unfold a_;rw[gh (by omega)];simp) (by omega))
  have aS:=C (λ(i:ab) (z:Below w.heap.size w i)=>DQ (R ⟨aN,aj,U⟩) c2 r.dt i (by rw[u];exact(a6.below z).grow z.size) (λp=>by
   by_cases aR:p<r.c.aO;·rw[r.jZ aR];have:=ac p;omega
   ·unfold a_;rw[gh (by omega)];simp) (by omega))
  rw[t] at aQ;rw[u,N0 a7.out] at aS;have bt:=C (λ(i:ab)=>Cz (l:Int) (m:Int) i (by omega) (by omega) (by omega) (by omega));generalize cG:ng s.dt=sm at aQ aS;generalize cJ:gB (l:Int) (m:Int)=gp at bt bV;have bk:(sm==sm)=true:=by simp
  have b1:=NZ O.out.1 O.out.2 a8.out;have al:=O.out.1;have b_:=O.out.2;have cq:(A:Int)<64:=by omega
  have cM:A<64:=by omega
  have b3:0<=d/2^A:=Int.ediv_nonneg al (by have:(0:Int)<2^A:=Int.pow_pos (by decide);omega);have ar:(d/2^A).tmod 2=1:=by rw[qo b3];exact b1
  go_wp2_with fail;go_region_held3 (λh=>h.cell? ⟨ao,1,U⟩=R (I J (A:Int))∧h.cell? ⟨ao,5,U⟩=R (I ah d)∧h.cell? ⟨af,ae+f,U⟩=R (I ah (l:Int))∧h.cell? ⟨af,ae+A,U⟩=R (I ah (m:Int))) ((refine⟨?_,?_,?_,?_⟩)<;>(with_reducible repeat(first|assumption|refine b2 ?_))) (first|(go_at_call 32;with_reducible refine(aQ.out _ (by first|exact g.out|exact g.out.drew|exact g.out.drew.drew)).mono ?_;rintro q ai ⟨rfl,B⟩;obtain rfl:=B.symm)|(go_at_call 32;with_reducible refine(aS.out _ (by first|exact g.out|exact g.out.drew|exact g.out.drew.drew)).mono ?_;rintro q ai ⟨rfl,B⟩;obtain rfl:=B.symm)|(go_at_call 33;with_reducible refine(bt.out _).mono ?_;rintro q ai ⟨rfl,B⟩;obtain rfl:=B.symm));all_goals go_wp2_with fail;go_ret;exact⟨rfl,g.drew.drew⟩
theorem N2 (v0 v1 v2 v3 v4 v5 a:Value) (w:ab):(Instr.field 36 (bk #[v0,v1,v2,v3,v4,v5,a]) 1).run au w= .ok v1 w:=by kernel_rfl
theorem N3:(prog.info? 3).map (λi=>(i.zero,i.size,i.bytes))=R (R (I J 0),1,8):=by kernel_rfl
theorem N4:(prog.info? 31).map (λi=>(i.zero,i.size,i.bytes))=R (R (I ah 0),1,8):=by kernel_rfl
theorem N5 (n:Nat) (h:n<=2097152):∀a:ab,(Instr.makeSlice 46 (I J (n:Int)) (I J (n:Int))).run au a= .ok (ay (R ⟨a.heap.size,0,U⟩) n n) (a.alloc (av (madeCells #[I J 0] n) 3)):=by obtain⟨c,d,e,f,g⟩:=info_parts N3;intro a;have b:=DO 46 3 c _ underlying46 d e .i64 .i64 n n zK9 (by rw[g];omega) (by omega) a;rw[f,Nat.mul_one] at b;exact b
theorem N6 (n:Nat) (h:n<=2097152):∀a:ab,(Instr.makeSlice 44 (I J (n:Int)) (I J (n:Int))).run au a= .ok (ay (R ⟨a.heap.size,0,U⟩) n n) (a.alloc (av (madeCells #[I ah 0] n) 31)):=by obtain⟨c,d,e,f,g⟩:=info_parts N4;intro a;have b:=DO 44 31 c _ underlying44 d e .i64 .i64 n n zK9 (by rw[g];omega) (by omega) a;rw[f,Nat.mul_one] at b;exact b
def mv (s:aa) (n:Int):Int:=match s.task n with|none=>0|some t=>t.p
def nL (s:aa) (n:Int):Nat:=match s.task n with|none=>0|some t=>t.w
theorem DR (s:aa) (n:Int):∃a b c,ll s n=#[I J (nW s n),I J (mv s n),I J a,I J b,I ah (nL s n:Int),I ah c,I J (s.book.tasks n)]:=by unfold ll nW mv nL;cases s.task n<;>exact⟨_,_,_,rfl⟩
theorem N7 {s:aa} {k n:Nat} {t:ex} (h:s.Ok k) (a:s.tasks[n]?=R t):((nW s (n:Int)=2∨nW s (n:Int)=3)∧t.on=true∧mv s (n:Int)=t.p∧nL s (n:Int)=t.w∧0<=t.p∧t.p<s.c.aO)∨(¬nW s (n:Int)=2∧¬nW s (n:Int)=3∧t.on=false):=by
 have b:=h.task n t a;unfold nW mv nL aa.task;rw[z0 (by omega),bZ,a];dsimp only;cases d:t.dead with
 |true=>rw[aj rfl];dsimp only;exact .inr ⟨by decide,by decide,b.dead d⟩
 |false=>
  rw[z0 (by decide)];dsimp only;unfold ql;cases e:t.on with
  |true=>
   rw[aj rfl];refine .inl ⟨?_,rfl,rfl,rfl,b.p⟩;split;·exact .inr rfl
   ·exact .inl rfl
  |false=>rw[z0 (by decide)];exact .inr ⟨by decide,by decide,rfl⟩
theorem N8 {s:aa} {n:Nat} {t:ex} (a:s.tasks[n]?=R t) (b:t.dead=false):mv s (n:Int)=t.p:=by unfold mv aa.task;rw[z0 (by omega),bZ,a];dsimp only;rw[z0 (by rw[b];decide)]
theorem aa.uW (s:aa) (n:Nat):(s.leave n).c=s.c:=by unfold aa.leave;split<;>rfl
theorem aa.uX (s:aa) (n:Nat) (p:Int) (b:Bool):(s.put n p b).c=s.c:=by unfold aa.put;split<;>rfl
theorem aa.yq (s:aa) (g:Nat) (f:aM->aM):(s.bP g f).c=s.c:=by unfold aa.bP;split<;>rfl
theorem aa.N9 (s:aa) (g:Nat) (f:List Int->List Int):(s.b7 g f).c=s.c:=by unfold aa.b7;split<;>rfl
theorem aa.DS (g:Nat):∀(l:List Int) (s:aa),(aa.eQ g l s).c=s.c
 |[],_=>rfl
 |p::l,s=>aa.DS g l (s.stop g p false)
theorem aa.DT (p ns:Int):∀(l:List Nat) (s:aa),(aa.ee p ns l s).c=s.c
 |[],_=>rfl
 |g::l,s=>(aa.DT p ns l _).trans (s.yq g _)
theorem aa.N_ (s:aa) (e:gm):(s.event e).1.c=s.c:=by
 have d:∀{i:Prop} [Decidable i] {a b:dO},a.1.c=s.c->b.1.c=s.c->(if i then a else b).1.c=s.c:=by
  intro i _ a b l m;split;·exact l
  ·exact m
 unfold aa.event;refine d ?_ (d ?_ (d ?_ (d ?_ (d ?_ (d ?_ (d ?_ (d ?_ (d ?_ (d ?_ (d ?_ (d ?_ (d ?_ (d ?_ (d ?_ ?_))))))))))))))
 ·unfold aa.grow;split;·rfl
  ·exact d rfl (d rfl rfl)
 ·unfold aa.drop;split;·rfl
  ·exact d rfl (d rfl rfl)
 ·unfold aa.move;split;·exact d rfl (d rfl rfl)
  ·rfl
 ·unfold aa.shares;split;·rfl
  ·exact d rfl (d rfl rfl)
 ·unfold aa.lJ;split;·rfl
  ·refine d rfl (d rfl ?_);refine(aa.DS _ _ _).trans ((aa.N9 _ _ _).trans ?_);exact aa.yq _ _ _
 ·unfold aa.spawn;split;·rfl
  ·exact d rfl (d rfl (d rfl (d rfl (aa.uX _ _ _ _))))
 ·unfold aa.k0;split;·rfl
  ·exact d rfl (aa.uX _ _ _ _)
 ·unfold aa.block;exact d rfl (d rfl (aa.uW _ _))
 ·unfold aa.yield;exact d rfl (d rfl rfl)
 ·unfold aa.exit;refine d rfl (d rfl ?_);split;·rfl
  ·exact aa.uW _ _
 ·unfold aa.tick;refine d rfl (d rfl (d rfl ?_));split;·rfl
  ·refine d rfl ?_;have o:∀(j:List Nat) (g:aa),g.c=s.c->(aa.ee e.a e.n j g).c=s.c:=λj g h=>(aa.DT _ _ j g).trans h;have p:∀(f:aa) (b:Bool) (k:Int),f.c=s.c->(if b then(((f.dJ e.a ((f.clock e.a).tick e.n.toNat)).bU e.a (((f.dJ e.a ((f.clock e.a).tick e.n.toNat)).aY e.a).yield)).begin e.a (-1),k,0) else(f.dJ e.a ((f.clock e.a).tick e.n.toNat),k,0):dO).1.c=s.c:=by
    intro f b k h;cases b;·exact h
    ·exact h
   exact p _ _ _ (o _ _ rfl)
 ·unfold aa.gy;split;·rfl
  ·exact d rfl (aa.yq _ _ _)
 ·unfold aa.pull;exact d rfl (d rfl (d rfl ((aa.uX _ _ _ _).trans (aa.uW _ _))))
 ·unfold aa.nice;split;·rfl
  ·exact d rfl (d rfl (d rfl rfl))
 ·unfold aa.mask;split;·rfl
  ·refine d rfl (d ?_ rfl);exact(aa.uX _ _ _ _).trans (aa.uW _ _)
 ·rfl
theorem aa.Oa (s:aa) {k:Nat} (e:gm) (h:s.Ok k) (b:nf e):(s.dP e).1.c=s.c:=by
 by_cases a:(s.dP e).2.2=0;·obtain⟨f,d⟩:=aa.Ak a;rw[d];exact((aa.Ok.settle (h.event e b)).du.c).trans (s.N_ e)
 ·rw[aa.GI a]
theorem hJ.start {a:ab} {g n:Nat} {f:Nat->Value} {z:Value} (h:hJ a g n 0 f z) (b:Nat->Value) (e:∀i,b i=z):hJ a g n n b z:=⟨h.lt,λc d=>by rw[h.cell c d,z0 (by omega),aj d,e c],h.free⟩
theorem hJ.at_ {a:ab} {g n j:Nat} {f:Nat->Value} {z:Value} (h:hJ a g n n f z) (b:j<n):a.cell? ⟨g,j,U⟩=R (f j):=by rw[h.cell j b,aj b]
theorem hJ.set {c:ab} {g n p:Nat} {f:Nat->Value} {z:Value} (h:hJ c g n n f z) (k:p<n) (v:Value) {d:Nat->Value} (i:∀a,a<n->d a=if a=p then v else f a):hJ (c.setCell ⟨g,p,U⟩ v) g n n d z:=by
 refine⟨by simpa using h.lt,λa b=>?_,λa=>by rw[nZ];exact h.free a⟩;rw[aj b,i a b];by_cases e:a=p;·subst e;rw[nX _ _ _ (by rw[h.at_ b];rfl),aj rfl]
 ·rw[i_ _ _ _ _ (by intro j;simp only[Addr.mk.injEq] at j;omega),z0 e];exact h.at_ b
theorem Ob (p:Int) (l:List ex) (j:Nat):gn p (l.take j)<=gn p l:=by have h:=wL p (l.take j) (l.drop j);rw[List.take_append_drop] at h;omega
def ju (s:aa) (j:Nat) (p:Nat):Value:=I ah (lN s (p:Int) j:Int)
theorem Oc (s:aa) (p:Nat):ju s 0 p=I ah 0:=rfl
theorem Od {s:aa} {k:Nat} (h:s.Ok k) (p:Int) (j:Nat):lN s p j<=k*262144:=by have a:=h.wM p;rw[h.q8 p] at a;exact cA (Ob p _ j) a
theorem Oe {s:aa} {k:Nat} (h:s.Ok k) (p:Int):lN s p s.tasks.length=s.load 0 p:=by rw[h.q8 p];unfold lN;rw[hL]
theorem Of {s:aa} {j:Nat} {t:ex} (b:s.tasks[j]?=R t) (c:t.on=true) {P:Nat} (d:t.p=P) (q:Nat):ju s (j+1) q=if q=P then I ah ((lN s (P:Int) j+t.w:Nat):Int) else ju s j q:=by
 unfold ju lN;rw[An b];unfold gD;by_cases a:q=P;·subst a;rw[aj ⟨c,d⟩,aj rfl]
 ·rw[z0 (λe=>a (by have:=e.2;omega)),z0 a,Nat.add_zero]
theorem Og {s:aa} {j:Nat} {t:ex} (a:s.tasks[j]?=R t) (b:t.on=false) (q:Nat):ju s (j+1) q=ju s j q:=by unfold ju lN;rw[An a];unfold gD;rw[z0 (by rw[b];simp),Nat.add_zero]
theorem Oh (s:aa) {p:Nat} (b:p<s.c.aO):(kk s s.c.aO)[p]?=R (s.load 0 (p:Int)):=by
 have a:=s.Ar b;rw[r3 s,dD] at a;cases e:(kk s s.c.aO)[p]? with
 |none=>rw[e] at a;cases a
 |some x=>rw[e] at a;simp only[iH,Option.some.injEq] at a;exact congrArg R (by omega)
theorem topLoads_any (z:List Int) (a1:sb z) (a:Option Addr) (len cap:Nat) (zs:List bQ) (w:ab) (cc:yo w a len cap zs) (bH:fh w):Calls au 5 #[sc z,ay a len cap] w λf aB=>f=aK (aD true)∧Below w.heap.size w aB:=by
 obtain⟨V,a3⟩:∃V,w.alloc (av #[I .u16 (a_ z 0),I .u16 (a_ z 1),I .u16 (a_ z 2),I .u16 (a_ z 3),I .u16 (a_ z 4)] 23)=V:=⟨_,rfl⟩;have aA:ak V w.heap.size #[I .u16 (a_ z 0),I .u16 (a_ z 1),I .u16 (a_ z 2),I .u16 (a_ z 3),I .u16 (a_ z 4)] 23:=a3▸ak.new _ _ _;have a4:=C (show Below w.heap.size w V from a3▸bx _ _);have bC:=C a3;have cf:=C (NM z a1 V);have fG:=C a1.rt;unfold sc at*;obtain⟨d9,fH⟩:∃j,a_ z 0=j:=⟨_,rfl⟩;obtain⟨cb,aG⟩:∃j,a_ z 1=j:=⟨_,rfl⟩;obtain⟨b7,aL⟩:∃j,a_ z 2=j:=⟨_,rfl⟩;obtain⟨pc,bb⟩:∃j,a_ z 3=j:=⟨_,rfl⟩;obtain⟨pd,fI⟩:∃j,a_ z 4=j:=⟨_,rfl⟩;rw[fH,aG,aL,bb,fI] at cf bC aA⊢;obtain⟨c,fJ⟩:∃c,nV z=c:=⟨_,rfl⟩;rw[fJ] at cf fG;have pe:=aA.cell 0 (v:=I .u16 d9) rfl;have pg:=aA.cell 1 (v:=I .u16 cb) rfl;have ph:=aA.cell 2 (v:=I .u16 b7) rfl;have pj:=aA.cell 3 (v:=I .u16 pc) rfl;have pk:=aA.cell 4 (v:=I .u16 pd) rfl;have a5:=C cc;have pn:=C (cc.2.2.1.1);have fK:=C bH;clear a3 aA a1 fH aG aL bb fI fJ cc bH;go_enter func5,ntmps5;go_upto_region 1 with fail;rw[bC.out];go_wp2_with fail;refine cf.out.mono ?_;rintro f po ⟨cg,rfl,fR⟩;have el:=C (show ax V (λ_=>False) cg (pw zs c 0) po from fR);obtain⟨ag,cj⟩:∃j,cg.b=j:=⟨_,rfl⟩;unfold aX;simp only[cj];have em:=C cj;clear fR cj pe pg ph pj pk;go_wp2_with fail;go_loopw [6] (λu6 t=>∃i:Nat,i<=len∧i<=80∧u6=I J (i:Int)∧∃aQ:bu,aQ.b=ag∧ax V (λ_=>False) aQ (pw zs c i) t) (λu6 _=>80-(intOf u6).toNat);case atStart=>exact⟨0,by omega,by omega,rfl,cg,em.out,el.out⟩
 case round=>
  obtain⟨i,CK,CL,rfl,aQ,bE,bf⟩:=hrel;have bF:=C bE;have aR:=C bf;clear bf bE;by_cases pq:i<len∧i<80
  ·obtain⟨cE,CM⟩:=pq;obtain⟨j,a9⟩:∃j,zs[i]?=R j:=⟨_,b5 (by rw[pn.out];exact cE)⟩;have aJ:=C a9;have K:=NT (i:=i) fG.out a5.out.2.2.2 (by omega);have fX:=NU (zs:=zs) (i:=i);have bc:=NS a5.out.2.2.2 a9;have bg:=C (NV (c:=c) a9);obtain⟨u,bf⟩:∃g,pw zs c i=g:=⟨_,rfl⟩;rw[bf] at K bg aR;obtain⟨l,fY⟩:∃g,((zs.take i).map er).length=g:=⟨_,rfl⟩;rw[fY] at K fX;obtain⟨d,aS⟩:∃d,u.dP (er j)=d:=⟨_,rfl⟩;rw[aS] at bg;have cm:=C K;have qg:=C (show d.1.c.aO=u.c.aO by rw[<-aS,aa.Oa u (er j) K.ok bc]);have bj:=C (show l<=1000 by omega);have P:=C (show d.1.In (l+1) by rw[<-aS];exact K.dP (by omega) _ bc);have eq:=C (show j.k=13->d.2.2=0->∃y an aU:Nat,d.2.1=y∧j.a=aU∧q9 u d.1 y an aU fromλF x=>by rw[<-aS] at x⊢;exact K.ok.GL (er j) bc F x);have cd:=C (λ(aP t:ab) (S:Nat->Prop) (es:ax aP S aQ u t)=>show Calls au 8 #[af (R ⟨ag,0,U⟩),bk #[I J j.k,I J j.a,I J j.b,I J j.n,I J j.m,I ah (j.s:Int)]] t (sa aP S aQ d) from by have r:=DB (er j) bc es K (by omega);unfold aX at r;rw[bF.out,aS] at r;exact r);have dv:=K.ok.eJ.1;obtain⟨G,aC⟩:∃g,u.tasks.length=g:=⟨_,rfl⟩;have tW:=C aC;rw[aC] at dv;have CN:G<=1000:=(by omega);have bI:=tS aR.out cm.out.ok (by omega);have aw:=λ(L:ab) (bl:ax V (λ_=>False) aQ u L)=>BJ bl;unfold aX at aw bI;rw[bF.out] at aw bI;rw[aC] at aw;have mu:=C aw;have ct:=C bI;have cl:=K.ok.aO;obtain⟨o,bL⟩:∃g,u.c.aO=g:=⟨_,rfl⟩;rw[bL] at cl;have fZ:=C bL;have tX:=C (r3 u);have tY:=C (show(kk u u.c.aO).length=o by rw[<-bL];exact qa u 0 _);clear aw bI bL;have f_:=N5 G (by omega);have CO:(i:Int)<(len:Int):=(by omega);have CP:(i:Int)<80:=(by omega);have CQ:(0:Int)<=(i:Int):=(by omega);have CR:(i:Int).toNat=i:=(by omega);have CS:=N2;clear a9 K fX bc bf fY aS dv aC;go_wp2_with fail;refine ct.out.mono ?_;rintro f W ⟨CT,rfl,bo,cn⟩;rw[tY.out] at bo;obtain⟨Q,b8,rfl,cp⟩:=bo.form (by omega);have tZ:=C bo;have cr:=C cn;have bd:=C (bo.lt Q rfl);have gw:=C (mu.out W (aR.out.next cn));clear bo cn cp;go_wp2_with fail;refine gw.out.mono ?_;rintro f bB ⟨rfl,x⟩;obtain rfl:=x.symm;clear x;have t_:=f_ W;clear f_;go_upto_region 9 with fail;obtain⟨ae,be⟩:∃ae,W.alloc (av (madeCells #[I J 0] G) 3)=ae:=⟨_,rfl⟩;rw[be];have bN:Below W.heap.size W ae:=be▸bx _ _;obtain⟨aV,ch⟩:∃aV:Nat->Value,(λh:Nat=>I J (mv u (h:Int)))=aV:=⟨_,rfl⟩;have gF:=C (λh:Nat=>(show aV h=I J (mv u (h:Int)) by rw[<-ch]));have bW:hJ ae W.heap.size G 0 aV (I J 0):=be▸DP W G 3 aV (I J 0);have gG:Below wr.heap.size wr ae:=cr.out.trans (bN.mono cr.out.size);obtain⟨bJ,gH,gI,gV⟩:=aR.out.nS gG;have cu:=C (λl (q:bJ l)=>(gH l q).1);have cB:=C bW.lt;have gW:=C gV;have c0:=C gI;have bM:=C bW;have cx:=C (tZ.out.next' bN);have ua:=C (show Q<ae.heap.size from dd bd.out.2 bN.size);obtain⟨D,bm⟩:∃g,W.heap.size=g:=⟨_,rfl⟩;have cG:=C (show wr.heap.size<=D by rw[<-bm];exact cr.out.size);have c2:=C (show Q<D by rw[<-bm];exact bd.out.2);rw[bm] at cB bM;simp only[bm];obtain⟨n0,cJ⟩:∃g,wr.heap.size=g:=⟨_,rfl⟩;rw[cJ] at gW cu cG bd;clear cJ be bN ch bW gH gI gV t_ bm gG;have c3:=C (show¬bJ D fromλq=>by have F:=cu.out _ q;have x:=cG.out;omega);go_wp2_with fail;go_loopw [9] (λu10 t=>∃h:Nat,h<=G∧u10=I J (h:Int)∧hJ t D G h aV (I J 0)∧Mod (λl=>l=D) ae t) (λu10 _=>G-(intOf u10).toNat);case atStart=>exact⟨0,by omega,rfl,bM.out,Mod.refl _ _⟩
   case round=>
    obtain⟨h,dZ,rfl,c4,b_⟩:=hrel;have c5:=C c4;have cq:=C b_;have cC:=C (c0.out.out b_ c3.out cB.out);clear c4 b_;by_cases ub:h<G
    ·obtain⟨cX,cY,CU,bq⟩:=DR u (h:Int);have T:=uP (h:Int) cC.out cm.out.ok;unfold aX at T;rw[bF.out,bq] at T;have bS:=C T;have cM:=gF.out h;obtain⟨aM,X⟩:∃g,mv u (h:Int)=g:=⟨_,rfl⟩;rw[X] at bS cM;have cw:=C cM;have cz:(h:Int)<(G:Int):=(by omega);have cJ:(0:Int)<=(h:Int):=(by omega);have CV:(h:Int).toNat=h:=(by omega);clear T bq X cM;go_wp2_with fail;refine bS.out.mono ?_;rintro f aZ ⟨rfl,ar⟩;have bU:=cq.out.hV ar;have bi:=c5.out.mod (Mod.below (S:=λ_=>False) ar) id;have cN:=bi.cell h ub;rw[if_neg (by omega)] at cN;have iQ:=bi.free h;have uc:=C bU;have cW:=C bi;clear ar bU bi;go_wp2_with fail;go_roundw;case rel=>exact⟨h+1,by omega,by go_num,by have r:=cW.out.put (i:=h) (by omega);rw[cw.out] at r;exact r,uc.out.setCell (show D=D from rfl) _⟩
     case measure=>simp[intOf];omega
    ·obtain rfl:h=G:=by omega
     have cz:¬(h:Int)<(h:Int):=(by omega);obtain⟨c8,h3,bT,h4⟩:=c0.out.DC (Z:=λl=>l=D∨l=Q) (n0:=n0) (cq.out.mono (λl _ q=>.inl q)) (λl f=>by
      have F:=cG.out;have x:=cB.out;have c_:=ua.out;have dc:=bd.out.1;rcases f with rfl|rfl;·exact⟨c3.out,x,by omega⟩
      ·exact⟨λq=>by have:=cu.out _ q;omega,c_,by omega⟩)
     have c9:=C (λl (q:c8 l)=>(h3 l q).2);have jA:=C bT;have h5:=C (λ(db:bu) (iz:aa) (bB:ab) (q:ax wr c8 db iz bB)=>gW.out _ _ _ (h4 db iz bB (q.lX (λl g=>.inl g))));have iA:Mod (λ_=>False) w wr:=(Mod.below (S:=λ_=>False) a4.out).trans (h5.out _ _ _ bT).1 (λi _ q=>q);obtain⟨da,aI,rfl,qh,iB,bp,dg,ud,cD⟩:=DN a5.out iA aJ.out;have ue:=C (cd.out wr wr c8 bT);have uf:=C (cx.out.mod cq.out (λcZ f q=>by cases f;have F:=c2.out;have x:Q=D:=q;omega));clear h3 bT h4 iA;go_wp2_with fail;refine ue.out.mono ?_;rintro f aZ ⟨rfl,bt,iC,bX⟩;have am:=C (iC.trans bF.out);have cI:=C bX;have cW:=C (c5.out.mod bX.1 (λq=>c9.out _ q (.inl rfl)));have ug:=C (uf.out.mod bX.1 (λcZ f q=>by cases f;exact c9.out _ q (.inr rfl)));clear iC bX qh iB bp dg ud cD;go_upto_region 14 with fail;obtain⟨Y,bV⟩:∃Y,aZ.alloc (av #[I J d.2.1,I J d.2.2] 29)=Y:=⟨_,rfl⟩;rw[bV];have M:Below aZ.heap.size aZ Y:=bV▸bx _ _;have aE:ak Y aZ.heap.size #[I J d.2.1,I J d.2.2] 29:=bV▸ak.new _ _ _;have de:=h5.out _ _ _ (cI.out.next M);have uh:=C de;have bh:=C aE;have bG:=C (cW.out.mod (Mod.below (S:=λ_=>False) M) id);have ui:=C (ug.out.next' M);have df:=C (show d.1.c.aO=o by rw[<-fZ.out];exact qg.out);have b1:=tS de P.out.ok (by have:=bj.out;omega);have uj:=C (r3 d.1);have uk:=C (show(kk d.1 d.1.c.aO).length=o by rw[<-df.out];exact qa d.1 0 _);unfold aX at b1;rw[am.out] at b1;have um:=C b1;obtain⟨al,di⟩:∃g,aZ.heap.size=g:=⟨_,rfl⟩;rw[di] at bh;simp only[di];clear bV M aE de b1 di;go_wp2_with fail;refine um.out.mono ?_;rintro f N ⟨c6,rfl,ai,hH⟩;rw[uk.out] at ai;obtain⟨fh,ca,rfl,uo⟩:=ai.form (by omega);have uq:=C ai;have dA:=C hH;have cH:=C (ai.lt fh rfl);have ur:=N6 o (by omega) N;clear ai hH uo;go_upto_region 16 with fail;obtain⟨aN,b3⟩:∃aN,N.alloc (av (madeCells #[I ah 0] o) 31)=aN:=⟨_,rfl⟩;rw[b3];have dF:Below N.heap.size N aN:=b3▸bx _ _;have bn:hJ aN N.heap.size o o (ju d.1 0) (I ah 0):=(b3▸DP N o 31 (ju d.1 0) (I ah 0):hJ aN N.heap.size o 0 (ju d.1 0) (I ah 0)).start _ (Oc d.1);have bw:Below Y.heap.size Y aN:=dA.out.trans (dF.mono dA.out.size);obtain⟨iD,dl,iW,iX⟩:=uh.out.nS bw;have qi:=C (λl (q:iD l)=>(dl l q).1);have uu:=C iX;have uv:=C iW;have uw:=C (uq.out.next' dF);have cK:=C (ui.out.next' bw);have dn:=C (bG.out.mod (Mod.below (S:=λ_=>False) bw) id);have bP:=C (bh.out.next bw);have gU:=C bn;have jE:=C bn.lt;have bO:=C (show fh<N.heap.size from cH.out.2);have a6:=C (show Y.heap.size<=N.heap.size from dA.out.size);have ux:=C (show al<Y.heap.size from bh.out.lt);obtain⟨H,dG⟩:∃g,N.heap.size=g:=⟨_,rfl⟩;rw[dG] at gU jE bO a6;simp only[dG];have cQ:=C (show¬iD H fromλq=>by have F:=qi.out _ q;have x:=a6.out;omega);clear b3 dF bn bw dl iW iX dG ur;have uy:=C (λ(aP L:ab) (S:Nat->Prop) (bl:ax aP S bt d.1 L)=>show Calls au 9 #[af (R ⟨ag,0,U⟩)] L (λf aB=>f=aK (I J (d.1.tasks.length:Int))∧aB=L) from by have r:=BJ bl;unfold aX at r;rw[am.out] at r;exact r);have uz:=C (λ(aP L:ab) (S:Nat->Prop) (bl:ax aP S bt d.1 L) (e:Nat)=>show Calls au 10 #[af (R ⟨ag,0,U⟩),I J (e:Int)] L (λf aB=>f=aK (bk (ll d.1 (e:Int)))∧Below L.heap.size L aB) from by have r:=uP (e:Int) bl P.out.ok;unfold aX at r;rw[am.out] at r;exact r);have fd:=C (show d.1.tasks.length<=1001 from by have F:=P.out.ok.eJ.1;have x:=bj.out;omega);obtain⟨a7,dH⟩:∃g,d.1.tasks.length=g:=⟨_,rfl⟩;have dI:=C dH;have CW:a7<=1001:=(by rw[<-dH];exact fd.out);have uA:=C (show∀E:ex,E.p<d.1.c.aO->E.p<o fromλE q=>by rw[df.out] at q;exact q);clear dH;go_wp2_with fail;go_loopw [13] (λu13 t=>∃e:Nat,e<=a7∧u13=I J (e:Int)∧hJ t H o o (ju d.1 e) (I ah 0)∧Mod (λl=>l=H) aN t) (λu13 _=>a7-(intOf u13).toNat);case atStart=>exact⟨0,by omega,rfl,gU.out,Mod.refl _ _⟩
     case round=>
      obtain⟨e,CX,rfl,ek,dB⟩:=hrel;have b6:=C ek;have a8:=C dB;have dT:=uv.out.out dB cQ.out jE.out;have dU:=C (uy.out _ _ _ dT);rw[dI.out] at dU;have j8:=C dT;clear ek dB dT;by_cases uB:e<a7
      ·have c7:(e:Int)<(a7:Int):=(by omega);obtain⟨E,aj⟩:∃E,d.1.tasks[e]?=R E:=⟨_,b5 (by rw[dI.out];exact uB)⟩;obtain⟨fo,j9,j_,bq⟩:=DR d.1 (e:Int);have T:=uz.out _ _ _ j8.out e;rw[bq] at T;have ce:=N7 P.out.ok aj;obtain⟨dV,aq⟩:∃g,nW d.1 (e:Int)=g:=⟨_,rfl⟩;obtain⟨aM,X⟩:∃g,mv d.1 (e:Int)=g:=⟨_,rfl⟩;obtain⟨eo,ka⟩:∃g,nL d.1 (e:Int)=g:=⟨_,rfl⟩;rw[aq,X,ka] at T ce;have bS:=C T;have uC:=C ce;have ci:=C aj;clear T ce aj bq aq X ka;go_wp2_with fail;refine dU.out.mono ?_;rintro f ap ⟨rfl,a0⟩;obtain rfl:=a0.symm;clear a0;go_wp2_with fail;refine bS.out.mono ?_;rintro f ap ⟨rfl,kb⟩;have eu:=C kb;clear kb;go_upto_region 20 with fail;obtain⟨ba,bR⟩:∃ba,ap.alloc (av #[I J dV,I J aM,I J fo,I J j9,I ah (eo:Int),I ah j_,I J (d.1.book.tasks (e:Int))] 36)=ba:=⟨_,rfl⟩;rw[bR];have bY:Below ap.heap.size ap ba:=bR▸bx _ _;have bs:ak ba ap.heap.size #[I J dV,I J aM,I J fo,I J j9,I ah (eo:Int),I ah j_,I J (d.1.book.tasks (e:Int))] 36:=bR▸ak.new _ _ _;have ck:=bs.cell 0 (v:=I J dV) rfl;have kc:=bs.cell 1 (v:=I J aM) rfl;have kd:=bs.cell 4 (v:=I ah (eo:Int)) rfl;have ev:Below wr.heap.size wr ba:=eu.out.trans (bY.mono eu.out.size);have ke:=C (a8.out.hV ev);have bz:=b6.out.mod (Mod.below (S:=λ_=>False) ev) id;have aH:=C bz;obtain⟨cL,ew⟩:∃g,ap.heap.size=g:=⟨_,rfl⟩;rw[ew] at ck kc kd;simp only[ew];have gw:=C (show H≠cL fromλq=>by have F:=b6.out.lt;have x:=eu.out.size;omega);clear bR bY bs ev ew;rcases uC.out with⟨aq,b9,rfl,rfl,kf,kg⟩|⟨ey,CY,b9⟩
       ·obtain⟨A,co⟩:∃A:Nat,E.p=(A:Int):=⟨E.p.toNat,by omega⟩;have kh:A<o:=(by have:=uA.out E kg;omega);have kG:=bz.at_ kh;have CZ:=bz.free A;have kH:=Od P.ok (A:Int) e;have uD:=bj.out;have kI:=(P.ok.task e E ci.out).w.2;have eG:=C (show∀q,ju d.1 (e+1) q=if q=A then I ah ((lN d.1 (A:Int) e+E.w:Nat):Int) else ju d.1 e q from Of ci.out b9 co);have xP:ba.cell? ⟨H,A,U⟩=R (I ah (lN d.1 (A:Int) e:Int)):=kG;obtain⟨ac,kJ⟩:=aW (lN d.1 (A:Int) e);obtain⟨a2,b0⟩:=aW E.w;rw[kJ] at xP kH eG;rw[b0] at kd kI eG;rw[co] at kc;have C0:ac+a2<18446744073709551616:=(by omega);have f0:(0:Int)<=(A:Int):=(by omega);have f1:(A:Int)<(o:Int):=(by omega);have f2:(A:Int).toNat=A:=(by omega);clear bz kG kH uD kI b9 kf kg co kJ b0;have kK:=C (aH.set kh (I ah ((ac+a2:Nat):Int)) (λq _=>eG.out q));have k8:=C (ke.setCell (i:=A) (show H=H from rfl) (I ah ((ac+a2:Nat):Int)));have k9:(ac:Int)+(a2:Int)=((ac+a2:Nat):Int):=(by omega);have k_:=C k9;clear k9;rcases aq with aq|aq
        ·rw[aq] at ck;go_wp2_with fail;go_region;rw[k_.out];go_wp2_with fail;go_roundw;case rel=>exact⟨e+1,by omega,by go_num,kK.mod (zF9 (below_drewN (Below.refl _ _) 1)) id,k8.hV (below_drewN (Below.refl _ _) 1)⟩
         case measure=>simp[intOf];omega
        ·rw[aq] at ck;go_wp2_with fail;go_region;rw[k_.out];go_wp2_with fail;go_roundw;case rel=>exact⟨e+1,by omega,by go_num,kK.mod (zF9 (below_drewN (Below.refl _ _) 1)) id,k8.hV (below_drewN (Below.refl _ _) 1)⟩
         case measure=>simp[intOf];omega
       ·clear bz;go_wp2_with fail;go_roundw;case rel=>exact⟨e+1,by omega,by go_num,by rw[show ju d.1 (e+1)=ju d.1 e from funext (Og ci.out b9)];exact aH.out,ke.out⟩
        case measure=>simp[intOf];omega
      ·obtain rfl:e=a7:=by omega
       have c7:¬(e:Int)<(e:Int):=(by omega);have eH:=C (uw.mod a8.out (λcZ f q=>by cases f;have F:=bO.out;have x:fh=H:=q;omega));have b4:=C (uu.out _ _ _ (j8.lX (λl g=>g.elim .inl (λf=>.inr (by have:=a6.out;omega)))));go_wp2_with fail;refine dU.mono ?_;rintro f ap ⟨rfl,a0⟩;obtain rfl:=a0.symm;clear a0;generalize la:wr=ld;rw[la] at eH b4 b6 a8;clear la;go_wp2_with fail;go_loopw [15] (λu15 t=>∃p:Nat,p<=o∧u15=I J (p:Int)∧Below ld.heap.size ld t) (λu15 _=>o-(intOf u15).toNat);case atStart=>exact⟨0,by omega,rfl,Below.refl _ _⟩
       case round=>
        obtain⟨p,f3,rfl,B⟩:=hrel;have O:=C B;by_cases lf:p<o
        ·have xQ:(p:Int)<(o:Int):=(by omega);have aG:=(eH.next' B).at_ (i:=p) (q:=0) (Oh d.1 (by rw[df.out];exact lf)) rfl;have aL:=(b6.mod (zF9 B) id).at_ lf;have bb:ju d.1 e p=I ah (d.1.load 0 (p:Int):Int):=(by show I ah (lN d.1 (p:Int) e:Int)=_;rw[<-dI.out,Oe P.out.ok]);rw[bb] at aL;generalize cO:d.1.load 0 (p:Int)=cF at aG aL;have f4:wr.cell? ⟨fh,p,U⟩=R (I ah (cF:Int)):=(by rw[show p*iU.c+0=p from by show p*1+0=p;omega] at aG;exact aG);have kf:(0:Int)<=(p:Int):=(by omega);have f5:(p:Int).toNat=p:=(by omega);clear aG bb cO B;go_wp2_with fail;go_region;go_wp2_with fail;go_roundw;case rel=>exact⟨p+1,by omega,by go_num,below_drewN O.out 1⟩
         case measure=>simp[intOf];omega
        ·obtain rfl:p=o:=by omega
         have xQ:¬(p:Int)<(p:Int):=(by omega);have eI:=b4.next B;have lg:Mod (λ_=>False) w wr:=(zF9 a4.out).trans eI.1 (λi _ q=>q);obtain⟨f6,f7,aL,lh,ao,fn,xR,xS,cP⟩:=DN a5.out lg aJ.out;cases aL;have cs:ak wr al #[I J d.2.1,I J d.2.2] 29:=ak.next ((a8.block al bP.lt (λq=>by have F:=ux.out;have x:=a6.out;have c_:al=H:=q;omega)).trans bP.out) B;have ac:=cs.cell 0 (v:=I J d.2.1) rfl;have eT:=cs.cell 1 (v:=I J d.2.2) rfl;have aY:=C eI;clear eI lg cs fn xR xS cP B;by_cases ki:j.k=13
         ·rw[ki] at lh;by_cases ey:d.2.2=0
          ·rw[ey] at eT;obtain⟨y,an,aU,lj,d0,eU⟩:=eq.out ki ey;rw[lj] at ac;rw[d0] at ao;obtain⟨E,_,aj,d1,X,_⟩:=eU.task;have fr:y<h:=(by rw[<-tW.out];exact(bD.1 aj).1);have d2:¬D=H:=λq=>by have F:=bG.out.lt;have x:=a6.out;omega
           have d3:¬Q=H:=λq=>by have F:=bG.out.lt;have x:=a6.out;have c_:=c2.out;omega
           have bv:=((dn.mod a8.out d2).mod (zF9 O.out) id).at_ fr;rw[gF.out y,N8 aj d1,X] at bv;have d4:=(cK.mod a8.out (λcZ f q=>by cases f;exact d3 q)).next' O.out;have d5:=eH.next' O.out;have d6:fa wr.heap.size wr (ay (R ⟨Q,0,U⟩) p b8) u.dt:=by
            obtain⟨_,dO,xT,f,_,_,_,cv⟩:=d4.rd;injection f with eW _ bA
            subst eW;subst bA;rw[tX.out];exact cv.tT
           have d7:fa wr.heap.size wr (ay (R ⟨fh,0,U⟩) p ca) d.1.dt:=by
            obtain⟨_,dO,xT,f,_,_,_,cv⟩:=d5.rd;injection f with eW _ bA
            subst eW;subst bA;rw[uj.out];exact cv.tT
           have fu:=C (λ(t:ab) (az:Below wr.heap.size wr t)=>show Calls au 15 #[af (R ⟨ag,0,U⟩),ay (R ⟨Q,0,U⟩) p b8,ay (R ⟨fh,0,U⟩) p ca,I J (an:Int),I J (aU:Int),I J (y:Int)] t (λf aB=>f=aK (aD true)∧Below t.heap.size t aB) from by have r:=N1 (aY.next az) P.ok eU fZ.out (by omega) (λq=>cA (cm.ok.wM (q:Int)) (by have:=bj.out;omega)) (λq=>cA (P.ok.wM (q:Int)) (by have:=bj.out;omega)) (R ⟨Q,0,U⟩) (R ⟨fh,0,U⟩) b8 ca (d6.next az) (d7.next az);unfold aX at r;rw[am.out] at r;exact r);have f8:¬(y:Int)<0:=(by omega);have f9:¬(h:Int)<=(y:Int):=(by omega);have LQ:(y:Int).toNat=y:=(by omega);have gb:(0:Int)<=(y:Int):=(by omega);have gc:(y:Int)<(h:Int):=(by omega);clear eU aj d1 X d2 d3 d4 d5 d6 d7 lj d0;go_upto_region 29 with fail;have pb:=C (fu.out wr.drew (below_drewN (Below.refl _ _) 1));have xU:=C (λ(ad:ab) (az:Below wr.drew.heap.size wr.drew ad)=>show ad.cell? ⟨D,y,U⟩=R (I J (an:Int))∧ad.cell? ⟨da,aI+i*6+1,U⟩=R (I J (aU:Int)) from⟨(az.cell (p:=⟨D,y,U⟩) (jv wr _ bv)).trans bv,(az.cell (p:=⟨da,aI+i*6+1,U⟩) (jv wr _ ao)).trans ao⟩);have cS:=C (λ(ad:ab) (az:Below wr.drew.heap.size wr.drew ad)=>aY.next ((below_drewN (Below.refl wr.heap.size wr) 1).trans az));clear lh ac eT;go_region_held3 (λd8=>d8.cell? ⟨D,y,U⟩=R (I J (an:Int))∧d8.cell? ⟨da,aI+i*6+1,U⟩=R (I J (aU:Int))) ((refine⟨?_,?_⟩)<;>(repeat(first|(with_reducible assumption)|(with_reducible refine b2 ?_)))) (first|(go_at_call 15;refine pb.mono ?_;rintro f ad ⟨rfl,e2⟩;obtain⟨dg,iB⟩:=xU.out ad e2;have xV:=C (cS.out ad e2);clear e2 bv ao));all_goals
            go_wp2_with fail;go_roundw;case rel=>exact⟨i+1,by omega,by omega,by go_num,bt,am.out,by rw[bg.out];exact xV.out⟩
            case measure=>simp[intOf];omega
          ·clear ao;go_wp2_with fail;go_roundw;case rel=>exact⟨i+1,by omega,by omega,by go_num,bt,am.out,by rw[bg.out];exact aY.out⟩
           case measure=>simp[intOf];omega
         ·clear ao eT;go_wp2_with fail;go_roundw;case rel=>exact⟨i+1,by omega,by omega,by go_num,bt,am.out,by rw[bg.out];exact aY.out⟩
          case measure=>simp[intOf];omega
  ·rcases(by omega:(¬i<len∨(i<len∧i=80))) with cU|⟨cU,c1⟩;·have cR:¬(i:Int)<(len:Int):=(by omega);have B:Below w.heap.size w wr:=((zF9 a4.out).trans aR.out.1 (λi _ q=>q)).toBelow;have O:=C B;have e3:=C (DM wr (fK.next B));clear B;go_wp2_with fail;refine e3.mono ?_;rintro f xW ⟨rfl,M⟩;have fe:=C M;clear M;go_wp2_with fail;go_ret;exact⟨rfl,O.trans (fe.mono O.size)⟩
   ·have cR:(i:Int)<(len:Int):=(by omega);have ge:¬(i:Int)<80:=(by omega);have B:Below w.heap.size w wr:=((zF9 a4.out).trans aR.out.1 (λi _ q=>q)).toBelow;have O:=C B;have e3:=C (DM wr (fK.next B));clear B;go_wp2_with fail;refine e3.mono ?_;rintro f xW ⟨rfl,M⟩;have fe:=C M;clear M;go_wp2_with fail;go_ret;exact⟨rfl,O.trans (fe.mono O.size)⟩
variable {H:Type} {enc:TypeId×Value->H} {base fuel:Nat} {spare:Nat->Bool} {held:Bool}
section
open Go.ChangeAt Go.ChangeShapes Go.WideShapes
theorem ev_dec {w:ab} {cs:List Value} {y:DataW H×List MemPlace} (h:DataW.trod enc au w base spare held fuel 33 cs=some y) (aP:cs.length=6):∃z:bQ,cs=jf.e z∧z.Ok:=by
 match cs,aP with
 |[u0,u1,u2,u3,u4,u5],_=>
  obtain⟨ag,m,_,rfl,_,yr,bc⟩:=DataW.trod_struct underlying33 h;match ag,yr with
  |[r5,qi,CJ,Oi,Oj,Pa],_=>obtain⟨n0,iL,_,f0⟩:=DataW.trod_int underlying3 (bc 0 _ rfl);obtain⟨ys,g1,_,f1⟩:=DataW.trod_int underlying3 (bc 1 _ rfl);obtain⟨yt,dB,_,f2⟩:=DataW.trod_int underlying3 (bc 2 _ rfl);obtain⟨yu,g3,_,f3⟩:=DataW.trod_int underlying2 (bc 3 _ rfl);obtain⟨yv,g4,_,f4⟩:=DataW.trod_int underlying2 (bc 4 _ rfl);obtain⟨DU,Ol,_,f5⟩:=DataW.trod_int underlying31 (bc 5 _ rfl);cases iL;cases g1;cases dB;cases g3;cases g4;cases Ol;have pb:=bounds_i64 f0;have hH:=bounds_i64 f1;have qh:=bounds_i64 f2;have Om:=bounds_i64 f3;have On:=bounds_i64 f4;have Pb:=bounds_u64 f5;obtain⟨s,rfl⟩:∃s:Nat,DU=(s:Int):=⟨DU.toNat,by omega⟩;exact⟨⟨n0,ys,yt,yu,yv,s⟩,rfl,by constructor<;>(simp only;omega)⟩
theorem open_evs {w:ab} {a:Option Addr} {len cap:Nat} {x:DataW H×List MemPlace} (h:DataW.trod enc au w base spare held fuel 24 [.slice a len cap]=some x):∃zs,yo w a len cap zs:=by
 rcases DataW.trod_slice underlying24 h with⟨mu,_⟩|⟨az,l,c',elems,rest,n,_,mu,_,_,aP,hm,hlen,hel,_⟩;·cases mu;exact⟨[],bK _,gN _,⟨rfl,λh=>by omega⟩,nofun⟩
 ·cases mu;have each:∀k,k<=len->∃zs:List bQ,zs.length=k∧(∀e∈zs,e.Ok)∧∀i z,zs[i]?=some z->∀q,q<6->w.cell? ((az.add (i*6)).add q)=(jf.e z)[q]?:=by
   intro k;induction k with
   |zero=>exactλ_=>⟨[],rfl,nofun,nofun⟩
   |succ i bv=>
    intro aV;obtain⟨zs,bm,bl,aR⟩:=bv (by omega);have aq:=hel i aV;rw[b5 (by omega),show au.cellsOf 33=6 by kernel_rfl,Option.bind_eq_some_iff] at aq;obtain⟨cs,mu,bj⟩:=aq;obtain⟨_,ki,Oo⟩:=World.cells?_some mu;obtain⟨z,rfl,aB⟩:=ev_dec bj ki;refine⟨zs++[z],by simp[bm],λe he=>?_,λj y bg=>?_⟩
    ·rcases nj.1 he with he|he;·exact bl e he
     ·cases qt.1 he;exact aB
    ·by_cases e:j<i;·rw[ja (by omega)] at bg;exact aR j y bg
     ·rw[gJ (by omega),bm] at bg;obtain rfl:i=j:=by have:=(bD.1 bg).1;simp at this;omega
      simp at bg;exact bg▸Oo
  obtain⟨zs,bm,bl,aR⟩:=each len (bK _);refine⟨zs,aP,hm,⟨bm,λh0=>?_⟩,bl⟩;have aq:=aR 0 zs[0] (b5 _) 0 (by omega);obtain⟨b,off,Oq⟩:=az;have aS:=World.cell?_spot aq;have az:=jv w _ aq;cases(show Oq=none from aS);refine⟨b,off,rfl,az,λj z bg q v a8=>?_⟩;have:=aR j z bg q (bD.1 a8).1;rw[addr_add,addr_add] at this;rw[←qy];exact this.trans a8
theorem iface_head {n oQ:String} {d:DataW Unit} {r:List (String×DataW Unit)} {W:ab} {g:Nat} {uY:TypeId} {ms:Array (String×TypeId)} (h:laidMet au ((n,.iface oQ d)::r) W) (aB:au.globalNamed n=some g) (aU:(au.globals[g]?).map (·.type)=some uY) (aV:au.underlying uY=some (.interface ms)):∃mx p,W.var? au n=some #[.iface mx p]:=by obtain⟨_,⟨iL,t0,cs0,f0,Pc,ks,g8,Ot,Ou,bM,_⟩,_⟩:=h;cases aB.symm.trans g8;cases aU.symm.trans Ot;obtain⟨_,u,v,e,_⟩:=iface_of_trod aV bM;obtain⟨Ov⟩:=cs0;cases(show Ov=_ from e);exact⟨u,v,Ou⟩
theorem known_of {W:ab} (h:laidMetH au Rows.topLedgerRow.laid W) (aS:W.ShapedOpen au):fh W:=by
 rw[MakeChecks.laidMetH_plain _ _ _ (by kernel_rfl)] at h;have aq:=laidMet.tail (show laidMet au (_::_) W from h);have aA:=laidMet.tail (show laidMet au (_::_) W from aq);have bV:=laidMet.tail (show laidMet au (_::_) W from laidMet.tail (show laidMet au (_::_) W from aA));have cZ:=laidMet.tail (show laidMet au (_::_) W from bV);have r5:au.globalNamed (Rows.topLedgerRow.laid.getD 1 ("",.nil)).1=some 9:=by kernel_rfl
 have aU:=Lib.tabIs_of_head (zs:=Lib.deBruijn64tab.map Int.ofNat) (k:=.u8) r5 (t:=398) (by kernel_rfl) underlying398 underlying5 (by kernel_rfl) (by kernel_rfl) aq;refine⟨?_,λj bg=>?_,vh.s1_3 W aS,Lib.tabIs_of_head yB (t:=383) (by kernel_rfl) underlying383 underlying31 (by kernel_rfl) (by kernel_rfl) aA,iface_head cZ yC (uY:=301) (by kernel_rfl) underlying301,iface_head bV yD (uY:=301) (by kernel_rfl) underlying301⟩;·obtain⟨⟨z,t⟩,aG⟩:=gK.1 (show(((begin au (λ_ _=>0) default).world.heap[9]?).bind Obj.row?).isSome=true by kernel_rfl);obtain⟨cs,aR,_⟩:=aS.1 9 z t (of_decide_eq_true (by kernel_rfl)) aG;have:=(iZ.1 aR).1;omega
 ·rw[aU.cell r5 j (by simpa using bg),List.getD,List.getD,dD];cases Lib.deBruijn64tab[j]?<;>rfl
def IsTerms (w:ab) (v:Value) (z:List Int):Prop:=v=sc z∧sb z
theorem open_terms {W:ab} {base pb:Nat} {v:Value} {d:DataW H} {p:List MemPlace} (gU:Value.okWide au W .any base 23 v) (h:DataW.Trod enc au W pb spare held 23 v d p):∃z,IsTerms W v z:=by
 simp only[Value.okWide,underlying23] at gU;obtain⟨⟨l⟩,rfl,aA,_⟩:=gU;obtain⟨fuel,bc⟩:=h;match l,aA.trans (show _=5 by kernel_rfl) with
 |[u0,u1,u2,u3,u4],_=>
  obtain⟨ag,m,_,_,_,yr,aB⟩:=DataW.trod_array underlying23 bc;match ag,yr with
  |[r5,qi,CJ,Oi,Oj],_=>rw[show au.cellsOf 22=1 by kernel_rfl] at aB;obtain⟨n0,iL,_,f0⟩:=DataW.trod_int underlying22 (aB 0 (by omega));obtain⟨ys,g1,_,f1⟩:=DataW.trod_int underlying22 (aB 1 (by omega));obtain⟨yt,dB,_,f2⟩:=DataW.trod_int underlying22 (aB 2 (by omega));obtain⟨yu,g3,_,f3⟩:=DataW.trod_int underlying22 (aB 3 (by omega));obtain⟨yv,g4,_,f4⟩:=DataW.trod_int underlying22 (aB 4 (by omega));cases iL;cases g1;cases dB;cases g3;cases g4;have pb:=bounds_u16 f0;have hH:=bounds_u16 f1;have qh:=bounds_u16 f2;have Om:=bounds_u16 f3;have On:=bounds_u16 f4;exact⟨[n0,ys,yt,yu,yv],rfl,rfl,λi=>by rcases i with _|_|_|_|_|i<;>(simp[a_];try omega)⟩
theorem witness_lay {ar:Checked} {os:Os} {f:FuncId} {fn:Func} {s:OpenSpec} {conds:List PathCond} {apart:Bool} {laid:List (String×DataW Unit)} (ao:ab) (args:Array Value) (hos:ao.os=os) (Ow:(ao.forCall (λ_ _=>0) ⟨#[],args,[]⟩).Shaped ar.prog) (gU:Input.okWideB ar.prog (ao.forCall (λ_ _=>0) ⟨#[],args,[]⟩) f ⟨#[],args,[]⟩=true) (Ox:s.preRow enc ar.prog fn conds apart laid (ao.forCall (λ_ _=>0) ⟨#[],args,[]⟩).memory args):∃(w:ab) (tape:Tape) (i:Input),w.os=os∧(w.forCall tape i).Shaped ar.prog∧i.vars=[]∧Input.okWide ar.prog (w.forCall tape i) .any w.heap.size f i∧s.preRow enc ar.prog fn conds apart laid (w.forCall tape i).memory i.args∧({}:Assume).holds ar.prog (lone (Frame.enter ar.prog f i.args .normal) [] (w.forCall tape i)):=⟨ao,λ_ _=>0,⟨#[],args,[]⟩,hos,Ow,(Input.okWide_of_okWideB (base:=0) gU).1,(Input.okWide_of_okWideB gU).2,Ox,by simp only[Assume.holds];exact⟨by simp,by simp,λh=>by simp at h,by simp,by simp⟩⟩
end
end Go.Proofs.YtddbkdjcjoofpaaGreatDoor
