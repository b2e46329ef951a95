import Derived.Test.YtddbkdjcjoofpaaGreatDoorLA
import Derived.Test.YtddbkdjcjoofpaaGreatDoorLC
import Derived.Test.YtddbkdjcjoofpaaGreatDoorLD
import Derived.Test.YtddbkdjcjoofpaaGreatDoorLE
import Derived.Test.YtddbkdjcjoofpaaGreatDoorLF
import Derived.Test.YtddbkdjcjoofpaaGreatDoorLG
import Derived.Test.YtddbkdjcjoofpaaGreatDoorLL
import Derived.Test.YtddbkdjcjoofpaaGreatDoorLP
import Derived.LaidMore
import Derived.LaidLaws
import Derived.Shelf.Vars
import Derived.Lay
import Derived.Deep.DeepHandedRow
import Derived.Stop.Joined
import Derived.SizedLaws
namespace Go.Proofs.YtddbkdjcjoofpaaGreatDoor
set_option linter.unusedVariables false
set_option linter.unusedSimpArgs false
set_option maxRecDepth 100000
set_option maxHeartbeats 20000000
open _root_.Go.Proofs.Tryz Go.RowKit
open Go renaming World→ab
open _root_.Go.Proofs.Tryz renaming prog→au
open Option renaming none→U,some→R
open _root_.Go.Value renaming int→I,pointer→af,slice→aA,bool→aE,agg→bm,tuple→bD
open _root_.Go.IntKind renaming i64→J,u64→ah
open _root_.Go.Obj renaming cells→av
open _root_.Go.Ending renaming returned→aK
open _root_.Nat renaming le_refl→bM,le_trans→cJ,lt_of_lt_of_le→dm,zero_add→mq,zero_le→hq,add_assoc→qd
open _root_.Array renaming getElem?_eq_some_iff→iQ
open _root_.Go renaming World→ab
open _root_.List renaming getElem?_eq_getElem→b6,getElem?_map→dP,getElem?_eq_some_iff→bE,getElem?_append_right→gC,getElem?_append_left→iR,mem_map→e0,mem_cons→gu,getElem?_toArray→ff,mem_of_getElem?→ea,length_map→ep,map_append→h4,mem_cons_self→ey,mem_cons_of_mem→gD,mem_append→nc,mem_singleton→p8,take_length→h3,length_take→ix,take_add_one→gE
open _root_.And renaming intro→bx
open _root_.Int renaming le_refl→hL,add_zero→pa
open _root_.Option renaming isSome_iff_exists→gP,map_eq_some_iff→h1,toList_some→lI
open _root_.Go.World renaming block_lt_of_cell?→j7
variable {b n g i p j c B m o:Nat} {S Z al:Nat->Prop} {w W w' y A:ab} {v u:Value} {a:Option Addr} {k x:Key} {l:List Int} {ai:Int->Nat} {e:aI} {ag:List (Int×Int)} {r:T} {P:List (List Nat)} {V:List (Int×Int)->ab->Prop} {L:List ByteArray}
def CU (f:Nat):Value:=.func (.func f) #[] #[]
def nJ (k:Int):Option Nat:=if k=1 then R 45 else if k=2 then R 46 else if k=3 then R 47 else if k=4 then R 48 else if k=5 then R 49 else if k=6 then R 51 else if k=7 then R 52 else if k=8 then R 55 else if k=9 then R 57 else if k=10 then R 56 else if k=11 then R 58 else if k=12 then R 50 else if k=13 then R 59 else if k=14 then R 53 else if k=15 then R 54 else U
def oZ (k:Int):Option Value:=(nJ k).map CU
theorem CV (w:ab):Calls au 19 #[] w λe w'=>∃m n,e=aK (.map (R m))∧ej w' m oZ n∧Below w.heap.size w w':=by
 have a9:=@run_makeMap au;have aP:=ej.new w;have aT:Mod (λ_=>False) w (w.alloc (.map #[] 0)):=(Mod.refl _ _).alloc _;have a:∀{c:ab} (b:Obj),Mod (λ_=>False) w c->Mod (λ_=>False) w (ed c w.heap.size b):=λb aV=>aV.trans (qW _ _ b) (λi aZ ak=>by subst ak;exact absurd aZ (by omega));obtain⟨d,a6,f⟩:=aP.put underlying58 underlying3 1 (.func (.func 45) #[] #[]);have h:=a d aT;generalize aD:ed (w.alloc (.map #[] 0)) w.heap.size d=a8 at a6 f h;obtain⟨j,a_,k⟩:=f.put underlying58 underlying3 2 (.func (.func 46) #[] #[]);have l:=a j h;generalize bG:ed a8 w.heap.size j=av at a_ k l;obtain⟨o,aq,p⟩:=k.put underlying58 underlying3 3 (.func (.func 47) #[] #[]);have q:=a o l;generalize bH:ed av w.heap.size o=ba at aq p q;obtain⟨r,ag,s⟩:=p.put underlying58 underlying3 4 (.func (.func 48) #[] #[]);have t:=a r q;generalize bd:ed ba w.heap.size r=bb at ag s t;obtain⟨u,aw,v⟩:=s.put underlying58 underlying3 5 (.func (.func 49) #[] #[]);have y:=a u t;generalize be:ed bb w.heap.size u=bc at aw v y;obtain⟨z,bf,A⟩:=v.put underlying58 underlying3 12 (.func (.func 50) #[] #[]);have B:=a z y;generalize bK:ed bc w.heap.size z=bg at bf A B;obtain⟨D,an,E⟩:=A.put underlying58 underlying3 6 (.func (.func 51) #[] #[]);have F:=a D B;generalize bL:ed bg w.heap.size D=ax at an E F;obtain⟨G,bk,H⟩:=E.put underlying58 underlying3 7 (.func (.func 52) #[] #[]);have I:=a G F;generalize aN:ed ax w.heap.size G=bl at bk H I;obtain⟨J,bn,K⟩:=H.put underlying58 underlying3 14 (.func (.func 53) #[] #[]);have L:=a J I;generalize bi:ed bl w.heap.size J=aA at bn K L;obtain⟨M,bp,N⟩:=K.put underlying58 underlying3 15 (.func (.func 54) #[] #[]);have O:=a M L;generalize bP:ed aA w.heap.size M=bq at bp N O;obtain⟨P,ai,Q⟩:=N.put underlying58 underlying3 8 (.func (.func 55) #[] #[]);have S:=a P O;generalize aY:ed bq w.heap.size P=br at ai Q S;obtain⟨T,aE,U⟩:=Q.put underlying58 underlying3 10 (.func (.func 56) #[] #[]);have V:=a T S;generalize bR:ed br w.heap.size T=a0 at aE U V;obtain⟨W,bw,X⟩:=U.put underlying58 underlying3 9 (.func (.func 57) #[] #[]);have Y:=a W V;generalize bU:ed a0 w.heap.size W=a2 at bw X Y;obtain⟨Z,a3,aa⟩:=X.put underlying58 underlying3 11 (.func (.func 58) #[] #[]);have ao:=a Z Y;generalize bY:ed a2 w.heap.size Z=a4 at a3 aa ao;obtain⟨ac,a5,ay⟩:=aa.put underlying58 underlying3 13 (.func (.func 59) #[] #[]);have ad:=a ac ao;generalize al:ed a4 w.heap.size ac=bZ at a5 ay ad
 have bC:=C (ay.congr (g:=oZ) (λx=>by
  unfold oZ nJ CU;simp only[nx];by_cases aB:x=1;·subst aB;rfl
  by_cases az:x=2;·subst az;rfl
  by_cases aC:x=3;·subst aC;rfl
  by_cases aF:x=4;·subst aF;rfl
  by_cases af:x=5;·subst af;rfl
  by_cases ae:x=6;·subst ae;rfl
  by_cases am:x=7;·subst am;rfl
  by_cases aM:x=8;·subst aM;rfl
  by_cases aj:x=9;·subst aj;rfl
  by_cases ap:x=10;·subst ap;rfl
  by_cases aO:x=11;·subst aO;rfl
  by_cases ah:x=12;·subst ah;rfl
  by_cases aQ:x=13;·subst aQ;rfl
  by_cases aS:x=14;·subst aS;rfl
  by_cases aU:x=15;·subst aU;rfl
  simp only[z0 aB,z0 az,z0 aC,z0 aF,z0 af,z0 ae,z0 am,z0 aM,z0 aj,z0 ap,z0 aO,z0 ah,z0 aQ,z0 aS,z0 aU,if_false];rfl) rfl)
 have aR:=C ad.toBelow;go_enter func19,ntmps19;go_wp2;go_ret;exact⟨w.heap.size,rfl,⟨_,bC⟩,aR⟩
variable {W':ab} {v1:Value} {t:ex} {tmps:Array Value} {G:aL} {f:Int->Option aL} {fn:Func} {s:bt (aG×Int)}
theorem MS:(prog.info? 29).map (·.size)=R 2:=by kernel_rfl
theorem xu {p:Tmp} {w:ab} {T:Nat} {v0:Value} (h:fn.results=#[.cell p 29]) (a:tmps.getD p undef=af (R ⟨g,0,U⟩)) (b:w.heap[g]?=R (av #[v0,v1] T (0,0))):(results fn tmps).run au w= .ok (bm #[v0,v1]) w:=results_cell_row h tmps w g T _ _ _ a b underlying29 rfl MS
section
variable {aq w w':ab} {S:Nat->Prop} {L:bu} {s:aa} {k:Nat}
def rU (aq:ab) (S:Nat->Prop) (L:bu) (d:c1) (e:Ending) (w':ab):Prop:=e=aK (bm #[I J d.2.1,I J d.2.2])∧∃a,a.b=L.b∧aw aq S a d.1 w'
theorem MT (d a b n m h:Int) (c:Int) (H:aw aq S L s w) (hk:s.Ok k) (bH:k<100000) (an:bA c s.groups) (h0:0<=c) (F:c+10000000000<=1000000000000000) (ax:0<=h∧h<18446744073709551616) (ae:∀f,nJ d=R f->mY f∧∀(am W:ab) (p:Nat->Prop),aw am p L s W->Calls au f #[aY L.b,bm (cD d a b n m h)] W (mh am p L (s.event ⟨d,a,b,n,m,h⟩))) (aM:nJ d=U->s.event ⟨d,a,b,n,m,h⟩=(s,0,1)) (ap:(s.event ⟨d,a,b,n,m,h⟩).2.2≠0->(s.event ⟨d,a,b,n,m,h⟩).1=s):Calls au 8 #[aY L.b,bm (cD d a b n m h)] w (rU aq S L (s.cN ⟨d,a,b,n,m,h⟩)):=by
 obtain⟨V,G⟩:=aX ((w.alloc (av (cD d a b n m h) 33)).alloc (av #[I J 0,I J 0] 29));have bk:Below w.heap.size w V:=G▸(bz _ _).alloc (by simp) _;have aO:ak V w.heap.size (cD d a b n m h) 33:=G▸(ak.new w _ _).alloc _;have aQ:ak V (w.heap.size+1) #[I J 0,I J 0] 29:=G▸(by have:=ak.new (w.alloc (av (cD d a b n m h) 33)) #[I J 0,I J 0] 29;simpa using this);obtain⟨p,aS,aU,bl⟩:=H.pY bk;have P:=C (λ(j:bu) (aP:aa) (w':ab) (y:aw V (λk=>p k∨k=w.heap.size+1) j aP w')=>bl j aP w' (y.na (λk e=>e.elim .inl (λe=>.inr (by omega)))));have K:=C (show¬p (w.heap.size+1) fromλy=>by have:=(aS _ y).1;omega);have Q:=C aQ.lt;have bn:∀k,p k->k<w.heap.size:=λk y=>(aS k y).1;have X:=C G;have t:=C (λ(W:ab) (j:bu) (r:aa) (o:Nat) (v:Value) (Y:aw V p j r W) (F:(cD d a b n m h)[o]?=R v)=>Y.kept bn (aO.cell o F) zK9);have Z:=C (λ(W:ab) (j:bu) (r:aa) (Y:aw V p j r W)=>show ak W (w.heap.size+1) #[I J 0,I J 0] 29 from aQ.mod Y.1 K.out);obtain⟨⟨M,aA,ao⟩,N⟩:∃bp,s.event ⟨d,a,b,n,m,h⟩=bp:=⟨_,rfl⟩;generalize l:s.cN ⟨d,a,b,n,m,h⟩=D;unfold aa.cN at l;have aT:=hk.event ⟨d,a,b,n,m,h⟩ ax;have aV:=an.event h0 F ⟨d,a,b,n,m,h⟩;rw[N] at l ae aM ap aT aV;have ac:=C l;have ay:=C ae;have bq:=C aM;have ai:=C ap;have br:=C (λ(W:ab) (j:bu) (aE:aw V p j M W)=>Kq aV (by omega) F aE aT (by omega));have bd:=aO.cell 0 (v:=I J d) rfl;unfold aY at*;obtain⟨be,aZ⟩:=aX L.b;have a0:=C aZ;rw[aZ] at ay⊢;unfold cD at X t ay⊢;cases O:nJ d with
 |none=>have ad:=C (show oZ d=U by unfold oZ;rw[O];rfl);have l:=ac.out;have N:=bq.out O;simp only[Prod.mk.injEq] at N;obtain⟨rfl,rfl,rfl⟩:=N;rw[aj (show(1:Int)≠0 by decide)] at l;have A:=C l;go_enter func8,ntmps8;go_upto_region 1 with fail;rw[X.out];go_region_held3 (λW'=>W'.cell? ⟨w.heap.size,0,U⟩=R (I J d)) (with_reducible repeat(first|assumption|refine b7 ?_)) (first|(go_at_call 19;refine(CV _).mono ?_;rintro e q ⟨bw,a2,rfl,aB,az⟩;have x:=aU.drew.next az;have a3:=t.out q L M 0 (I J d) x rfl;have aC:=aB.Al underlying58 underlying3 (z:=.nilFunc) (by kernel_rfl) d;rw[ad.out] at aC;have u:=C x;have i:=Z.out q L M x;have a6:=i.cell 0 (v:=I J 0) rfl;have a8:=i.cell 1 (v:=I J 0) rfl;have a_:=i.free 0;have ba:=i.free 1;have B:=C i));all_goals go_wp2_with fail;refine bodyPost_ret (xu (g:=w.heap.size+1) (T:=29) rfl rfl ((B.set 0 (I J 0)).set 1 (I J 1))) rfl ?_;rw[<-A.out];exact⟨rfl,L,rfl,P.out _ _ _ (u.out.out (nI _ _ _ _ _ _) K.out Q.out)⟩
 |some f=>have ad:=C (show oZ d=R (.func (.func f) #[] #[]) by unfold oZ;rw[O];rfl);obtain⟨a4,a5⟩:=ay.out f O;have aK:=C a5;unfold mY at a4;go_enter func8,ntmps8;go_upto_region 1 with fail;rw[X.out];go_region_held3 (λW'=>W'.cell? ⟨w.heap.size,0,U⟩=R (I J d)) (with_reducible repeat(first|assumption|refine b7 ?_)) (first|(go_at_call 19;refine(CV _).mono ?_;rintro e q ⟨bw,a2,rfl,aB,az⟩;have x:=aU.drew.next az;have a3:=t.out q L s 0 (I J d) x rfl;have aC:=aB.Al underlying58 underlying3 (z:=.nilFunc) (by kernel_rfl) d;rw[ad.out] at aC;have u:=C x));all_goals
  have bK:=t.out q L s 1 (I J a) u.out rfl;have bL:=t.out q L s 2 (I J b) u.out rfl;have aN:=t.out q L s 3 (I J n) u.out rfl;have bi:=t.out q L s 4 (I J m) u.out rfl;have bP:=t.out q L s 5 (I ah h) u.out rfl;have bC:=C (aK.out V q p u.out);go_wp2_with fail;refine bC.mono ?_;rintro e ag ⟨rfl,j,aF,af⟩;have bb:=C aF;rw[a0.out] at aF;by_cases E:ao=0;·have l:=ac.out;rw[E,z0 (by decide)] at l;have A:=C l;have bc:=C (br.out ag j af);rw[aF] at bc;subst E;go_wp2_with fail;refine bc.mono ?_;rintro e aR ⟨rfl,bf⟩;have i:=Z.out aR j _ bf;have a6:=i.cell 0 (v:=I J 0) rfl;have a8:=i.cell 1 (v:=I J 0) rfl;have a_:=i.free 0;have ba:=i.free 1;have B:=C i;have a9:=C bf;go_wp2_with fail;refine bodyPost_ret (xu (g:=w.heap.size+1) (T:=29) rfl rfl ((B.set 0 (I J aA)).set 1 (I J 0))) rfl ?_;rw[<-A.out];exact⟨rfl,j,bb.out,P.out _ _ _ (a9.out.out (nI _ _ _ _ _ _) K.out Q.out)⟩
  ·have l:=ac.out;rw[aj (E)] at l;have A:=C l;have bR:(ao !=0)=true:=(by simp[E]);have aD:=ai.out (E);have i:=Z.out ag j _ af;have a6:=i.cell 0 (v:=I J 0) rfl;have a8:=i.cell 1 (v:=I J 0) rfl;have a_:=i.free 0;have ba:=i.free 1;have B:=C i;have bG:=C (show M=s from aD);go_wp2_with fail;refine bodyPost_ret (xu (g:=w.heap.size+1) (T:=29) rfl rfl ((B.set 0 (I J 0)).set 1 (I J ao))) rfl ?_;rw[<-A.out];refine⟨rfl,j,bb.out,?_⟩;have bg:=af;rw[bG.out] at bg;exact P.out _ _ _ (bg.out (nI _ _ _ _ _ _) K.out Q.out)
end
section
variable {aq w w':ab} {S:Nat->Prop} {L:bu} {s:aa} {k:Nat}
theorem aa.M1 {e:e9} (h:nJ e.kind=U) (s:aa):s.event e=(s,0,1):=by
 by_cases a:e.kind=1;·rw[a] at h;cases h
 by_cases b:e.kind=2;·rw[b] at h;cases h
 by_cases c:e.kind=3;·rw[c] at h;cases h
 by_cases d:e.kind=4;·rw[d] at h;cases h
 by_cases f:e.kind=5;·rw[f] at h;cases h
 by_cases g:e.kind=6;·rw[g] at h;cases h
 by_cases i:e.kind=7;·rw[i] at h;cases h
 by_cases j:e.kind=8;·rw[j] at h;cases h
 by_cases k:e.kind=9;·rw[k] at h;cases h
 by_cases l:e.kind=10;·rw[l] at h;cases h
 by_cases m:e.kind=11;·rw[m] at h;cases h
 by_cases n:e.kind=12;·rw[n] at h;cases h
 by_cases o:e.kind=13;·rw[o] at h;cases h
 by_cases p:e.kind=14;·rw[p] at h;cases h
 by_cases q:e.kind=15;·rw[q] at h;cases h
 unfold aa.event;rw[z0 a,z0 b,z0 c,z0 d,z0 f,z0 g,z0 i,z0 j,z0 k,z0 l,z0 m,z0 n,z0 o,z0 p,z0 q]
theorem aa.M3 (s:aa) (e:e9) (h:(s.event e).2.2≠0):(s.event e).1=s:=by
 revert h;have c:∀{p:Prop} [Decidable p] {a b:c1},(a.2.2≠0->a.1=s)->(b.2.2≠0->b.1=s)->((if p then a else b).2.2≠0->(if p then a else b).1=s):=by
  intro p _ a b i j;split;·exact i
  ·exact j
 have g:∀{r:aa} {n:Int},((r,n,(0:Int)):c1).2.2≠0->((r,n,(0:Int)):c1).1=s:=λh=>absurd rfl h;have d:∀{n f:Int},((s,n,f):c1).2.2≠0->((s,n,f):c1).1=s:=λ_=>rfl;unfold aa.event;refine c ?_ (c ?_ (c ?_ (c ?_ (c ?_ (c ?_ (c ?_ (c ?_ (c ?_ (c ?_ (c ?_ (c ?_ (c ?_ (c ?_ (c ?_ ?_))))))))))))))
 ·unfold aa.grow;split;·exact d
  ·exact c d (c d g)
 ·unfold aa.drop;split;·exact d
  ·exact c d (c d g)
 ·unfold aa.move;split;·exact c d (c d g)
  ·exact d
 ·unfold aa.shares;split;·exact d
  ·exact c d (c d g)
 ·unfold aa.jS;split;·exact d
  ·exact c d (c d g)
 ·unfold aa.spawn;split;·exact d
  ·exact c d (c d (c d (c d g)))
 ·unfold aa.js;split;·exact d
  ·exact c d g
 ·unfold aa.block;exact c d (c d g)
 ·unfold aa.yield;exact c d (c d g)
 ·unfold aa.exit;refine c d (c d ?_);split;·exact d
  ·exact g
 ·unfold aa.tick;refine c d (c d (c g ?_));split;·exact d
  ·exact c d (c g g)
 ·unfold aa.fR;split;·exact d
  ·exact c d g
 ·unfold aa.pull;exact c d (c d (c d g))
 ·unfold aa.nice;split;·exact d
  ·exact c d (c d (c g g))
 ·unfold aa.mask;split;·exact d
  ·exact c d (c g g)
 ·exact d
theorem M4 (h a b n m g:Int) (p:0<=g∧g<18446744073709551616) (hk:s.Ok k) (q:k<100000) {f:Nat} (i:nJ h=R f):mY f∧∀(j W:ab) (l:Nat->Prop),aw j l L s W->Calls au f #[aY L.b,bm (cD h a b n m g)] W (mh j l L (s.event ⟨h,a,b,n,m,g⟩)):=by
 have o:k<=100000:=by omega
 by_cases r:h=1;·subst r;cases i;refine⟨enters_of func45 (by kernel_rfl) rfl,λj W l c=>?_⟩;exact(M0 _ a b n m g c hk q)
 by_cases t:h=2;·subst t;cases i;refine⟨enters_of func46 (by kernel_rfl) rfl,λj W l c=>?_⟩;exact(Mp _ a b n m g c hk o).mono (λe w' d=>d.ks)
 by_cases u:h=3;·subst u;cases i;refine⟨enters_of func47 (by kernel_rfl) rfl,λj W l c=>?_⟩;exact(Mf _ a b n m g c hk o).mono (λe w' d=>d.ks)
 by_cases v:h=4;·subst v;cases i;refine⟨enters_of func48 (by kernel_rfl) rfl,λj W l c=>?_⟩;exact(Kr _ a b n m g c hk)
 by_cases w:h=5;·subst w;cases i;refine⟨enters_of func49 (by kernel_rfl) rfl,λj W l c=>?_⟩;exact(KX _ a b n m g c hk).mono (λe w' d=>d.ks)
 by_cases x:h=6;·subst x;cases i;refine⟨enters_of func51 (by kernel_rfl) rfl,λj W l c=>?_⟩;exact(MV _ a b n m g p c hk q)
 by_cases y:h=7;·subst y;cases i;refine⟨enters_of func52 (by kernel_rfl) rfl,λj W l c=>?_⟩;exact(KS _ a b n m g c hk o).mono (λe w' d=>d.ks)
 by_cases z:h=8;·subst z;cases i;refine⟨enters_of func55 (by kernel_rfl) rfl,λj W l c=>?_⟩;exact(BM _ a b n m g c hk).mono (λe w' d=>d.ks)
 by_cases A:h=9;·subst A;cases i;refine⟨enters_of func57 (by kernel_rfl) rfl,λj W l c=>?_⟩;exact(Kx _ a b n m g c hk).mono (λe w' d=>d.ks)
 by_cases B:h=10;·subst B;cases i;refine⟨enters_of func56 (by kernel_rfl) rfl,λj W l c=>?_⟩;exact(Kw _ a b n m g c hk).mono (λe w' d=>d.ks)
 by_cases C:h=11;·subst C;cases i;refine⟨enters_of func58 (by kernel_rfl) rfl,λj W l c=>?_⟩;exact(L0 _ a b n m g c hk o).mono (λe w' d=>d.ks)
 by_cases D:h=12;·subst D;cases i;refine⟨enters_of func50 (by kernel_rfl) rfl,λj W l c=>?_⟩;exact(Ks _ a b n m g c hk)
 by_cases E:h=13;·subst E;cases i;refine⟨enters_of func59 (by kernel_rfl) rfl,λj W l c=>?_⟩;exact(ME _ a b n m g c hk o).mono (λe w' d=>d.ks)
 by_cases F:h=14;·subst F;cases i;refine⟨enters_of func53 (by kernel_rfl) rfl,λj W l c=>?_⟩;exact(KU _ a b n m g c hk).mono (λe w' d=>d.ks)
 by_cases G:h=15;·subst G;cases i;refine⟨enters_of func54 (by kernel_rfl) rfl,λj W l c=>?_⟩;exact(KT _ a b n m g p c hk o).mono (λe w' d=>d.ks)
 unfold nJ at i;rw[z0 r,z0 t,z0 u,z0 v,z0 w,z0 x,z0 y,z0 z,z0 A,z0 B,z0 C,z0 D,z0 E,z0 F,z0 G] at i;cases i
theorem M5 (g a b n m d:Int) (c:Int) (H:aw aq S L s w) (hk:s.Ok k) (i:k<100000) (l:bA c s.groups) (h0:0<=c) (o:c+10000000000<=1000000000000000) (j:0<=d∧d<18446744073709551616):Calls au 8 #[aY L.b,bm (cD g a b n m d)] w (rU aq S L (s.cN ⟨g,a,b,n,m,d⟩)):=MT g a b n m d c H hk i l h0 o j (λf p=>M4 g a b n m d j hk i p) (λh=>aa.M1 (e:=⟨g,a,b,n,m,d⟩) h s) (λh=>s.M3 _ h)
end
structure aa.In (k:Nat) (s:aa):Prop where
 ok:s.Ok k
 CY:bA (10000000000*(k:Int)) s.groups
def nb (e:e9):Prop:=0<=e.mask∧e.mask<18446744073709551616
def M6 (e:e9):Value:=bm #[I J e.kind,I J e.a,I J e.b,I J e.n,I J e.m,I ah e.mask]
section
variable {aq w w':ab} {S:Nat->Prop} {L:bu} {s:aa} {k:Nat}
theorem aa.In.cN (h:s.In k) (hk:k<90000) (e:e9) (a:nb e):(s.cN e).1.In (k+1):=by refine⟨h.ok.cN e a,?_⟩;have b:=h.CY.cN (by omega) (by omega) e;rw[show 10000000000*((k+1:Nat):Int)=10000000000*(k:Int)+10000000000 by push_cast;omega];exact b
theorem CZ (e:e9) (c:nb e) (H:aw aq S L s w) (h:s.In k) (hk:k<90000):Calls au 8 #[aY L.b,M6 e] w (rU aq S L (s.cN e)):=M5 e.kind e.a e.b e.n e.m e.mask _ H h.ok (by omega) h.CY (by omega) (by omega) c
end
variable {cap:Nat}
section
variable {aq w w':ab} {S:Nat->Prop} {L:bu} {s:aa} {k:Nat}
theorem aw.M7 {n0:Nat} (H:aw aq S L s w) (d:Mod Z w w') (n:∀k,Z k->¬S k∧k<aq.heap.size∧n0<=k):∃h:Nat->Prop,(∀k,h k->k<w.heap.size∧¬Z k)∧aw w' h L s w'∧∀(j:bu) (l:aa) (m:ab),aw w' (λk=>h k∨n0<=k) j l m->aw aq (λk=>S k∨n0<=k) j l m:=by
 obtain⟨o,tag,H⟩:=H;have y:=o.size;have z:=d.size;have p:∀b,Z b->tag b= .no:=λb t=>by
  by_cases e:tag b= .no;·exact e
  ·have:=n b t;rcases H.own b (by omega) e with a|a;·exact absurd a this.1
   ·omega
 refine⟨λk=>tag k≠ .no∧k<w.heap.size,λk a=>⟨a.2,λe=>a.1 (p k e)⟩,hU.start (tag:=fT w tag .no) ⟨λa=>?_,λk c e=>?_⟩,?_⟩
 ·by_cases q:a= .no;·subst q;trivial
  ·refine(H.part a).frame d (λk e f=>q (by rw[<-e,p k f])) (λk c e=>by unfold fT;rw[aj c];exact e)
 ·unfold fT at e;split at e;·rename_i a;exact⟨e,a⟩
  ·exact absurd rfl e
 ·rintro j l m ⟨u,v,r⟩;refine⟨((o.mono (λk _ a=>.inl a)).trans d (λi _ a=>.inr (n i a).2.2)).trans u (λi x a=>?_),v,r.part,λk c e=>?_⟩
  ·rcases a with a|a
   ·rcases H.own i a.2 a.1 with g|g;·exact .inl g
    ·exact absurd x (by omega)
   ·exact .inr a
  ·rcases r.own k c e with a|a
   ·rcases a with a|a
    ·rcases H.own k a.2 a.1 with g|g;·exact .inl (.inl g)
     ·exact .inr g
    ·exact .inl (.inr a)
   ·exact .inr (by omega)
end
def pZ:cm (Int×Int):=⟨2,λp=>[I J p.1,I J p.2],λ_=>rfl,λe u h=>by simp at h;rcases h with rfl|rfl<;>rfl,by decide⟩
theorem M8:ij pZ 95 29 16:=⟨underlying95,⟨.agg #[.int .i64 0,.int .i64 0],by kernel_rfl,rfl⟩,by decide⟩
theorem C0:∀(l m:List e9) (s:aa),eK (l++m) s=((eK l s).1++(eK m (eK l s).2).1,(eK m (eK l s).2).2)
 |[],m,s=>by simp[eK]
 |e::l,m,s=>by show((s.cN e).2::(eK (l++m) (s.cN e).1).1,(eK (l++m) (s.cN e).1).2)=_;rw[C0 l m];rfl
theorem tR:∀(l:List e9) (s:aa) (k:Nat),s.In k->k+l.length<90000->(∀e∈l,nb e)->(eK l s).2.In (k+l.length)
 |[],s,k,h,_,_=>h
 |e::l,s,k,h,hk,he=>by have a:=h.cN (by simp at hk;omega) e (he e ey);have:=tR l _ (k+1) a (by simp at hk;omega) (λx b=>he x (gD _ b));rw[show k+(e::l).length=k+1+l.length by simp;omega];exact this
theorem aw.M9 {aq w:ab} {L:bu} {s:aa} (H:aw aq (λk=>False∨aq.heap.size<=k) L s w):aw aq (λ_=>False) L s w:=by obtain⟨b,c,d⟩:=H;exact⟨b.mono (λk e a=>a.elim id (λa=>by omega)),c,d.mono (λk a=>a.elim (λa=>a.elim .inl .inr) .inr)⟩
theorem C1 {l:List bT} {x:bT} (h:l[j]?=R x) (s:aa):eK ((l.take (j+1)).map dZ) s=((eK ((l.take j).map dZ) s).1++[((eK ((l.take j).map dZ) s).2.cN (dZ x)).2],((eK ((l.take j).map dZ) s).2.cN (dZ x)).1):=by rw[gE,h,lI,h4,C0];rfl
theorem M_ {aq w:ab} {L:bu} {s:aa} {k:Nat} (l:List bT) (v:Value) (B:Nat) (a_:∀e∈l,nb (dZ e)) (ba:l.length<=1000) (ay:Own iX aq B 33 v l.length l) (H:aw aq (λ_=>False) L s w) (ag:s.In k) (hk:k+1000<90000):Calls au 30 #[aY L.b,v] w λe w'=>∃ad,e=aK ad∧Own pZ w' 0 29 ad l.length (eK (l.map dZ) s).1∧∃f,f.b=L.b∧aw aq (λ_=>False) f (eK (l.map dZ) s).2 w':=by
 obtain⟨a,cap,rfl⟩:=ay.mR;have M:=C ay;have bb:=C ag;have aB:=C a_;obtain⟨n,az⟩:=aX l.length;have N:=C az;unfold aY;obtain⟨aC,aF⟩:=aX L.b;have bc:=C aF;rw[az] at ba M⊢;rw[aF];go_enter func30,ntmps30;go_wp2_with fail;go_loopw [5,10] (λu5 u W=>∃j:Nat,j<=n∧u=I J (j:Int)∧∃(i:ab) (q:Nat->Prop) (r:bu),Own pZ i 0 29 u5 j (eK ((l.take j).map dZ) s).1∧r.b=aC∧aw i q r (eK ((l.take j).map dZ) s).2 W∧(∀g,u5.ownBlock=R g->¬q g∧g<i.heap.size∧aq.heap.size<=g)∧∀(f:bu) (D:aa) (w':ab),aw i (λk=>q k∨aq.heap.size<=k) f D w'->aw aq (λ_=>False) f D w') (λ_ u _=>n-(intOf u).toNat);case atStart=>exact⟨0,by omega,rfl,aq,λ_=>False,L,Own.nil _ _ _,bc.out,H,λg e=>(by cases e),λf D w' c=>c.M9⟩
 case round=>
  obtain⟨j,b9,rfl,i,q,r,E,bf,t,bg,ae⟩:=hrel;have O:=C E;have P:=C bf;have F:=C bg;have Q:=C ae;have an:Mod (λ_=>False) aq wr:=(ae _ _ _ (t.na (λk c=>.inl c))).1;by_cases ax:j<n
  ·obtain⟨x,am⟩:∃x,l[j]?=R x:=⟨_,b6 (by rw[N.out];exact ax)⟩;have aM:=C am;obtain⟨g,a1,aj,bk⟩:=M.form (by omega);simp only[Value.slice.injEq] at aj;obtain⟨rfl,_,rfl⟩:=aj;have o:∀(c:Nat) (u:Value),(iX.e x)[c]?=R u->wr.cell? ⟨g,j*6+c,U⟩=R u:=λc u z=>an.cell (M.at_ am z) bk id;have bv:wr.cell? ⟨g,j*6,U⟩=R (I J x.k):=o 0 (I J x.k) rfl;have a7:=o 1 (I J x.a) rfl;have cb:=o 2 (I J x.b) rfl;have cf:=o 3 (I J x.n) rfl;have cg:=o 4 (I J x.m) rfl;have ch:=o 5 (I ah (x.s:Int)) rfl;have cj:(j:Int)<(n:Int):=(by omega);have cn:(0:Int)<=(j:Int):=(by omega);have b5:(j:Int).toNat=j:=(by omega);go_upto_region 5 with fail;obtain⟨A,S⟩:∃A,wr.alloc (av #[I J x.k,I J x.a,I J x.b,I J x.n,I J x.m,I ah (x.s:Int)] 33)=A:=⟨_,rfl⟩;rw[S];have bl:Below wr.heap.size wr A:=S▸bz _ _;have p:ak A wr.heap.size #[I J x.k,I J x.a,I J x.b,I J x.n,I J x.m,I ah (x.s:Int)] 33:=S▸ak.new _ _ _;have bn:=p.cell 0 (v:=I J x.k) rfl;have bp:=p.cell 1 (v:=I J x.a) rfl;have bq:=p.cell 2 (v:=I J x.b) rfl;have ai:=p.cell 3 (v:=I J x.n) rfl;have br:=p.cell 4 (v:=I J x.m) rfl;have aE:=p.cell 5 (v:=I ah (x.s:Int)) rfl;have ap:(l.take j).length=j:=(by rw[ix,N.out];omega);have a0:=tR ((l.take j).map dZ) s k bb.out (by rw[ep,ap];have:=hk;omega) (λe bw=>by obtain⟨y,a2,rfl⟩:=e0.1 bw;exact aB.out y (List.mem_of_mem_take a2));have a3:Calls au 8 #[af (R ⟨aC,0,U⟩),bm #[I J x.k,I J x.a,I J x.b,I J x.n,I J x.m,I ah (x.s:Int)]] A (rU i q r ((eK ((l.take j).map dZ) s).2.cN (dZ x))):=(by have T:=CZ (dZ x) (aB.out x (ea aM.out)) (t.next bl) a0 (by rw[ep,ap];have:=hk;omega);unfold aY at T;rw[P.out] at T;exact T);have V:=C a3;have G:=C (C1 aM.out s);obtain⟨aO,a4⟩:∃x,eK ((l.take j).map dZ) s=x:=⟨_,rfl⟩;rw[a4] at t V O G;obtain⟨d,a5⟩:∃d,aO.2.cN (dZ x)=d:=⟨_,rfl⟩;rw[a5] at G V;obtain⟨cp,aQ⟩:∃x,wr.heap.size=x:=⟨_,rfl⟩;rw[aQ] at bn bp bq ai br aE;simp only[aQ];go_wp2_with fail;refine V.mono ?_;rintro e h ⟨rfl,aS,bC,X⟩;have aR:=C bC;have aU:=O.mod X.1 (λg e=>(F.out g e).1);have a9:=C (aU.alloc (av #[I J d.2.1,I J d.2.2] 29));have aD:=C (show∀c u,(pZ.e d.2)[c]?=R u->(h.alloc (av #[I J d.2.1,I J d.2.2] 29)).cell? ⟨h.heap.size,c,U⟩=R u fromλc u z=>dE.trans (by rw[<-z];show([I J d.2.1,I J d.2.2]:List Value).toArray[c]?=_;rw[ff];rfl));have bG:0<=(h.alloc (av #[I J d.2.1,I J d.2.2] 29)).heap.size:=hq _;have bH:j<=10000000:=(by omega);have bd:=C (aU.mR);obtain⟨Y,Z,rfl⟩:=bd.out;go_upto_region 6 with((at_builtin;refine jv M8 rfl _ _ rfl 0 _ j aO.1 rfl a9.out h.heap.size _ d.2 rfl aD.out bH bG ?_;intro ao u9 be bK bL;have aN:=C (show Grow _ u9 (aA Y j Z) ao from Grow.gK bK bL);have aP:=C be));have aT:=aN.out;have bi:Mod (λk=>(aA Y j Z).ownBlock=R k) h u9:=((Mod.refl _ h).alloc _).grow aT (λg e=>e);obtain⟨ac,aV,bP,bR⟩:=X.M7 (n0:=aq.heap.size) bi (λg e=>F.out g e);have bU:=Q.out _ _ _ (X.na (λk c=>.inl c));have bB:=bU.1.size;have bY:∀c,ao.ownBlock=R c->¬ac c∧c<u9.heap.size∧aq.heap.size<=c:=λc e=>by
    have aZ:=(aP.lt c e).2;rcases aT.loc with K|⟨bX,K,z⟩;·have a6:(aA Y j Z).ownBlock=R c:=(by rw[<-K];exact e);exact⟨λy=>(aV c y).2 a6,aZ,(F.out c a6).2.2⟩
    ·rw[e] at K;cases K;have cr:h.heap.size<c:=dm (by simp) z;exact⟨λy=>by have:=(aV c y).1;omega,aZ,by omega⟩
   have al:=C (show Own pZ u9 0 29 ao (j+1) (eK ((l.take (j+1)).map dZ) s).1 from by rw[G.out];exact aP.out);have bZ:=C (show aw u9 ac aS (eK ((l.take (j+1)).map dZ) s).2 u9 from by rw[G.out];exact bP);have b2:=C bY;have bQ:=C bR;go_wp2_with fail;go_roundw;case rel=>exact⟨j+1,by omega,by go_num,u9,ac,aS,al.out,aR.trans P.out,bZ.out,b2.out,λf D w' c=>Q.out _ _ _ (bQ.out _ _ _ c)⟩
   case measure=>simp[intOf];omega
  ·obtain rfl:j=n:=by omega
   have bs:=C (show l.take j=l by rw[<-N.out,h3]);have E:=O.mod t.1 (λg e=>(F.out g e).1);have a8:=Q.out _ _ _ (t.na (λk c=>.inl c));rw[bs.out] at E a8;go_wp2_with fail;go_ret;exact⟨_,rfl,E,r,P.out,a8⟩
def nL (z:List Int):g_:=⟨1+(bj z 0%8).toNat,1+bj z 1,bj z 2,bj z 3,1+(bj z 4).toNat⟩
structure rV (z:List Int):Prop where
 len:z.length=5
 at_:∀i,0<=bj z i∧bj z i<65536
theorem rV.rt {z:List Int} (h:rV z):(nL z).Good:=by have a:=h.at_ 0;have b:=h.at_ 1;have c:=h.at_ 2;have d:=h.at_ 3;have e:=h.at_ 4;constructor<;>(unfold nL;dsimp only;omega)
def rW (z:List Int):Value:=bm #[I .u16 (bj z 0),I .u16 (bj z 1),I .u16 (bj z 2),I .u16 (bj z 3),I .u16 (bj z 4)]
theorem tX {c:g_} (h:c.Good):(aa.new c).In 0:=⟨aa.qw h.aR h.tick h.ie.2,bA.new c⟩
theorem Ny (z:List Int) (h:rV z) (w:ab):Calls au 7 #[rW z] w λe w'=>∃L:bu,e=aK (aY L.b)∧aw w (λ_=>False) L (aa.new (nL z)) w':=by
 obtain⟨V,p⟩:=aX (w.alloc (av #[I .u16 (bj z 0),I .u16 (bj z 1),I .u16 (bj z 2),I .u16 (bj z 3),I .u16 (bj z 4)] 23));have a:ak V w.heap.size #[I .u16 (bj z 0),I .u16 (bj z 1),I .u16 (bj z 2),I .u16 (bj z 3),I .u16 (bj z 4)] 23:=p▸ak.new _ _ _;have q:=C (show Below w.heap.size w V from p▸bz _ _);have r:=C p;have x:=h.at_ 0;have y:=h.at_ 1;have A:=h.at_ 2;have B:=h.at_ 3;have D:=h.at_ 4;have l:=C (C8 (nL z) h.rt V);unfold p0 nL at l;dsimp only at l;obtain⟨n,c⟩:=aX (bj z 0);obtain⟨s,d⟩:=aX (bj z 1);obtain⟨t,f⟩:=aX (bj z 2);obtain⟨u,g⟩:=aX (bj z 3);obtain⟨o,j⟩:=aX (bj z 4);have E:=C (bx c (bx d (bx f (bx g j))));unfold rW;rw[c,d,f,g,j] at l r a;rw[c,d,f,g,j];rw[c] at x;rw[d] at y;rw[f] at A;rw[g] at B;rw[j] at D;rw[show(((1+(n%8).toNat:Nat)):Int)=1+n%8 by omega,show(((1+o.toNat:Nat)):Int)=1+o by omega] at l;have N:=a.cell 0 (v:=I .u16 n) rfl;have O:=a.cell 1 (v:=I .u16 s) rfl;have P:=a.cell 2 (v:=I .u16 t) rfl;have Q:=a.cell 3 (v:=I .u16 u) rfl;have R:=a.cell 4 (v:=I .u16 o) rfl;go_enter func7,ntmps7;go_upto_region 1 with fail;rw[r.out];go_wp2_with fail;refine l.mono ?_;rintro e S ⟨L,rfl,F⟩;generalize G:aY L.b=T;have H:=C G;go_wp2_with fail;go_ret;refine⟨L,by rw[H.out];rfl,?_⟩;obtain⟨J,K,h⟩:=F;obtain⟨c,d,f,g,j⟩:=E;have M:nL z=⟨1+(n%8).toNat,1+s,t,u,1+o.toNat⟩:=by unfold nL;rw[c,d,f,g,j]
 rw[M];exact⟨(zF9 q).trans J (λi _ m=>m),K,h.mono (λk m=>m.elim .inl (λm=>.inr (cJ q.size m)))⟩
def tY:aa:=(eK qL (aa.new mG)).2
def o2:List (Int×Int):=(eK qL (aa.new mG)).1
theorem Nz:tU tY 1=10:=by decide+kernel
theorem NA:tY.book.tasks 1=10:=F_
theorem tZ {x:Int} (h:(o2.map (·.1))[j]?=R x):∃y,o2[j]?=R (x,y):=by rw[dP] at h;obtain⟨⟨a,b⟩,c,rfl⟩:=h1.1 h;exact⟨b,c⟩
theorem xJ:mG.Good:=⟨by decide,by decide,by decide,by decide,by decide⟩
theorem C9:∀e∈ou,nb (dZ e):=by intro e a;unfold ou at a;simp only[gu,List.not_mem_nil,or_false] at a;rcases a with rfl|rfl|rfl|rfl|rfl|rfl|rfl<;>(unfold nb dZ;dsimp only;omega)
theorem NB:bh (str ot)=ot:=by kernel_rfl
theorem NC (w:ab) (c:gS w):Calls au 29 #[.string (str ot)] w λe w'=>∃a cap,e=aK (bD #[aA a 7 cap,I J 0,I J 0])∧Own iX w' w.heap.size 33 (aA a 7 cap) 7 ou∧Below w.heap.size w w':=by
 have d:(str ot).size<=100000000:=by
  have:(str ot).size=84:=by kernel_rfl
  omega
 refine(EV (str ot) w c d).mono ?_;rintro e w' ⟨v,rfl,b,f⟩;rw[NB,Ga] at*;obtain⟨a,cap,rfl⟩:=b.mR;exact⟨a,cap,rfl,b,f⟩
theorem C_ (w:ab) (z:gS w):Calls au 13 #[] w λe w'=>e=aK (aE true)∧Below w.heap.size w w':=by
 have A:=C (NC w z);have l:=C (λ(W:ab)=>C8 mG xJ W);unfold p0 mG at l;dsimp only at l;go_enter func13,ntmps13;go_wp2_with fail;refine A.mono ?_;rintro e m ⟨B,D,rfl,E,F⟩;go_wp2_with fail;refine(l m).mono ?_;rintro e G ⟨L,rfl,H⟩;have K:=C (show aw m (λ_=>False) L (aa.new mG) G from H);have n:=M_ ou (aA B 7 D) w.heap.size C9 (by decide) E K (tX xJ) (by omega);unfold aY at n;obtain⟨aC,s⟩:=aX L.b;unfold aY;rw[s] at n;simp only[s];have M:=C n;go_wp2_with fail;refine M.mono ?_;rintro e a ⟨N,rfl,t,O,P,u⟩;rw[zE] at t u;have c:Own pZ a 0 29 N 7 o2:=t;obtain⟨f,aF,rfl,af⟩:=c.form (by omega);have o:tY.Ok 7:=by have v:=tR (ou.map dZ) (aa.new mG) 0 (tX xJ) (by decide) (λe Q=>by obtain⟨y,S,rfl⟩:=e0.1 Q;exact C9 y S);rw[zE] at v;exact v.ok
 have g:aw m (λ_=>False) O tY a:=u;have h:=F9;obtain⟨ae,T⟩:=tZ (j:=3) (x:=0) (by unfold o2;rw[h];rfl);obtain⟨am,V⟩:=tZ (j:=4) (x:=1) (by unfold o2;rw[h];rfl);obtain⟨aM,X⟩:=tZ (j:=5) (x:=0) (by unfold o2;rw[h];rfl);obtain⟨aj,Y⟩:=tZ (j:=6) (x:=1) (by unfold o2;rw[h];rfl);have ap:a.cell? ⟨f,6,U⟩=R (I J 0):=c.at_ T (q:=0) rfl;have aO:a.cell? ⟨f,8,U⟩=R (I J 1):=c.at_ V (q:=0) rfl;have ah:a.cell? ⟨f,10,U⟩=R (I J 0):=c.at_ X (q:=0) rfl;have aQ:a.cell? ⟨f,12,U⟩=R (I J 1):=c.at_ Y (q:=0) rfl;have d:=xF 1 g o;unfold nK at d;rw[Nz] at d;have k:=λ(Z:ab) (ao:Below a.heap.size a Z)=>xw 1 (g.next ao) o;obtain⟨aS,aU,aP,aT,aV,aZ,ac⟩:=xG 1 g o;rw[ac,NA] at k;unfold aY at d k;rw[P] at d k;have ay:=C d;have ad:=C k;have p:=C (show Below w.heap.size w a from((zF9 F).trans g.1 (λi _ q=>q)).toBelow);have ak:=Nj;have a6:=xy;go_wp2_with fail;refine ay.mono ?_;rintro e aB ⟨rfl,r⟩;go_wp2_with fail;refine(ad aB r).mono ?_;rintro e a8 ⟨rfl,az⟩;go_wp2_with fail;go_ret;exact⟨rfl,(p.trans (r.mono p.size)).trans (az.mono (cJ p.size r.size))⟩
variable {zs:List Int}
def iP:List e9->aa->Int
 |[],_=>0
 |e::l,s=>hz e (s.cN e)+iP l (s.cN e).1
theorem Da:∀(l m:List e9) (s:aa),iP (l++m) s=iP l s+iP m (eK l s).2
 |[],m,s=>by simp[iP,eK]
 |e::l,m,s=>by show hz e (s.cN e)+iP (l++m) (s.cN e).1=hz e (s.cN e)+iP l (s.cN e).1+iP m (eK l (s.cN e).1).2;rw[Da l m];omega
theorem Db:∀(l:List e9) (s:aa) (k:Nat) (a:Int),s.In k->k+l.length<90000->(∀e∈l,nb e)->iH s a->a+(l.length:Int)*1000000000<=9000000000000000000->iH (eK l s).2 (a+iP l s)∧0<=iP l s∧iP l s<=(l.length:Int)*1000000000
 |[],s,k,a,_,_,_,b,_=>⟨by show iH s (a+0);rw[pa];exact b,hL _,by simp[iP]⟩
 |e::l,s,k,a,aT,hk,he,b,d=>by
  have c:(((e::l).length:Nat):Int)=(l.length:Int)+1:=by simp
  rw[c] at d;obtain⟨f,i,j⟩:=aT.ok.zD e (he e ey) b (by omega);have m:=aT.ok.tick;have g:=Db l (s.cN e).1 (k+1) (a+hz e (s.cN e)) (aT.cN (by simp at hk;omega) e (he e ey)) (by simp at hk;omega) (λx h=>he x (gD _ h)) f (by omega);rw[c];show iH (eK l (s.cN e).1).2 (a+(hz e (s.cN e)+iP l (s.cN e).1))∧0<=hz e (s.cN e)+iP l (s.cN e).1∧hz e (s.cN e)+iP l (s.cN e).1<=_;rw[<-Int.add_assoc];exact⟨g.1,by omega,by omega⟩
theorem p1 {f:Int->Int} (h:∀n:Nat,0<=f n):∀(m n:Nat),n<=m->0<=fv f n∧fv f n<=fv f m
 |0,n,a=>by
  obtain rfl:n=0:=by omega
  exact⟨hL _,hL _⟩
 |m+1,n,a=>by
  by_cases e:n=m+1;·subst e;have:=p1 h m m zK9;have b:=h m;exact⟨by show 0<=fv f m+f m;omega,hL _⟩
  ·have:=p1 h m n (by omega);have b:=h m;exact⟨this.1,by show fv f n<=fv f m+f m;omega⟩
def kv (zs:List bT) (c:g_) (i:Nat):aa:=(eK ((zs.take i).map dZ) (aa.new c)).2
def lG (zs:List bT) (c:g_) (i:Nat):Int:=iP ((zs.take i).map dZ) (aa.new c)
section
variable {zs:List bT} {c:g_} {i:Nat} {x:bT}
theorem Dc (h:∀e∈zs,e.Ok):∀e∈(zs.take i).map dZ,nb e:=λe a=>by obtain⟨y,b,rfl⟩:=e0.1 a;have:=(h y (List.mem_of_mem_take b)).s;exact⟨by show(0:Int)<=(y.s:Int);omega,by show(y.s:Int)<_;omega⟩
theorem Dd (h:∀e∈zs,e.Ok) (a:zs[i]?=R x):nb (dZ x):=by have:=(h x (ea a)).s;exact⟨by show(0:Int)<=(x.s:Int);omega,by show(x.s:Int)<_;omega⟩
theorem xL (a:c.Good) (h:∀e∈zs,e.Ok) (b:i<=1000):(kv zs c i).In ((zs.take i).map dZ).length:=by have:=tR ((zs.take i).map dZ) (aa.new c) 0 (tX a) (by rw[ep,ix];omega) (Dc h);rw[mq] at this;exact this
theorem t_:((zs.take i).map dZ).length<=i:=by rw[ep,ix];omega
theorem ND (a:zs[i]?=R x):kv zs c (i+1)=((kv zs c i).cN (dZ x)).1:=by unfold kv;rw[C1 a]
theorem NF (a:zs[i]?=R x):lG zs c (i+1)=lG zs c i+hz (dZ x) ((kv zs c i).cN (dZ x)):=by unfold lG kv;rw[gE,a,lI,h4,Da];simp[iP]
theorem xM (a:c.Good) (h:∀e∈zs,e.Ok) (b:i<=1000):iH (kv zs c i) (lG zs c i)∧0<=lG zs c i∧lG zs c i<=1000000000000:=by have d:=t_ (zs:=zs) (i:=i);have:=Db ((zs.take i).map dZ) (aa.new c) 0 0 (tX a) (by omega) (Dc h) (iH.new c) (by omega);rw[Int.zero_add] at this;exact⟨this.1,this.2.1,by unfold lG;have:=this.2.2;omega⟩
theorem De {len:Nat} (h:xK w a len cap zs) (l:Mod (λ_=>False) w W) (g:zs[i]?=R x):∃c d,a=R ⟨c,d,U⟩∧W.cell? ⟨c,d+i*6,U⟩=R (I J x.k)∧W.cell? ⟨c,d+i*6+1,U⟩=R (I J x.a)∧W.cell? ⟨c,d+i*6+2,U⟩=R (I J x.b)∧W.cell? ⟨c,d+i*6+3,U⟩=R (I J x.n)∧W.cell? ⟨c,d+i*6+4,U⟩=R (I J x.m)∧W.cell? ⟨c,d+i*6+5,U⟩=R (I ah (x.s:Int)):=by obtain⟨_,_,j,_⟩:=h;have r:=(bE.1 g).1;have t:=j.1;obtain⟨c,d,rfl,o,p⟩:=j.cells (by omega);have k:∀(f:Nat) (u:Value),(iX.e x)[f]?=R u->W.cell? ⟨c,d+(i*6+f),U⟩=R u:=λf u q=>l.cell (p i x g f u q) o id;exact⟨c,d,rfl,k 0 _ rfl,k 1 _ rfl,k 2 _ rfl,k 3 _ rfl,k 4 _ rfl,k 5 _ rfl⟩
end
variable {ar:Array Value}
theorem topLedger_any (z:List Int) (bR:rV z) (a:Option Addr) (len cap:Nat) (zs:List bT) (w:ab) (bU:xK w a len cap zs) (bY:gS w):Calls au 3 #[rW z,aA a len cap] w λe w'=>e=aK (aE true)∧Below w.heap.size w w':=by
 obtain⟨V,a3⟩:∃V,w.alloc (av #[I .u16 (bj z 0),I .u16 (bj z 1),I .u16 (bj z 2),I .u16 (bj z 3),I .u16 (bj z 4)] 23)=V:=⟨_,rfl⟩;have aj:ak V w.heap.size #[I .u16 (bj z 0),I .u16 (bj z 1),I .u16 (bj z 2),I .u16 (bj z 3),I .u16 (bj z 4)] 23:=a3▸ak.new _ _ _;have bn:=C (show Below w.heap.size w V from a3▸bz _ _);have al:=C a3;have a4:=C (Ny z bR V);have P:=C bR.rt;unfold rW at*;obtain⟨cb,cf⟩:∃x,bj z 0=x:=⟨_,rfl⟩;obtain⟨cg,ch⟩:∃x,bj z 1=x:=⟨_,rfl⟩;obtain⟨cj,a5⟩:∃x,bj z 2=x:=⟨_,rfl⟩;obtain⟨cn,b5⟩:∃x,bj z 3=x:=⟨_,rfl⟩;obtain⟨cp,bB⟩:∃x,bj z 4=x:=⟨_,rfl⟩;rw[cf,ch,a5,b5,bB] at a4 al aj⊢;obtain⟨c,bX⟩:∃c,nL z=c:=⟨_,rfl⟩;rw[bX] at a4 P;have ew:=aj.cell 0 (v:=I .u16 cb) rfl;have co:=aj.cell 1 (v:=I .u16 cg) rfl;have eH:=aj.cell 2 (v:=I .u16 cj) rfl;have eI:=aj.cell 3 (v:=I .u16 cn) rfl;have eL:=aj.cell 4 (v:=I .u16 cp) rfl;have H:=C bU;have cr:=C (bU.2.2.1.1);go_enter func3,ntmps3;go_upto_region 1 with fail;rw[al.out];go_wp2_with fail;refine a4.out.mono ?_;rintro e cu ⟨L,rfl,cy⟩;have Q:=C (show aw V (λ_=>False) L (kv zs c 0) cu from cy);obtain⟨bZ,b2⟩:∃x,L.b=x:=⟨_,rfl⟩;unfold aY;simp only[b2];have cE:=C b2;go_wp2_with fail;go_loopw [6,7] (λu6 u7 W=>∃i:Nat,i<=len∧i<=80∧u7=I J (i:Int)∧u6=I J (lG zs c i)∧∃j:bu,j.b=bZ∧aw V (λ_=>False) j (kv zs c i) W) (λ_ u7 _=>80-(intOf u7).toNat);case atStart=>exact⟨0,by omega,by omega,rfl,rfl,L,cE.out,Q.out⟩
 case round=>
  obtain⟨i,cs,eT,rfl,rfl,j,b8,ap⟩:=hrel;have bp:=C b8;by_cases bC:i<len∧i<80
  ·obtain⟨cq,eU⟩:=bC;obtain⟨x,aO⟩:∃x,zs[i]?=R x:=⟨_,b6 (by rw[cr.out];exact cq)⟩;have cH:Mod (λ_=>False) w wr:=(Mod.below (S:=λ_=>False) bn.out).trans ap.1 (λi _ X=>X);obtain⟨cv,eY,rfl,bA,e2,e3,fl,bJ,bD⟩:=De H.out cH aO;have A:=xL (i:=i) P.out H.out.2.2.2 (by omega);have bq:=CZ (dZ x) (Dd H.out.2.2.2 aO) ap A (by have:=t_ (zs:=zs) (i:=i);omega);obtain⟨aS,aU,aP⟩:=xM (i:=i) P.out H.out.2.2.2 (by omega);have Y:=(A.ok.zD (dZ x) (Dd H.out.2.2.2 aO) aS (by omega)).2;have ar:=A.ok.tick;obtain⟨fy,cO⟩:∃y,(kv zs c i).c.tick=y:=⟨_,rfl⟩;rw[cO] at Y ar;have B:=C (NF (c:=c) aO);have aT:=C (ND (c:=c) aO);obtain⟨l,cS⟩:∃l,(kv zs c i).cN (dZ x)=l:=⟨_,rfl⟩;rw[cS] at bq Y B aT;obtain⟨aQ,O⟩:∃y,lG zs c i=y:=⟨_,rfl⟩;rw[O] at aU aP B;simp only[O];have ai:(i:Int)<(len:Int):=(by omega);have fz:(i:Int)<80:=(by omega);have fA:(0:Int)<=(i:Int):=(by omega);have fB:(i:Int).toNat=i:=(by omega);have cT:Calls au 8 #[af (R ⟨bZ,0,U⟩),bm #[I J x.k,I J x.a,I J x.b,I J x.n,I J x.m,I ah (x.s:Int)]] wr (rU V (λ_=>False) j l):=(by unfold aY at bq;rw[bp.out] at bq;exact bq);have cU:=C cT;have Z:hz (dZ x) l=if x.k=11∧l.2.2=0∧0<=l.2.1 then x.n else 0:=rfl;rw[Z] at Y B;have aI:=C aO;go_wp2_with fail;refine cU.out.mono ?_;rintro e aV ⟨rfl,br,cR,c7⟩;have a0:=C (cR.trans bp.out);go_upto_region 9 with fail;obtain⟨aZ,aR⟩:∃aZ,aV.alloc (av #[I J l.2.1,I J l.2.2] 29)=aZ:=⟨_,rfl⟩;rw[aR];have bQ:ak aZ aV.heap.size #[I J l.2.1,I J l.2.2] 29:=aR▸ak.new _ _ _;have a6:=c7.next (show Below aV.heap.size aV aZ from aR▸bz _ _);have bh:Mod (λ_=>False) w aZ:=(Mod.below (S:=λ_=>False) bn.out).trans a6.1 (λi _ X=>X);obtain⟨cB,fC,a5,bI,fO,bF,aL,fU,fV⟩:=De H.out bh aI.out;cases a5;have dc:=bQ.cell 0 (v:=I J l.2.1) rfl;have bs:=bQ.cell 1 (v:=I J l.2.2) rfl;obtain⟨dA,b9⟩:∃y,aV.heap.size=y:=⟨_,rfl⟩;rw[b9] at dc bs;simp only[b9];by_cases bw:x.k=11
   ·rw[bw] at bI;by_cases a2:l.2.2=0
    ·rw[a2] at bs;by_cases a1:0<=l.2.1
     ·rw[if_pos ⟨bw,a2,a1⟩] at B Y;have bv:aQ+x.n<=9223372036854775807:=(by omega);have a7:-9223372036854775808<=aQ+x.n:=(by omega);have aa:=C B.out;go_wp2_with fail;go_roundw;case rel=>exact⟨i+1,by omega,by omega,by go_num,by rw[aa.out],br,a0.out,by rw[aT.out];exact a6⟩
      case measure=>simp[intOf];omega
     ·rw[if_neg (λa8=>a1 a8.2.2)] at B Y;have aa:=C B.out;go_wp2_with fail;go_roundw;case rel=>exact⟨i+1,by omega,by omega,by go_num,by rw[aa.out,pa],br,a0.out,by rw[aT.out];exact a6⟩
      case measure=>simp[intOf];omega
    ·rw[if_neg (λa8=>a2 a8.2.1)] at B Y;have df:(l.2.2==0)=false:=(by simp[a2]);have aa:=C B.out;go_wp2_with fail;go_roundw;case rel=>exact⟨i+1,by omega,by omega,by go_num,by rw[aa.out,pa],br,a0.out,by rw[aT.out];exact a6⟩
     case measure=>simp[intOf];omega
   ·rw[if_neg (λa8=>bw a8.1)] at B Y;have df:(x.k==11)=false:=(by simp[bw]);have aa:=C B.out;go_wp2_with fail;go_roundw;case rel=>exact⟨i+1,by omega,by omega,by go_num,by rw[aa.out,pa],br,a0.out,by rw[aT.out];exact a6⟩
    case measure=>simp[intOf];omega
  ·rcases(by omega:(¬i<len∨(i<len∧i=80))) with b_|⟨b_,f_⟩
   ·have dj:¬(i:Int)<(len:Int):=(by omega);have A:=xL (i:=i) P.out H.out.2.2.2 (by omega);have K:=C A;obtain⟨aS,aU,aP⟩:=xM (i:=i) P.out H.out.2.2.2 (by omega);have h:=C aS;obtain⟨d,a_⟩:=aX (kv zs c i);obtain⟨aQ,O⟩:=aX (lG zs c i);rw[a_] at ap K h;rw[O] at h aU aP;simp only[O];have ao:=C (p1 (f:=d.book.tasks) (λn=>(h.task n).1) d.tasks.length);have ac:=C h.all;have aq:=A.ok.eA.1;have ba:=A.ok.eA.2;have dv:=t_ (zs:=zs) (i:=i);rw[a_] at aq ba;generalize a9:d.groups.length=t at ba;have bo:t<=1000:=(by omega);generalize ag:d.tasks.length=T at ao ac aq;have dw:=C ag;have dx:T<=1000:=(by omega);have dy:=C (p1 (f:=d.book.tasks) (λn=>(h.task n).1) T T zK9);have ay:=C (λ(W:ab) (o:aw V (λ_=>False) j d W) (n:Int)=>xw n o K.ok);have D:=C (λ(W:ab) (o:aw V (λ_=>False) j d W) (n:Int)=>xF n o K.ok);have M:=C (λ(W:ab) (o:aw V (λ_=>False) j d W)=>AZ o);have N:=C (λ(W:ab) (o:aw V (λ_=>False) j d W)=>A0 o);unfold aY at ay D M N;rw[bp.out] at ay D M N;rw[ag] at M;rw[a9] at N;have dF:=xy;have dL:=C4;go_wp2_with fail;go_loopw [9,10] (λu9 u10 W=>∃n:Nat,n<=T∧u10=I J (n:Int)∧u9=I J (fv d.book.tasks n)∧aw V (λ_=>False) j d W) (λ_ u10 _=>T-(intOf u10).toNat);case atStart=>exact⟨0,by omega,rfl,rfl,ap⟩
    case round=>
     obtain⟨n,dQ,rfl,rfl,E⟩:=hrel;have bb:=C (M.out wr E);by_cases bC:n<T
     ·obtain⟨ce,dR,dX,ci,ee,ck,aD⟩:=xG (n:Int) E K.ok;have Z:=ay.out wr E (n:Int);rw[aD] at Z;have bc:=C Z;have bf:=(ao.out n (by omega));have ad:=(ao.out (n+1) (by omega));have bg:fv d.book.tasks (n+1)=fv d.book.tasks n+d.book.tasks (n:Int):=rfl;have bG:=(h.task n).1;rw[ac.out] at bf ad;rw[bg] at ad;have Q:=C bg;obtain⟨aB,az⟩:=aX (d.book.tasks (n:Int));obtain⟨an,F⟩:=aX (fv d.book.tasks n);rw[az,F] at ad Q;rw[az] at bc bG;rw[F] at bf;simp only[F];have bv:an+aB<=9223372036854775807:=(by omega);have a7:-9223372036854775808<=an+aB:=(by omega);have ai:(n:Int)<(T:Int):=(by omega);go_wp2_with fail;apply bb.mono;rintro e aC ⟨rfl,p⟩;obtain rfl:=p.symm;go_wp2_with fail;apply bc.mono;rintro e G ⟨rfl,q⟩;have bH:=C (E.next q);go_wp2_with fail;go_roundw;case rel=>exact⟨n+1,by omega,by go_num,by rw[Q.out],bH.out⟩
      case measure=>simp[intOf];omega
     ·obtain rfl:n=T:=by omega
      have ai:¬(n:Int)<(n:Int):=(by omega);have F:fv d.book.tasks n=aQ:=ac.out;simp only[F];go_wp2_with fail;apply bb.mono;rintro e aC ⟨rfl,p⟩;obtain rfl:=p.symm;go_wp2_with fail;go_loopw [11] (λu11 W=>∃g:Nat,g<=t∧u11=I J (g:Int)∧aw V (λ_=>False) j d W) (λu11 _=>t-(intOf u11).toNat);case atStart=>exact⟨0,by omega,rfl,E⟩
      case round=>
       obtain⟨g,en,rfl,u⟩:=hrel;have bk:=C (N.out wr u);by_cases eo:g<t
       ·have bd:=h.ax (g:Int);have r:=D.out wr u (g:Int);have aF:=λ(bl:ab) (be:Below wr.heap.size wr bl)=>D.out bl (u.next be) (g:Int);unfold nK at r aF;generalize az:d.book.groups (g:Int)=aB at r aF bd;have ae:=C r;have bK:=C aF;have bL:(g:Int)<(t:Int):=(by omega);go_wp2_with fail;apply bk.mono;rintro e aC ⟨rfl,p⟩;obtain rfl:=p.symm;go_wp2_with fail;apply ae.mono;rintro e G ⟨rfl,q⟩;go_wp2_with fail;apply(bK.out G q).mono;rintro e aN ⟨rfl,am⟩;have bi:=C (u.next (q.trans (am.mono q.size)));go_wp2_with fail;go_roundw;case rel=>exact⟨g+1,by omega,by go_num,bi.out⟩
        case measure=>simp[intOf];omega
       ·obtain rfl:g=t:=by omega
        have bL:¬(g:Int)<(g:Int):=(by omega);have r:=D.out wr u 0;unfold nK at r;rw[h.out.root] at r;have ae:=C r;go_wp2_with fail;apply bk.mono;rintro e aC ⟨rfl,p⟩;obtain rfl:=p.symm;go_wp2_with fail;apply ae.mono;rintro e G ⟨rfl,q⟩;have aM:Below w.heap.size w G:=((zF9 bn.out).trans (u.next q).1 (λi _ X=>X)).toBelow;have bP:=C (C_ G (bY.next aM));go_wp2_with fail;apply bP.mono;rintro e aN ⟨rfl,am⟩;go_wp2_with fail;go_ret;exact⟨rfl,aM.trans (am.mono aM.size)⟩
   ·have dj:(i:Int)<(len:Int):=(by omega);have A:=xL (i:=i) P.out H.out.2.2.2 (by omega);have K:=C A;obtain⟨aS,aU,aP⟩:=xM (i:=i) P.out H.out.2.2.2 (by omega);have h:=C aS;obtain⟨d,a_⟩:=aX (kv zs c i);obtain⟨aQ,O⟩:=aX (lG zs c i);rw[a_] at ap K h;rw[O] at h aU aP;simp only[O];have ao:=C (p1 (f:=d.book.tasks) (λn=>(h.task n).1) d.tasks.length);have ac:=C h.all;have aq:=A.ok.eA.1;have ba:=A.ok.eA.2;have dv:=t_ (zs:=zs) (i:=i);rw[a_] at aq ba;generalize a9:d.groups.length=t at ba;have bo:t<=1000:=(by omega);generalize ag:d.tasks.length=T at ao ac aq;have dw:=C ag;have dx:T<=1000:=(by omega);have dy:=C (p1 (f:=d.book.tasks) (λn=>(h.task n).1) T T zK9);have ay:=C (λ(W:ab) (o:aw V (λ_=>False) j d W) (n:Int)=>xw n o K.ok);have D:=C (λ(W:ab) (o:aw V (λ_=>False) j d W) (n:Int)=>xF n o K.ok);have M:=C (λ(W:ab) (o:aw V (λ_=>False) j d W)=>AZ o);have N:=C (λ(W:ab) (o:aw V (λ_=>False) j d W)=>A0 o);unfold aY at ay D M N;rw[bp.out] at ay D M N;rw[ag] at M;rw[a9] at N;have dF:=xy;have dL:=C4;go_wp2_with fail;go_loopw [9,10] (λu9 u10 W=>∃n:Nat,n<=T∧u10=I J (n:Int)∧u9=I J (fv d.book.tasks n)∧aw V (λ_=>False) j d W) (λ_ u10 _=>T-(intOf u10).toNat);case atStart=>exact⟨0,by omega,rfl,rfl,ap⟩
    case round=>
     obtain⟨n,dQ,rfl,rfl,E⟩:=hrel;have bb:=C (M.out wr E);by_cases bC:n<T
     ·obtain⟨ce,dR,dX,ci,ee,ck,aD⟩:=xG (n:Int) E K.ok;have Z:=ay.out wr E (n:Int);rw[aD] at Z;have bc:=C Z;have bf:=(ao.out n (by omega));have ad:=(ao.out (n+1) (by omega));have bg:fv d.book.tasks (n+1)=fv d.book.tasks n+d.book.tasks (n:Int):=rfl;have bG:=(h.task n).1;rw[ac.out] at bf ad;rw[bg] at ad;have Q:=C bg;obtain⟨aB,az⟩:=aX (d.book.tasks (n:Int));obtain⟨an,F⟩:=aX (fv d.book.tasks n);rw[az,F] at ad Q;rw[az] at bc bG;rw[F] at bf;simp only[F];have bv:an+aB<=9223372036854775807:=(by omega);have a7:-9223372036854775808<=an+aB:=(by omega);have ai:(n:Int)<(T:Int):=(by omega);go_wp2_with fail;apply bb.mono;rintro e aC ⟨rfl,p⟩;obtain rfl:=p.symm;go_wp2_with fail;apply bc.mono;rintro e G ⟨rfl,q⟩;have bH:=C (E.next q);go_wp2_with fail;go_roundw;case rel=>exact⟨n+1,by omega,by go_num,by rw[Q.out],bH.out⟩
      case measure=>simp[intOf];omega
     ·obtain rfl:n=T:=by omega
      have ai:¬(n:Int)<(n:Int):=(by omega);have F:fv d.book.tasks n=aQ:=ac.out;simp only[F];go_wp2_with fail;apply bb.mono;rintro e aC ⟨rfl,p⟩;obtain rfl:=p.symm;go_wp2_with fail;go_loopw [11] (λu11 W=>∃g:Nat,g<=t∧u11=I J (g:Int)∧aw V (λ_=>False) j d W) (λu11 _=>t-(intOf u11).toNat);case atStart=>exact⟨0,by omega,rfl,E⟩
      case round=>
       obtain⟨g,en,rfl,u⟩:=hrel;have bk:=C (N.out wr u);by_cases eo:g<t
       ·have bd:=h.ax (g:Int);have r:=D.out wr u (g:Int);have aF:=λ(bl:ab) (be:Below wr.heap.size wr bl)=>D.out bl (u.next be) (g:Int);unfold nK at r aF;generalize az:d.book.groups (g:Int)=aB at r aF bd;have ae:=C r;have bK:=C aF;have bL:(g:Int)<(t:Int):=(by omega);go_wp2_with fail;apply bk.mono;rintro e aC ⟨rfl,p⟩;obtain rfl:=p.symm;go_wp2_with fail;apply ae.mono;rintro e G ⟨rfl,q⟩;go_wp2_with fail;apply(bK.out G q).mono;rintro e aN ⟨rfl,am⟩;have bi:=C (u.next (q.trans (am.mono q.size)));go_wp2_with fail;go_roundw;case rel=>exact⟨g+1,by omega,by go_num,bi.out⟩
        case measure=>simp[intOf];omega
       ·obtain rfl:g=t:=by omega
        have bL:¬(g:Int)<(g:Int):=(by omega);have r:=D.out wr u 0;unfold nK at r;rw[h.out.root] at r;have ae:=C r;go_wp2_with fail;apply bk.mono;rintro e aC ⟨rfl,p⟩;obtain rfl:=p.symm;go_wp2_with fail;apply ae.mono;rintro e G ⟨rfl,q⟩;have aM:Below w.heap.size w G:=((zF9 bn.out).trans (u.next q).1 (λi _ X=>X)).toBelow;have bP:=C (C_ G (bY.next aM));go_wp2_with fail;apply bP.mono;rintro e aN ⟨rfl,am⟩;go_wp2_with fail;go_ret;exact⟨rfl,aM.trans (am.mono aM.size)⟩
variable {H:Type} {enc:TypeId×Value->H} {base fuel:Nat} {spare:Nat->Bool} {held:Bool}
section
open Go.ChangeAt Go.ChangeShapes Go.WideShapes
theorem ev_dec {w:ab} {cs:List Value} {y:DataW H×List MemPlace} (h:DataW.trod enc au w base spare held fuel 33 cs=some y) (aP:cs.length=6):∃z:bT,cs=iX.e z∧z.Ok:=by
 match cs,aP with
 |[u0,u1,u2,u3,u4,u5],_=>
  obtain⟨ag,m,_,rfl,_,Oo,bc⟩:=DataW.trod_struct underlying33 h;match ag,Oo with
  |[N7,Ce,N4,OO,OQ,OZ],_=>obtain⟨n0,kE,_,f0⟩:=DataW.trod_int underlying3 (bc 0 _ rfl);obtain⟨OM,g1,_,f1⟩:=DataW.trod_int underlying3 (bc 1 _ rfl);obtain⟨OR,dF,_,f2⟩:=DataW.trod_int underlying3 (bc 2 _ rfl);obtain⟨On,g3,_,f3⟩:=DataW.trod_int underlying2 (bc 3 _ rfl);obtain⟨OT,g4,_,f4⟩:=DataW.trod_int underlying2 (bc 4 _ rfl);obtain⟨OU,O0,_,f5⟩:=DataW.trod_int underlying31 (bc 5 _ rfl);cases kE;cases g1;cases dF;cases g3;cases g4;cases O0;have Lj:=bounds_i64 f0;have jl:=bounds_i64 f1;have xd:=bounds_i64 f2;have OK:=bounds_i64 f3;have O2:=bounds_i64 f4;have Ow:=bounds_u64 f5;obtain⟨s,rfl⟩:∃s:Nat,OU=(s:Int):=⟨OU.toNat,by omega⟩;exact⟨⟨n0,OM,OR,On,OT,s⟩,rfl,by constructor<;>(simp only;omega)⟩
theorem open_evs {w:ab} {a:Option Addr} {len cap:Nat} {x:DataW H×List MemPlace} (h:DataW.trod enc au w base spare held fuel 24 [.slice a len cap]=some x):∃zs,xK w a len cap zs:=by
 rcases DataW.trod_slice underlying24 h with⟨tH,_⟩|⟨ay,l,c',elems,rest,n,_,tH,_,_,aP,hm,hlen,hel,_⟩;·cases tH;exact⟨[],bM _,hq _,⟨rfl,λh=>by omega⟩,nofun⟩
 ·cases tH;have each:∀k,k<=len->∃zs:List bT,zs.length=k∧(∀e∈zs,e.Ok)∧∀i z,zs[i]?=some z->∀q,q<6->w.cell? ((ay.add (i*6)).add q)=(iX.e z)[q]?:=by
   intro k;induction k with
   |zero=>exactλ_=>⟨[],rfl,nofun,nofun⟩
   |succ i bv=>
    intro aT;obtain⟨zs,bn,bk,aQ⟩:=bv (by omega);have ao:=hel i aT;rw[b6 (by omega),show au.cellsOf 33=6 by kernel_rfl,Option.bind_eq_some_iff] at ao;obtain⟨cs,tH,bg⟩:=ao;obtain⟨_,mf,OS⟩:=World.cells?_some tH;obtain⟨z,rfl,aB⟩:=ev_dec bg mf;refine⟨zs++[z],by simp[bn],λe he=>?_,λj y bf=>?_⟩
    ·rcases nc.1 he with he|he;·exact bk e he
     ·cases p8.1 he;exact aB
    ·by_cases e:j<i;·rw[iR (by omega)] at bf;exact aQ j y bf
     ·rw[gC (by omega),bn] at bf;obtain rfl:i=j:=by have:=(bE.1 bf).1;simp at this;omega
      simp at bf;exact bf▸OS
  obtain⟨zs,bn,bk,aQ⟩:=each len (bM _);refine⟨zs,aP,hm,⟨bn,λh0=>?_⟩,bk⟩;have ao:=aQ 0 zs[0] (b6 _) 0 (by omega);obtain⟨b,off,Oq⟩:=ay;have aS:=World.cell?_spot ao;have ay:=j7 w _ ao;cases(show Oq=none from aS);refine⟨b,off,rfl,ay,λj z bf q v a8=>?_⟩;have:=aQ j z bf q (bE.1 a8).1;rw[addr_add,addr_add] at this;rw[←qd];exact this.trans a8
theorem iface_head {n qZ:String} {d:DataW Unit} {r:List (String×DataW Unit)} {W:ab} {g:Nat} {ua:TypeId} {ms:Array (String×TypeId)} (h:laidMet au ((n,.iface qZ d)::r) W) (aB:au.globalNamed n=some g) (aU:(au.globals[g]?).map (·.type)=some ua) (aT:au.underlying ua=some (.interface ms)):∃nX p,W.var? au n=some #[.iface nX p]:=by obtain⟨_,⟨kE,t0,cs0,f0,OW,kD,g8,OA,Ot,bS,_⟩,_⟩:=h;cases aB.symm.trans g8;cases aU.symm.trans OA;obtain⟨_,u,v,e,_⟩:=iface_of_trod aT bS;obtain⟨OP⟩:=cs0;cases(show OP=_ from e);exact⟨u,v,Ot⟩
theorem known_of {W:ab} (h:laidMetH au Rows.topLedgerRow.laid W) (aS:W.ShapedOpen au):gS W:=by
 rw[MakeChecks.laidMetH_plain _ _ _ (by kernel_rfl)] at h;have ao:=laidMet.tail (show laidMet au (_::_) W from h);have az:=laidMet.tail (show laidMet au (_::_) W from ao);have bU:=laidMet.tail (show laidMet au (_::_) W from laidMet.tail (show laidMet au (_::_) W from az));have cR:=laidMet.tail (show laidMet au (_::_) W from bU);have N7:au.globalNamed (Rows.topLedgerRow.laid.getD 1 ("",.nil)).1=some 9:=by kernel_rfl
 have aU:=Lib.tabIs_of_head (zs:=Lib.deBruijn64tab.map Int.ofNat) (k:=.u8) N7 (t:=398) (by kernel_rfl) underlying398 underlying5 (by kernel_rfl) (by kernel_rfl) ao;refine⟨?_,λj bf=>?_,um.s1_3 W aS,Lib.tabIs_of_head xS (t:=383) (by kernel_rfl) underlying383 underlying31 (by kernel_rfl) (by kernel_rfl) az,iface_head cR xT (ua:=301) (by kernel_rfl) underlying301,iface_head bU xU (ua:=301) (by kernel_rfl) underlying301⟩;·obtain⟨⟨z,t⟩,aC⟩:=gP.1 (show(((begin au (λ_ _=>0) default).world.heap[9]?).bind Obj.row?).isSome=true by kernel_rfl);obtain⟨cs,aQ,_⟩:=aS.1 9 z t (of_decide_eq_true (by kernel_rfl)) aC;have:=(iQ.1 aQ).1;omega
 ·rw[aU.cell N7 j (by simpa using bf),List.getD,List.getD,dP];cases Lib.deBruijn64tab[j]?<;>rfl
def IsTerms (w:ab) (v:Value) (z:List Int):Prop:=v=rW z∧rV z
theorem open_terms {W:ab} {base Lj:Nat} {v:Value} {d:DataW H} {p:List MemPlace} (j5:Value.okWide au W .any base 23 v) (h:DataW.Trod enc au W Lj spare held 23 v d p):∃z,IsTerms W v z:=by
 simp only[Value.okWide,underlying23] at j5;obtain⟨⟨l⟩,rfl,az,_⟩:=j5;obtain⟨fuel,bc⟩:=h;match l,az.trans (show _=5 by kernel_rfl) with
 |[u0,u1,u2,u3,u4],_=>
  obtain⟨ag,m,_,_,_,Oo,aB⟩:=DataW.trod_array underlying23 bc;match ag,Oo with
  |[N7,Ce,N4,OO,OQ],_=>rw[show au.cellsOf 22=1 by kernel_rfl] at aB;obtain⟨n0,kE,_,f0⟩:=DataW.trod_int underlying22 (aB 0 (by omega));obtain⟨OM,g1,_,f1⟩:=DataW.trod_int underlying22 (aB 1 (by omega));obtain⟨OR,dF,_,f2⟩:=DataW.trod_int underlying22 (aB 2 (by omega));obtain⟨On,g3,_,f3⟩:=DataW.trod_int underlying22 (aB 3 (by omega));obtain⟨OT,g4,_,f4⟩:=DataW.trod_int underlying22 (aB 4 (by omega));cases kE;cases g1;cases dF;cases g3;cases g4;have Lj:=bounds_u16 f0;have jl:=bounds_u16 f1;have xd:=bounds_u16 f2;have OK:=bounds_u16 f3;have O2:=bounds_u16 f4;exact⟨[n0,OM,OR,On,OT],rfl,rfl,λi=>by rcases i with _|_|_|_|_|i<;>(simp[bj];try omega)⟩
theorem witness_lay {ar:Checked} {os:Os} {f:FuncId} {fn:Func} {s:OpenSpec} {conds:List PathCond} {apart:Bool} {laid:List (String×DataW Unit)} (aq:ab) (args:Array Value) (hos:aq.os=os) (O3:(aq.forCall (λ_ _=>0) ⟨#[],args,[]⟩).Shaped ar.prog) (j5:Input.okWideB ar.prog (aq.forCall (λ_ _=>0) ⟨#[],args,[]⟩) f ⟨#[],args,[]⟩=true) (ON:s.preRow enc ar.prog fn conds apart laid (aq.forCall (λ_ _=>0) ⟨#[],args,[]⟩).memory args):∃(w:ab) (tape:Tape) (i:Input),w.os=os∧(w.forCall tape i).Shaped ar.prog∧i.vars=[]∧Input.okWide ar.prog (w.forCall tape i) .any w.heap.size f i∧s.preRow enc ar.prog fn conds apart laid (w.forCall tape i).memory i.args∧({}:Assume).holds ar.prog (lone (Frame.enter ar.prog f i.args .normal) [] (w.forCall tape i)):=⟨aq,λ_ _=>0,⟨#[],args,[]⟩,hos,O3,(Input.okWide_of_okWideB (base:=0) j5).1,(Input.okWide_of_okWideB j5).2,ON,by simp only[Assume.holds];exact⟨by simp,by simp,λh=>by simp at h,by simp,by simp⟩⟩
end
end Go.Proofs.YtddbkdjcjoofpaaGreatDoor
