import Derived.Test.YtddbkdjcjoofpaaGreatDoorLA
import Derived.Test.YtddbkdjcjoofpaaGreatDoorLC
import Derived.Test.YtddbkdjcjoofpaaGreatDoorLD
import Derived.Test.YtddbkdjcjoofpaaGreatDoorLE
import Derived.Test.YtddbkdjcjoofpaaGreatDoorLF
import Derived.Test.YtddbkdjcjoofpaaGreatDoorLG
import Derived.LaidEqlPtr
namespace Go.Proofs.YtddbkdjcjoofpaaGreatDoor
set_option linter.unusedVariables false
set_option linter.unusedSimpArgs false
set_option maxRecDepth 100000
set_option maxHeartbeats 20000000
open _root_.Go.Proofs.Tryz Go.RowKit
open Go renaming World→ab
open _root_.Go.Proofs.Tryz renaming prog→au
open Option renaming none→U,some→R
open _root_.Go.Value renaming int→I,pointer→af,slice→ay,bool→aD,agg→bk,tuple→bC
open _root_.Go.IntKind renaming i64→J,u64→ah,wrap_u64→ni
open _root_.Go.Obj renaming cells→av
open _root_.Go.Ending renaming returned→aK
open _root_.Nat renaming le_refl→bK,le_trans→cA,mul_le_mul_right→n3,lt_or_ge→nm,zero_le→gN,sub_self→lu,add_assoc→qy,ne_of_lt→pC
open _root_.Go renaming World→ab
open _root_.List renaming getElem?_eq_getElem→b5,getElem?_map→dD,length_eq_zero_iff→nY,drop_eq_getElem_cons→px,getElem?_eq_some_iff→bD,length_cons→dX,length_append→eX,getElem?_append_right→gJ,getElem?_append_left→ja,take_of_length_le→uZ,mem_map→eY,cons_append→gM,mem_iff_getElem?→lp,getElem?_toArray→fg,mem_of_getElem?→ea,length_map→dY,map_append→iI,append_assoc→h_,filter_append→sh,length_filter_le→py,getElem?_set_self→cV,getElem?_set_ne→dN,range→gi,nodup_iff_pairwise_ne→qn,foldl_cons→nk,any_eq_true→n_,mem_range→pB,getElem?_eq_none→gh,length_set→eg,mem_iff_getElem→u_,getElem?_zipIdx→n5,take_add_one→gL,setIfInBounds_toArray→sd,range_succ→oa,length_nil→hM,take_length→hL,length_take→iG,pairwise_iff_getElem→qp,ext_getElem?→qu,set_append_right→n1,append_nil→qw,map_congr_left→vc,length_singleton→n2
open _root_.And renaming intro→br
open _root_.Int renaming toNat_natCast→bZ,le_refl→jw,eq_ofNat_of_zero_le→dS
open _root_.Option renaming isSome_iff_exists→gK,map_eq_some_iff→h9,map_some→iH,toList_some→lY
open _root_.Go.World renaming cell?_setCell_other→i_
variable {b n g i p j c B m o:Nat} {S Z al:Nat->Prop} {w W w' y A W':ab} {v aE u:Value} {a:Option Addr} {ar:Array Value} {k x:Key} {l:List Int} {ai:Int->Nat} {e:aI} {ag:List (Int×Int)} {s:bp (aF×Int)} {r:T} {P:List (List Nat)} {V:List (Int×Int)->ab->Prop} {L:List ByteArray} {aH:Bool}
theorem L7 {t:ae} {h parent:aF} {g p:aF×Int} (a:ae.get t h=R g) (b:ae.get t parent=R p):ae.eh t h parent=if h=bM then 1 else if ae.c1 t parent h then 10 else if(ae.below t h).any (λx=>decide (8<ae.fA t x+(p.2+1-g.2))) then 5 else 0:=by unfold ae.eh;rw[a,b]
theorem xZ (h parent:aF) (d:Int):∀(l:List aF) (x:aF) (t:ae),ae.fv h parent d (l++[x]) t=ae.fv h parent d [x] (ae.fv h parent d l t)
 |[],x,t=>rfl
 |a::l,x,t=>by
  rw[gM];conv=>lhs;unfold ae.fv
  conv=>rhs;rhs;unfold ae.fv
  cases ae.get t a with
  |none=>exact xZ h parent d l x t
  |some y=>exact xZ h parent d l x _
theorem L8 {h parent x:aF} {d:Int} {t:ae} {y:aF×Int} (a:ae.get t x=R y):ae.fv h parent d [x] t=an.set t x (if x=h then parent else y.1,y.2+d):=by unfold ae.fv;rw[a];rfl
theorem L9 {h parent x:aF} {d:Int} {t:ae} {L:List aF} (a:L.Nodup) (g:∀x∈L,(ae.get t x).isSome=true) (b:L[i]?=R x) {y:aF×Int} (j:ae.get t x=R y):ae.get (ae.fv h parent d (L.take i) t) x=R y∧ae.fv h parent d (L.take (i+1)) t=an.set (ae.fv h parent d (L.take i) t) x (if x=h then parent else y.1,y.2+d):=by
 have c:=(bD.1 b);have l:x∉L.take i:=by intro m;obtain⟨k,n,e⟩:=u_.1 m;rw[iG] at n;rw[List.getElem_take] at e;exact(qp.1 (qn.1 a)) k i (by omega) c.1 (by omega) (e.trans c.2.symm)
 have f:ae.get (ae.fv h parent d (L.take i) t) x=R y:=by rw[ae.wa h parent d (L.take i) t (a.sublist (List.take_sublist _ _)) (λo p=>g o ((List.take_sublist _ _).subset p)),z0 l,j]
 refine⟨f,?_⟩;rw[gL,b];show ae.fv h parent d (L.take i++[x]) t=_;rw[xZ,L8 f]
theorem L_ (S:Nat->Prop) (b:Nat) (t:ae) (h parent:aF) (w:ab) (aR:cT w S b t) (hk:ae.Ok t) {g p:aF×Int} (aS:ae.get t h=R g) (aU:ae.get t parent=R p):Calls au 90 #[af (R ⟨b,0,U⟩),bk #[I J h.idx,I J h.gen],bk #[I J parent.idx,I J parent.gen]] w (uG S b (ae.move t h parent) (I J (ae.eh t h parent)) w):=by
 obtain⟨V,ag⟩:∃V,(w.alloc (av #[I J h.idx,I J h.gen] 77)).alloc (av #[I J parent.idx,I J parent.gen] 77)=V:=⟨_,rfl⟩;have b1:Below w.heap.size w V:=ag▸(bx _ _).alloc (by simp) _;have a4:ak V w.heap.size #[I J h.idx,I J h.gen] 77:=ag▸(ak.new w _ _).alloc _;have c8:ak V (w.heap.size+1) #[I J parent.idx,I J parent.gen] 77:=ag▸(by have:=ak.new (w.alloc (av #[I J h.idx,I J h.gen] 77)) #[I J parent.idx,I J parent.gen] 77;simpa using this);have bf:=C aR.trim;have b3:=k2 _ b t h V (aR.trim.next b1);rw[aS] at b3;have c_:=C b3;have da:=C (λ(W:ab) (ad:Below w.heap.size w W)=>by have:=k2 _ b t parent W (aR.trim.next ad);rw[aU] at this;exact this);have aB:=a4.cell 0 (v:=I J h.idx) rfl;have N:=a4.cell 1 (v:=I J h.gen) rfl;have fe:=C ag;have aI:=C b1;have bH:=C a4;have bC:=C c8;have cZ:=C (λ(W:ab) (ad:Below w.heap.size w W)=>tD _ b t parent h W (aR.trim.next ad) hk);have de:=C (λ(W:ab) (ad:Below w.heap.size w W)=>L0 _ b t h W (aR.trim.next ad) hk);have a5:=C (L7 aS aU);have b6:=C hk;have k8:=C aS;have k9:=C aU;obtain⟨O,ax⟩:∃O,ae.eh t h parent=O:=⟨_,rfl⟩;obtain⟨bF,aO⟩:∃bF,ae.move t h parent=bF:=⟨_,rfl⟩;have bR:=C (show O≠0->bF=t fromλe=>by rw[<-aO];unfold ae.move;rw[z0 (by rw[ax];exact e)]);have bs:=C (show O=0->bF=ae.fv h parent (p.2+1-g.2) (ae.below t h) t fromλe=>by rw[<-aO];unfold ae.move;rw[aj (by rw[ax];exact e),aS,aU]);rw[ax] at a5;rw[ax,aO];have k_:=hk.o2 aS;have b4:=hk.o2 aU;clear ag b1 a4 c8 aR b3 aS aU hk ax aO;go_enter func90,ntmps90;go_upto_region 1 with fail;rw[fe.out];go_wp2_with fail;refine c_.out.mono ?_;rintro e a9 ⟨rfl,aC⟩;have bh:=C (aI.out.trans (aC.mono aI.out.size));have fG:=C (bH.out.next aC);have fH:=C (bC.out.next aC);clear aC aB N;unfold hE;go_upto_region 2 with fail;obtain⟨aA,aP⟩:∃aA,a9.alloc (av #[I J g.1.idx,I J g.1.gen,I J g.2] 124)=aA:=⟨_,rfl⟩;rw[aP];have b9:=C (show Below w.heap.size w aA from aP▸bh.out.alloc bh.out.size _);have fI:=C (show ak aA w.heap.size #[I J h.idx,I J h.gen] 77 from aP▸fG.out.alloc _);have aY:=C (show ak aA (w.heap.size+1) #[I J parent.idx,I J parent.gen] 77 from aP▸fH.out.alloc _);have fJ:=C (show ak aA a9.heap.size #[I J g.1.idx,I J g.1.gen,I J g.2] 124 from aP▸ak.new a9 _ _);have bv:=aY.out.cell 0 (v:=I J parent.idx) rfl;have a1:=aY.out.cell 1 (v:=I J parent.gen) rfl;have cF:=C (da.out aA b9.out);clear aP;go_wp2_with fail;refine cF.out.mono ?_;rintro e cc ⟨rfl,bc⟩;have bG:=C (b9.out.trans (bc.mono b9.out.size));have fK:=C (fI.out.next bc);have fR:=C (aY.out.next bc);have bE:=C (fJ.out.next bc);clear bc bv a1;unfold hE;go_upto_region 3 with fail;obtain⟨q,aG⟩:∃q,cc.alloc (av #[I J p.1.idx,I J p.1.gen,I J p.2] 124)=q:=⟨_,rfl⟩;rw[aG];have df:=C (show Below w.heap.size w q from aG▸bG.out.alloc bG.out.size _);have aV:=C (show ak q w.heap.size #[I J h.idx,I J h.gen] 77 from aG▸fK.out.alloc _);have aJ:=C (show ak q (w.heap.size+1) #[I J parent.idx,I J parent.gen] 77 from aG▸fR.out.alloc _);have fX:=C (show ak q a9.heap.size #[I J g.1.idx,I J g.1.gen,I J g.2] 124 from aG▸bE.out.alloc _);have fY:=C (show ak q cc.heap.size #[I J p.1.idx,I J p.1.gen,I J p.2] 124 from aG▸ak.new cc _ _);have aB:=aV.out.cell 0 (v:=I J h.idx) rfl;have N:=aV.out.cell 1 (v:=I J h.gen) rfl;have dv:=df.out.size;clear aG;go_upto_region 5 with fail;go_cut [40] from 41 to 43 (λv fZ=>v=aD (decide (h=bM))∧Below q.heap.size q fZ);case first=>
  rcases xY h with⟨o,B,bg⟩|⟨o,⟨B,bg⟩|B⟩;·have n:=C (decide_eq_true o);have Z:(h.idx==0)=true:=(by simp[B]);have aZ:(h.gen==0)=true:=(by simp[bg]);clear o B bg;go_region_held3 (λW'=>W'.cell? ⟨w.heap.size,0,U⟩=R (I J h.idx)∧W'.cell? ⟨w.heap.size,1,U⟩=R (I J h.gen)) ((refine⟨?_,?_⟩)<;>(repeat(first|assumption|(with_reducible refine b2 ?_)))) (first|(go_at_call 65;refine(lQ _).mono ?_;rintro e di ⟨rfl,l⟩;have A:=aV.out.drew.next l;have bI:=A.cell 0 (v:=I J h.idx) rfl;have ca:=A.cell 1 (v:=I J h.gen) rfl;have H:=C l;clear l A));all_goals go_wp2_with fail;go_meet;exact⟨by rw[n.out],(Below.refl q.heap.size q).drew.trans H.out⟩
  ·have n:=C (decide_eq_false o);have Z:(h.idx==0)=true:=(by simp[B]);have aZ:(h.gen==0)=false:=(by simp[bg]);clear o B bg;go_region_held3 (λW'=>W'.cell? ⟨w.heap.size,0,U⟩=R (I J h.idx)∧W'.cell? ⟨w.heap.size,1,U⟩=R (I J h.gen)) ((refine⟨?_,?_⟩)<;>(repeat(first|assumption|(with_reducible refine b2 ?_)))) (first|(go_at_call 65;refine(lQ _).mono ?_;rintro e di ⟨rfl,l⟩;have A:=aV.out.drew.next l;have bI:=A.cell 0 (v:=I J h.idx) rfl;have ca:=A.cell 1 (v:=I J h.gen) rfl;have H:=C l;clear l A));all_goals go_wp2_with fail;go_meet;exact⟨by rw[n.out],(Below.refl q.heap.size q).drew.trans H.out⟩
  ·have n:=C (decide_eq_false o);have Z:(h.idx==0)=false:=(by simp[B]);clear o B;go_region_held3 (λW'=>W'.cell? ⟨w.heap.size,0,U⟩=R (I J h.idx)∧W'.cell? ⟨w.heap.size,1,U⟩=R (I J h.gen)) ((refine⟨?_,?_⟩)<;>(repeat(first|assumption|(with_reducible refine b2 ?_)))) (first|(go_at_call 65;refine(lQ _).mono ?_;rintro e di ⟨rfl,l⟩;have A:=aV.out.drew.next l;have bI:=A.cell 0 (v:=I J h.idx) rfl;have ca:=A.cell 1 (v:=I J h.gen) rfl;have H:=C l;clear l A));all_goals go_wp2_with fail;go_meet;exact⟨by rw[n.out],(Below.refl q.heap.size q).drew.trans H.out⟩
 case rest=>
  obtain⟨rfl,l⟩:=hcut;have H:=C (df.out.trans (Below.mono l dv));have cf:=C (aV.out.next l);have cg:=C (aJ.out.next l);have f_:=C (fX.out.next l);have gw:=C (fY.out.next l);clear l aB N;cases o:decide (h=bM) with
  |true=>have n:=C (show O=1 by rw[a5.out,aj (of_decide_eq_true o)]);clear o;go_wp2_with fail;go_ret;rw[bR.out (by rw[n.out];decide),n.out];exact bf.out.r6 H.out
  |false=>
   have dA:=C (of_decide_eq_false o);clear o;have aB:=cf.out.cell 0 (v:=I J h.idx) rfl;have N:=cf.out.cell 1 (v:=I J h.gen) rfl;have bv:=cg.out.cell 0 (v:=I J parent.idx) rfl;have a1:=cg.out.cell 1 (v:=I J parent.gen) rfl;have ch:=C (cZ.out wc H.out);go_wp2_with fail;refine ch.out.mono ?_;rintro e gF ⟨rfl,a6⟩;have bj:=C (H.out.trans (Below.mono a6 H.out.size));have cj:=C (cf.out.next a6);have gG:=C (cg.out.next a6);have bJ:=C (f_.out.next a6);have gH:=C (gw.out.next a6);clear a6 aB N bv a1;cases a7:ae.c1 t parent h with
   |true=>have n:=C (show O=10 by rw[a5.out,z0 dA.out,aj a7]);clear a7;go_wp2_with fail;go_ret;rw[bR.out (by rw[n.out];decide),n.out];exact bf.out.r6 bj.out
   |false=>
    have n:=C (show O=if(ae.below t h).any (λx=>decide (8<ae.fA t x+(p.2+1-g.2))) then 5 else 0 by rw[a5.out,z0 dA.out,z0 (by rw[a7];simp)]);clear a7;have gI:=bJ.out.cell 2 (v:=I J g.2) rfl;have gV:=gH.out.cell 2 (v:=I J p.2) rfl;have aB:=cj.out.cell 0 (v:=I J h.idx) rfl;have N:=cj.out.cell 1 (v:=I J h.gen) rfl;have gW:IntKind.i64.wrap (p.2+1)=p.2+1:=IntWalk.i64_in _ (by omega);have dF:IntKind.i64.wrap (p.2+1-g.2)=p.2+1-g.2:=IntWalk.i64_in _ (by omega);have c0:=C (de.out gF bj.out);go_wp2_with fail;refine c0.out.mono ?_;rintro e aa ⟨la,rfl,bL,bd⟩;obtain⟨_,bn,ld,rfl,_,_,_,cm⟩:=bL.rd;have a8:=C (bj.out.trans (Below.mono bd bj.out.size));have c2:=C (cj.out.next bd);have c3:=C (gG.out.next bd);have lf:=bj.out.size;have cn:=ae.ox t h;have b8:=λ(i:Nat) (x:aF) (m:(ae.below t h)[i]?=R x)=>(ae.jU.1 (ea m)).1;have c4:(ae.below t h).length<=32:=(by unfold ae.below;refine cA (py _ _) ?_;have:=xX t;have:=b6.out.cy;omega);obtain⟨L,dG⟩:∃L,ae.below t h=L:=⟨_,rfl⟩;rw[dG] at bL cm n bs cn b8 c4⊢;obtain⟨d,dH⟩:∃d,p.2+1-g.2=d:=⟨_,rfl⟩;rw[dH] at n bs dF⊢;have lg:-16<=d∧d<=16:=(by omega);have cr:=C (show∀j x,L[j]?=R x->∃c s,bn=R ⟨c,s,U⟩∧w.heap.size<=c∧c<aa.heap.size∧∀(a:Nat) (u:Value),(k1.e x)[a]?=R u->aa.cell? ⟨c,s+(j*2+a),U⟩=R u fromλj x m=>by have lh:=(bD.1 m).1;obtain⟨c,s,rfl,an,P⟩:=cm.cells (by omega);exact⟨c,s,rfl,by have:=(bL.lt c rfl).1;omega,an,λa u c5=>P j x m a u c5⟩);have bU:=C cn;have bB:=C b8;have h3:=C (λ(x:aF) (W:ab) (ad:Below w.heap.size w W)=>k2 _ b t x W (bf.out.next ad));clear bd bL cm dG dH cn b8 gI gV aB N gW dF;go_wp2_with fail;go_loopw [60] (λaL wr=>∃i:Nat,i<=L.length∧aL=I J (i:Int)∧Below aa.heap.size aa wr∧(L.take i).any (λx=>decide (8<ae.fA t x+d))=false) (λaL _=>L.length-(intOf aL).toNat);case atStart=>exact⟨0,by omega,rfl,Below.refl _ _,rfl⟩
    case round=>
     obtain⟨i,bW,rfl,dI,dB⟩:=hrel;have E:=C dI;have be:=C dB;clear dI dB;by_cases an:i<L.length
     ·have h4:(i:Int)<(L.length:Int):=(by omega);have bI:(0:Int)<=(i:Int):=(by omega);have c9:(i:Int).toNat=i:=(by omega);obtain⟨x,m⟩:∃x,L[i]?=R x:=⟨_,b5 an⟩;obtain⟨y,aq⟩:=gK.1 (bB.out i x m);obtain⟨c,s,rfl,h5,aw,P⟩:=cr.out i x m;have cu:=(show wr.cell? ⟨c,s+i*2,U⟩=R (I J x.idx) from(Mod.below (S:=λ_=>False) E.out).cell (P 0 (I J x.idx) rfl) aw id);have cB:=(show wr.cell? ⟨c,s+i*2+1,U⟩=R (I J x.gen) from by rw[qy];exact(Mod.below (S:=λ_=>False) E.out).cell (P 1 (I J x.gen) rfl) aw id);have db:=b6.out.o2 aq;have bl:=a8.out.size;have dT:=E.out.size;have dU:=C m;have iz:=C aq;have ki:=C (a8.out.trans (Below.mono E.out bl));clear m P;go_upto_region 14 with fail;obtain⟨F,Q⟩:∃F,wr.alloc (av #[I J x.idx,I J x.gen] 77)=F:=⟨_,rfl⟩;rw[Q];have ba:=C (show Below aa.heap.size aa F from Q▸E.out.alloc dT _);have cG:ak F wr.heap.size #[I J x.idx,I J x.gen] 77:=Q▸ak.new wr _ _;have cJ:=cG.cell 0 (v:=I J x.idx) rfl;have b_:=cG.cell 1 (v:=I J x.gen) rfl;have am:=h3.out x F (a8.out.trans (Below.mono ba.out bl));rw[aq] at am;have cq:=C am;clear Q cG cu cB am aq;go_wp2_with fail;refine cq.out.mono ?_;rintro e f ⟨rfl,K⟩;have bo:=C (ba.out.trans (Below.mono K ba.out.size));clear K cJ b_;unfold hE;go_upto_region 15 with fail;obtain⟨z,T⟩:∃z,f.alloc (av #[I J y.1.idx,I J y.1.gen,I J y.2] 124)=z:=⟨_,rfl⟩;rw[T];have ao:=C (show Below aa.heap.size aa z from T▸bo.out.alloc bo.out.size _);have ce:ak z f.heap.size #[I J y.1.idx,I J y.1.gen,I J y.2] 124:=T▸ak.new f _ _;have dV:=ce.cell 2 (v:=I J y.2) rfl;have iA:IntKind.i64.wrap (y.2+d)=y.2+d:=IntWalk.i64_in _ (by omega);have bu:=C (show ae.fA t x=y.2 by unfold ae.fA;rw[iz.out]);clear T ce;by_cases iB:8<y.2+d;·have bm:=C (show O=5 by rw[n.out,aj];exact n_.2 ⟨x,ea dU.out,by rw[bu.out];simpa using iB⟩);go_wp2_with fail;go_ret;rw[bR.out (by rw[bm.out];decide),bm.out];exact bf.out.r6 (a8.out.trans (Below.mono ao.out bl))
      ·go_wp2_with fail;go_roundw;case rel=>refine⟨i+1,by omega,by go_num,ao.out,?_⟩;rw[gL,dU.out,List.any_append,be.out];simp[bu.out];omega
       case measure=>simp[intOf];omega
     ·obtain rfl:i=L.length:=by omega
      rw[hL] at be;have bm:=C (show O=0 by rw[n.out,z0 (by rw[be.out];simp)]);have bl:=a8.out.size;have dT:=E.out.size;have bQ:=C (c2.out.next E.out);have dg:=C (c3.out.next E.out);have eo:=C (a8.out.trans (Below.mono E.out bl));have iC:=C (show∀j x,L[j]?=R x->∃c s,bn=R ⟨c,s,U⟩∧w.heap.size<=c∧c<wr.heap.size∧∀(a:Nat) (u:Value),(k1.e x)[a]?=R u->wr.cell? ⟨c,s+(j*2+a),U⟩=R u fromλj x m=>by obtain⟨c,s,e,N,aE,hH⟩:=cr.out j x m;exact⟨c,s,e,N,by omega,λa u a7=>(Mod.below (S:=λ_=>False) E.out).cell (hH a u a7) aE id⟩);have iD:=C (show∀x∈L,(ae.get t x).isSome=true fromλx m=>by obtain⟨i,bW⟩:=lp.1 m;exact bB.out i x bW);clear E be n cr cZ de da c_;obtain⟨bN,dl⟩:∃bN,bN=wr:=⟨_,rfl⟩;subst dl;go_wp2_with fail;go_loopw [78] (λaL ci=>∃i:Nat,i<=L.length∧aL=I J (i:Int)∧cT ci (λk=>S k∧k<w.heap.size) b (ae.fv h parent d (L.take i) t)∧Mod (λk=>(S k∧k<w.heap.size)) bN ci) (λaL _=>L.length-(intOf aL).toNat);case atStart=>exact⟨0,by omega,rfl,bf.out.next eo.out,Mod.refl _ _⟩
      case round=>
       obtain⟨i,bW,rfl,eu,ck⟩:=hrel;have bS:=C eu;have aN:=C ck;clear eu ck;by_cases an:i<L.length
       ·obtain⟨x,m⟩:∃x,L[i]?=R x:=⟨_,b5 an⟩;obtain⟨y,aq⟩:=gK.1 (bB.out i x m);obtain⟨cM,ar⟩:=L9 (h:=h) (parent:=parent) (d:=d) bU.out iD.out m aq;obtain⟨c,s,rfl,h5,aw,P⟩:=iC.out i x m;have h4:(i:Int)<(L.length:Int):=(by omega);have bI:(0:Int)<=(i:Int):=(by omega);have c9:(i:Int).toNat=i:=(by omega);have cu:=(show wr.cell? ⟨c,s+i*2,U⟩=R (I J x.idx) from aN.out.cell (P 0 (I J x.idx) rfl) aw (λa=>by omega));have cB:=(show wr.cell? ⟨c,s+i*2+1,U⟩=R (I J x.gen) from by rw[qy];exact aN.out.cell (P 1 (I J x.gen) rfl) aw (λa=>by omega));have db:=b6.out.o2 aq;have iW:=C (bQ.out.mod aN.out (λa=>by omega));have ev:=C (dg.out.mod aN.out (λa=>by omega));have lj:=aN.out.size;have d0:=ev.out.lt;obtain⟨ay,ew⟩:∃ay,ae.fv h parent d (L.take i) t=ay:=⟨_,rfl⟩;rw[ew] at cM ar bS;have iX:=C ar;clear m P ar ew aq;go_upto_region 21 with fail;obtain⟨F,Q⟩:∃F,wr.alloc (av #[I J x.idx,I J x.gen] 77)=F:=⟨_,rfl⟩;rw[Q];have bq:Below wr.heap.size wr F:=Q▸bx _ _;have aM:=C (show ak F wr.heap.size #[I J x.idx,I J x.gen] 77 from Q▸ak.new wr _ _);have bP:=C (iW.out.next bq);have gU:=C (ev.out.next bq);have ey:=C (bS.out.next bq);have ba:=C bq;have d1:=aM.out.lt;have cJ:=aM.out.cell 0 (v:=I J x.idx) rfl;have b_:=aM.out.cell 1 (v:=I J x.gen) rfl;have am:=k2 _ b ay x F ey.out;rw[cM] at am;have cq:=C am;clear Q bq am cu cB cM;go_wp2_with fail;refine cq.out.mono ?_;rintro e f ⟨rfl,K⟩;have jE:=C (aM.out.next K);have bO:=C (bP.out.next K);have ek:=C (gU.out.next K);have j8:=C (ey.out.next K);have bo:=C (ba.out.trans (Below.mono K ba.out.size));have d2:=K.size;clear K cJ b_;unfold hE;go_upto_region 22 with fail;obtain⟨ap,bi⟩:∃ap,f.alloc (av #[I J y.1.idx,I J y.1.gen,I J y.2] 124)=ap:=⟨_,rfl⟩;rw[bi];have bb:Below f.heap.size f ap:=bi▸bx _ _;have bT:=C (show ak ap f.heap.size #[I J y.1.idx,I J y.1.gen,I J y.2] 124 from bi▸ak.new f _ _);have fo:=C (jE.out.next bb);have j9:=C (bO.out.next bb);have j_:=C (ek.out.next bb);have ka:=C (j8.out.next bb);have kb:=C (bo.out.trans (Below.mono bb bo.out.size));have d3:=bT.out.lt;have dV:=bT.out.cell 2 (v:=I J y.2) rfl;have bY:=bT.out.free 2;have iA:IntKind.i64.wrap (y.2+d)=y.2+d:=IntWalk.i64_in _ (by omega);clear bi bb;go_upto_region 23 with fail;obtain⟨z,T⟩:∃z,ap.setCell ⟨f.heap.size,2,U⟩ (I J (y.2+d))=z:=⟨_,rfl⟩;rw[T];have aQ:Mod (λk=>k=f.heap.size) ap z:=T▸Mod.one ap f.heap.size 2 _;have D:=C (show ak z f.heap.size #[I J y.1.idx,I J y.1.gen,I J (y.2+d)] 124 from T▸bT.out.set 2 (I J (y.2+d)));have bt:=C (fo.out.mod aQ (λe=>by omega));have co:=C (j9.out.mod aQ (λe=>by omega));have eG:=C (j_.out.mod aQ (λe=>by omega));have a_:=C (ka.out.frame aQ (λk a e=>by omega));have ao:=C (show Below wr.heap.size wr z from mW kb.out (bK _) aQ (λk _ e=>by omega));have d4:=aQ.size;have kc:=bt.out.cell 0 (v:=I J x.idx) rfl;have kd:=bt.out.cell 1 (v:=I J x.gen) rfl;have o:=co.out.cell 0 (v:=I J h.idx) rfl;have B:=co.out.cell 1 (v:=I J h.gen) rfl;clear T aQ dV bY;have eH:∀(X:aF×Int) (W:ab),X=(if x=h then parent else y.1,y.2+d)->ak W f.heap.size #[I J X.1.idx,I J X.1.gen,I J X.2] 124->ak W wr.heap.size #[I J x.idx,I J x.gen] 77->cT W (λk=>S k∧k<w.heap.size) b ay->Below wr.heap.size wr W->∃Y,W.cell? ⟨b,0,U⟩=R (af (R ⟨Y,0,U⟩))∧Calls au 139 #[af (R ⟨Y,0,U⟩),bk #[I J x.idx,I J x.gen],bk #[I J X.1.idx,I J X.1.gen,I J X.2]] W.drew λe w'=>(∃r,e=aK r)∧cT w' (λk=>S k∧k<w.heap.size) b (ae.fv h parent d (L.take (i+1)) t)∧Mod (λk=>(S k∧k<w.heap.size)) bN w':=(by intro X W ke d5 d6 aH kf;obtain⟨Y,al,eI,kg,kh,cs,eT⟩:=aH;refine⟨Y,eI.cell 0 rfl,(L6 al Y 32 ay x X W.drew (kg.frame ((Mod.refl (λ_=>False) W).drew) (λ_ _=>id))).mono ?_⟩;rintro e w' ⟨kG,kH,G⟩;refine⟨kG,⟨Y,al,eI.drew.mod G cs,by rw[iX.out,<-ke];exact kH,kh,cs,eT⟩,?_⟩;exact((aN.out.hV kf).drew).trans G (λk _ a=>eT k a));have cW:=C eH;clear eH;rcases(by omega:(x.idx=h.idx∧x.gen=h.gen)∨(x.idx=h.idx∧¬x.gen=h.gen)∨¬x.idx=h.idx) with⟨M,ah⟩|⟨M,ah⟩|M;·have ai:=C (mb M ah);have Z:(x.idx==h.idx)=true:=(by simp[M]);have aZ:(x.gen==h.gen)=true:=(by simp[ah]);clear M ah;have kI:=eG.out.cell 0 (v:=I J parent.idx) rfl;have A:=eG.out.cell 1 (v:=I J parent.gen) rfl;have kJ:=D.out.cell 0 (v:=I J y.1.idx) rfl;have b0:=D.out.cell 1 (v:=I J y.1.gen) rfl;have kK:=λj=>D.out.free j;go_upto_region 25 with fail;obtain⟨bw,aX⟩:∃bw,(z.setCell ⟨f.heap.size,0,U⟩ (I J parent.idx)).setCell ⟨f.heap.size,1,U⟩ (I J parent.gen)=bw:=⟨_,rfl⟩;rw[aX];have bX:Mod (λk=>k=f.heap.size) z bw:=aX▸(Mod.one z f.heap.size 0 _).setCell rfl _;have a0:ak bw f.heap.size #[I J parent.idx,I J parent.gen,I J (y.2+d)] 124:=aX▸(D.out.set 0 (I J parent.idx)).set 1 (I J parent.gen);have bV:=bt.out.mod bX (λe=>by omega);obtain⟨Y,eU,ac⟩:=cW.out (parent,y.2+d) bw (by rw[aj ai.out]) a0 bV (a_.out.frame bX (λk a e=>by omega)) (mW ao.out (bK _) bX (λk _ e=>by omega));have bz:=C ac;have d7:=bV.cell 0 (v:=I J x.idx) rfl;have d8:=bV.cell 1 (v:=I J x.gen) rfl;have cv:=a0.cell 0 (v:=I J parent.idx) rfl;have eW:=a0.cell 1 (v:=I J parent.gen) rfl;have bA:=a0.cell 2 (v:=I J (y.2+d)) rfl;clear aX bX a0 bV ac kI A kJ b0 kK kc kd o B Z aZ;go_region_with (first|(go_at_call 139;refine bz.out.mono ?_;rintro e e2 ⟨⟨e3,rfl⟩,az,G⟩;have a2:=C az;have a3:=C G;clear az G));all_goals
         go_wp2_with fail;go_roundw;case rel=>exact⟨i+1,by omega,by go_num,a2.out,a3.out⟩
         case measure=>simp[intOf];omega
        ·have ai:=C (show¬x=h fromλa=>ah (by rw[a]));have Z:(x.idx==h.idx)=true:=(by simp[M]);have aZ:(x.gen==h.gen)=false:=(by simp[ah]);clear M ah;go_upto_region 25 with fail;obtain⟨Y,eU,ac⟩:=cW.out (y.1,y.2+d) z (by rw[z0 ai.out]) D.out bt.out a_.out ao.out;have bz:=C ac;have cv:=D.out.cell 0 (v:=I J y.1.idx) rfl;have eW:=D.out.cell 1 (v:=I J y.1.gen) rfl;have bA:=D.out.cell 2 (v:=I J (y.2+d)) rfl;clear ac o B Z;try clear aZ
         go_region_with (first|(go_at_call 139;refine bz.out.mono ?_;rintro e e2 ⟨⟨e3,rfl⟩,az,G⟩;have a2:=C az;have a3:=C G;clear az G));all_goals
          go_wp2_with fail;go_roundw;case rel=>exact⟨i+1,by omega,by go_num,a2.out,a3.out⟩
          case measure=>simp[intOf];omega
        ·have ai:=C (show¬x=h fromλa=>M (by rw[a]));have Z:(x.idx==h.idx)=false:=(by simp[M]);clear M;go_upto_region 25 with fail;obtain⟨Y,eU,ac⟩:=cW.out (y.1,y.2+d) z (by rw[z0 ai.out]) D.out bt.out a_.out ao.out;have bz:=C ac;have cv:=D.out.cell 0 (v:=I J y.1.idx) rfl;have eW:=D.out.cell 1 (v:=I J y.1.gen) rfl;have bA:=D.out.cell 2 (v:=I J (y.2+d)) rfl;clear ac o B Z;try clear aZ
         go_region_with (first|(go_at_call 139;refine bz.out.mono ?_;rintro e e2 ⟨⟨e3,rfl⟩,az,G⟩;have a2:=C az;have a3:=C G;clear az G));all_goals
          go_wp2_with fail;go_roundw;case rel=>exact⟨i+1,by omega,by go_num,a2.out,a3.out⟩
          case measure=>simp[intOf];omega
       ·obtain rfl:i=L.length:=by omega
        rw[hL] at bS;go_wp2_with fail;go_ret;rw[bs.out bm.out,bm.out];exact⟨rfl,bS.out.mono (λk _ a=>.inl a.1),(Mod.below (S:=S) eo.out).trans aN.out (λk _ a=>a.1)⟩
variable {t:ex} {f:Int->Option aJ}
section
variable {ao w:ab} {S:Nat->Prop} {L:bu} {s:aa} {k:Nat}
theorem Ma (d a b n m e:Int) (H:ax ao S L s w) (hk:s.Ok k) (g:k<=100000):Calls au 58 #[aX L.b,bk (cx d a b n m e)] w (iE ao S L (s.tick a n)):=by
 cases hp:s.e0 a with
 |false=>exact xN d a b n m e H hk (.inl hp)
 |true=>
  by_cases f:n<0∨s.c.tick<n;·exact xN d a b n m e H hk (.inr (.inl ⟨hp,f⟩))
  ·rcases hk.runs a with h|⟨p,t,j,l,o,_⟩;·exact xN d a b n m e H hk (.inr (.inr ⟨hp,f,h⟩))
   ·obtain⟨i,rfl⟩:=dS (aa.mi.1 hp).1;exact LP d i b n m e H hk g rfl hp f j l o
theorem ax.C3 {t':ae} {f:Nat} {args:Array Value} {V:Value} (H:ax ao S L s w) (b:∀T,cT w T L.eE s.tree->Calls au f args w (uG T L.eE t' V w)):Calls au f args w λe w'=>e=aK V∧ax ao S L {s with tree:=t'} w':=by obtain⟨T,c,d⟩:=H.B7;exact(b T c).mono (λe w' a=>⟨a.1,d w' t' a.2.1 a.2.2⟩)
def aa.fz (f:ad->ad) (j:Nat) (s:aa):aa:={s with hiers:=(s.hiers.take j).map f++s.hiers.drop j}
theorem aa.x0 (f:ad->ad) (s:aa):s.fz f 0=s:=by unfold aa.fz;simp
theorem aa.x1 (f:ad->ad) (s:aa) (h:s.hiers.length=n):s.fz f n={s with hiers:=s.hiers.map f}:=by unfold aa.fz;rw[<-h,hL,List.drop_length,qw]
theorem aa.Mb (f:ad->ad) (s:aa) (h:j<=s.hiers.length):(s.fz f j).hiers.length=s.hiers.length:=by unfold aa.fz;simp only[eX,dY,iG,List.length_drop];omega
theorem eF.fz (h:eF s) (f:ad->ad) {j:Nat} (a:j<=s.c.aO):eF (s.fz f j):=⟨(aa.Mb f s (by rw[h.1];exact a)).trans h.1,h.2⟩
theorem aa.x2 (f:ad->ad) {h:ad} (e:s.hiers[j]?=R h):(s.fz f j).hiers[j]?=R h:=by have a:=(bD.1 e).1;unfold aa.fz;rw[gJ (by simp;omega)];simp only[dY,iG,List.getElem?_drop];rw[show j+(j-min j s.hiers.length)=j by omega];exact e
theorem aa.x3 (f:ad->ad) {h:ad} (e:s.hiers[j]?=R h):(s.fz f j).bU (j:Int) (f h)=s.fz f (j+1):=by obtain⟨a,b⟩:=bD.1 e;unfold aa.fz aa.bU;dsimp only;congr 1;rw[bZ,n1 _ _ (by simp;omega),px a,b,gL,e];simp[iG,Nat.min_eq_left (Nat.le_of_lt a)]
end
variable {G:aJ} {gp:Int->Nat}
def uH (gp:Int->Nat):cd Int:=⟨1,λi=>[af (R ⟨gp i,0,U⟩)],λ_=>rfl,λ_ u h=>by simp at h;rw[h];rfl,by decide⟩
theorem Me (gp:Int->Nat):iv (uH gp) 235 128 8:=⟨underlying235,⟨.pointer U,by kernel_rfl,rfl⟩,by decide⟩
def h7 (h:ad) (g:Int) (i:Nat):List Int:=((gi i).map λk:Nat=>(k:Int)).filter λk=>(h.at k).isSome&&h.c1 k g
theorem x6 (h:ad) (g:Int):h7 h g 32=h.below g:=rfl
theorem C8 {h:ad} {g:Int} {a:aJ} (hk:h.at i=R a) (b:h.c1 i g=true):h7 h g (i+1)=h7 h g i++[(i:Int)]:=by unfold h7;rw[oa,iI,sh];simp[hk,b]
theorem uI {h:ad} {g:Int} (hk:h.at i=U∨h.c1 i g=false):h7 h g (i+1)=h7 h g i:=by unfold h7;rw[oa,iI,sh];rcases hk with e|e<;>simp[e]
theorem Mf {h:ad} {g:Int} (a:i<32) {b:aJ} (hk:h.at i=R b) (c:h.c1 i g=true):(i:Int)∈h.below g:=by rw[<-x6];unfold h7;rw[List.mem_filter];exact⟨eY.2 ⟨i,pB.2 a,rfl⟩,by simp[hk,c]⟩
theorem bB.Mg {h:ad} (H:bB w S b gp ai h w) (e:Below w.heap.size w w'):bB w' (λk=>S k∧k<w.heap.size) b gp ai h w':=by obtain⟨_,f,H⟩:=H;exact⟨Mod.refl _ _,f,((H.mono (T:=λk=>S k∧k<w.heap.size) (λk c a=>a.elim (λd=>⟨d,c⟩) (λd=>absurd c (by omega)))).frame (zF9 e) (λ_ _=>id)).mono (λk _ a=>.inl a)⟩
theorem C9 (h:ad) (g:Int) (i:Nat):(h7 h g i).length<=i:=by unfold h7;exact cA (py _ _) (by simp)
theorem Mh (h:ad) (l:List Int) (i:Int):h.kV (l++[i])=max (h.kV l) (h.fA i):=by unfold ad.kV;simp
theorem Mi {h:ad} {i:Int} (a:h.at i=R G):h.fA i=G.deep:=by unfold ad.fA;rw[a]
theorem C_ {h:ad} (hk:h.Ok) (l:List Int):0<=h.kV l∧h.kV l<=8:=by
 have d:∀(l:List Int) (a:Int),0<=a->a<=8->0<=l.foldl (λa i=>max a (h.fA i)) a∧l.foldl (λa i=>max a (h.fA i)) a<=8:=by
  intro l;induction l with
  |nil=>intro a b c;exact⟨b,c⟩
  |cons i l e=>
   intro a b c;simp only[nk];apply e _ (by omega);have:h.fA i<=8:=by
    unfold ad.fA;cases aV:h.at i with
    |none=>decide
    |some G=>exact(hk.g.deep _ _ aV).2
   omega
 exact d l 0 (by decide) (by decide)
theorem x7 (b k:Int) (l:List Int) (h:ad):h.fs b (k::l)=(match h.at k with|none=>h|some G=>h.set k (R {G with deep:=G.deep+b})).fs b l:=by
 conv=>lhs;unfold ad.fs
 cases h.at k<;>rfl
theorem Da (b:Int) (i:Int):∀(l:List Int) (h:ad),h.fs b (l++[i])=(h.fs b l).fs b [i]
 |[],h=>rfl
 |k::l,h=>by rw[gM,x7 b k (l++[i]) h,x7 b k l h];exact Da b i l _
theorem Mj {b i:Int} {h:ad} (a:h.at i=R G):h.fs b [i]=h.set i (R {G with deep:=G.deep+b}):=by unfold ad.fs;rw[a];rfl
theorem Mk {b:Int} {h:ad} (a:l.Nodup) {i:Int} (c:l[j]?=R i) (f:h.at i=R G):(h.fs b (l.take j)).at i=R G∧h.fs b (l.take (j+1))=(h.fs b (l.take j)).set i (R {G with deep:=G.deep+b}):=by
 have d:(h.fs b (l.take j)).at i=R G:=by rw[ad.sG b (l.take j) h (a.sublist (List.take_sublist _ _)) i,z0,f];intro g;obtain⟨k,m,e⟩:=u_.1 g;rw[iG] at m;rw[List.getElem_take] at e;obtain⟨n,o⟩:=bD.1 c;have:=(qn.1 a);have p:=qp.1 this k j (by omega) n (by omega);exact p (e.trans o.symm)
 refine⟨d,?_⟩;rw[gL,c];show h.fs b (l.take j++[i])=_;rw[Da,Mj d]
theorem Ml {b:Int} {h:ad} (d:l.Nodup) {k:Int} {a:aJ} (hk:h.at k=R a):∃c,(h.fs b l).at k=R c∧c.q=a.q:=by
 rw[ad.sG b l h d k,hk];split;·exact⟨_,rfl,rfl⟩
 ·exact⟨_,rfl,rfl⟩
theorem sH (b:Int):∀(l:List Int) (h:ad),(h.fs b l).gs.length=h.gs.length
 |[],h=>rfl
 |k::l,h=>by
  rw[x7,sH b l];cases h.at k with
  |none=>rfl
  |some G=>unfold ad.set;split<;>simp
theorem r7 (h:W.cell? ⟨b,o,U⟩=R v):b<W.heap.size:=by
 rcases nm b W.heap.size with q|q;·exact q
 ·unfold World.cell? at h;simp[Array.getElem?_eq_none q] at h
theorem Mm (h:w.cell? ⟨b,i,U⟩=R v) (a:(⟨b,i,U⟩:Addr)≠⟨c,j,U⟩):(w.setCell ⟨c,j,U⟩ u).cell? ⟨b,i,U⟩=R v:=by rw[i_ _ _ _ _ a.symm];exact h
theorem bB.Mn {c:ab} {h:ad} (H:bB c S b gp ai h w) {g:Int} (a:h.at g=R G):b≠gp g:=by obtain⟨_,i,H⟩:=H;have d:=(H.g g G a).2.2;have f:=H.b.2;have j:=(ad.dk a).1;intro e;rw[<-e,f] at d;omega
theorem ad.Ok.Mo {h:ad} (hk:h.Ok) {g parent:Int} {x up:aJ} (h0:g≠0) (a:h.at g=R x) (c:h.at parent=R up) (e:h.eh g parent=0):∃y,(h.fs (up.deep+1-x.deep) (h.below g)).at g=R y∧y.own=x.own∧y.up=x.up∧y.q=x.q∧h.move g parent=(h.fs (up.deep+1-x.deep) (h.below g)).set g (R {y with own:={y.own with v:=(kU x.own.v (h.minOf x.up) (h.minOf parent)).1},up:=parent}):=by
 have b:=ad.sG (up.deep+1-x.deep) (h.below g) h (h.ox g) g;have d:h.linked g=R x:=by unfold ad.linked;rw[z0 h0];exact a
 have f:g∈h.below g:=(ad.jU hk.len).2 ⟨⟨x,a⟩,hk.mF.zo (ad.d_ a)⟩;rw[aj f,a,iH] at b;refine⟨_,b,rfl,rfl,rfl,?_⟩;unfold ad.move;rw[aj e,d,c];dsimp only;rw[b]
section
def Db:Oper:={dst:=R 102,op:=Op.load 2 (Operand.tmp 101),type:=2,pos:= "hier.go:109",after:=#[{on:=4,ground:=Ground.data}],guard:=U}
attribute [local go_sem] Db
theorem Mp (S:Nat->Prop) (b:Nat) (h:ad) (g parent:Int) (w:ab) (bT:cO w S b h) (hk:h.Ok):Calls au 91 #[af (R ⟨b,0,U⟩),I J g,I J parent] w (dv S b (I J (h.eh g parent)) (h.move g parent) w):=by
 obtain⟨gp,ai,aq⟩:=bT.start;have Q:=C (rG g aq hk.len);have E:=C (oT parent aq hk.len);have T:=C aq;have aU:h.eh g parent≠0->h.move g parent=h:=λe=>by unfold ad.move;rw[z0 e]
 cases F:h.linked g with
 |none=>
  have s:h.eh g parent=1:=by unfold ad.eh;rw[F]
  rw[rO F] at Q;rw[aU (by rw[s];decide),s];obtain⟨v,c8⟩:∃v,gq h gp parent=v:=⟨_,rfl⟩;rw[c8] at E;go_enter func91,ntmps91;go_wp2_with fail;refine Q.out.mono ?_;rintro e a ⟨rfl,rfl⟩;go_wp2_with fail;refine E.out.mono ?_;rintro e a ⟨rfl,rfl⟩;go_wp2_with fail;go_ret;exact T.out.hp _
 |some x=>
  rw[rP F] at Q;cases hp:h.at parent with
  |none=>have s:h.eh g parent=1:=(by unfold ad.eh;rw[F,hp]);rw[wd hp] at E;rw[aU (by rw[s];decide),s];go_enter func91,ntmps91;go_wp2_with fail;refine Q.out.mono ?_;rintro e a ⟨rfl,rfl⟩;go_wp2_with fail;refine E.out.mono ?_;rintro e a ⟨rfl,rfl⟩;go_wp2_with fail;go_ret;exact T.out.hp _
  |some up=>
   rw[j3 hp] at E;obtain⟨aX,c_⟩:=kt F;have aP:=C (C7 parent g aq hk.len hk.g hp);cases aV:h.c1 parent g with
   |true=>have s:h.eh g parent=10:=(by unfold ad.eh;rw[F,hp];dsimp only;rw[aj aV]);rw[aV] at aP;rw[aU (by rw[s];decide),s];go_enter func91,ntmps91;go_wp2_with fail;refine Q.out.mono ?_;rintro e a ⟨rfl,rfl⟩;go_wp2_with fail;refine E.out.mono ?_;rintro e a ⟨rfl,rfl⟩;go_wp2_with fail;refine aP.out.mono ?_;rintro e a ⟨rfl,rfl⟩;go_wp2_with fail;go_ret;exact T.out.hp _
   |false=>
    have s:h.eh g parent=if(h.below g).any h.busy then 6 else if 8<h.kV (h.below g)+(up.deep+1-x.deep) then 5 else 0:=(by unfold ad.eh;rw[F,hp];dsimp only;rw[z0 (by rw[aV];simp)]);rw[aV] at aP;have aw:=C s;have bX:=C aU;have aZ:=C c_;have ac:=C hp;have o:=C hk;have c3:=C bT;have bV:=C aq.range;have b1:=C (x4 h gp);have al:=C (λi (b3:i<32)=>x5 h gp b3);obtain⟨L,da⟩:∃L,pr h gp=L:=⟨_,rfl⟩;rw[da] at bV b1 al;obtain⟨az,b6⟩:∃az,h.eh g parent=az:=⟨_,rfl⟩;obtain⟨aB,bR⟩:∃aB,h.move g parent=aB:=⟨_,rfl⟩;have t:=C (br b6 bR);rw[b6,bR];go_enter func91,ntmps91;go_wp2_with fail;refine Q.out.mono ?_;rintro e a ⟨rfl,rfl⟩;go_wp2_with fail;refine E.out.mono ?_;rintro e a ⟨rfl,rfl⟩;go_wp2_with fail;refine aP.out.mono ?_;rintro e a ⟨rfl,rfl⟩;go_wp2_with ((refine wpList_load_mid rfl _ _ rfl b 2 rfl L _ bV.out underlying160 rfl (by rw[b1.out];kernel_rfl) ?_));go_loopw [9,10,36] (λaI cZ H wr=>∃i:Nat,i<=32∧H=I J (i:Int)∧cZ=I J (h.kV (h7 h g i))∧Own (uH gp) wr a.heap.size 128 aI (h7 h g i).length (h7 h g i)∧Below a.heap.size a wr∧(h7 h g i).any h.busy=false) (λ_ _ H _=>32-(intOf H).toNat);case atStart=>exact⟨0,by omega,rfl,rfl,Own.nil _ _ _,Below.refl _ _,rfl⟩
    case round=>
     obtain⟨i,b3,rfl,rfl,de,bs,bh⟩:=hrel;have K:=C de;have X:=C bs;have M:=C bh;have A:=C (T.out.below bs);by_cases B:i<32;·have bG:(i:Int)<32:=(by omega);have a6:=al.out i B;have c4:(0:Int)<=(i:Int):=(by omega);have c5:(i:Int).toNat=i:=(by omega);cases aA:h.at i with
      |none=>
       rw[wd aA] at a6;have df:=tR L i _ B a6 wr;have f:=C aA;go_wp2_with fail;go_roundw;case rel=>exact⟨i+1,by omega,by go_num,by rw[uI (.inl f.out)],by rw[uI (.inl f.out)];exact K.out,X.out,by rw[uI (.inl f.out)];exact M.out⟩
       case measure=>simp[intOf];omega
      |some aG=>
       rw[j3 aA] at a6;have df:=tR L i _ B a6 wr;have a7:=C (C7 i g A.out o.out.len o.out.g aA);have f:=C aA;cases aL:h.c1 i g with
       |false=>
        rw[aL] at a7;have bl:=C (uI (h:=h) (g:=g) (i:=i) (.inr aL));go_wp2_with fail;refine a7.out.mono ?_;rintro e di ⟨rfl,rfl⟩;go_wp2_with fail;go_roundw;case rel=>exact⟨i+1,by omega,by go_num,by rw[bl.out],by rw[bl.out];exact K.out,X.out,by rw[bl.out];exact M.out⟩
        case measure=>simp[intOf];omega
       |true=>
        rw[aL] at a7;have bU:=C (C8 f.out aL);have ca:=C (A.out.rK f.out (o.out.g.q _ _ f.out));have h3:=(A.out.cp f.out).cell 2 (v:=af (R ⟨ai i,0,U⟩)) rfl;have b9:=C aL;go_wp2_with fail;refine a7.out.mono ?_;rintro e di ⟨rfl,rfl⟩;go_wp2_with fail;refine ca.out.mono ?_;rintro e ae ⟨h4,rfl,dA,bo⟩;obtain⟨c9,h5,rfl⟩:=dA.mV;have aY:=C bo;have bm:=C (A.out.below bo);have dF:=C (K.out.next' bo);have db:=o.out.g.deep _ _ f.out;have a8:=C (C_ o.out (h7 h g i));have ay:=a8.out;by_cases bq:aG.q.es.length=0
        ·have bt:=C (show h.busy i=false by unfold ad.busy;rw[f.out];simp[nY.1 bq]);rw[bq];have bv:=(bm.out.cp f.out).cell 1 (v:=I J aG.deep) rfl;obtain⟨D,N⟩:∃D,h.kV (h7 h g i)=D:=⟨_,rfl⟩;rw[N] at ay;have am:=C N;rw[N];go_upto_region 14 with fail;have iz:=aY.out.size;have bn:=X.out.size;have bw:=C9 h g i;have aD:=C (dF.out.alloc (av #[af (R ⟨gp i,0,U⟩)] 128));have dG:(h7 h g i).length<=10000000:=(by omega);have a1:a.heap.size<=(ae.alloc (av #[af (R ⟨gp i,0,U⟩)] 128)).heap.size:=(by simp;omega);have dH:=C (show∀O u,((uH gp).e (i:Int))[O]?=R u->(ae.alloc (av #[af (R ⟨gp i,0,U⟩)] 128)).cell? ⟨ae.heap.size,O,U⟩=R u fromλO u dI=>dz.trans (by rw[<-dI];show([af (R ⟨gp i,0,U⟩)]:List Value).toArray[O]?=_;rw[fg];rfl));have dB:=((bm.out.cp f.out)).lt;have dT:=fq (av #[af (R ⟨gp i,0,U⟩)] 128) dB bv;have dU:=C (show gp i<a.heap.size from(T.out.cp f.out).lt);go_wp2_with ((at_builtin;refine jB (Me gp) rfl _ _ rfl a.heap.size _ (h7 h g i).length (h7 h g i) rfl aD.out ae.heap.size _ (i:Int) rfl dH.out dG a1 ?_;intro ce u dV bu eo;have cc:=C (show Grow _ u u9 ce from Grow.gR bu eo);have ci:=C dV;have bv:=cc.out.cell (by simp;omega) (λe=>by have:=aD.out.lt _ e.symm;have:=dU.out;omega) dT;have eu:=C (show Below a.heap.size a u from((X.out.trans (aY.out.mono bn)).trans ((bx ae _).mono (by omega))).trans (cc.out.below a1 (λck x=>(aD.out.lt ck x).1)))));go_roundw;case rel=>have d:=C8 f.out b9.out;refine⟨i+1,by omega,by go_num,by rw[d,Mh,am.out,Mi f.out],by rw[d,eX];exact ci.out,eu.out,by rw[d,List.any_append,M.out];simp[bt.out]⟩
         case measure=>simp[intOf];omega
        ·have bt:=C (show h.busy i=true by unfold ad.busy;rw[f.out];simp;exactλO=>bq (by rw[O];rfl));have z:az=6:=(by rw[<-t.out.1,aw.out,aj];exact n_.2 ⟨(i:Int),Mf B f.out b9.out,bt.out⟩);have a0:aB=h:=(by rw[<-t.out.2];exact bX.out (by rw[t.out.1,z];decide));have aN:=C (br z a0);have iA:(0:Int)<(aG.q.es.length:Int):=(by omega);go_wp2_with fail;go_ret;rw[aN.out.1,aN.out.2];exact bm.out.hp _
     ·obtain rfl:i=32:=by omega
      rw[x6] at K M⊢;have a8:=C (C_ o.out (h.below g));have ay:=a8.out;have iB:=o.out.g.deep _ _ aZ.out;have bQ:=o.out.g.deep _ _ ac.out;have ev:=(A.out.cp aZ.out).cell 1 (v:=I J x.deep) rfl;have u1:=(A.out.cp ac.out).cell 1 (v:=I J up.deep) rfl;obtain⟨D,N⟩:∃D,h.kV (h.below g)=D:=⟨_,rfl⟩;rw[N] at ay;have am:=C N;rw[N];have bz:IntKind.i64.wrap (up.deep+1)=up.deep+1:=IntWalk.i64_in _ (by omega);have ew:IntKind.i64.wrap (up.deep+1-x.deep)=up.deep+1-x.deep:=IntWalk.i64_in _ (by omega);have ey:IntKind.i64.wrap (D+(up.deep+1-x.deep))=D+(up.deep+1-x.deep):=IntWalk.i64_in _ (by omega);go_wp2_with fail;go_region;by_cases a2:8<D+(up.deep+1-x.deep);·have z:az=5:=(by rw[<-t.out.1,aw.out,z0 (by rw[M.out];simp),am.out,aj a2]);have a0:aB=h:=(by rw[<-t.out.2];exact bX (by rw[t.out.1,z];decide));have aN:=C (br z a0);go_wp2_with fail;go_ret;rw[aN.out.1,aN.out.2];exact A.drew.hp _
      ·have z:az=0:=(by rw[<-t.out.1,aw.out,z0 (by rw[M.out];simp),am.out,z0 a2]);obtain⟨V,ba⟩:=aW wr.drew;have a3:Below a.heap.size a V:=ba▸X.out.drew;have co:=C (T.Mg a3);obtain⟨eG,eH,dg,rfl,eI,cs,eT,cf⟩:=K.rd;have cg:=C (show∀j y,(h.below g)[j]?=R y->∃P ap,eH=R ⟨P,ap,U⟩∧a.heap.size<=P∧V.cell? ⟨P,ap+j,U⟩=R (af (R ⟨gp y,0,U⟩)) fromλj y d=>by have ao:=(bD.1 d).1;obtain⟨P,ap,rfl,B,eU⟩:=cf.cells (by omega);refine⟨P,ap,rfl,(K.lt P rfl).1,?_⟩;rw[<-ba];have:=eU j y d 0 (af (R ⟨gp y,0,U⟩)) rfl;rw[show j*(uH gp).c+0=j*1 from rfl,Nat.mul_one] at this;exact this);have a4:=C (λ(j:Nat) (y:Int) (ao:(h.below g)[j]?=R y) (G:aJ) (aQ:h.at y=R G)=>Mk (b:=up.deep+1-x.deep) (h:=h) (h.ox g) ao aQ);have bb:=C (λ(k:Int) (aG:aJ) (hk:h.at k=R aG)=>Ml (b:=up.deep+1-x.deep) (h.ox g) hk);have a5:=C (show(h.fs (up.deep+1-x.deep) (h.below g)).gs.length=32 by rw[sH];exact o.len);have cj:=C (λ(j:Nat) (y:Int) (d:(h.below g)[j]?=R y)=>((ad.jU o.len).1 (ea d)).1);have aK:=C (o.Mo aX aZ ac (by rw[t.out.1];exact z));have cv:=C z;have bw:=C9 h g 32;rw[x6] at bw;generalize eW:h.below g=l at cg a4 cj aK bb a5 bw⊢;generalize bA:up.deep+1-x.deep=r at a4 aK bb a5 a2⊢;have iC:-8<=r∧r<=9:=(by omega);have e2:=C a3;rw[ba];clear z ba a3 eI cs eT cf eW bA bz ew ey ev u1 K X M A am a8 eG;go_wp2_with fail;go_loopw [83] (λH W=>∃j:Nat,j<=l.length∧H=I J (j:Int)∧bB V (λk=>S k∧k<a.heap.size) b gp ai (h.fs r (l.take j)) W) (λH _=>l.length-(intOf H).toNat);case atStart=>exact⟨0,by omega,rfl,co⟩
       case round=>
        obtain⟨j,ao,rfl,ah⟩:=hrel;have m:=C ah;clear ah;by_cases B:j<l.length
        ·have bG:(j:Int)<(l.length:Int):=(by omega);have aE:(j:Int).toNat=j:=(by omega);obtain⟨y,d⟩:∃y,l[j]?=R y:=⟨_,b5 B⟩;obtain⟨P,ap,rfl,hH,bF⟩:=cg j y d;obtain⟨G,aQ⟩:=cj j y d;obtain⟨ag,cm⟩:=a4 j y d G aQ;have e3:=m.1.cell bF (r7 bF) (λO=>by omega);have fe:=(m.cp ag).cell 1 (v:=I J G.deep) rfl;have bH:=(m.cp ag).free 1;have iD:=o.g.deep _ _ aQ;have bz:IntKind.i64.wrap (G.deep+r)=G.deep+r:=IntWalk.i64_in _ (by omega);have bC:=C cm;have cn:=C ag;clear d bF aQ ag cm;go_upto_region 24 with fail;generalize aO:wr.setCell ⟨gp y,1,U⟩ (I J (G.deep+r))=b8;have cr:Mod (λk=>k=gp y) wr b8:=aO▸Mod.one wr (gp y) 1 _;have bW:ak b8 (gp y) (iy {G with deep:=G.deep+r} (ai y)) 132:=aO▸(m.cp cn).set 1 (I J (G.deep+r));have ah:=m.cells (G':={G with deep:=G.deep+r}) cn bW cr rfl;have Y:=C (bC▸ah);clear aO cr bW ah bz fe bH e3;go_wp2_with fail;go_roundw;case rel=>exact⟨j+1,by omega,by go_num,Y⟩
         case measure=>simp[intOf];omega
        ·obtain rfl:j=l.length:=by omega
         rw[hL] at m;obtain⟨y,d,cu,cB,fG,cG⟩:=aK;obtain⟨fH,a9,fI⟩:=o.g.up g x aZ aX;obtain⟨fJ,bf,cJ⟩:=bb x.up fH a9;obtain⟨cF,aC,bk⟩:=bb parent up ac;obtain⟨n,ax,dl,bc⟩:=m.ty bf a5;have bg:=(m.cp d).cell 0 (v:=I J y.up) rfl;have fK:=(m.cp d).cell 5 (v:=I J y.own.v) rfl;have u2:=(m.cp bf).cell 2 (v:=af (R ⟨ai x.up,0,U⟩)) rfl;have bI:=(m.cp aC).cell 2 (v:=af (R ⟨ai parent,0,U⟩)) rfl;rw[cB,ax] at bg;rw[ax] at bc u2;have bL:=C (m.drew.tq bf);have b_:=C (m.drew.tq aC);rw[ax] at bL;have iW:(0:Int)<=(n:Int):=(by omega);have iX:(n:Int)<32:=(by omega);have bP:(n:Int).toNat=n:=(by omega);obtain⟨cq,bd⟩:=aW fJ.q.mn;obtain⟨cM,be⟩:=aW cF.q.mn;have fR:=C (show h.minOf x.up=cq by unfold ad.minOf;rw[a9,<-bd,cJ]);have bE:=C (show h.minOf parent=cM by unfold ad.minOf;rw[ac.out,<-be,bk]);rw[bd] at bL;rw[be] at b_;have Z:=C d;have fX:=C cu;have fY:=C cG;clear d cu cB fG cG a9 fI bf cJ aC bk bd be ax ao B;have fZ:=m.Mn Z;have f_:=C (show∀W',Below wr.drew.heap.size wr.drew W'->W'.cell? ⟨gp g,0,U⟩=R (I J n)∧W'.cell? ⟨b,2+n,U⟩=R (af (R ⟨gp n,0,U⟩))∧W'.cell? ⟨gp n,2,U⟩=R (af (R ⟨ai n,0,U⟩))∧W'.cell? ⟨gp parent,2,U⟩=R (af (R ⟨ai parent,0,U⟩)) fromλW' bj=>⟨(zF9 bj).cell (b2 bg) (r7 bg) id,(zF9 bj).cell (b2 bc) (r7 bc) id,(zF9 bj).cell (b2 u2) (r7 u2) id,(zF9 bj).cell (b2 bI) (r7 bI) id⟩);go_upto_region 25 with fail;rw[show({dst:=R 102,op:=Op.load 2 (Operand.tmp 101),type:=2,pos:= "hier.go:109",after:=#[{on:=4,ground:=Ground.data}],guard:=U}:Oper)=Db from rfl];go_region_held3 (λW'=>W'.cell? ⟨gp g,0,U⟩=R (I J n)∧W'.cell? ⟨b,2+n,U⟩=R (af (R ⟨gp n,0,U⟩))∧W'.cell? ⟨gp n,2,U⟩=R (af (R ⟨ai n,0,U⟩))∧W'.cell? ⟨gp parent,2,U⟩=R (af (R ⟨ai parent,0,U⟩))) ((refine⟨?_,?_,?_,?_⟩)<;>(repeat(first|assumption|(with_reducible refine b2 ?_)|(refine Mm ?_ (by simp[fZ]))))) (first|(go_at_call 132;refine bL.mono ?_;rintro e gw ⟨rfl,rfl⟩)|(go_at_call 132;refine b_.mono ?_;rintro e gw ⟨rfl,rfl⟩)|(go_at_call 141;refine(A0 _ _ _ _).mono ?_;rintro e bN ⟨rfl,bS⟩;have Y:=C (m.drew.below bS);have ch:=(Y.cp Z).free 5;have gF:=(Y.cp Z).cell 5 (v:=I J y.own.v) rfl;have aM:=f_ _ bS;obtain⟨aM,gG,bJ,gH⟩:=aM;clear bS));all_goals obtain⟨p,bi⟩:∃p,(kU y.own.v cq cM).1=p:=⟨_,rfl⟩;rw[bi];obtain⟨aa,an⟩:∃aa,bN.setCell ⟨gp g,5,U⟩ (I J p)=aa:=⟨_,rfl⟩;rw[an];have ar:Mod (λk=>k=gp g) bN aa:=an▸Mod.one bN (gp g) 5 _;have aR:ak aa (gp g) (iy {y with own:={y.own with v:=p}} (ai g)) 132:=an▸(Y.cp Z).set 5 (I J p);have a_:=Y.cells (G':={y with own:={y.own with v:=p}}) Z aR ar rfl;have gI:=C bi;have gV:=C a_;have gW:=C (show((h.fs r l).set g (R {y with own:={y.own with v:=p}})).at g=R {y with own:={y.own with v:=p}} by rw[ad.dm Z.out];exact eV _ _ _);have gU:=aR.cell 0 (v:=I J y.up) rfl;have jE:=aR.free 0;have c0:=C aR;clear an ar aR a_ bi ch gF aM gG bJ gH bg fK u2 bI bc;go_wp2_with fail;have cW:ak (aa.setCell ⟨gp g,0,U⟩ (I J parent)) (gp g) (iy {y with own:={y.own with v:=p},up:=parent} (ai g)) 132:=c0.set 0 (I J parent);have aS:=gV.cells (G':={y with own:={y.own with v:=p},up:=parent}) gW cW (Mod.one aa (gp g) 0 _) rfl;have bM:=C aS;clear aS cW;go_ret;have c2:((h.fs r l).set g (R {y with own:={y.own with v:=p}})).set g (R {y with own:={y.own with v:=p},up:=parent})=aB:=(by rw[<-t.out.2,fY.out,ad.set_set,fR.out,bE.out,<-fX.out,gI.out]);have aS:=bM;rw[c2] at aS;rw[cv.out];exact aS.JI e2 _
end
variable {cap:Nat} {v1:Value}
theorem Dc {f:ex->Bool} {l:List ex} (e:l[j]?=R t) (h:(l.take j).any f=false) (a:f t=false):(l.take (j+1)).any f=false:=by rw[gL,e,lY,List.any_append,h];simp[a]
theorem Dd {f:ex->Bool} {l:List ex} (e:l[j]?=R t) (a:f t=true):l.any f=true:=n_.2 ⟨t,ea e,a⟩
section
variable {ao w:ab} {S:Nat->Prop} {L:bu} {s:aa} {k:Nat}
theorem ax.uJ (H:ax ao S L s w) (hv:L.tv=ay a n cap) (c:s.tasks[j]?=R t):∃g,a=R ⟨g,0,U⟩∧w.cell? ⟨g,j,U⟩=R (af (R ⟨L.tk j,0,U⟩)):=by obtain⟨f,d⟩:=H.fy .fx;obtain⟨g,h,b,e,i,k,l⟩:=dM.cell d (tw (L:=L) (s:=s) (bD.1 c).1);rw[hv] at b;simp only[Value.slice.injEq] at b;exact⟨g,b.1,e⟩
theorem ax.qj (H:ax ao S L s w) (e:L.b=b):∃a cap,L.tv=ay a s.tasks.length cap∧w.cell? ⟨b,7,U⟩=R (ay a s.tasks.length cap):=by have d:=H.top.cell 7 p4;obtain⟨T,f⟩:=H.fy .fx;obtain⟨a,cap,c⟩:=dM.form f;rw[oZ] at c;rw[c,e] at d;exact⟨a,cap,c,d⟩
theorem Mq (a4 a b n m a5:Int) (H:ax ao S L s w) (hk:s.Ok k) (eT:k<=100000):Calls au 47 #[aX L.b,bk (cx a4 a b n m a5)] w (iE ao S L (s.move a b)):=by
 obtain⟨V,aK⟩:=aW (w.alloc (av (cx a4 a b n m a5) 33));obtain⟨bF,eU,Q,cr,a9⟩:=H.enter _ aK;have bf:=C aK;have aQ:=C cr;have bB:=bJ (i:=1) a9 (v:=I J a) rfl;have bW:=bJ (i:=2) a9 (v:=I J b) rfl;have E:=C (k5 a Q.drew);have X:=C (k5 b Q.drew);have cv:=b2 bB;have eW:=b2 bW;generalize Y:s.move a b=Z;unfold aa.move at Y;unfold aX at*;obtain⟨aq,bc⟩:=aW L.b;have ah:=C bc;rw[bc] at E X⊢;unfold cx at bf⊢;obtain⟨aC,aR⟩:=aW (kF L s a);obtain⟨cu,aS⟩:=aW (kF L s b);rw[aR] at E;rw[aS] at X;by_cases ac:s.group a=U∨s.group b=U
 ·have aU:Z=(s,0,2):=by
   rw[<-Y];rcases ac with e|e;·rw[e]
   ·rw[e];cases s.group a<;>rfl
  have aP:=C aU;have cB:aC=af U∨(∃x,aC=af (R ⟨x,0,U⟩))∧cu=af U:=by
   rw[<-aR,<-aS];cases aA:s.group a with
   |none=>exact .inl (aa.mZ aA)
   |some G=>
    rcases ac with e|e;·rw[aA] at e;cases e
    ·exact .inr ⟨⟨_,aa.lk aA⟩,aa.mZ e⟩
  rcases cB with rfl|⟨⟨x,rfl⟩,rfl⟩;all_goals go_enter func47,ntmps47;go_upto_region 1 with fail;rw[bf.out];go_wp2_with fail;go_region_held3 (λW'=>W'.cell? ⟨w.heap.size,1,U⟩=R (I J a)∧W'.cell? ⟨w.heap.size,2,U⟩=R (I J b)) ((refine⟨?_,?_⟩)<;>(with_reducible repeat(first|assumption|refine b2 ?_))) (first|(go_at_call 24;first|(refine E.mono ?_;rintro e bg ⟨rfl,rfl⟩;clear E)|(refine X.mono ?_;rintro e bg ⟨rfl,rfl⟩)));all_goals go_wp2_with fail;go_ret2;rw[aP.out];exact dh (aQ _ _ _ Q.drew)
 ·obtain⟨G,M⟩:∃G,s.group a=R G:=by
   cases e:s.group a with
   |none=>exact absurd (.inl e) ac
   |some G=>exact⟨G,rfl⟩
  obtain⟨y,bj⟩:∃G,s.group b=R G:=by
   cases e:s.group b with
   |none=>exact absurd (.inr e) ac
   |some G=>exact⟨G,rfl⟩
  obtain⟨cG,bI,cJ⟩:=aa.hi M;obtain⟨b_,bL,cq⟩:=aa.hi bj;rw[M,bj] at Y;dsimp only at Y;rw[aa.lk M] at aR;rw[aa.lk bj] at aS;subst aR aS;obtain⟨F,rfl⟩:=dS cG;obtain⟨K,rfl⟩:=dS b_;rw[bZ] at bI E;rw[bZ] at bL X;obtain⟨N,bd⟩:=aW (L.gk F);obtain⟨an,be⟩:=aW (L.gk K);rw[bd] at E;rw[be] at X;have aG:=C bd;have aV:=C be;have O:=C (br bI cJ);have az:=C (br bL cq);obtain⟨f,bl⟩:=aW ((λt:ex=>t.on&&ae.c1 s.tree (s.aw t.g).h G.h));have cM:∀t:ex,t.on=false->f t=false:=λt aL=>by rw[<-bl];simp[aL]
  have ar:∀t:ex,t.on=true->f t=ae.c1 s.tree (s.aw t.g).h G.h:=λt aL=>by rw[<-bl];simp[aL]
  have a_:=C cM;have cW:=C ar;rw[bl] at Y;have aP:=C Y;obtain⟨bA,e2,c8,bN⟩:=Q.qj bc;have c_:=C c8;have da:=b2 bN;obtain⟨ad,bS⟩:=aW s.tasks.length;have e3:=hk.eJ.1;have fe:ad<=100000:=by omega
  have aM:=C bS;rw[bS] at bN da;obtain⟨aB,bo⟩:=aW s.c.aO;have bm:=C bo;have aI:=hk.aO;rw[bo] at aI;obtain⟨bH,bC,cZ,_,bi⟩:=Q.iT hk.lens (p:=0) (by rw[bo];omega);have bT:=C cZ;go_enter func47,ntmps47;go_upto_region 1 with fail;rw[bf.out];go_wp2_with fail;go_region_held3 (λW'=>W'.cell? ⟨w.heap.size,1,U⟩=R (I J F)∧W'.cell? ⟨w.heap.size,2,U⟩=R (I J K)) ((refine⟨?_,?_⟩)<;>(with_reducible repeat(first|assumption|refine b2 ?_))) (first|(go_at_call 24;first|(refine E.mono ?_;rintro e bg ⟨rfl,rfl⟩;clear E)|(refine X.mono ?_;rintro e bg ⟨rfl,rfl⟩)));all_goals
   go_wp2_with fail;go_loopw [32] (λu W=>∃j:Nat,j<=ad∧u=I J (j:Int)∧(s.tasks.take j).any f=false∧ax V bF L s W) (λu _=>ad-(intOf u).toNat);case atStart=>exact⟨0,by omega,rfl,by simp,Q.drew⟩
   case round=>
    obtain⟨j,de,rfl,bh,d⟩:=hrel;have ay:=C bh;have bq:=C d;by_cases aZ:j<ad;·obtain⟨t,a6⟩:∃t,s.tasks[j]?=R t:=⟨_,b5 (by rw[aM.out];exact aZ)⟩;obtain⟨g,rfl,aA⟩:=d.uJ c_ a6;obtain⟨ak,bX⟩:∃x,L.tk j=x:=⟨_,rfl⟩;rw[bX] at aA;obtain⟨_,_,_,a7,_,bt,_⟩:=d.en a6 bX;have bG:(j:Int)<(ad:Int):=(by omega);have df:(0:Int)<=(j:Int):=(by omega);have di:(j:Int).toNat=j:=(by omega);have ai:=C a6;cases am:t.on with
     |false=>
      rw[am] at a7;have bV:=C am;go_wp2_with fail;go_quiet (fail);go_wp2_with fail;go_roundw;case rel=>exact⟨j+1,by omega,by go_num,Dc ai ay (a_ t bV),bq.next (below_drewN (Below.refl _ _) nq)⟩
      case measure=>simp[intOf];omega
     |true=>
      rw[am] at a7;have bV:=C am;obtain⟨_,u1,u2,_⟩:=d.dw (hk.jz a6) rfl;obtain⟨_,v1,a8,_⟩:=d.dw O.1 aG;have D:=d.top.cell 5 j2;unfold aX at D;rw[ah.out] at D;obtain⟨ca,dA⟩:=d.drew.tree;have aN:=C (tD ca L.eE s.tree (s.aw t.g).h G.h wr.drew dA hk.tree);generalize dF:ae.c1 s.tree (s.aw t.g).h G.h=r at aN;have b1:=C ((cW t am).trans dF);generalize fG:(s.aw t.g).h=ba at u1 u2 aN;generalize fH:L.gk t.g=gb at bt u1 u2;generalize bw:L.eE=eE at D aN;have z:=C (λ(W':ab) (aq o:Nat) (al:Value) (b3:Below wr.drew.heap.size wr.drew W') (b6:wr.cell? ⟨aq,o,U⟩=R al)=>show W'.cell? ⟨aq,o,U⟩=R al from(zF9 b3).cell (b2 b6) (ir b6) id);go_wp2_with fail;cases r with
      |false=>go_region_held3 (λW'=>W'.cell? ⟨aq,5,U⟩=R (af (R ⟨eE,0,U⟩))∧W'.cell? ⟨ak,3,U⟩=R (aD true)∧W'.cell? ⟨ak,5,U⟩=R (af (R ⟨gb,0,U⟩))∧W'.cell? ⟨gb,1,U⟩=R (I J ba.idx)∧W'.cell? ⟨gb,2,U⟩=R (I J ba.gen)∧W'.cell? ⟨N,1,U⟩=R (I J G.h.idx)∧W'.cell? ⟨N,2,U⟩=R (I J G.h.gen)) ((refine⟨?_,?_,?_,?_,?_,?_,?_⟩)<;>(with_reducible repeat(first|assumption|refine b2 ?_))) (first|(go_at_call 70;refine aN.mono ?_;rintro e q ⟨rfl,l⟩;have bn:=z q _ _ _ l D;have dG:=z q _ _ _ l a7;have dH:=z q _ _ _ l bt;have dI:=z q _ _ _ l u1;have bx:=z q _ _ _ l u2;have dB:=z q _ _ _ l v1;have dT:=z q _ _ _ l a8;have P:=C (bq.drew.next l)));all_goals
       go_wp2_with fail;go_roundw;case rel=>exact⟨j+1,by omega,by go_num,Dc ai ay b1,P⟩
       case measure=>simp[intOf];omega
      |true=>go_region_held3 (λW'=>W'.cell? ⟨aq,5,U⟩=R (af (R ⟨eE,0,U⟩))∧W'.cell? ⟨ak,3,U⟩=R (aD true)∧W'.cell? ⟨ak,5,U⟩=R (af (R ⟨gb,0,U⟩))∧W'.cell? ⟨gb,1,U⟩=R (I J ba.idx)∧W'.cell? ⟨gb,2,U⟩=R (I J ba.gen)∧W'.cell? ⟨N,1,U⟩=R (I J G.h.idx)∧W'.cell? ⟨N,2,U⟩=R (I J G.h.gen)) ((refine⟨?_,?_,?_,?_,?_,?_,?_⟩)<;>(with_reducible repeat(first|assumption|refine b2 ?_))) (first|(go_at_call 70;refine aN.mono ?_;rintro e q ⟨rfl,l⟩;have bn:=z q _ _ _ l D;have dG:=z q _ _ _ l a7;have dH:=z q _ _ _ l bt;have dI:=z q _ _ _ l u1;have bx:=z q _ _ _ l u2;have dB:=z q _ _ _ l v1;have dT:=z q _ _ _ l a8;have P:=C (bq.drew.next l)));all_goals go_wp2_with fail;go_ret2;rw[<-aP.out,if_pos (Dd ai.out b1.out)];exact dh (aQ _ _ _ P)
    ·obtain rfl:j=ad:=by omega
     have ac:s.tasks.any f=false:=(by have aL:=ay.out;rwa[<-aM.out,hL] at aL);have aU:=aP.out;rw[z0 (by rw[ac];decide)] at aU;have bR:=C aU;obtain⟨fI,dU⟩:=gK.1 (hk.there F G O.1 O.2).1;obtain⟨fJ,ce⟩:=gK.1 (hk.there K y az.1 az.2).1;obtain⟨_,v1,a8,_⟩:=d.dw O.1 aG;obtain⟨_,u1,u2,_⟩:=d.dw az.1 aV;have D:=d.top.cell 5 j2;unfold aX at D;rw[ah.out] at D;have a0:=C (d.drew.C3 (λT M=>L_ T L.eE s.tree G.h y.h wr.drew M hk.tree dU ce));obtain⟨B,bs⟩:=aW (({s with tree:=ae.move s.tree G.h y.h}:aa));obtain⟨b9,bv⟩:=aW (ae.eh s.tree G.h y.h);rw[bs,bv] at a0;have A:=C bs;have bz:=C bv;obtain⟨eE,bw⟩:=aW L.eE;have dV:=C bw;rw[bw] at D a0;go_wp2_with fail;go_region_held3 (λW'=>W'.cell? ⟨aq,5,U⟩=R (af (R ⟨eE,0,U⟩))∧W'.cell? ⟨N,1,U⟩=R (I J G.h.idx)∧W'.cell? ⟨N,2,U⟩=R (I J G.h.gen)∧W'.cell? ⟨an,1,U⟩=R (I J y.h.idx)∧W'.cell? ⟨an,2,U⟩=R (I J y.h.gen)) ((refine⟨?_,?_,?_,?_,?_⟩)<;>(with_reducible repeat(first|assumption|refine b2 ?_))) (first|(go_at_call 90;refine a0.mono ?_;rintro e q ⟨rfl,bb⟩;obtain⟨_,bu,eo,_⟩:=bb.dw (g:=F) (by rw[<-A.out];exact O.1) aG;obtain⟨_,ci,eu,_⟩:=bb.dw (g:=K) (by rw[<-A.out];exact az.1) aV;have a1:=bb.top.cell 5 j2;unfold aX at a1;rw[ah.out,dV.out] at a1;have P:=C bb));all_goals
      by_cases aj:b9=0
      ·have a2:eF B:=(by rw[<-A.out];exact hk.lens);have cc:B.c.aO=aB:=(by rw[<-A.out];exact bm);have cf:=C cc;obtain⟨_,bi⟩:=P.fF a2 (p:=0) (by rw[cc];omega) bT;rw[ah.out,bm.out] at bi;have ap:=bR.out;rw[bz.out,z0 (by rw[aj];decide)] at ap;have a3:=C ap;subst aj;go_wp2_with fail;go_loopw [80] (λu W=>∃j:Nat,j<=aB∧u=I J (j:Int)∧ax V bF L (B.fz (λx=>x.move G.h.idx y.h.idx) j) W) (λu _=>aB-(intOf u).toNat);case atStart=>exact⟨0,by omega,rfl,by rw[aa.x0];exact P⟩
       case round=>
        obtain⟨j,de,rfl,d⟩:=hrel;by_cases aZ:j<aB;·obtain⟨x,cg⟩:∃x,s.hiers[j]?=R x:=⟨_,b5 (by rw[hk.hlen,bm.out];exact aZ)⟩;have ck:=(hk.aY j x cg).1;have cj:B.hiers[j]?=R x:=(by rw[<-A.out];exact cg);have ev:j<B.c.aO:=(by rw[cf.out];exact aZ);have ew:=C (a2.fz (λx=>x.move G.h.idx y.h.idx) (j:=j) (by omega));obtain⟨ey,_⟩:=d.fF ew (p:=j) ev bT;have cm:=C (d.drew.k6 (aa.x2 _ cj) (λT M=>Mp T (L.hk j) x G.h.idx y.h.idx wr.drew M ck));obtain⟨_,v1,a8,_⟩:=d.dw (g:=F) (show(B.fz _ j).groups[F]?=R G by rw[<-A.out];exact O.1) aG;obtain⟨_,u1,u2,_⟩:=d.dw (g:=K) (show(B.fz _ j).groups[K]?=R y by rw[<-A.out];exact az.1) aV;have co:=C cj;obtain⟨b3,eG⟩:∃x,L.hk j=x:=⟨_,rfl⟩;rw[eG] at ey cm;have bG:(j:Int)<(aB:Int):=(by omega);have df:(0:Int)<=(j:Int):=(by omega);have di:(j:Int).toNat=j:=(by omega);go_wp2_with fail;go_region_held3 (λW'=>W'.cell? ⟨N,1,U⟩=R (I J G.h.idx)∧W'.cell? ⟨an,1,U⟩=R (I J y.h.idx)) ((refine⟨?_,?_⟩)<;>(with_reducible repeat(first|assumption|refine b2 ?_))) (first|(go_at_call 91;refine cm.mono ?_;rintro e cF ⟨rfl,ag⟩;rw[aa.x3 (λx=>x.move G.h.idx y.h.idx) co.out] at ag;obtain⟨_,bu,eo,_⟩:=ag.dw (g:=F) (show(B.fz _ (j+1)).groups[F]?=R G by rw[<-A.out];exact O.1) aG;obtain⟨_,ci,eu,_⟩:=ag.dw (g:=K) (show(B.fz _ (j+1)).groups[K]?=R y by rw[<-A.out];exact az.1) aV;have eH:=C ag));all_goals
         go_wp2_with fail;go_roundw;case rel=>exact⟨j+1,by omega,by go_num,eH⟩
         case measure=>simp[intOf];omega
        ·obtain rfl:j=aB:=by omega
         go_wp2_with fail;go_ret2;have cn:=d;rw[aa.x1 _ B (by rw[a2.1,cf.out])] at cn;rw[<-a3.out];have eI:=A.out;subst eI;exact dh (aQ _ _ _ cn)
      ·have fK:(b9 !=0)=true:=(by simp[aj]);have b8:=P.out;rw[<-A.out,show ae.move s.tree G.h y.h=s.tree by unfold ae.move;rw[bz.out,z0 aj]] at b8;have cs:=C b8;have ap:=bR.out;rw[bz.out,if_pos aj] at ap;have a3:=C ap;go_wp2_with fail;go_ret2;rw[<-a3.out];exact dh (aQ _ _ _ cs)
end
theorem De:(prog.info? 85).map (λj=>j.size !=0)=R true:=by kernel_rfl
theorem Ms (b:Nat) (w:ab):(binOp .eql 65 (af (R ⟨b,0,U⟩)) (af (R ⟨b,0,U⟩))).run au w= .ok (aD true) w:=by obtain⟨j,a,c⟩:=h9.1 De;exact run_eql_ptr_same w _ underlying65 a
theorem Mt {a:Nat} {c:Array Value} {T d:TypeId} {w:ab} (f:ak w a ar T) (g:ak w b c d) (h:a≠b):(binOp .eql 65 (af (R ⟨a,0,U⟩)) (af (R ⟨b,0,U⟩))).run au w= .ok (aD false) w:=by obtain⟨j,i,k⟩:=h9.1 De;exact run_eql_ptr_other w underlying65 i (by simpa using k) (λe=>h (by injection e)) f g
section
variable {ao w:ab} {S:Nat->Prop} {L:bu} {s:aa} {k:Nat}
theorem Df (a:s.places.length=32) (b:i<32) (o:Option Nat):(cR L s).setIfInBounds (9+i) (cU (o.map L.gk))=cR L {s with places:=s.places.set i o}:=by unfold cR;rw[sd,h_,h_,n1 _ _ (by simp),List.set_append_left _ _ (by simp;omega),h_,h_,List.map_set];congr 3;simp
theorem Mu (a:s.places.length=32) (b:s.at_.length=64) (c:i<64) (x:Int):(cR L s).setIfInBounds (41+i) (I J x)=cR L {s with at_:=s.at_.set i x}:=by unfold cR;rw[sd,h_,h_,n1 _ _ (by simp;omega),n1 _ _ (by simp;omega),List.set_append_left _ _ (by simp;omega),h_,h_,List.map_set];congr 4;simp only[dY,a,dX,hM];congr 1;omega
theorem ax.Mv (H:ax ao S L s w) (c:s.places.length=32) (d:i<32) (o:Option Nat) (e:L.b=b):ax ao S L {s with places:=s.places.set i o} (w.setCell ⟨b,9+i,U⟩ (cU (o.map L.gk))):=by subst e;have a:=H.top.set (9+i) (cU (o.map L.gk));rw[Df c d o] at a;exact H.Kj (places:=s.places.set i o) (at_:=s.at_) a (Mod.one _ _ _ _)
theorem Mw {G G':cb} {r:Part} {v:ab} {T:Nat->Prop} (d:s.groups[g]?=R G) (i:r≠ .e1) (k:hn L g G'=hn L g G) (l:G'.band=G.band) (m:G'.line=G.line) (h:fW v T L s r):fW v T L (s.b0 g G') r:=by
 have o:=(bD.1 d).1;have f:∀(j:Nat) a,(s.b0 g G').groups[j]?=R a->(j=g∧a=G')∨(j≠g∧s.groups[j]?=R a):=by
  intro j a b;unfold aa.b0 at b;dsimp only at b;by_cases e:j=g;·subst e;rw[cV o] at b;cases b;exact .inl ⟨rfl,rfl⟩
  ·rw[dN (Ne.symm e)] at b;exact .inr ⟨e,b⟩
 cases r with
 |e1=>exact absurd rfl i
 |aw n=>
  intro a b;rcases f n a b with⟨rfl,rfl⟩|⟨_,e⟩;·rw[k];exact h G d
  ·exact h a e
 |band n=>
  intro a B b c;rcases f n a b with⟨rfl,rfl⟩|⟨_,e⟩;·exact h G B d (by rw[<-l];exact c)
  ·exact h a B e c
 |line n=>
  intro a B b c;rcases f n a b with⟨rfl,rfl⟩|⟨_,e⟩;·exact h G B d (by rw[<-m];exact c)
  ·exact h a B e c
 |_=>exact h
theorem Mx {G:cb} (a:s.groups[g]?=R G):fV L (s.b0 g {G with there:=false})=(fV L s).set g U:=by
 unfold fV aa.b0;dsimp only;apply qu;intro i;rw[dD,n5];by_cases e:i=g;·subst e;rw[cV (bD.1 a).1,cV (by rw[dY,List.length_zipIdx];exact(bD.1 a).1)];simp
 ·rw[dN (Ne.symm e),dN (Ne.symm e),dD,n5]
theorem ax.My (H:ax ao S L s w) {G:cb} (b:s.groups[g]?=R G) {a:Nat} (hv:L.gv=ay (R ⟨a,0,U⟩) n cap):ax ao S L (s.b0 g {G with there:=false}) (w.setCell ⟨a,g,U⟩ (af U)):=by
 obtain⟨T,l,m⟩:=H.part .e1 (by simp);have c:dM w T 65 L.gv (fV L s):=l;have f:=rM (L:=L) b;obtain⟨x,y,d,_,_,_,_⟩:=dM.cell c f;rw[hv] at d;simp only[Value.slice.injEq,Option.some.injEq,Addr.mk.injEq] at d;obtain⟨⟨rfl,_⟩,h,rfl⟩:=d;have i:=c.1;rw[hv,h] at i;obtain⟨o,z,A,B,C⟩:=Own.set i f (q:=0) (z':=U) (u:=af U) (by decide) rfl g (by show g=g*1+0;omega);have j:=c.2 a (by rw[hv];rfl);refine m _ L _ ((Mod.one _ _ _ _).mono (λk _ e=>by rw[e];exact j)) ?_ ?_
 ·show dM _ _ _ L.gv (fV L (s.b0 g {G with there:=false}));rw[Mx b,hv];refine⟨?_,λk e=>?_⟩;·rw[eg,h];exact o
  ·obtain rfl:a=k:=by simpa[Value.ownBlock] using e
   exact .inl j
 ·intro r p v T t;exact Mw b p rfl rfl rfl t
end
section
variable {ao w:ab} {S:Nat->Prop} {L:bu} {s:aa} {k:Nat}
theorem ae.Mz {t:ae} {h:aF} (e:ae.ie t h≠0):ae.hf t h=t:=by unfold ae.hf;rw[z0 e]
theorem Dg {α:Type} {f:α->Bool} {l:List α} {t:α} (e:l[j]?=R t) (h:(l.take j).any f=false) (a:f t=false):(l.take (j+1)).any f=false:=by rw[gL,e,lY,List.any_append,h];simp[a]
theorem ax.x8 (H:ax ao S L s w) {G:cb} (h:s.groups[g]?=R G) (i:G.there=true):∃d cap,L.gv=ay (R ⟨d,0,U⟩) s.groups.length cap∧w.cell? ⟨d,g,U⟩=R (af (R ⟨L.gk g,0,U⟩))∧w.frozen? ⟨d,g,U⟩=false∧w.cell? ⟨L.b,8,U⟩=R (ay (R ⟨d,0,U⟩) s.groups.length cap):=by obtain⟨T,j⟩:=H.fy .e1;obtain⟨k,l,e,a,b,c,m⟩:=dM.cell j (rM (L:=L) h);rw[tx] at e;have f:=H.top.cell 8 p5;rw[e] at f;rw[i] at a;exact⟨k,l,e,a,b,f⟩
theorem MA (bz a b n m a2:Int) (H:ax ao S L s w) (hk:s.Ok k) (b_:k<=100000):Calls au 46 #[aX L.b,bk (cx bz a b n m a2)] w (iE ao S L (s.drop a)):=by
 obtain⟨V,a3⟩:=aW (w.alloc (av (cx bz a b n m a2) 33));obtain⟨ak,cq,Y,cM,ar⟩:=H.enter _ a3;have a7:=C a3;have ap:=C cM;have a_:=bJ (i:=1) ar (v:=I J a) rfl;have a4:=C Y;have q:=C hk;have cv:=C b_;have K:=C (k5 a Y);generalize D:s.drop a=Z;unfold aa.drop at D;unfold aX at*;obtain⟨M,aq⟩:=aW L.b;have N:=C aq;rw[aq] at K⊢;unfold cx at a7⊢;cases B:s.group a with
 |none=>rw[B] at D;have aQ:=C D;rw[aa.mZ B] at K;go_enter func46,ntmps46;go_upto_region 1 with fail;rw[a7.out];go_wp2_with fail;refine K.mono ?_;rintro e cW ⟨rfl,rfl⟩;go_wp2_with fail;go_ret2;rw[<-aQ.out];exact dh (ap _ _ _ a4)
 |some G=>
  obtain⟨c8,ah,a5⟩:=aa.hi B;rw[B] at D;dsimp only at D;rw[aa.lk B] at K;obtain⟨d,rfl⟩:=dS c8;rw[bZ] at ah K D;generalize aR:L.gk d=O at K;have E:=C aR;have y:=C (br ah a5);obtain⟨f,a8⟩:=aW ((λt:ex=>!t.dead&&decide ((t.g:Int)=(d:Int))));have c_:=C (show∀t:ex,t.dead=true->f t=false fromλt aG=>by rw[<-a8];simp[aG]);have aK:=C (show∀t:ex,t.dead=false->f t=decide (t.g=d) fromλt aG=>by
   rw[<-a8];show(!t.dead&&decide ((t.g:Int)=(d:Int)))=_;rw[aG];by_cases e:t.g=d;·simp[e]
   ·have:¬((t.g:Int)=(d:Int)):=(by omega);rw[decide_eq_false this,decide_eq_false e];rfl)
  rw[a8] at D;have aQ:=C D;obtain⟨eW,bA,da,aI⟩:=Y.qj aq;have cZ:=C da;obtain⟨e2,bF,e3,aS,fe,bH,bC,a9⟩:=Y.tags;have aU:=(bD.1 ah).1;have de:=C (show∀j,j<s.groups.length->j≠d->L.gk j≠O fromλj ba bh=>aR▸apart (aS j ba) (aS d aU) (λe=>bh (by injection e)));obtain⟨P,bG,aP,_,_,_⟩:=Y.x8 ah a5;have aC:=C aP;have fG:M≠P:=by rw[<-aq];exact apart bF (a9 P _ _ aP) (by simp)
  have fH:O≠P:=by rw[<-aR];exact apart (aS d aU) (a9 P _ _ aP) (by simp)
  have fI:O≠M:=by rw[<-aR,<-aq];exact apart (aS d aU) bF (by simp)
  obtain⟨fJ,cF⟩:w.heap.size≠P∧w.heap.size≠M:=by
   refine⟨λe=>?_,λe=>?_⟩;·obtain⟨T,df⟩:=H.fy .e1;have Q:=df.1.lt P (by rw[aP];rfl);omega
   ·have Q:=H.top.lt;rw[aq] at Q;omega
  obtain⟨ac,bI⟩:=aW s.tasks.length;have fK:=hk.eJ.1;have fR:ac<=100000:=by omega
  have bL:=C bI;rw[bI] at aI;obtain⟨az,bb⟩:=aW s.c.aO;have ag:=C bb;have di:=hk.aO;rw[bb] at di;obtain⟨bE,aJ,ca,_,bd⟩:=Y.iT hk.lens (p:=0) (by rw[bb];omega);have be:=C ca;have dA:=C (λ(W:ab) (r:aa) (l:ax V ak L r W)=>l.kept cq a_ zK9);have dF:d<s.groups.length:=aU;obtain⟨bf,bN⟩:=aW s.groups.length;have bn:=C bN;rw[bN] at dF;go_enter func46,ntmps46;go_upto_region 1 with fail;rw[a7.out];go_wp2_with fail;apply K.mono;rintro e cW ⟨rfl,bc⟩;obtain rfl:=bc.symm;go_wp2_with fail;go_loopw [23] (λu W=>∃j:Nat,j<=ac∧u=I J (j:Int)∧(s.tasks.take j).any f=false∧ax V ak L s W) (λu _=>ac-(intOf u).toNat);case atStart=>exact⟨0,by omega,rfl,by simp,a4⟩
  case round=>
   obtain⟨j,ba,rfl,dG,l⟩:=hrel;have bg:=C dG;have aV:=C l;by_cases aZ:j<ac;·obtain⟨t,aL⟩:∃t,s.tasks[j]?=R t:=⟨_,b5 (by rw[bL.out];exact aZ)⟩;obtain⟨g,rfl,bS⟩:=l.uJ cZ aL;obtain⟨fX,aM⟩:∃x,L.tk j=x:=⟨_,rfl⟩;rw[aM] at bS;obtain⟨_,_,bi,_,_,bT,_⟩:=l.en aL aM;have dH:(j:Int)<(ac:Int):=(by omega);have dI:(0:Int)<=(j:Int):=(by omega);have bx:(j:Int).toNat=j:=(by omega);have bj:=C aL;cases X:t.dead with
    |true=>
     rw[X] at bi;have am:=C (c_ t X);go_wp2_with fail;go_roundw;case rel=>exact⟨j+1,by omega,by go_num,Dg bj bg am,aV⟩
     case measure=>simp[intOf];omega
    |false=>
     rw[X] at bi;by_cases a6:t.g=d;·have am:=C (show f t=true by rw[aK.out t X];exact decide_eq_true a6);rw[a6,E.out] at bT;have bX:=Ms O wr;go_wp2_with fail;go_ret2;rw[<-aQ.out,if_pos (Dd bj.out am.out)];exact dh (ap _ _ _ aV)
     ·have am:=C (show f t=false by rw[aK.out t X];exact decide_eq_false a6);have bV:=de t.g (q.task j t aL).g a6;obtain⟨fY,b1⟩:=aW (L.gk t.g);have bX:=Mt (l.aw (q.jz aL)) (l.aw y.1) (by rw[E.out];exact bV);rw[E.out,b1] at bX;rw[b1] at bT bV;go_wp2_with fail;go_roundw;case rel=>exact⟨j+1,by omega,by go_num,Dg bj bg am,aV⟩
      case measure=>simp[intOf];omega
   ·obtain rfl:j=ac:=by omega
    have dB:s.tasks.any f=false:=(by have aG:=bg.out;rwa[<-bL.out,hL] at aG);have al:=aQ.out;rw[z0 (by rw[dB];decide)] at al;have b3:=C al;obtain⟨dv,dT⟩:=gK.1 (q.there d G y.1 y.2).1;obtain⟨_,v1,b6,_⟩:=l.dw y.1 E;have an:=l.top.cell 5 j2;unfold aX at an;rw[N.out] at an;have bl:=C (l.drew.C3 (λT B=>L5 T L.eE s.tree G.h wr.drew B q.tree dT));obtain⟨F,bR⟩:=aW (({s with tree:=ae.hf s.tree G.h}:aa));obtain⟨bs,b9⟩:=aW (ae.ie s.tree G.h);rw[bR,b9] at bl;have z:=C bR;have bo:=C b9;obtain⟨dU,bv⟩:=aW L.eE;have ce:=C bv;rw[bv] at an bl;go_wp2_with fail;go_region_held3 (λW'=>W'.cell? ⟨M,5,U⟩=R (af (R ⟨dU,0,U⟩))∧W'.cell? ⟨O,1,U⟩=R (I J G.h.idx)∧W'.cell? ⟨O,2,U⟩=R (I J G.h.gen)) ((refine⟨?_,?_,?_⟩)<;>(with_reducible repeat(first|assumption|refine b2 ?_))) (first|(go_at_call 88;refine bl.mono ?_;rintro e fZ ⟨rfl,bm⟩;obtain⟨_,f_,gw,_⟩:=bm.dw (g:=d) (by rw[<-z.out];exact y.1) E;have a1:=bm.top.cell 5 j2;unfold aX at a1;rw[N.out,ce.out] at a1;have bq:=C bm));all_goals
     by_cases aN:bs=0
     ·have cc:eF F:=(by rw[<-z.out];exact q.lens);have cf:=C cc;have cg:F.c.aO=az:=(by rw[<-z.out];exact ag);have cj:=C cg;obtain⟨_,bd⟩:=bq.fF cc (p:=0) (by rw[cg];omega) be;rw[N.out,ag.out] at bd;have aj:=b3.out;rw[bo.out,z0 (by rw[aN];decide)] at aj;have bt:=C aj;subst aN;go_wp2_with fail;go_loopw [58] (λu W=>∃j:Nat,j<=az∧u=I J (j:Int)∧ax V ak L (F.fz (λx=>x.unlink G.h.idx) j) W) (λu _=>az-(intOf u).toNat);case atStart=>exact⟨0,by omega,rfl,by rw[aa.x0];exact bq⟩
      case round=>
       obtain⟨j,ba,rfl,l⟩:=hrel;have aV:=C l;by_cases aZ:j<az
       ·obtain⟨x,cm⟩:∃x,s.hiers[j]?=R x:=⟨_,b5 (by rw[q.out.hlen,ag.out];exact aZ)⟩;have dV:=(q.aY j x cm).1;have cn:F.hiers[j]?=R x:=(by rw[<-z.out];exact cm);have bu:j<F.c.aO:=(by rw[cj.out];exact aZ);have eo:=C (cf.fz (λx=>x.unlink G.h.idx) (j:=j) (by omega));obtain⟨ci,_⟩:=l.fF eo (p:=j) bu be;have b8:=C (l.k6 (aa.x2 _ cn) (λT B=>Md T (L.hk j) x G.h.idx wr B dV));obtain⟨_,v1,b6,_⟩:=l.dw (g:=d) (show(F.fz _ j).groups[d]?=R G by rw[<-z.out];exact y.1) E;have eu:=C cn;generalize ch:L.hk j=gF at ci b8;have dH:(j:Int)<(az:Int):=(by omega);have dI:(0:Int)<=(j:Int):=(by omega);have bx:(j:Int).toNat=j:=(by omega);go_wp2_with fail;apply b8.mono;rintro e gG ⟨rfl,cr⟩;rw[aa.x3 (λx=>x.unlink G.h.idx) eu.out] at cr;have ck:=C cr;go_wp2_with fail;go_roundw;case rel=>exact⟨j+1,by omega,by go_num,ck⟩
        case measure=>simp[intOf];omega
       ·obtain rfl:j=az:=by omega
        obtain⟨aB,aA⟩:∃x,F.fz (λx=>x.unlink G.h.idx) j=x:=⟨_,rfl⟩;have ev:=C aA;rw[aA] at l;have ai:aB.groups[d]?=R G:=(by rw[<-aA,<-z.out];exact y.1);have ew:=C ai;have ey:=C l;have co:=C (show aB.places.length=32 by rw[<-aA,<-z.out];exact q.eB);obtain⟨_,v1,b6,_⟩:=l.dw ai E;obtain⟨gH,gI,bw,eG,gV,eH⟩:=l.x8 ai y.2;have eI:aB.groups.length=bf:=(by rw[<-aA,<-z.out];exact bn);rw[aC.out] at bw;simp only[Value.slice.injEq,Option.some.injEq,Addr.mk.injEq] at bw;obtain⟨⟨rfl,_⟩,_,rfl⟩:=bw;rw[eI,N.out] at eH;rw[E.out] at eG;have bS:=dA wr aB l;obtain⟨A,aD⟩:=dS (show 0<=G.h.idx from by obtain⟨gW,bB,c0,bM⟩:=q.place _ _ (q.there d G y.1 y.2).2;rw[y.out.1] at bB;cases bB;omega);have bW:A<32:=(by have cs:=(q.there d G y.1 y.2).2;have cu:=(bD.1 cs).1;rw[aD,q.out.eB,bZ] at cu;exact cu);rw[aD] at v1;have cB:=C aD;have c2:wr.frozen? ⟨M,9+A,U⟩=false:=(by rw[<-N.out];exact l.top.free _);obtain⟨c3,c4⟩:∃v,wr.cell? ⟨M,9+A,U⟩=R v:=by have cG:aB.places.length=32:=(by rw[<-aA,<-z.out];exact q.eB);obtain⟨o,X⟩:∃o,aB.places[A]?=R o:=⟨_,b5 (by rw[cG];exact bW)⟩;have Q:=l.top.cell (9+A) (p6 cG X);rw[N.out] at Q;exact⟨_,Q⟩
        have c5:(A:Int)<32:=(by omega);have bU:(A:Int).toNat=A:=(by omega);have h3:(0:Int)<=(A:Int):=(by omega);have h4:(d:Int)<(bf:Int):=(by omega);have c9:(d:Int).toNat=d:=(by omega);have h5:(0:Int)<=(d:Int):=(by omega);go_wp2_with fail;go_region_held3 (λW'=>W'.cell? ⟨M,8,U⟩=R (ay (R ⟨P,0,U⟩) bf bG)∧W'.cell? ⟨w.heap.size,1,U⟩=R (I J d)∧W'.cell? ⟨O,1,U⟩=R (I J A)) ((refine⟨?_,?_,?_⟩)<;>(with_reducible repeat(first|assumption|refine b2 ?_|refine j0 (by with_reducible assumption) ?_|refine B8 (by omega) ?_))) (fail);all_goals have Q:=((ey.My ew aC).Mv co bW U N).drew;have eT:=C Q;go_wp2_with fail;go_ret2;have bc:=aa.x1 (λx:ad=>x.unlink G.h.idx) F (n:=j) (by rw[cf.out.1,cj.out]);have a0:=ap _ _ _ eT;rw[<-bt.out,cB.out,bZ];rw[<-ev.out,bc,<-z.out] at a0;rw[cB.out] at a0;exact dh a0
     ·have db:(bs !=0)=true:=(by simp[aN]);have cJ:=bq.out;rw[<-z.out,ae.Mz (by rw[bo.out];exact aN)] at cJ;have eU:=C cJ;have aj:=b3.out;rw[bo.out,if_pos aN] at aj;have bt:=C aj;go_wp2_with fail;go_ret2;rw[<-bt.out];exact dh (ap _ _ _ eU)
end
variable {n₀:Nat} {zs:List Int}
def MI (c:dc):Array Value:=#[I J c.id,I ah c.w,I ah c.m,aD c.r]
def r_:cd dc:=⟨4,λc=>[I J c.id,I ah c.w,I ah c.m,aD c.r],λ_=>rfl,λ_ u h=>by simp at h;rcases h with rfl|rfl|rfl|rfl<;>rfl,by decide⟩
theorem MJ:iv r_ 195 197 32:=⟨underlying195,⟨.agg #[.int .i64 0,.int .u64 0,.int .u64 0,.bool false],by kernel_rfl,rfl⟩,by decide⟩
theorem MK (w:ab) (c:dc):∀q u,(r_.e c)[q]?=R u->(w.alloc (av (MI c) 197)).cell? ⟨w.heap.size,q,U⟩=R u:=λq u h=>dz.trans (by rw[<-h];show([I J c.id,I ah c.w,I ah c.m,aD c.r]:List Value).toArray[q]?=_;rw[fg];rfl)
theorem Dr {l:List dc} {c:dc} (h:l[j]?=R c):cat l j=c:=by unfold cat;rw[h];rfl
theorem Rd.ML {zs:List dc} (h:Rd r_ n₀ W a n zs):iO n₀ W (ay a n cap) zs:=by
 have g:=h.1;by_cases i:0<n
 ·obtain⟨b,k,rfl,l,e⟩:=h.cells i;refine .inr ⟨b,k,cap,by rw[g],l,λj m=>?_⟩;have d:=b5 m;rw[Dr d];have f:r_.c=4:=rfl;refine⟨?_,?_,?_,?_⟩;·have:=e j _ d 0 _ rfl;rw[f] at this;exact this
  ·have:=e j _ d 1 _ rfl;rw[f,<-qy] at this;exact this
  ·have:=e j _ d 2 _ rfl;rw[f,<-qy] at this;exact this
  ·have:=e j _ d 3 _ rfl;rw[f,<-qy] at this;exact this
 ·obtain rfl:n=0:=by omega
  exact .inl ⟨⟨a,cap,rfl⟩,nY.1 g⟩
section
variable {ao w:ab} {S:Nat->Prop} {L:bu} {s:aa} {k:Nat}
def h8 (s:aa) (f:Int) (j:Nat):List dc:=((s.tasks.zipIdx.take j).filter λx=>x.1.on&&decide (x.1.p=f)).map λx=>⟨x.2,x.1.w,x.1.mask,decide ((x.2:Int)=s.running f)⟩
theorem MM (s:aa) (f:Int) (h:s.tasks.length=n):h8 s f n=s.hU f:=by unfold h8 aa.hU;rw[uZ (by rw[List.length_zipIdx,h];exact bK _)]
theorem MN {f:Int} (a:s.tasks[j]?=R t) (b:t.on=true) (c:t.p=f):h8 s f (j+1)=h8 s f j++[⟨j,t.w,t.mask,decide ((j:Int)=s.running f)⟩]:=by unfold h8;rw[gL,n5,a,sh,iI];simp[b,c]
theorem Ds {f:Int} (a:s.tasks[j]?=R t) (h:t.on=false∨t.p≠f):h8 s f (j+1)=h8 s f j:=by unfold h8;rw[gL,n5,a,sh,iI];rcases h with h|h<;>simp[h]
theorem Dt (s:aa) (f:Int) (j:Nat):(h8 s f j).length<=j:=by unfold h8;rw[dY];refine cA (py _ _) ?_;rw[iG];omega
theorem aa.Ok.MO (h:s.Ok k) (f:Int):uL (s.hU f):=by
 intro i;by_cases b:i<(s.hU f).length;·obtain⟨n,t,e,c,_,_⟩:=aa.sV b;rw[e];have a:=h.task n t c;have:=a.w;exact⟨⟨by show(0:Int)<=(t.w:Int);omega,by show(t.w:Int)<_;omega⟩,a.mask⟩
 ·unfold cat;rw[gh (by omega)];exact⟨by unfold lW;decide,by unfold lW;decide⟩
theorem aa.Ok.Du (h:s.Ok k) (hk:k<=100000) (i:Nat):lW (a_ s.dt i):=by
 unfold a_ aa.dt;rw[dD];cases e:(gi s.c.aO)[i]? with
 |none=>exact⟨jw 0,by show(0:Int)<_;omega⟩
 |some p=>have a:=h.xy 0 (p:Int);have:=n3 262144 hk;exact⟨by show(0:Int)<=(s.load 0 (p:Int):Int);omega,by show(s.load 0 (p:Int):Int)<_;omega⟩
end
section
variable {ao w:ab} {S:Nat->Prop} {L:bu} {s:aa} {k:Nat}
theorem MP (b1 a b n m al:Int) (H:ax ao S L s w) (hk:s.Ok k) (aw:k<=100000):Calls au 59 #[aX L.b,bk (cx b1 a b n m al)] w (iE ao S L (s.pull a)):=by
 obtain⟨V,bl⟩:=aW (w.alloc (av (cx b1 a b n m al) 33));obtain⟨dU,b3,bo,ce,dV⟩:=H.enter _ bl;have bm:=C bl;have b6:=C (show w.heap.size<V.heap.size by rw[<-bl];simp);have aR:=C ce;have bu:=C b3;have eo:=bJ (i:=1) dV (v:=I J a) rfl;have bR:=C bo;have B:=C hk;have bq:=C aw;have ac:=C (rL a bo);generalize A:s.pull a=Z;unfold aa.pull at A;unfold aX at*;obtain⟨O,bt⟩:=aW L.b;have az:=C bt;rw[bt] at ac⊢;unfold cx at bm⊢;cases hp:s.e0 a with
 |false=>rw[hp] at A ac;rw[aj rfl] at A;have aS:=C A;go_enter func59,ntmps59;go_upto_region 1 with fail;rw[bm.out];go_wp2_with fail;refine ac.mono ?_;rintro e d ⟨rfl,P⟩;obtain rfl:=P.symm;go_wp2_with fail;go_ret2;rw[<-aS.out];exact dh (aR _ _ _ bR)
 |true=>
  rw[hp] at A ac;rw[z0 (by decide)] at A;obtain⟨ci,aU⟩:=aa.mi.1 hp;obtain⟨i,rfl⟩:=dS ci;have aP:i<s.c.aO:=by omega
  have eu:=C aP;have aV:=C (tS bo hk aw);unfold aX at aV;rw[bt] at aV;obtain⟨E,ai⟩:=aW s.c.aO;have iW:=C ai;have ck:=hk.aO;rw[ai] at ck aP;generalize bs:kk s s.c.aO=ls at aV;have aZ:=C (show s.dt=ls.map (λn:Nat=>(n:Int)) by rw[r3,bs]);have b9:ls.length=E:=by rw[<-bs,<-ai];exact qa s 0 _
  have bw:=C b9;obtain⟨zs,aY⟩:=aW s.dt;have ev:=C aY;rw[aY] at aZ A;have ew:zs.length=E:=by rw[aZ.out,dY];exact b9
  have bv:=wv zs (i:Int) 18446744073709551615;obtain⟨f,a1⟩:=aW (lG zs (i:Int) 18446744073709551615);have ey:=C a1;rw[a1] at A bv;have aS:=C A;have co:=C (show f=-1∨∃p:Nat,f=p∧p<E by
   rcases bv with⟨e,_⟩|⟨p,e,iX,_⟩;·exact .inl e
   ·exact .inr ⟨p,e,by omega⟩)
  have a0:=C (λ(W:ab) (r:aa) (a6:ax V dU L r W)=>a6.kept b3 eo zK9);go_enter func59,ntmps59;go_upto_region 1 with fail;rw[bm.out];go_wp2_with fail;apply ac.mono;rintro e d ⟨rfl,P⟩;obtain rfl:=P.symm;go_wp2_with fail;apply aV.mono;rintro e d ⟨bP,rfl,ak,cc⟩;have cf:=bR.next cc;have gU:=a0 d s cf;have eG:0<ls.length:=by rw[bw.out];omega
  obtain⟨jE,bO,cg,rfl,_,_,_,cj⟩:=ak.rd;obtain⟨F,ek,eH,_⟩:=ak.form eG;injection eH with bz eI a2
  subst bz;subst a2;have a7:=C (show∀q,q<E->d.cell? ⟨F,q,U⟩=R (I ah (a_ zs q)) fromλq eT=>by have cm:q<ls.length:=(by rw[bw.out];exact eT);have cn:=ak.at_ (i:=q) (q:=0) (b5 cm) (u:=I ah (ls[q]:Nat)) rfl;have eU:a_ zs q=(ls[q]:Nat):=(by rw[aZ.out];unfold a_;rw[dD,b5 cm];rfl);rw[eU];have cv:q*iU.c+0=q:=(by show q*1+0=q;omega);rw[cv] at cn;exact cn);have b8:=C (show fa d.heap.size d (ay (R ⟨F,0,U⟩) ls.length cg) zs by rw[aZ.out];exact cj.tT);have eW:=C cj;have y:=C cf;have j8:=C cc.size;have fo:=C ak;rw[bw.out] at b8 eW⊢;have cr:=C (Lb (R ⟨F,0,U⟩) E cg zs (i:Int) 18446744073709551615 d b8 (by rw[ew];omega));rw[ey.out] at cr;go_wp2_with fail;apply cr.mono;rintro e bA ⟨rfl,a8⟩;have j9:=a0 bA s (y.next a8);have bB:=C a8;rcases co with rfl|⟨f,rfl,bW⟩;·clear a8;have l:=aS.out;rw[aj (by decide)] at l;have ad:=C l;go_wp2_with fail;go_ret2;rw[<-ad.out];exact dh (aR _ _ _ (y.next bB))
  ·have l:=aS.out;rw[z0 (by omega),bZ,bZ] at l;have e2:=C l;have j_:¬((f:Int)<0):=(by omega);have a3:=C (λ(W:ab) (aB:Below d.heap.size d W)=>o0 (f:Int) (y.next aB) B);unfold aX at a3;obtain⟨ka,kb,e3,fe⟩:=(y.next a8).qj az;have a4:=C e3;obtain⟨Q,cu⟩:=aW s.tasks.length;have bY:=B.eJ.1;have aw:=bq.out;have kc:Q<=100000:=(by omega);have ba:=C cu;rw[cu] at fe;obtain⟨aA,cB⟩:=aW (s.running (f:Int));rw[az.out,cB] at a3;have bH:=C (show∀(j:Nat) (t:ex),s.tasks[j]?=R t->t.on=true->t.p=(f:Int)->h8 s (f:Int) (j+1)=h8 s (f:Int) j++[⟨j,t.w,t.mask,decide ((j:Int)=aA)⟩] fromλj t a b c=>by rw[<-cB];exact MN a b c);go_wp2_with fail;go_loopw [8,32] (λv u W=>∃(j:Nat),j<=Q∧u=I J (j:Int)∧Own r_ W d.heap.size 197 v (h8 s (f:Int) j).length (h8 s (f:Int) j)∧Below d.heap.size d W) (λ_ u _=>Q-(intOf u).toNat);case atStart=>exact⟨0,by omega,rfl,by show Own _ _ _ _ _ (h8 s (f:Int) 0).length (h8 s (f:Int) 0);rw[show h8 s (f:Int) 0=[] by unfold h8;simp];exact Own.nil _ _ _,bB⟩
   case round=>
    obtain⟨j,kd,rfl,aG,G⟩:=hrel;have bb:=C aG;have T:=C G;by_cases a5:j<Q;·obtain⟨t,K⟩:∃t,s.tasks[j]?=R t:=⟨_,b5 (by rw[ba.out];exact a5)⟩;have a6:=y.next G;obtain⟨g,rfl,aL⟩:=a6.uJ a4 K;obtain⟨M,X⟩:∃x,L.tk j=x:=⟨_,rfl⟩;rw[X] at aL;obtain⟨_,_,_,cG,cJ,_,_,aK,bF,_⟩:=a6.en K X;have ke:(j:Int)<(Q:Int):=(by omega);have aH:(0:Int)<=(j:Int):=(by omega);have kf:(j:Int).toNat=j:=(by omega);have kg:=C K;cases ag:t.on with
     |false=>
      rw[ag] at cG;have a9:=C (Ds (f:=(f:Int)) K (.inl ag));go_wp2_with fail;go_roundw;case rel=>exact⟨j+1,by omega,by go_num,by rw[a9.out];exact bb,T⟩
      case measure=>simp[intOf];omega
     |true=>
      rw[ag] at cG;by_cases af:t.p=(f:Int)
      ·rw[af] at cJ;have aC:=C (bH j t K ag af);generalize N:h8 s (f:Int) j=cs at aC bb;have bf:=Dt s (f:Int) j;rw[N] at bf;obtain⟨ae,b_⟩:=aW t.w;obtain⟨am,cq⟩:=aW t.mask;rw[b_,cq] at aC;rw[b_] at aK;rw[cq] at bF;have bC:((f:Int)==(f:Int))=true:=(by simp);have fG:=C (a3 wr.drew G.drew);have Y:=C (λ(W':ab) (O o:Nat) (aN:Value) (aB:Below wr.drew.heap.size wr.drew W') (ap:wr.cell? ⟨O,o,U⟩=R aN)=>show W'.cell? ⟨O,o,U⟩=R aN from(zF9 aB).cell (b2 ap) (ir ap) id);have kh:=ir aK;have kG:=ir bF;have kH:=G.size;have kI:M<d.heap.size:=(by rw[<-X];exact(y.task K).lt);have fH:∀bI:Value,(∀g,bI.ownBlock=R g->d.heap.size<=g)->R M≠bI.ownBlock:=λbI fI x=>by have:=fI M x.symm;omega
       have cM:=C fH;have fJ:cs.length<=10000000:=(by omega);go_wp2_with fail;go_region_held3 (λW'=>W'.cell? ⟨M,7,U⟩=R (I ah (ae:Int))∧W'.cell? ⟨M,8,U⟩=R (I ah am)) ((refine⟨?_,?_⟩)<;>(with_reducible repeat(first|assumption|refine b2 ?_|refine fq _ ?_ ?_))) (first|(go_at_call 17;refine fG.mono ?_;rintro e h ⟨rfl,z⟩;have bL:=Y h _ _ _ z aK;have ar:=Y h _ _ _ z bF;have cW:Below d.heap.size d h:=T.drew.trans (z.mono T.size);have bc:=C ((bb.drew.next' z).alloc (av #[I J (j:Int),I ah (ae:Int),I ah am,aD ((j:Int)==aA)] 197));have c8:d.heap.size<=(h.alloc (av #[I J (j:Int),I ah (ae:Int),I ah am,aD ((j:Int)==aA)] 197)).heap.size:=(by have:=cW.size;simp;omega);have cF:=C (MK h ⟨(j:Int),(ae:Int),am,(j:Int)==aA⟩);have bg:M<h.heap.size:=ir bL;have c_:=C cW)|(refine oR MJ rfl _ _ rfl d.heap.size _ cs.length cs rfl bc h.heap.size _ ⟨(j:Int),(ae:Int),am,(j:Int)==aA⟩ rfl cF fJ c8 ?_;intro fK u fR bE aJ;have bd:=C (Grow.gR bE aJ);have kJ:=bd.cell (vj bg) (cM _ (λg x=>(bc.lt g x).1)) (fq _ bg bL);have b0:=bd.cell (vj bg) (cM _ (λg x=>(bc.lt g x).1)) (fq _ bg ar);have fX:=C fR;have fY:=C (show Below d.heap.size d u from(c_.alloc c_.size _).trans (bd.below c8 (λg x=>(bc.lt g x).1)))));all_goals
        go_wp2_with fail;go_roundw;case rel=>exact⟨j+1,by omega,by go_num,by rw[aC.out,eX];exact fX,fY⟩
        case measure=>simp[intOf];omega
      ·have a9:=C (Ds (f:=(f:Int)) K (.inr af));generalize dv:t.p=mx at cJ af;have bC:(mx==(f:Int))=false:=(by simp[af]);go_wp2_with fail;go_roundw;case rel=>exact⟨j+1,by omega,by go_num,by rw[a9.out];exact bb,T⟩
       case measure=>simp[intOf];omega
    ·obtain rfl:j=Q:=by omega
     have da:=C (MM s (f:Int) ba);rw[da.out] at aG;obtain⟨cs,N⟩:=aW (s.hU (f:Int));have aI:=C N;rw[N] at aG;have bf:=Dt s (f:Int) j;rw[da.out,N] at bf;have cZ:=B.MO (f:Int);rw[N] at cZ;obtain⟨_,fZ,f_,rfl,_,_,_,gw⟩:=aG.drew.rd;have ch:=C aG;have de:=(G.cell (p:=⟨F,f,U⟩) (ir (a7 f bW))).trans (a7 f bW);have bh:=(G.cell (p:=⟨F,i,U⟩) (ir (a7 i aP))).trans (a7 i aP);have aL:=a0 wr s (y.next G);have bG:=B.Du bq f;have df:=B.Du bq i;rw[ev.out] at bG df;have aQ:=C (MH fZ cs.length f_ cs (a_ zs f) (a_ zs i) (i:Int) wr.drew rfl (gw.ML) cZ (by omega) bG df);generalize gF:kZ cs (gB (a_ zs f) (a_ zs i)) (i:Int)=kK at aQ;have be:=e2.out;rw[N] at be;rw[gF] at be;have di:=C be;obtain⟨gG,gH⟩:=aW (a_ zs f);obtain⟨gI,gV⟩:=aW (a_ zs i);rw[gH] at de aQ;rw[gV] at bh aQ;have Y:=C (λ(W':ab) (O o:Nat) (aN:Value) (aB:Below wr.drew.heap.size wr.drew W') (ap:wr.cell? ⟨O,o,U⟩=R aN)=>show W'.cell? ⟨O,o,U⟩=R aN from(zF9 aB).cell (b2 ap) (ir ap) id);obtain⟨gW,bN⟩:=aW cs.length;have bS:=C bN;rw[bN] at aQ bf;rw[bN];have k8:(f:Int)<(E:Int):=(by omega);have k9:(f:Int).toNat=f:=(by omega);have k_:(0:Int)<=(f:Int):=(by omega);have b4:(i:Int)<(E:Int):=(by omega);have la:(i:Int).toNat=i:=(by omega);have ld:(0:Int)<=(i:Int):=(by omega);go_wp2_with fail;go_region_held3 (λW'=>W'.cell? ⟨F,f,U⟩=R (I ah gG)∧W'.cell? ⟨F,i,U⟩=R (I ah gI)∧W'.cell? ⟨w.heap.size,1,U⟩=R (I J i)) ((refine⟨?_,?_,?_⟩)<;>(with_reducible repeat(first|assumption|refine b2 ?_))) (first|(go_at_call 114;refine aQ.mono ?_;rintro e h ⟨⟨u5,fK,rfl,c0⟩,z⟩;have lf:=Y h _ _ _ z de;have lg:=Y h _ _ _ z bh;have bM:=Y h _ _ _ z aL;have c2:=C c0;have aM:=C (T.drew.trans (z.mono T.size));have bi:=C (ch.drew.next' z)));all_goals
      rcases c2 with⟨ca,rfl,rfl⟩|⟨p,ca,dA,rfl,rfl⟩;·have l:=di.out;rw[aj (by omega)] at l;have ad:=C l;go_wp2_with fail;go_ret2;rw[<-ad.out];exact dh (aR _ _ _ (y.next aM))
      ·have c3:p<(s.hU (f:Int)).length:=(by rw[aI.out,bS.out];exact dA);obtain⟨q,t,bT,bj,c4,dv⟩:=aa.sV c3;rw[aI.out] at bT;have l:=di.out;rw[z0 (by omega),ca,bZ,bT] at l;dsimp only at l;rw[bZ] at l;have ad:=C l;have dF:=y.next aM;obtain⟨lh,rfl,aL⟩:=dF.uJ a4 bj;obtain⟨ki,lj,bn,c5⟩:=dF.qj az;rw[a4.out] at bn;injection bn with bz eI a2
       subst bz;subst a2;rw[ba.out] at c5;obtain⟨an,d0,bU,_⟩:=bi.form (by rw[bS.out];omega);injection bU with h3 d1 h4
       subst h3;subst h4;have c9:cs[p]?=R (⟨(q:Int),(t.w:Int),t.mask,decide ((q:Int)=s.running (f:Int))⟩:dc):=(by have aU:p<cs.length:=(by rw[bS.out];exact dA);have P:=Dr (b5 aU);rw[bT] at P;rw[b5 aU,<-P]);have h5:=bi.at_ (i:=p) (q:=0) c9 (u:=I J (q:Int)) rfl;have db:h.cell? ⟨an,p*4,U⟩=R (I J (q:Int)):=h5;have d2:=(bi.lt an rfl).1;obtain⟨M,X⟩:=aW (L.tk q);have dG:=C X;rw[X] at aL;have D:=C (br bj (br c4 (B.task q t bj)));have iz:=(bD.1 bj).1;rw[ba.out] at iz;have d3:(q:Int)<(j:Int):=(by omega);have d4:(q:Int).toNat=q:=(by omega);have d5:(0:Int)<=(q:Int):=(by omega);have d6:(p:Int)<(gW:Int):=(by omega);have d7:(p:Int).toNat=p:=(by omega);have d8:(0:Int)<=(p:Int):=(by omega);have d9:=C b6;go_wp2_with fail;go_quiet (fail);have iA:=below_drewN aM nq;obtain⟨dH,dI,iB,bQ⟩:=y.xO iA;have dg:=C bQ;have iC:=C (show¬dH w.heap.size fromλaq=>by
        rcases(dI _ aq).2 with aq|aq;·have:=(bu _ aq);omega
        ·have aU:=b6.out;omega)
       have aE:=C (show¬dH an fromλaq=>by have:=(dI _ aq).1;omega);have bx:=C (show(h.drewN nq).cell? ⟨an,p*4,U⟩=R (I J (q:Int))∧(h.drewN nq).cell? ⟨w.heap.size,1,U⟩=R (I J i) by
        refine⟨?_,?_⟩;·rw[World.cell?_drewN];exact db
        ·rw[World.cell?_drewN];exact bM)
       have bX:=C (xu D.1 D.2.1 iB B);unfold aX at bX;rw[az.out,dG.out] at bX;go_wp2_with fail;apply bX.mono;rintro e cb ⟨rfl,dB⟩;have hH:=B.leave D.1 D.2.1;have a5:=aa.oG D.1;have iD:=aa.q5 D.1;have bL:=dB.je bx.2 iC;have bV:=C (tH a5 rfl (D.2.2.jY D.2.1) i (by rw[iD];exact eu) false dB hH);unfold aX at bV;rw[az.out,dG.out] at bV;go_wp2_with fail;apply bV.mono;rintro e b7 ⟨rfl,dT⟩;have ar:=dT.je bx.1 aE;have dl:=C dT;go_wp2_with fail;go_ret2;rw[<-ad.out];exact dh (aR _ _ _ (dg _ _ _ dl))
end
section
variable {ao w w' W:ab} {S:Nat->Prop} {L:bu} {s:aa} {k:Nat}
theorem ax.MR (H:ax ao S L s w) (e:L.tv.ownBlock=R g):(S g∨ao.heap.size<=g)∧g<w.heap.size∧g≠L.b:=by obtain⟨f,h,H⟩:=H;have a:=(H.part .fx).2 g e;have c:=(H.part .fx).1.lt g e;refine⟨H.own g c.2 (by rw[a];simp),c.2,λx=>?_⟩;have d:=(H.part .top).2;rw[<-x,a] at d;cases d
theorem ax.MS (H:ax ao S L s w) (e:L.gv.ownBlock=R g):(S g∨ao.heap.size<=g)∧g<w.heap.size∧g≠L.b:=by obtain⟨f,h,H⟩:=H;have a:=(H.part .e1).2 g e;have c:=(H.part .e1).1.lt g e;refine⟨H.own g c.2 (by rw[a];simp),c.2,λx=>?_⟩;have d:=(H.part .top).2;rw[<-x,a] at d;cases d
theorem MT:iv dp 63 73 8:=⟨underlying63,⟨.pointer U,by kernel_rfl,rfl⟩,by decide⟩
theorem MU:iv dp 64 65 8:=⟨underlying64,⟨.pointer U,by kernel_rfl,rfl⟩,by decide⟩
def bu.ga (L:bu) (n a:Nat) (v:Value):bu:={L with tk:=λm=>if m=n then a else L.tk m,tv:=v}
def aa.ga (s:aa) (t:ex) (i:Nat):aa:={s with tasks:=s.tasks++[t],at_:=s.at_.set i (s.tasks.length:Int)}
theorem MV {a:Nat} (h:s.tasks.length=n):hl (L.ga n a v) (s.ga t i)=hl L s++[R a]:=by
 unfold hl aa.ga bu.ga;dsimp only;rw[eX,n2,oa,iI,h];congr 1;·refine vc (λm b=>?_);rw[pB] at b;rw[z0 (by omega)]
 ·simp
theorem MW {a:Nat} (b:s.places.length=32) (c:s.at_.length=64) (d:i<64) (h:s.tasks.length=n):((cR L s).setIfInBounds 7 v).setIfInBounds (41+i) (I J (n:Int))=cR (L.ga n a v) (s.ga t i):=by
 have e:(cR L s).setIfInBounds 7 v=cR (L.ga n a v) s:=by unfold cR bu.ga;simp[sd]
 rw[e,Mu b c d];unfold cR aa.ga;rw[h]
theorem ax.ga (H:ax ao S L s w) {a:Nat} (E:¬S a) (P:a<ao.heap.size) {n i:Nat} (q:s.tasks.length=n) {t:ex} {v:Value} (z:Mod (λk=>k=L.b∨L.tv.ownBlock=R k) w w') (F:Own dp w' 0 73 v (n+1) (hl L s++[R a])) (hv:∀g,v.ownBlock=R g->L.tv.ownBlock=R g∨w.heap.size<=g) (G:ak w' L.b (cR (L.ga n a v) (s.ga t i)) 72) (I:ak w' a (k3 L t) 81):ax ao (λk=>S k∨k=a) (L.ga n a v) (s.ga t i) w':=by
 obtain⟨A,f,H⟩:=H;have Q:=A.size;have o:f a= .no:=by
  by_cases e:f a= .no;·exact e
  ·rcases H.own a (by omega) e with c|c;·exact absurd c E
   ·omega
 have p:=(H.part .top).2;have u:∀g,L.tv.ownBlock=R g->f g= .fx:=(H.part .fx).2;have J:L.b≠a:=λe=>by rw[<-e,p] at o;cases o
 refine⟨?_,λk=>if k=a then .task n else if k<w.heap.size then f k else .fx,?_,?_⟩
 ·refine(A.mono (λk _ c=>.inl c)).trans z (λi K c=>?_);have M:f i≠ .no:=by
   rcases c with rfl|c;·rw[p];simp
   ·rw[u i c];simp
  rcases H.own i (by omega) M with g|g;·exact .inl g
  ·exact absurd K (by omega)
 ·intro c;have d:∀r,r≠ .top->r≠ .fx->fW w' (λk=>(if k=a then Part.task n else if k<w.heap.size then f k else Part.fx)=r) L s r:=by
   intro r h l;by_cases B:r= .no;·subst B;trivial
   ·refine(H.part r).frame z ?_ ?_
    ·rintro k e (rfl|c);·exact h (e.symm.trans p)
     ·exact l (e.symm.trans (u k c))
    ·intro k C e;have:k≠a:=λx=>by rw[x,o] at e;exact B e.symm
     rw[z0 this,aj C];exact e
  cases c with
  |no=>trivial
  |top=>exact⟨G,by show(if L.b=a then _ else if L.b<w.heap.size then f L.b else _)=_;rw[z0 J,aj (H.part .top).1.lt];exact p⟩
  |fx=>
   show dM _ _ _ v (hl _ _);rw[MV q];refine⟨by rw[show(hl L s++[R a]).length=n+1 by rw[eX,oZ,q];rfl];exact F,λg e=>?_⟩;rcases hv g e with c|c
   ·have h:=u g c;have l:g≠a:=λx=>by rw[x,o] at h;cases h
    by_cases D:g<w.heap.size;·rw[z0 l,aj D];exact h
    ·rw[z0 l,z0 D]
   ·rw[z0 (by omega),z0 (by omega)]
  |task m=>
   intro y j;by_cases e:m=n;·subst e;have:y=t:=(by unfold aa.ga at j;rw[gJ (by omega),q,lu] at j;exact(Option.some.inj j).symm);subst this;show ak w' (if m=m then a else L.tk m) _ _∧_;rw[aj rfl];exact⟨I,by show(if(if m=m then a else L.tk m)=a then _ else _)=_;rw[aj rfl,aj rfl]⟩
   ·have N:s.tasks[m]?=R y:=by
     unfold aa.ga at j;dsimp only at j;by_cases O:m<s.tasks.length;·rwa[ja O] at j
     ·rw[gh (by rw[eX,n2];omega)] at j;cases j
    have:=d (.task m) (by simp) (by simp) y N;show ak w' (if m=n then a else L.tk m) _ _∧_;rw[z0 e];exact⟨this.1,by show(if(if m=n then a else L.tk m)=a then _ else if(if m=n then a else L.tk m)<w.heap.size then f (if m=n then a else L.tk m) else _)=_;rw[z0 e];exact this.2⟩
  |e1=>exact d .e1 (by simp) (by simp)
  |fU=>exact d .fU (by simp) (by simp)
  |gr=>exact d .gr (by simp) (by simp)
  |tree=>exact d .tree (by simp) (by simp)
  |pool=>exact d .pool (by simp) (by simp)
  |book=>exact d .book (by simp) (by simp)
  |aw m=>exact d (.aw m) (by simp) (by simp)
  |band m=>exact d (.band m) (by simp) (by simp)
  |line m=>exact d (.line m) (by simp) (by simp)
  |aY m=>exact d (.aY m) (by simp) (by simp)
  |gT m=>exact d (.gT m) (by simp) (by simp)
 ·intro k C e;by_cases h:k=a;·exact .inl (.inr h)
  ·rw[z0 h] at e;by_cases l:k<w.heap.size
   ·rw[aj l] at e;rcases H.own k l e with c|c;·exact .inl (.inl c)
    ·exact .inr c
   ·exact .inr (by omega)
end
variable {fn:Func}
section
variable {ao w w' W:ab} {S:Nat->Prop} {L:bu} {s:aa} {k:Nat}
def bu.i6 (L:bu) (n gb db lb:Nat) (v:Value):bu:={L with gk:=λm=>if m=n then gb else L.gk m,bd:=λm=>if m=n then db else L.bd m,ln:=λm=>if m=n then lb else L.ln m,gv:=v}
def aa.i6 (s:aa) (G:cb) (i:Nat):aa:={s with groups:=s.groups++[G],places:=s.places.set i (R s.groups.length)}
theorem MX {gb db lb:Nat} {G:cb} (h:s.groups.length=n) (a:G.there=true):fV (L.i6 n gb db lb v) (s.i6 G i)=fV L s++[R gb]:=by
 unfold fV aa.i6 bu.i6;dsimp only;rw[List.zipIdx_append,iI,h];congr 1;·refine vc (λx b=>?_);have:=List.snd_lt_of_mem_zipIdx b;rw[z0 (show¬x.2=n by omega)]
 ·simp[a]
theorem MY {gb db lb:Nat} {G:cb} (a:s.places.length=32) (b:i<32) (h:s.groups.length=n) (c:∀(j g:Nat),s.places[j]?=R (R g)->g<n):((cR L s).setIfInBounds 8 v).setIfInBounds (9+i) (aX gb)=cR (L.i6 n gb db lb v) (s.i6 G i):=by
 have d:s.places.map (λo=>cU (o.map (L.i6 n gb db lb v).gk))=s.places.map (λo=>cU (o.map L.gk)):=by
  refine vc (λo f=>?_);cases o with
  |none=>rfl
  |some g=>obtain⟨j,k⟩:=List.getElem?_of_mem f;have:=c j g k;unfold bu.i6;simp only[iH];rw[z0 (by omega)]
 have e:(cR L s).setIfInBounds 8 v=cR (L.i6 n gb db lb v) s:=by unfold cR;rw[d];unfold bu.i6;simp[sd]
 have l:aX gb=cU ((R n).map (L.i6 n gb db lb v).gk):=by unfold bu.i6;simp[cU]
 rw[e,l,Df a b (R n)];unfold cR aa.i6;rw[h]
theorem ax.i6 (H:ax ao S L s w) {gb db lb:Nat} (E:∀x,x=gb∨x=db∨x=lb->¬S x∧x<ao.heap.size) (u:gb≠db) (y:gb≠lb) (I:db≠lb) {n i:Nat} (J:s.groups.length=n) {G:cb} (Z:G.there=true) {v:Value} (P:Mod (λk=>k=L.b∨L.gv.ownBlock=R k) w w') (aq:Own dp w' 0 65 v (n+1) (fV L s++[R gb])) (hv:∀g,v.ownBlock=R g->L.gv.ownBlock=R g∨w.heap.size<=g) (ac:ak w' L.b (cR (L.i6 n gb db lb v) (s.i6 G i)) 72) (az:ak w' gb (hn (L.i6 n gb db lb v) n G) 85) (ad:∀B,G.band=R B->ct w' db B) (aB:∀l,G.line=R l->gQ w' lb l) (aA:∀(m:Nat) t,s.tasks[m]?=R t->t.g<n):ax ao (λk=>S k∨k=gb∨k=db∨k=lb) (L.i6 n gb db lb v) (s.i6 G i) w':=by
 obtain⟨Q,p,H⟩:=H;have ap:=Q.size;have A:∀x,x=gb∨x=db∨x=lb->p x= .no:=by
  intro x q;by_cases e:p x= .no;·exact e
  ·have:=E x q;rcases H.own x (by omega) e with d|d;·exact absurd d this.1
   ·omega
 have F:=(H.part .top).2;have K:∀g,L.gv.ownBlock=R g->p g= .e1:=(H.part .e1).2;have aG:∀x,p x≠ .no->x≠gb∧x≠db∧x≠lb:=λx q=>⟨λe=>q (A x (.inl e)),λe=>q (A x (.inr (.inl e))),λe=>q (A x (.inr (.inr e)))⟩;obtain⟨f,z⟩:=aW ((λk=>if k=gb then Part.aw n else if k=db then Part.band n else if k=lb then Part.line n else if k<w.heap.size then p k else Part.e1):Nat->Part);have ab:f gb= .aw n:=by rw[<-z];show(if gb=gb then _ else _)=_;rw[aj rfl]
 have aL:f db= .band n:=by rw[<-z];show(if db=gb then _ else if db=db then _ else _)=_;rw[z0 (Ne.symm u),aj rfl]
 have af:f lb= .line n:=by rw[<-z];show(if lb=gb then _ else if lb=db then _ else if lb=lb then _ else _)=_;rw[z0 (Ne.symm y),z0 (Ne.symm I),aj rfl]
 have M:∀x,x<w.heap.size->p x≠ .no->f x=p x:=by intro x q ae;obtain⟨a,b,c⟩:=aG x ae;rw[<-z];show(if x=gb then _ else if x=db then _ else if x=lb then _ else if x<w.heap.size then _ else _)=_;rw[z0 a,z0 b,z0 c,aj q]
 have fn:∀x,w.heap.size<=x->f x= .e1:=by intro x q;have a:=(E gb (.inl rfl)).2;have b:=(E db (.inr (.inl rfl))).2;have c:=(E lb (.inr (.inr rfl))).2;rw[<-z];show(if x=gb then _ else if x=db then _ else if x=lb then _ else if x<w.heap.size then _ else _)=_;rw[z0 (by omega),z0 (by omega),z0 (by omega),z0 (by omega)]
 refine⟨?_,f,?_,?_⟩
 ·refine(Q.mono (λk _ d=>.inl d)).trans P (λi am d=>?_);have A:p i≠ .no:=by
   rcases d with rfl|d;·rw[F];simp
   ·rw[K i d];simp
  rcases H.own i (by omega) A with g|g;·exact .inl g
  ·exact absurd am (by omega)
 ·intro d;have o:∀r,r≠ .top->r≠ .e1->fW w' (λk=>f k=r) L s r:=by
   intro r u y;by_cases T:r= .no;·subst T;trivial
   ·refine(H.part r).frame P ?_ ?_
    ·rintro k e (rfl|d);·exact u (e.symm.trans F)
     ·exact y (e.symm.trans (K k d))
    ·intro k U e;rw[M k U (by rw[e];exact T)];exact e
  have N:∀(m:Nat) (h:cb),(s.i6 G i).groups[m]?=R h->(m=n∧h=G)∨(m≠n∧s.groups[m]?=R h):=by
   intro m h j;unfold aa.i6 at j;dsimp only at j;by_cases e:m=n;·subst e;rw[gJ (by omega),J,lu] at j;exact .inl ⟨rfl,(Option.some.inj j).symm⟩
   ·by_cases aN:m<s.groups.length;·rw[ja aN] at j;exact .inr ⟨e,j⟩
    ·rw[gh (by rw[eX,n2];omega)] at j;cases j
  cases d with
  |no=>trivial
  |top=>exact⟨ac,(M _ (H.part .top).1.lt (by rw[F];simp)).trans F⟩
  |e1=>
   show dM _ _ _ v (fV _ _);rw[MX J Z];refine⟨by rw[show(fV L s++[R gb]).length=n+1 by rw[eX];unfold fV;rw[dY,List.length_zipIdx,J];rfl];exact aq,λg e=>?_⟩;rcases hv g e with d|d
   ·have u:=K g d;by_cases I:g<w.heap.size;·rw[M g I (by rw[u];simp)];exact u
    ·exact fn g (by omega)
   ·exact fn g d
  |aw m=>
   intro h j;rcases N m h j with⟨rfl,rfl⟩|⟨e,C⟩;·show ak w' (if m=m then gb else L.gk m) _ _∧_;rw[aj rfl];refine⟨az,?_⟩;show f (if m=m then gb else L.gk m)=_;rw[aj rfl];exact ab
   ·have:=o (.aw m) (by simp) (by simp) h C;have O:hn (L.i6 n gb db lb v) m h=hn L m h:=(by unfold hn bu.i6;simp only[z0 e]);rw[O];show ak w' (if m=n then gb else L.gk m) _ _∧f (if m=n then gb else L.gk m)=_;rw[z0 e];exact this
  |band m=>
   intro h B j D;rcases N m h j with⟨rfl,rfl⟩|⟨e,C⟩;·show ct w' (if m=m then db else L.bd m) _∧f (if m=m then db else L.bd m)=_;rw[aj rfl];exact⟨ad B D,aL⟩
   ·have:=o (.band m) (by simp) (by simp) h B C D;show ct w' (if m=n then db else L.bd m) _∧f (if m=n then db else L.bd m)=_;rw[z0 e];exact this
  |line m=>
   intro h B j D;rcases N m h j with⟨rfl,rfl⟩|⟨e,C⟩;·show gQ w' (if m=m then lb else L.ln m) _∧f (if m=m then lb else L.ln m)=_;rw[aj rfl];exact⟨aB B D,af⟩
   ·have:=o (.line m) (by simp) (by simp) h B C D;show gQ w' (if m=n then lb else L.ln m) _∧f (if m=n then lb else L.ln m)=_;rw[z0 e];exact this
  |task m=>intro t V;have:=o (.task m) (by simp) (by simp) t V;have O:k3 (L.i6 n gb db lb v) t=k3 L t:=(by have:=aA m t V;unfold k3 bu.i6;simp only[z0 (show¬t.g=n by omega)]);rw[O];exact this
  |fx=>exact o .fx (by simp) (by simp)
  |fU=>exact o .fU (by simp) (by simp)
  |gr=>exact o .gr (by simp) (by simp)
  |tree=>exact o .tree (by simp) (by simp)
  |pool=>exact o .pool (by simp) (by simp)
  |book=>exact o .book (by simp) (by simp)
  |aY m=>exact o (.aY m) (by simp) (by simp)
  |gT m=>exact o (.gT m) (by simp) (by simp)
 ·intro k U e;by_cases W:k=gb;·exact .inl (.inr (.inl W))
  ·by_cases X:k=db;·exact .inl (.inr (.inr (.inl X)))
   ·by_cases Y:k=lb;·exact .inl (.inr (.inr (.inr Y)))
    ·by_cases y:k<w.heap.size
     ·have:f k=p k:=(by rw[<-z];show(if k=gb then _ else if k=db then _ else if k=lb then _ else if k<w.heap.size then _ else _)=_;rw[z0 W,z0 X,z0 Y,aj y]);rw[this] at e;rcases H.own k y e with d|d;·exact .inl (.inl d)
      ·exact .inr d
     ·exact .inr (by omega)
end
section
variable {ao w:ab} {S:Nat->Prop} {L:bu} {s:aa} {k:Nat}
theorem ae.x_ {t:ae} {h:aF} (e:ae.fl t h≠0):(ae.create t h).1=t:=by unfold ae.create;rw[z0 e]
theorem ax.ya (H:ax ao S L s w) (hk:s.Ok k) (p:aF):Calls au 84 #[aX L.eE,bk #[I J p.idx,I J p.gen]] w λe w'=>e=aK (bC #[bk #[I J (ae.create s.tree p).2.idx,I J (ae.create s.tree p).2.gen],I J (ae.fl s.tree p)])∧ax ao S L {s with tree:=(ae.create s.tree p).1} w':=by obtain⟨T,b,c⟩:=H.B7;exact(L3 T L.eE s.tree p w b hk.tree).mono (λe w' a=>⟨a.1,c w' _ a.2.1 a.2.2⟩)
theorem ax.Dv (H:ax ao S L s w) (hk:s.Ok k) (p:aF):Calls au 84 #[aX L.eE,bk #[I J p.idx,I J p.gen]] (w.alloc (av #[I J 0,I J 0] 77)).drew λe w'=>e=aK (bC #[bk #[I J (ae.create s.tree p).2.idx,I J (ae.create s.tree p).2.gen],I J (ae.fl s.tree p)])∧ax ao S L {s with tree:=(ae.create s.tree p).1} w'∧ak w' w.heap.size #[I J 0,I J 0] 77∧∀d,Mod (λk=>k=w.heap.size) w' d->∃f:Nat->Prop,(∀k,f k->k<d.heap.size∧k≠w.heap.size)∧ax d f L {s with tree:=(ae.create s.tree p).1} d∧∀(g:bu) (h:aa) (i:ab),ax d f g h i->ax ao S g h i:=by
 obtain⟨o,q,r,m⟩:=H.nS (bx w (av #[I J 0,I J 0] 77)).drew;have n:¬o w.heap.size:=λe=>by have:=(q _ e).1;omega
 have t:w.heap.size<(w.alloc (av #[I J 0,I J 0] 77)).drew.heap.size:=(ak.new w _ _).lt;refine(r.ya hk p).mono (λe w' j=>⟨j.1,m _ _ _ (j.2.lX λk l=>.inl l),(ak.new w #[I J 0,I J 0] 77).drew.mod j.2.1 n,λd u=>?_⟩);obtain⟨f,a,b,c⟩:=j.2.MQ u n t;exact⟨f,a,b,λg h i l=>m _ _ _ ((c g h i l).lX λk y=>y.elim .inl (λe=>.inr (by omega)))⟩
theorem MZ (ad a b n m aB:Int) (H:ax ao S L s w) (hk:s.Ok k) (P:s.group a=U∨kv n=false∨∀G,s.group a=R G->ae.fl s.tree G.h≠0):Calls au 45 #[aX L.b,bk (cx ad a b n m aB)] w (iE ao S L (s.grow a n)):=by
 obtain⟨V,D⟩:=aW (w.alloc (av (cx ad a b n m aB) 33));obtain⟨an,aA,d,Q,E⟩:=H.enter _ D;have F:=C D;have K:=C Q;have bl:=bJ (i:=1) E (v:=I J a) rfl;have bo:=bJ (i:=3) E (v:=I J n) rfl;have aG:=C d;have bm:=C hk;have l:=C (k5 a d);generalize c:s.grow a n=Z;unfold aa.grow at c;unfold aX at*;obtain⟨T,o⟩:=aW L.b;have W:=C o;rw[o] at l⊢;unfold cx at F⊢;cases f:s.group a with
 |none=>rw[f] at c;have r:=C c;rw[aa.mZ f] at l;clear H hk D aA d Q E c o f P;go_enter func45,ntmps45;go_upto_region 1 with fail;rw[F.out];go_wp2_with fail;refine l.mono ?_;rintro e ab ⟨rfl,p⟩;obtain rfl:=p.symm;go_wp2_with fail;go_ret2;rw[<-r.out];exact dh (K.out _ _ _ aG.out)
 |some G=>
  obtain⟨ap,t,aQ⟩:=aa.hi f;rw[f] at c;dsimp only at c;rw[aa.lk f] at l;obtain⟨g,rfl⟩:=dS ap;rw[bZ] at l t;obtain⟨M,u⟩:=aW (L.gk g);have X:=C u;rw[u] at l;have N:=C (xF n V);cases hw:kv n with
  |false=>rw[hw,aj rfl] at c;have r:=C c;rw[hw] at N;clear H hk D aA d Q E c o f u t aQ hw P;go_enter func45,ntmps45;go_upto_region 1 with fail;rw[F.out];go_wp2_with fail;refine l.mono ?_;rintro e ab ⟨rfl,p⟩;obtain rfl:=p.symm;clear p;go_wp2_with fail;refine N.mono ?_;rintro e ah ⟨rfl,O⟩;obtain rfl:=O.symm;clear O;go_wp2_with fail;go_ret2;rw[<-r.out];exact dh (K.out _ _ _ aG.out)
  |true=>
   rw[hw,z0 (by decide)] at c;rw[hw] at N;have q:ae.fl s.tree G.h≠0:=by
    rcases P with e|e|e;·rw[f] at e;cases e
    ·rw[hw] at e;cases e
    ·exact e G f
   rw[aj q] at c;have r:=C c;have ay:=C (ae.x_ q);obtain⟨_,v1,bq,_⟩:=d.dw t u;have Y:=d.top.cell 5 j2;have aR:T<V.heap.size:=(by rw[<-o];exact d.top.lt);have aS:M<V.heap.size:=(by rw[<-u];exact(d.aw t).lt);have aU:T≠V.heap.size:=(by omega);have aP:M≠V.heap.size:=(by omega);have x:=C (by have y:=d.drew.ya hk G.h;rw[ae.x_ q] at y;exact y);have z:=C (by have y:=d.Dv hk G.h;rw[ae.x_ q] at y;exact y);generalize aV:ae.fl s.tree G.h=aZ at x z q;have a6:=C aV;generalize bt:(ae.create s.tree G.h).2=ai at x z;obtain⟨ak,aL⟩:=aW L.eE;have am:=C aL;unfold aX at Y x z;rw[aL] at Y x z;rw[o] at Y;have aq:=C t;have bw:(aZ !=0)=true:=(by simp[q]);go_enter func45,ntmps45;go_upto_region 1 with fail;rw[F.out];go_wp2_with fail;refine l.mono ?_;rintro e ab ⟨rfl,p⟩;obtain rfl:=p.symm;go_wp2_with fail;refine N.mono ?_;rintro e ah ⟨rfl,O⟩;obtain rfl:=O.symm;go_wp2_with fail;go_region_held3 (λW'=>W'.cell? ⟨T,5,U⟩=R (af (R ⟨ak,0,U⟩))∧W'.cell? ⟨M,1,U⟩=R (I J G.h.idx)∧W'.cell? ⟨M,2,U⟩=R (I J G.h.gen)) ((refine⟨?_,?_,?_⟩)<;>(with_reducible repeat(first|assumption|refine b2 ?_|refine j0 (by first|exact aU|exact aP|exact a7|exact a8) ?_|refine fq _ (by first|exact aR|exact aS|exact ac|exact az) ?_))) (first
    |(
     go_at_call 84;with_reducible refine x.out.mono ?_;rintro e ba ⟨rfl,j⟩
     obtain⟨_,bb,ag,_⟩:=j.dw aq.out X.out;have A:=j.top.cell 5 j2;unfold aX at A;rw[W.out,am.out] at A;have ac:=j.top.lt;rw[W.out] at ac;have az:=(j.aw aq.out).lt;rw[X.out] at az;have a7:=pC ac;have a8:=pC az;have aN:=C j)|(
     go_at_call 84;with_reducible refine z.out.mono ?_;rintro e ba ⟨rfl,j,B,bf⟩
     obtain⟨_,bb,ag,_⟩:=j.dw aq.out X.out;have A:=j.top.cell 5 j2;unfold aX at A;rw[W.out,am.out] at A;have aD:=B.cell 0 (v:=I J 0) rfl;have a0:=B.cell 1 (v:=I J 0) rfl;have bz:=B.free 0;have a2:=B.free 1;have aN:=C j;have a3:=C B;have bc:=C bf))
   all_goals go_wp2_with fail;go_ret2;rw[<-r.out,a6.out];first
    |exact dh (K.out _ _ _ (aN.next (bx _ _)))
    |(obtain⟨a4,_,bg,bj⟩:=bc.out _ (nT _ _ _ _ _ _);exact dh (K.out _ _ _ (bj _ _ _ bg)))
end
section
variable {ao w:ab} {S:Nat->Prop} {L:bu} {s:aa} {k:Nat}
theorem M0 {G:cb} (i:Nat) (o:i<s.c.aO) (j:Nat) (q:s.groups[g]?=R G) (t:eF s) {h:ad} (u:s.hiers[i]?=R h) (w:h.Ok) (W:ab) (f:ax ao S L s W) (t5:W.cell? ⟨j,5,U⟩=R (af (R ⟨L.gk g,0,U⟩))):Calls au 36 #[af (R ⟨L.b,0,U⟩),af (R ⟨j,0,U⟩),I J (i:Int)] W λe w'=>e=aK (I J (h.minOf G.h.idx))∧∃a,w'=W.drewN a:=by
 obtain⟨B,cap,D,y,k⟩:=f.iT t o;obtain⟨T,z⟩:=f.aY (p:=i) (h:=h) u;have d:=C (λa=>Calls.quiet_of_same (n:=a) (xo T (L.hk i) h G.h.idx (W.drewN a) (z.frame ((Mod.refl (λ_=>False) W).drewN a) (λ_ _=>id)) w));have l:=(f.aw q).cell 1 (v:=I J G.h.idx) rfl;have A:(i:Int)<(s.c.aO:Int):=by omega
 have E:(i:Int).toNat=i:=by omega
 have F:(0:Int)<=(i:Int):=by omega
 generalize H:s.c.aO=m at A k;generalize K:L.hk i=M at y d;generalize N:L.b=b at k⊢;generalize O:L.gk g=gb at t5 l;generalize P:G.h.idx=x at l d⊢;generalize Q:h.minOf x=r at d⊢;unfold aX at*;go_enter func36,ntmps36;go_wp2_with fail;go_quiet ((go_at_call 76;with_reducible exact d.out _));go_wp2_with fail;go_ret;exact⟨rfl,nq,rfl⟩
end
section
variable {ao w:ab} {S:Nat->Prop} {L:bu} {s:aa} {k:Nat}
theorem ax.M1 (H:ax ao S L s w) (x:Int):Calls au 99 #[aX L.kC,ti x] w λe w'=>e=aK (if s.pool.many=64 then bC #[bk #[I J 0,I J 0],I J 3] else bC #[bk #[I J (s.pool.put x).2.idx,I J (s.pool.put x).2.gen],I J 0])∧ax ao S L {s with pool:=if s.pool.many=64 then s.pool else(s.pool.put x).1} w':=by obtain⟨T,b,c⟩:=H.B6;exact(IV T L.kC 64 s.pool x w b).mono (λe w' a=>⟨a.1,c w' _ a.2.1 a.2.2⟩)
theorem M3 (F a b n m f:Int) (am:0<=f∧f<18446744073709551616) (H:ax ao S L s w) (hk:s.Ok k) (Q:k<=100000) (T:s.group a=U∨kx n=false∨e8 n≠0∨(s.free (-1) f).2≠0):Calls au 51 #[aX L.b,bk (cx F a b n m f)] w (iE ao S L (s.spawn a n f)):=by
 obtain⟨V,K⟩:=aW (w.alloc (av (cx F a b n m f) 33));obtain⟨X,Y,A,aq,B⟩:=H.enter _ K;have p:=C K;have y:=C aq;have q:=C A;have aN:=bJ (i:=1) B (v:=I J a) rfl;have ap:=bJ (i:=3) B (v:=I J n) rfl;have ac:=bJ (i:=5) B (v:=I ah f) rfl;have h:=C (k5 a A);have z:=C (λ(W:ab) (az:Below V.heap.size V W)=>r4 (-1) f (A.next az) hk Q);have ad:=C (λ(W:ab) (r:aa) (o:Nat) (v:Value) (aB:ax V X L r W) (aA:V.cell? ⟨w.heap.size,o,U⟩=R v)=>aB.kept Y aA zK9);have t:=C (w4 n V);unfold nE at t;generalize c:s.spawn a n f=Z;unfold aa.spawn at c;unfold aX at*;obtain⟨aQ,D⟩:=aW L.b;have aR:=C D;rw[D] at h⊢;rw[D] at z;unfold cx at p⊢;obtain⟨aS,aU,aP,M,_⟩:=xM n;cases u:s.group a with
 |none=>rw[u] at c;have j:=C c;rw[aa.mZ u] at h;go_enter func51,ntmps51;go_upto_region 1 with fail;rw[p.out];go_wp2_with fail;refine h.mono ?_;rintro e l ⟨rfl,d⟩;obtain rfl:=d.symm;go_wp2_with fail;go_ret2;rw[<-j.out];exact dh (y _ _ _ q)
 |some G=>
  rw[u] at c;dsimp only at c;rw[aa.lk u] at h;generalize aV:L.gk a.toNat=gb at h;cases E:kx n with
  |false=>rw[E] at M c;rw[aj rfl] at c;have j:=C c;go_enter func51,ntmps51;go_upto_region 1 with fail;rw[p.out];go_wp2_with fail;refine h.mono ?_;rintro e l ⟨rfl,d⟩;obtain rfl:=d.symm;go_wp2_with fail;go_ret2;rw[<-j.out];exact dh (y _ _ _ q)
  |true=>
   rw[E] at M c;rw[z0 (by decide)] at c;generalize aG:e8 n=N at t c;generalize aZ:ei n=a6 at t;by_cases x:N=0
   ·have O:(s.free (-1) f).2≠0:=by
     rcases T with g|g|g|g;·rw[u] at g;cases g
     ·rw[E] at g;cases g
     ·exact absurd (aG.trans x) g
     ·exact g
    rw[z0 (by rw[x];decide),aj O] at c;rw[decide_eq_false O] at z;generalize ak:(s.free (-1) f).1=a7 at z;have j:=C c;subst x;go_enter func51,ntmps51;go_upto_region 1 with fail;rw[p.out];go_wp2_with fail;refine h.mono ?_;rintro e l ⟨rfl,d⟩;obtain rfl:=d.symm;go_wp2_with fail;refine t.mono ?_;rintro e l ⟨rfl,d⟩;have a8:=ad l s 5 _ (q.next d) ac;have P:=C d;go_wp2_with fail;refine(z l P).mono ?_;rintro e ba ⟨rfl,aL⟩;have af:=C ((q.next P).next aL);go_wp2_with fail;go_ret2;rw[<-j.out];exact dh (y _ _ _ af)
   ·rw[aj x] at c;have j:=C c;have bb:(N !=0)=true:=(by simp[x]);go_enter func51,ntmps51;go_upto_region 1 with fail;rw[p.out];go_wp2_with fail;refine h.mono ?_;rintro e l ⟨rfl,d⟩;obtain rfl:=d.symm;go_wp2_with fail;refine t.mono ?_;rintro e l ⟨rfl,d⟩;have ae:=C (q.next d);go_wp2_with fail;go_ret2;rw[<-j.out];exact dh (y _ _ _ ae)
end
section
def Dy:Oper:={dst:=R 91,op:=Op.load 63 (Operand.tmp 90),type:=63,pos:= "sched.go:442",after:=#[{on:=6,ground:=Ground.data}],guard:=U}
attribute [local go_sem] Dy
section
variable {ao w:ab} {S:Nat->Prop} {L:bu} {s:aa} {k:Nat}
theorem M6 (a1 a b n m t:Int) (bu:0<=t∧t<18446744073709551616) (H:ax ao S L s w) (hk:s.Ok k) (gU:k<100000) {G:cb} (bt:s.group a=R G) (cc:kx n=true) (ai:e8 n=0) (cf:(s.free (-1) t).2=0):Calls au 51 #[aX L.b,bk (cx a1 a b n m t)] w (mo ao S L (s.spawn a n t)):=by
 obtain⟨V,cg⟩:∃V,w.alloc (av (cx a1 a b n m t) 33)=V:=⟨_,rfl⟩;obtain⟨bw,eo,aP,ci,a0⟩:=H.enter _ cg;have cj:=C cg;have cm:=C ci;have jE:=bJ (i:=1) a0 (v:=I J a) rfl;have eu:=bJ (i:=3) a0 (v:=I J n) rfl;have cn:=bJ (i:=5) a0 (v:=I ah t) rfl;have aV:=C (k5 a aP);have aG:=C (λ(W:ab) (A:Below V.heap.size V W)=>r4 (-1) t (aP.next A) hk (by omega));have bz:=C (λ(W:ab) (r:aa) (o:Nat) (v:Value) (ck:ax V bw L r W) (aL:V.cell? ⟨w.heap.size,o,U⟩=R v)=>ck.kept eo aL (bK _));have aZ:=C (w4 n V);unfold nE at aZ;obtain⟨ev,b8,ew⟩:=aa.hi bt;obtain⟨Q,rfl⟩:=dS ev;rw[bZ] at b8;obtain⟨Z,aq⟩:∃Z,s.spawn (Q:Int) n t=Z:=⟨_,rfl⟩;rw[aq];rw[aa.Aj,bt] at aq;dsimp only at aq;rw[cc,if_neg (by decide),ai,if_neg (by decide),cf,if_neg (by decide),bZ] at aq;rw[ai] at aZ;rw[cf] at aG;rw[show decide ((0:Int)=0)=true from rfl] at aG;obtain⟨ey,co⟩:=hk.pS (-1) t;obtain⟨p,cr⟩:=dS ey;rw[cr] at co;rw[cr] at aq aG;have a6:p<s.c.aO:=by omega
 have ae:=C (br b8 ew);have eG:=C ai;rw[aa.lk bt,bZ] at aV;unfold aX at*;obtain⟨E,a2⟩:∃b,L.b=b:=⟨_,rfl⟩;have B:=C a2;rw[a2] at aV⊢;rw[a2] at aG;obtain⟨a3,bB⟩:∃x,L.gk Q=x:=⟨_,rfl⟩;have bW:=C bB;rw[bB] at aV;unfold cx at cj⊢;obtain⟨bO,ek,j8,eH,_⟩:=xM n;rw[cc] at eH;obtain⟨f,cu⟩:∃x,s.tasks.length=x:=⟨_,rfl⟩;have am:=C cu;have eI:=hk.eJ.1;obtain⟨ac,cB⟩:∃x,ei n=x:=⟨_,rfl⟩;have cG:=C cB;rw[cB] at aZ;have a4:=C (λ(W:ab) (cs:ax V bw L s W)=>cs.M1 (s.tasks.length:Int));rw[cu] at a4 eI;unfold aX ti at a4;have cJ:=C aq;have fo:f<=100000:=by omega
 go_enter func51,ntmps51;go_upto_region 1 with fail;rw[cj.out];go_wp2_with fail;refine aV.out.mono ?_;rintro e a5 ⟨rfl,T⟩;obtain rfl:=T.symm;go_wp2_with fail;refine aZ.out.mono ?_;rintro e a5 ⟨rfl,T⟩;have j9:=bz.out a5 s 5 _ (aP.next T) cn;have b_:=C T;go_wp2_with fail;refine(aG.out a5 b_.out).mono ?_;rintro e eT ⟨rfl,eU⟩;have bF:=(aP.next b_.out).next eU;obtain⟨j_,ka,kb,cq⟩:=bF.qj B.out;rw[am.out] at cq;have a7:=bF.top.cell 6 Br;unfold aX at a7;rw[B.out] at a7;have az:=C (a4.out eT bF);obtain⟨bY,cv⟩:∃x,L.kC=x:=⟨_,rfl⟩;rw[cv] at a7 az;by_cases O:s.pool.many=64;·rw[aj O,aj O] at az;have aN:=cJ.out;rw[aj (by exact O)] at aN;have a9:=C aN;go_wp2_with fail;refine az.out.mono ?_;rintro e y ⟨rfl,aC⟩;have eW:=C aC;go_wp2_with fail;go_ret2;rw[<-a9.out];exact mY (cm.out _ _ _ (eW.out.next (bx _ _)))
 ·rw[if_neg O,if_neg O] at az;have aN:=cJ.out;rw[if_neg (by exact O)] at aN;have a9:=C aN;obtain⟨c,aL⟩:∃c,s.pool.put (f:Int)=c:=⟨_,rfl⟩;rw[aL] at az;have cM:=C aL;have ar:=C (show 0<=c.2.idx∧c.2.idx<64 by obtain⟨bI,_,_,_,bA,e2⟩:=hk.pool.qT (f:Int);rw[aL] at bI bA e2;have bL:=hk.cy;have T:an.many s.pool<=s.pool.pl.length:=(by unfold an.many;omega);have bd:an.many s.pool≠64:=O;exact⟨bI,by omega⟩);go_wp2_with fail;refine az.out.mono ?_;rintro e y ⟨rfl,aC⟩;go_upto_region 16 with fail;obtain⟨l,be⟩:∃l:aa,({s with pool:=c.1}:aa)=l:=⟨_,rfl⟩;have P:=C be;have ad:=C (show ax V bw L l y from by rw[<-be];exact aC);obtain⟨D,ap⟩:∃D,y.alloc (av #[I J c.2.idx,I J c.2.gen] 77)=D:=⟨_,rfl⟩;rw[ap];have a8:=C (show Below y.heap.size y D from ap▸bx _ _);have bN:ak D y.heap.size #[I J c.2.idx,I J c.2.gen] 77:=ap▸ak.new y _ _;have a_:D.heap.size=y.heap.size+1:=by rw[<-ap];simp
  have e3:=C a_;have fe:=bN.cell 0 (v:=I J c.2.idx) rfl;have bH:=bN.cell 1 (v:=I J c.2.gen) rfl;have kc:=bz.out D l 3 _ (ad.out.next a8.out) eu;have kd:=bz.out D l 5 _ (ad.out.next a8.out) cn;obtain⟨A,ba⟩:∃x,y.heap.size=x:=⟨_,rfl⟩;have X:=C ba;rw[ba] at fe bH;simp only[ba];clear be ap a_ ba a7 cq;go_upto_region 17 with fail;obtain⟨K,bb⟩:∃K,D.alloc (av #[I J c.2.idx,I J c.2.gen,aD false,aD false,I J (p:Int),af (R ⟨a3,0,U⟩),I J n,I ah (ac:Int),I ah t,I J 0,I ah 0,I J 0,I ah 0,I J 0] 81)=K:=⟨_,rfl⟩;rw[bb];have bS:ak K D.heap.size #[I J c.2.idx,I J c.2.gen,aD false,aD false,I J (p:Int),af (R ⟨a3,0,U⟩),I J n,I ah (ac:Int),I ah t,I J 0,I ah 0,I J 0,I ah 0,I J 0] 81:=bb▸ak.new D _ _;have aM:Below y.heap.size y K:=a8.out.trans ((show Below D.heap.size D K from bb▸bx _ _).mono a8.out.size);have bi:ak K y.heap.size #[I J c.2.idx,I J c.2.gen] 77:=bb▸bN.alloc _;have bC:=C bS;have fG:=C bi;obtain⟨d,ag⟩:∃x,D.heap.size=x:=⟨_,rfl⟩;have fH:=C ag;have cW:d=A+1:=by rw[<-ag,e3.out,X.out]
  have bf:A≠d:=by omega
  have bT:=C cW;clear cW;rw[ag] at bS;rw[X.out] at bi;simp only[ag];have fI:=ad.out.next aM;have c8:=bi.cell 0 (v:=I J c.2.idx) rfl;have fJ:=bS.cell 5 (v:=af (R ⟨a3,0,U⟩)) rfl;have cF:eF l:=by rw[<-P.out];exact hk.lens
  have c_:l.hiers[p]?=R (s.aY (p:Int)):=by have bc:=hk.ep (p:=(p:Int)) (by omega) (by have:=a6;omega);rw[bZ] at bc;rw[<-P.out];exact bc
  have fK:=(hk.aY p _ (by have:=c_;rw[<-P.out] at this;exact this)).1;have fR:l.groups[Q]?=R G:=by rw[<-P.out];exact ae.out.1
  have bE:p<l.c.aO:=by rw[<-P.out];exact a6
  have bX:=C ((M0 p bE d fR cF c_ fK K.drew fI.drew (by rw[bW.out];exact b2 fJ)).mono (λe w' j=>show e=aK (I J ((s.aY (p:Int)).minOf G.h.idx))∧Below K.heap.size K w' from⟨j.1,by obtain⟨_,x,rfl⟩:=j;exact below_drewN (Below.refl _ _).drew x⟩));rw[B.out] at bX;obtain⟨bV,da⟩:∃x,(s.aY (p:Int)).minOf G.h.idx=x:=⟨_,rfl⟩;have aI:=C da;rw[da] at bX;go_region_held3 (λW'=>W'.cell? ⟨A,0,U⟩=R (I J c.2.idx)) (repeat(first|(with_reducible assumption)|(with_reducible refine b2 ?_)|(with_reducible refine j0 (by with_reducible assumption) ?_))) (first|(go_at_call 36;refine bX.out.mono ?_;rintro e aJ ⟨rfl,b1⟩;have F:=bC.out.next b1;rw[fH.out] at F;have ke:=F.cell 9 (v:=I J 0) rfl;have aH:=F.cell 10 (v:=I ah 0) rfl;have kf:=F.cell 11 (v:=I J 0) rfl;have kg:=F.cell 12 (v:=I ah 0) rfl;have kh:=F.free 9;have kG:=F.free 10;have kH:=F.free 11;have kI:=F.free 12;have al:=fG.out.next b1;rw[X.out] at al;have kJ:=al.cell 0 (v:=I J c.2.idx) rfl;have fX:=C b1;have fY:=C F;have dv:=C al));all_goals
   obtain⟨q,bg⟩:∃q,(((aJ.setCell ⟨d,9,U⟩ (I J c.2.idx)).setCell ⟨d,10,U⟩ (I ah (ac:Int))).setCell ⟨d,11,U⟩ (I J bV)).setCell ⟨d,12,U⟩ (I ah 0)=q:=⟨_,rfl⟩;rw[bg];obtain⟨Y,cZ⟩:∃Y:ex,(⟨c.2,false,false,(p:Int),Q,n,ac,t,⟨c.2.idx,ac,bV,0⟩,0⟩:ex)=Y:=⟨_,rfl⟩;have bj:=C cZ;have de:ak q d (k3 L Y) 81:=(by rw[<-bg,<-cZ];unfold k3 aX;dsimp only;rw[bW.out];exact(((fY.out.set 9 (I J c.2.idx)).set 10 (I ah (ac:Int))).set 11 (I J bV)).set 12 (I ah 0));have b3:ak q A #[I J c.2.idx,I J c.2.gen] 77:=bg▸((((dv.out.other bf _).other bf _).other bf _).other bf _);have aQ:y.heap.size<=d:=(by have bL:=bT.out;have T:=X.out;omega);have fZ:Below y.heap.size y q:=bg▸((((aM.trans (fX.out.mono aM.size)).setCell aQ _).setCell aQ _).setCell aQ _).setCell aQ _;have f_:d<q.heap.size:=de.lt;obtain⟨aw,bh,aB,gw⟩:=ad.out.nS fZ;have ch:=C gw;have gF:=C (λg (j:aw g)=>(bh g j).1);have gG:=C (show¬aw d fromλb6=>by have:=(bh _ b6).1;omega);have gH:=C (show∀k,(aw k∨k=d)->(aw k∨y.heap.size<=k) fromλk b6=>b6.elim .inl (λe=>.inr (by rw[e];exact aQ)));have bR:l.tasks.length=f:=(by rw[<-P.out];exact am.out);have bG:=C bR;obtain⟨df,di,bl,gI⟩:=aB.qj B.out;rw[bR] at bl gI;obtain⟨b0,gV⟩:=aB.fy .fx;have ca:Own dp q 0 73 L.tv (hl L l).length (hl L l):=gV.1;rw[oZ,bR,bl] at ca;have c8:=b3.cell 0 (v:=I J c.2.idx) rfl;obtain⟨z,dA⟩:=dS ar.out.1;have dF:z<64:=(by have:=ar.out.2;omega);have bn:=C dA;rw[dA] at c8;have kK:(z:Int)<64:=(by omega);have k8:(z:Int).toNat=z:=(by omega);have k9:(0:Int)<=(z:Int):=(by omega);have gW:=C (ca.drew.alloc (av #[af (R ⟨d,0,U⟩)] 73));have c0:=C (show∀j u,(dp.e (R d))[j]?=R u->(q.drew.alloc (av #[af (R ⟨d,0,U⟩)] 73)).cell? ⟨q.drew.heap.size,j,U⟩=R u fromλj u bs=>dz.trans (by rw[<-bs];show([af (R ⟨d,0,U⟩)]:List Value).toArray[j]?=_;rw[fg];rfl));have bM:0<=(q.drew.alloc (av #[af (R ⟨d,0,U⟩)] 73)).heap.size:=gN _;have c2:f<=10000000:=(by omega);have k_:E<q.heap.size:=(by rw[<-B.out];exact aB.top.lt);have bo:=C (show∀g,(ay df f di).ownBlock=R g->g≠E∧g≠A∧g≠d fromλg e=>by
    obtain⟨bL,T,bd⟩:=aB.MR (by rw[bl];exact e);rw[B.out] at bd;have c3:=bT.out;have dG:=X.out;rcases bL with j|j;·have:=gF.out g j;exact⟨bd,by omega,by omega⟩
    ·omega)
   have b4:A<q.heap.size:=b3.lt;have la:A≠E:=λe=>by have b9:=ad.out.top.lt;rw[B.out] at b9;have dG:=X.out;omega
   have c4:=C (show ak (q.drew.alloc (av #[af (R ⟨d,0,U⟩)] 73)) E (cR L l) 72 from by rw[<-B.out];exact aB.top.drew.alloc _);have c5:=C (show ak (q.drew.alloc (av #[af (R ⟨d,0,U⟩)] 73)) A #[I J c.2.idx,I J c.2.gen] 77 from b3.drew.alloc _);have bm:=C (show l.places.length=32∧l.at_.length=64 by rw[<-P.out];exact⟨hk.eB,hk.gP⟩);have bq:=C bl;obtain⟨ld,bU⟩:∃x,l.at_[z]?=R x:=⟨_,b5 (by rw[bm.out.2];exact dF)⟩;have h3:=C bU;go_wp2_with fail;rw[show({dst:=R 91,op:=Op.load 63 (Operand.tmp 90),type:=63,pos:= "sched.go:442",after:=#[{on:=6,ground:=Ground.data}],guard:=U}:Oper)=Dy from rfl];go_region_held3 (λW'=>W'.cell? ⟨A,0,U⟩=R (I J z)) (repeat(first|(with_reducible assumption)|(with_reducible refine b2 ?_)|(with_reducible refine j0 (by with_reducible assumption) ?_)|(with_reducible refine fq _ ?_ ?_))) ((refine oR MT (by rfl) _ _ (by rfl) 0 _ f (hl L l) (by rfl) gW.out q.drew.heap.size _ (R d) (by rfl) c0.out c2 bM ?_;intro lf u dH h4 c9;obtain⟨M,N,rfl,lg⟩:=dH.form (Nat.succ_pos _);have aR:=C (show Grow _ u (ay df f di) (ay (R ⟨M,0,U⟩) (f+1) N) from Grow.gR h4 c9);have aS:=c4.out.grow aR.out (λe=>(bo.out E e.symm).1 rfl);have dI:=c5.out.grow aR.out (λe=>(bo.out A e.symm).2.1 rfl);rw[bn.out] at dI;have bI:=dI.cell 0 (v:=I J z) rfl;have h5:=aS.cell 7 p4;rw[bq.out] at h5;have lh:=aS.cell (41+z) (tm bm.out.1 h3.out);have ki:=aS.free 7;have lj:=aS.free (41+z);have db:=C dH;have iz:=C aS));all_goals
    obtain⟨aA,aU⟩:∃aA,(u.setCell ⟨E,7,U⟩ (ay (R ⟨M,0,U⟩) (f+1) N)).setCell ⟨E,41+z,U⟩ (I J (f:Int))=aA:=⟨_,rfl⟩;rw[aU];have d0:E<A:=(by have b9:=ad.out.top.lt;rw[B.out] at b9;have dG:=X.out;omega);have dB:d≠E:=(by have c3:=bT.out;omega);have iA:Mod (λk=>k=L.b∨L.tv.ownBlock=R k) q (q.drew.alloc (av #[af (R ⟨d,0,U⟩)] 73)):=((Mod.refl _ _).drew).alloc _;have iB:Mod (λk=>k=L.b∨L.tv.ownBlock=R k) q aA:=(by rw[<-aU];exact((iA.grow aR.out (λg e=>.inr (by rw[bq.out];exact e))).setCell (.inl B.out.symm) _).setCell (.inl B.out.symm) _);have dT:∀g,(ay (R ⟨M,0,U⟩) (f+1) N).ownBlock=R g->L.tv.ownBlock=R g∨q.heap.size<=g:=λg e=>by
     rcases aR.out.loc with j|⟨d1,j,bs⟩;·exact .inl (by rw[bq.out,<-j];exact e)
     ·rw[e] at j;cases j;exact .inr (cA (by simp) bs)
    have bQ:∀g,(ay (R ⟨M,0,U⟩) (f+1) N).ownBlock=R g->¬g=E:=λg e=>by
     rcases dT g e with j|j;·rw[bq.out] at j;exact(bo.out g j).1
     ·omega
    have dg:Own dp aA 0 73 (ay (R ⟨M,0,U⟩) (f+1) N) (f+1) (hl L l++[R d]):=(by rw[<-aU];exact db.out.mod (nT _ _ _ _ _ _) bQ);have iC:ak aA L.b (cR (L.ga f d (ay (R ⟨M,0,U⟩) (f+1) N)) (l.ga Y z)) 72:=(by rw[<-MW bm.out.1 bm.out.2 dF bG.out,B.out,<-aU];exact(iz.out.set 7 _).set (41+z) _);have aE:ak aA d (k3 L Y) 81:=(by rw[<-aU];exact((((de.drew).alloc _).grow aR.out (λe=>(bo.out d e.symm).2.2 rfl)).other dB _).other dB _);have bc:=aB.ga gG.out f_ bG.out iB dg dT iC aE;have dU:=ch.out _ _ _ (bc.lX gH.out);have hH:l.ga Y z=s.born Q n t (p:Int):=(by rw[<-P.out,<-bj.out];have bv:=aa.lL ae.out.1;have iD:z=c.2.idx.toNat:=(by rw[bn.out];omega);unfold aa.ga aa.born;rw[am.out,cM.out,bv,aI.out,cG.out,iD]);rw[hH] at dU;have dl:(s.born Q n t (p:Int)).tasks[f]?=R Y:=(by have ce:=s.Ai Q n t (p:Int);have bv:=aa.lL ae.out.1;rw[am.out,cM.out,bv,aI.out,cG.out,bj.out] at ce;exact ce);have iW:=hk.born ae.out.1 ae.out.2 eG.out bu (p:=(p:Int)) (by omega) (by have:=a6;omega) O;have dV:=tH dl (by rw[<-bj.out]) (by rw[<-bj.out]) p a6 false dU iW;rw[show aX (L.ga f d (ay (R ⟨M,0,U⟩) (f+1) N)).b=af (R ⟨E,0,U⟩) by rw[<-B.out];rfl,show aX ((L.ga f d (ay (R ⟨M,0,U⟩) (f+1) N)).tk f)=af (R ⟨d,0,U⟩) by show aX (if f=f then d else L.tk f)=_;rw[aj rfl];rfl] at dV;have iX:=C dV;go_wp2_with fail;refine iX.out.mono ?_;rintro e d2 ⟨rfl,bP⟩;go_wp2_with fail;go_ret2;rw[<-a9.out,am.out];exact⟨rfl,L.ga f d (ay (R ⟨M,0,U⟩) (f+1) N),rfl,cm.out _ _ _ bP⟩
theorem M7 (f a b n m c:Int) (g:0<=c∧c<18446744073709551616) (H:ax ao S L s w) (hk:s.Ok k) (h:k<100000):Calls au 51 #[aX L.b,bk (cx f a b n m c)] w (mo ao S L (s.spawn a n c)):=by
 by_cases d:s.group a=U∨kx n=false∨e8 n≠0∨(s.free (-1) c).2≠0;·exact(M3 f a b n m c g H hk (by omega) d).mono (λe w' i=>i.kM)
 ·obtain⟨G,j⟩:∃G,s.group a=R G:=by
   cases e:s.group a with
   |none=>exact absurd (.inl e) d
   |some G=>exact⟨G,rfl⟩
  refine M6 f a b n m c g H hk h j ?_ ?_ ?_;·cases e:kx n with
   |false=>exact absurd (.inr (.inl e)) d
   |true=>rfl
  ·exact Classical.byContradiction (λe=>d (.inr (.inr (.inl e))))
  ·exact Classical.byContradiction (λe=>d (.inr (.inr (.inr e))))
end
end
section
def Dz:Oper:={dst:=R 89,op:=Op.load 64 (Operand.tmp 88),type:=64,pos:= "sched.go:322",after:=#[{on:=6,ground:=Ground.data}],guard:=U}
attribute [local go_sem] Dz
section
variable {ao w w':ab} {S:Nat->Prop} {L:bu} {s:aa} {k:Nat}
theorem ax.M8 (H:ax ao S L s w):S L.b∨ao.heap.size<=L.b:=by obtain⟨a,c,H⟩:=H;exact H.own _ (H.part .top).1.lt (by rw[(H.part .top).2];simp)
theorem M9 (h:w.grownBy w' U):Below w.heap.size w w':=⟨h.os,h.tape,h.output,h.size,λk a=>h.block k a (by simp)⟩
theorem M_ (w:ab):Calls au 85 #[] w.drew λe w'=>e=aK (af (R ⟨w.heap.size,0,U⟩))∧gQ w' w.heap.size []∧Below w.heap.size w w':=(HA w.drew).mono λe w' q=>⟨q.1,⟨_,_,_,q.2.1,rfl⟩,(Below.refl _ _).drew.trans (M9 q.2.2)⟩
theorem Na (aI a b n m cZ:Int) (H:ax ao S L s w) (hk:s.Ok k) (gw:k<100000) {G:cb} (ba:s.group a=R G) (a2:kv n=true) (bV:ae.fl s.tree G.h=0):Calls au 45 #[aX L.b,bk (cx aI a b n m cZ)] w (mo ao S L (s.grow a n)):=by
 obtain⟨V,b1⟩:∃V,w.alloc (av (cx aI a b n m cZ) 33)=V:=⟨_,rfl⟩;obtain⟨ch,gF,aB,gG,de⟩:=H.enter _ b1;have bh:=C b1;have gH:=C (show w.heap.size<V.heap.size by rw[<-b1];simp);have gI:=C gG;have eq:=bJ (i:=1) de (v:=I J a) rfl;have gV:=bJ (i:=3) de (v:=I J n) rfl;have cd:=C aB;have aA:=C hk;have gW:=C gw;have bb:=C (k5 a aB);have c0:=C (λ(W:ab) (bM:bu) (r:aa) (z:ax V ch bM r W)=>z.kept gF gV (bK _));obtain⟨Z,aG⟩:∃Z,s.grow a n=Z:=⟨_,rfl⟩;rw[aG];unfold aa.grow at aG;unfold aX at*;obtain⟨D,a3⟩:∃b,L.b=b:=⟨_,rfl⟩;have y:=C a3;rw[a3] at bb⊢;unfold cx at bh⊢;obtain⟨c2,ag,c3⟩:=aa.hi ba;rw[ba] at aG;dsimp only at aG;rw[aa.lk ba] at bb;obtain⟨g,rfl⟩:=dS c2;rw[bZ] at bb ag;obtain⟨bf,a4⟩:∃b,L.gk g=b:=⟨_,rfl⟩;have bc:=C a4;rw[a4] at bb;have bG:=C (xF n V);rw[a2,if_neg (by decide),bV,if_neg (by decide)] at aG;rw[a2] at bG;have es:=C ag;have c4:=C c3;have c5:=C (q4.1 a2);obtain⟨tW,mu⟩:=q4.1 a2;have cl:IntKind.u64.wrap n=n:=by rw[ni];omega
 obtain⟨al,b3,_,_⟩:=hk.tree.sI bV;obtain⟨_,v1,ex,_⟩:=aB.dw ag a4;have b6:=aB.top.cell 5 j2;have bU:D<V.heap.size:=by rw[<-a3];exact aB.top.lt
 have h3:bf<V.heap.size:=by rw[<-a4];exact(aB.aw ag).lt
 have h4:D≠V.heap.size:=by omega
 have c9:bf≠V.heap.size:=by omega
 have aN:=C (aB.drew.ya hk G.h);have aj:=C (aB.Dv hk G.h);rw[bV] at aN aj;obtain⟨bR,h5⟩:∃x,ae.create s.tree G.h=x:=⟨_,rfl⟩;rw[h5] at aN aj aG al b3;obtain⟨f,iz⟩:∃x,bR.2=x:=⟨_,rfl⟩;rw[iz] at aN aj aG al b3;obtain⟨K,bs⟩:∃x,({s with tree:=bR.1}:aa)=x:=⟨_,rfl⟩;rw[bs] at aN aj;have O:=C bs;have iA:=C aG;have df:=C (br al b3);have aP:=C (show K.groups[g]?=R G by rw[<-bs];exact ag);obtain⟨iB,di⟩:∃x,L.eE=x:=⟨_,rfl⟩;have ca:=C di;unfold aX at b6 aN aj;rw[di] at b6 aN aj;rw[a3] at b6;go_enter func45,ntmps45;go_upto_region 1 with fail;rw[bh.out];go_wp2_with fail;refine bb.out.mono ?_;rintro e tX ⟨rfl,Q⟩;obtain rfl:=Q.symm;go_wp2_with fail;refine bG.out.mono ?_;rintro e tY ⟨rfl,A⟩;obtain rfl:=A.symm;go_wp2_with fail;go_region_held3 (λW'=>W'.cell? ⟨D,5,U⟩=R (af (R ⟨iB,0,U⟩))∧W'.cell? ⟨bf,1,U⟩=R (I J G.h.idx)∧W'.cell? ⟨bf,2,U⟩=R (I J G.h.gen)) ((refine⟨?_,?_,?_⟩)<;>(with_reducible repeat(first|assumption|refine b2 ?_|refine j0 (by first|exact h4|exact c9|exact bQ|exact dg) ?_|refine fq _ (by first|exact bU|exact h3|exact b9|exact bv) ?_))) (first
  |(
   go_at_call 84;with_reducible refine aN.out.mono ?_;rintro e aL ⟨rfl,X⟩
   obtain⟨_,iC,aE,_⟩:=X.dw aP.out bc.out;have bg:=X.top.cell 5 j2;unfold aX at bg;rw[y.out,ca.out] at bg;have b9:=X.top.lt;rw[y.out] at b9;have bv:=(X.aw aP.out).lt;rw[bc.out] at bv;have bQ:=pC b9;have dg:=pC bv;have dA:=C X)|(
   go_at_call 84;with_reducible refine aj.out.mono ?_;rintro e aL ⟨rfl,X,bj,hH⟩
   obtain⟨_,iC,aE,_⟩:=X.dw aP.out bc.out;have bg:=X.top.cell 5 j2;unfold aX at bg;rw[y.out,ca.out] at bg;have cp:=bj.cell 0 (v:=I J 0) rfl;have tZ:=bj.cell 1 (v:=I J 0) rfl;have t_:=bj.free 0;have ua:=bj.free 1;have dA:=C X;have iD:=C bj;have dl:=C hH))
 all_goals
  first
   |(
    obtain⟨q,ap⟩:∃q,aL.alloc (av #[I J f.idx,I J f.gen] 77)=q:=⟨_,rfl⟩;rw[ap];obtain⟨a1,cc,aQ,a5⟩:=dA.out.rT (show Below aL.heap.size aL q from ap▸bx _ _);have aR:ak q aL.heap.size #[I J f.idx,I J f.gen] 77:=ap▸ak.new _ _ _;have aK:∀k,a1 k->k≠aL.heap.size:=λk d=>by have:=cc k d;omega
    obtain⟨M,an⟩:∃x,aL.heap.size=x:=⟨_,rfl⟩;rw[an] at aR aK;simp only[an])|(obtain⟨q,ap⟩:∃q,(aL.setCell ⟨V.heap.size,0,U⟩ (I J f.idx)).setCell ⟨V.heap.size,1,U⟩ (I J f.gen)=q:=⟨_,rfl⟩;rw[ap];obtain⟨a1,cc,aQ,a5⟩:=dl.out q (ap▸nT _ _ _ _ _ _);have aR:ak q V.heap.size #[I J f.idx,I J f.gen] 77:=ap▸((iD.out.set 0 _).set 1 _);have aK:∀k,a1 k->k≠V.heap.size:=λk d=>(cc k d).2;obtain⟨M,an⟩:∃x,V.heap.size=x:=⟨_,rfl⟩;rw[an] at aR aK;simp only[an])
  have iW:=C aK;have iX:=C aR;have cf:=C aQ;have bP:=C a5;have bF:=aR.cell 0 (v:=I J f.idx) rfl;have gU:=aR.cell 1 (v:=I J f.gen) rfl;have jE:=c0.out q L K (a5 _ _ _ aQ);obtain⟨cg,cj,dF,_,_,cm⟩:=aQ.x8 aP.out c4.out;rw[y.out] at cm;obtain⟨o,bn⟩:∃x,K.groups.length=x:=⟨_,rfl⟩;rw[bn] at cm dF;have bl:=C bn;have am:=C dF;have dG:=C (M_ q);obtain⟨lb,a9⟩:∃x,q.heap.size=x:=⟨_,rfl⟩;have Y:=C a9;rw[a9] at dG;have dH:D<lb:=by rw[<-a9,<-y.out];exact aQ.top.lt
  have cn:M<lb:=by rw[<-a9];exact aR.lt
  have dI:w.heap.size<lb:=by have F:=(a5 _ _ _ aQ).1.size;have Q:=gH.out;omega
  go_wp2_with fail;go_region_held3 (λW'=>W'.cell? ⟨D,8,U⟩=R (ay (R ⟨cg,0,U⟩) o cj)∧W'.cell? ⟨M,0,U⟩=R (I J f.idx)∧W'.cell? ⟨M,1,U⟩=R (I J f.gen)∧W'.cell? ⟨w.heap.size,3,U⟩=R (I J n)) ((refine⟨?_,?_,?_,?_⟩)<;>(with_reducible repeat(first|assumption|refine b2 ?_|refine fq _ (by first|exact bO|exact ek|exact j8) ?_))) (first|(
   go_at_call 85;with_reducible refine dG.out.mono ?_;rintro e bo ⟨rfl,dB,fo⟩
   have bm:Below q.heap.size q bo:=(by rw[Y.out];exact fo);have cC:=(Mod.below (S:=λ_=>False) bm).cell cm (by rw[Y.out];exact dH) id;have ub:=(Mod.below (S:=λ_=>False) bm).cell bF (by rw[Y.out];exact cn) id;have cw:=(Mod.below (S:=λ_=>False) bm).cell gU (by rw[Y.out];exact cn) id;have cz:=(Mod.below (S:=λ_=>False) bm).cell jE (by rw[Y.out];exact dI) id;have b8:=dB.lt;have bO:=Nat.lt_trans dH b8;have ek:=Nat.lt_trans cn b8;have j8:=Nat.lt_trans dI b8;have dT:=C dB;have dU:=C bm))
  all_goals
   obtain⟨aV,aC⟩:∃aV,bo.alloc (av #[I J (o:Int),I J f.idx,I J f.gen,I ah n,I J 0,af U,af (R ⟨lb,0,U⟩)] 85)=aV:=⟨_,rfl⟩;rw[aC];have cr:ak aV bo.heap.size #[I J (o:Int),I J f.idx,I J f.gen,I ah n,I J 0,af U,af (R ⟨lb,0,U⟩)] 85:=aC▸ak.new _ _ _;have ce:Below q.heap.size q aV:=aC▸dU.out.alloc dU.out.size _;have bB:gQ aV lb []:=aC▸dT.out.mod (Mod.below (S:=λ_=>False) (bx _ _)) id;have dV:lb<bo.heap.size:=dT.out.lt;obtain⟨gb,eo⟩:∃x,bo.heap.size=x:=⟨_,rfl⟩;rw[eo] at cr dV;simp only[eo];have bq:=C cr;have ci:=C ce;have j9:=C bB;have bW:=C dV;have j_:=cf.next ce;have eu:=j_.top.cell 0 oS;rw[y.out] at eu;have cu:=aA.out.aO;have cB:K.c.aO=s.c.aO:=(by rw[<-O.out]);generalize ka:s.c.aO=aS at cB cu;rw[cB] at eu;have ck:=C ka;have bI:=C cB;have kb:=C (J7 aS cu.1 cu.2 aV);have cN:=cr.cell 5 (v:=af U) rfl;go_wp2_with fail;apply kb.mono;rintro e bY ⟨db,rfl,kc,kd,ev⟩;have ew:=C kc;have bt:=C kd;have ey:=C ev;have aZ:=bq.next ev;have uc:=aZ.cell 5 (v:=af U) rfl;have qh:=aZ.free 5;have ke:=C aZ;go_upto_region 11 with fail;generalize bL:bY.setCell ⟨gb,5,U⟩ (af (R ⟨db,0,U⟩))=a6;have bp:=bq.out.lt;have co:q.heap.size<=gb:=(by have F:=bW.out;have Q:=Y.out;omega);have eG:Below q.heap.size q a6:=bL▸(ci.trans (ey.mono ci.size)).setCell (p:=⟨gb,5,U⟩) co _;have eH:db≠gb:=(by have:=bt.out;omega);have eI:lb≠gb:=(by have:=bW.out;omega);have aH:db≠lb:=(by have:=bt.out;have:=bW.out;omega);have cG:=C (br eH (br eI aH));have bd:=C co;have eT:=C (show ak a6 gb #[I J (o:Int),I J f.idx,I J f.gen,I ah n,I J 0,af (R ⟨db,0,U⟩),af (R ⟨lb,0,U⟩)] 85 from bL▸ke.out.set 5 _);have cJ:=C (show ct a6 db (aM.new aS) from bL▸⟨ew.cs.other eH _,ew.cy⟩);have eU:=C (show gQ a6 lb [] from bL▸(j9.mod (zF9 ey) id).mod (Mod.one _ _ _ _) eI);have aZ:=iX.next eG;have b_:=C aZ;obtain⟨cq,cM,a7,kf⟩:=cf.nS eG;have be:=C a7;have kg:=C kf;have aq:=C (show∀k,cq k->k<q.heap.size∧k≠M fromλk d=>⟨(cM k d).1,iW k ((cM k d).2.elim id (λe=>absurd (cM k d).1 (by omega)))⟩);have kh:=C (br eT.lt (br cJ.cs.lt (br eU.lt aZ.lt)));have cv:eF K:=(by rw[<-O.out];exact aA.lens);have eW:=C cv;obtain⟨ud,cD,bA,_,e2⟩:=a7.iT cv (p:=0) (by rw[bI.out];omega);rw[bI.out] at bA e2;rw[y.out] at e2;have kG:=C bA;go_wp2_with fail;go_loopw [68] (λu W=>∃j:Nat,j<=aS∧u=I J (j:Int)∧ax a6 cq L (K.fz (λx=>x.link f.idx G.h.idx) j) W) (λu _=>aS-(intOf u).toNat);case atStart=>exact⟨0,by omega,rfl,by rw[aa.x0];exact be⟩
   case round=>
    obtain⟨j,ue,rfl,z⟩:=hrel;have uf:=C z;by_cases e3:j<aS;·obtain⟨x,ai⟩:∃x,s.hiers[j]?=R x:=⟨_,b5 (by rw[aA.out.hlen,ck.out];exact e3)⟩;have kH:=(aA.aY j x ai).1;have fe:K.hiers[j]?=R x:=(by rw[<-O.out];exact ai);have kI:j<K.c.aO:=(by rw[bI.out];exact e3);have kJ:=C (eW.fz (λx=>x.link f.idx G.h.idx) (j:=j) (by omega));obtain⟨b0,_⟩:=z.fF kJ (p:=j) kI kG;have bH:=C (z.drew.k6 (aa.x2 _ fe) (λT ba=>Mc T (L.hk j) x f.idx G.h.idx wr.drew ba kH));obtain⟨_,v1,_⟩:=z.dw (g:=g) (show(K.fz _ j).groups[g]?=R G from aP) bc;have bw:=b_.mod z.1 (λe=>(aq _ e).2 rfl);have bF:=bw.cell 0 (v:=I J f.idx) rfl;have kK:=C fe;obtain⟨dP,k8⟩:∃x,L.hk j=x:=⟨_,rfl⟩;rw[k8] at b0 bH;have cI:(j:Int)<(aS:Int):=(by omega);have ug:(0:Int)<=(j:Int):=(by omega);have uh:(j:Int).toNat=j:=(by omega);go_wp2_with fail;go_region_held3 (λW'=>W'.cell? ⟨M,0,U⟩=R (I J f.idx)∧W'.cell? ⟨bf,1,U⟩=R (I J G.h.idx)) ((refine⟨?_,?_⟩)<;>(with_reducible repeat(first|assumption|refine b2 ?_))) (first|(go_at_call 87;refine bH.mono ?_;rintro e ui ⟨rfl,bN⟩;rw[aa.x3 (λx=>x.link f.idx G.h.idx) kK.out] at bN;have uj:=(b_.mod bN.1 (λe=>(aq _ e).2 rfl)).cell 0 (v:=I J f.idx) rfl;have ar:=(bN.dw (g:=g) (show(K.fz _ (j+1)).groups[g]?=R G from aP) bc).2.1;have k9:=C bN));all_goals
     go_wp2_with fail;go_roundw;case rel=>exact⟨j+1,by omega,by go_num,k9⟩
     case measure=>simp[intOf];omega
    ·obtain rfl:j=aS:=by omega
     obtain⟨N,bS⟩:∃x,K.fz (λx=>x.link f.idx G.h.idx) j=x:=⟨_,rfl⟩;have a_:=C bS;rw[bS] at z;have k_:=C z;have bC:N.groups.length=o:=(by rw[<-bS];exact bl);have fG:=C bC;obtain⟨uk,b4⟩:=z.fy .e1;have fH:Own dp wr 0 65 L.gv (fV L N).length (fV L N):=b4.1;rw[tx,bC,am.out] at fH;have bw:=b_.mod z.1 (λe=>(aq _ e).2 rfl);have bF:=bw.cell 0 (v:=I J f.idx) rfl;obtain⟨E,fI⟩:=dS (show 0<=f.idx by have:=df.1;omega);have fJ:E<32:=(by have:=df.2;omega);have cF:=C fI;rw[fI] at bF;have um:(E:Int)<32:=(by omega);have uo:(E:Int).toNat=E:=(by omega);have uq:(0:Int)<=(E:Int):=(by omega);have la:=C (fH.drew.alloc (av #[af (R ⟨gb,0,U⟩)] 65));have ld:=C (show∀d u,(dp.e (R gb))[d]?=R u->(wr.drew.alloc (av #[af (R ⟨gb,0,U⟩)] 65)).cell? ⟨wr.drew.heap.size,d,U⟩=R u fromλd u cW=>dz.trans (by rw[<-cW];show([af (R ⟨gb,0,U⟩)]:List Value).toArray[d]?=_;rw[fg];rfl));have lf:0<=(wr.drew.alloc (av #[af (R ⟨gb,0,U⟩)] 65)).heap.size:=gN _;have lg:o<=10000000:=(by have F:=aA.eJ.2;have Q:=gW.out;have A:=bl.out;rw[<-O.out] at A;change s.groups.length=o at A;omega);have bi:=C (show∀d,(ay (R ⟨cg,0,U⟩) o cj).ownBlock=R d->d≠D∧d≠M∧d≠gb∧d≠db∧d≠lb fromλd e=>by
      obtain⟨F,Q,A⟩:=be.MS (by rw[am.out];exact e);rw[y.out] at A;have lh:=bd.out;have cH:=bt.out;have aQ:=bq.out.lt;have ur:=Y.out;rcases F with P|P;·have:=aq d P;exact⟨A,this.2,by omega,by omega,by omega⟩
      ·omega)
     have qi:M<wr.heap.size:=bw.lt;have uu:D<wr.heap.size:=(by rw[<-y.out];exact z.top.lt);have ki:D<a6.heap.size:=(by rw[<-y.out];exact be.top.lt);have lj:cq D:=(by have F:=be.out.M8;rw[y.out] at F;exact F.elim id (λe=>absurd ki (by omega)));have d0:=C (show ak (wr.drew.alloc (av #[af (R ⟨gb,0,U⟩)] 65)) D (cR L N) 72 from by rw[<-y.out];exact z.top.drew.alloc _);have d1:=C (show ak (wr.drew.alloc (av #[af (R ⟨gb,0,U⟩)] 65)) M #[I J f.idx,I J f.gen] 77 from bw.drew.alloc _);have d2:=C (eT.mod z.1 (λe=>by have F:=aq _ e;have Q:=bd.out;omega));have fK:=C (show ct wr db (aM.new j) from⟨cJ.cs.mod z.1 (λe=>by have F:=aq _ e;have Q:=bd.out;have A:=bt.out;have lh:=bq.out.lt;omega),cJ.cy⟩);have d3:=C (eU.mod z.1 (λe=>by have F:=aq _ e;have Q:=Y.out;omega));have d4:=z.top.cell 8 p5;rw[y.out,am.out] at d4;have c8:=C (show N.places.length=32 by rw[<-bS,<-O.out];exact aA.eB);obtain⟨uv,d5⟩:∃x,N.places[E]?=R x:=⟨_,b5 (by rw[c8.out];exact fJ)⟩;have d6:=C d5;have uw:M≠D:=λe=>by subst e;exact(aq _ lj).2 rfl
     go_wp2_with fail;rw[show({dst:=R 89,op:=Op.load 64 (Operand.tmp 88),type:=64,pos:= "sched.go:322",after:=#[{on:=6,ground:=Ground.data}],guard:=U}:Oper)=Dz from rfl];go_region_held3 (λW'=>W'.cell? ⟨M,0,U⟩=R (I J E)) (with_reducible repeat(first|assumption|refine b2 ?_|refine j0 (by with_reducible assumption) ?_|refine fq _ ?_ ?_)) ((refine oR MU rfl _ _ rfl 0 _ o (fV L N) rfl la wr.drew.heap.size _ (R gb) rfl ld lg lf ?_;intro cK u fR d7 bB;obtain⟨ac,az,rfl,dn⟩:=fR.form (Nat.succ_pos _);have bT:=C (show Grow _ u (ay (R ⟨cg,0,U⟩) o cj) (ay (R ⟨ac,0,U⟩) (o+1) az) from Grow.gR d7 bB);have aD:=d0.grow bT (λe=>(bi D e.symm).1 rfl);have bE:=d1.grow bT (λe=>(bi M e.symm).2.1 rfl);rw[cF.out] at bE;have ux:=bE.cell 0 (v:=I J E) rfl;have d8:=aD.cell 8 p5;rw[am.out] at d8;have cQ:=aD.cell (9+E) (p6 c8 d6);have uy:=aD.free 8;have uz:=aD.free (9+E);have d9:=C fR;have b7:=C aD));all_goals
      generalize c_:(u.setCell ⟨D,8,U⟩ (ay (R ⟨ac,0,U⟩) (o+1) az)).setCell ⟨D,9+E,U⟩ (af (R ⟨gb,0,U⟩))=a8;have fd:D<q.heap.size:=(by rw[<-y.out];exact cf.top.lt);have uA:=bd.out;have uB:q.heap.size<=db:=(by have F:=bt.out;have Q:=bq.out.lt;omega);have c7:q.heap.size<=lb:=(by have F:=Y.out;omega);obtain⟨aU,a0⟩:=aW ((⟨f,n.toNat,0,R (aM.new j),R [],true⟩:cb):cb);have pc:Mod (λk=>k=L.b∨L.gv.ownBlock=R k) wr (wr.drew.alloc (av #[af (R ⟨gb,0,U⟩)] 65)):=((Mod.refl _ _).drew).alloc _;have bX:Mod (λk=>k=L.b∨L.gv.ownBlock=R k) wr a8:=(by rw[<-c_];exact((pc.grow bT (λg e=>.inr (by rw[am.out];exact e))).setCell (.inl y.symm) _).setCell (.inl y.symm) _);have aJ:∀d,(ay (R ⟨ac,0,U⟩) (o+1) az).ownBlock=R d->L.gv.ownBlock=R d∨wr.heap.size<=d:=λd e=>by
       rcases bT.loc with P|⟨uC,P,cW⟩;·exact .inl (by rw[am.out,<-P];exact e)
       ·rw[e] at P;cases P;exact .inr (cA (by simp) cW)
      have pd:∀d,(ay (R ⟨ac,0,U⟩) (o+1) az).ownBlock=R d->¬d=D:=λd e=>by
       rcases aJ d e with P|P;·rw[am.out] at P;exact(bi d P).1
       ·omega
      have pe:Own dp a8 0 65 (ay (R ⟨ac,0,U⟩) (o+1) az) (o+1) (fV L N++[R gb]):=(by rw[<-c_];exact d9.mod (nT _ _ _ _ _ _) pd);have pg:∀(i d:Nat),N.places[i]?=R (R d)->d<o:=λi d e=>by rw[<-a_.out,<-O.out] at e;obtain⟨cL,a7,_⟩:=aA.place i d e;have:=(bD.1 a7).1;have A:=bl.out;rw[<-O.out] at A;change s.groups.length=o at A;omega
      have ph:ak a8 L.b (cR (L.i6 o gb db lb (ay (R ⟨ac,0,U⟩) (o+1) az)) (N.i6 aU E)) 72:=(by rw[<-MY c8.out fJ fG.out pg,y.out,<-c_];exact(b7.set 8 _).set (9+E) _);have da:∀x,(x=gb∨x=db∨x=lb)->¬(x=L.b∨L.gv.ownBlock=R x):=λx ai e=>by
       rcases e with e|e;·rw[y.out] at e;omega
       ·rw[am.out] at e;obtain⟨_,_,ar,fX,fY⟩:=bi x e;rcases ai with d|d|d;·exact ar d
        ·exact fX d
        ·exact fY d
      have dv:ak a8 gb (hn (L.i6 o gb db lb (ay (R ⟨ac,0,U⟩) (o+1) az)) o aU) 85:=(by have bz:=d2.mod bX (da gb (.inl rfl));have e:hn (L.i6 o gb db lb (ay (R ⟨ac,0,U⟩) (o+1) az)) o aU=#[I J (o:Int),I J f.idx,I J f.gen,I ah n,I J 0,af (R ⟨db,0,U⟩),af (R ⟨lb,0,U⟩)]:=(by rw[<-a0];unfold hn bu.i6;have pj:((n.toNat:Nat):Int)=n:=(by have:=c5.1;omega);simp[if_true,cU,aX,pj]);rw[e];exact bz);have pk:∀B,aU.band=R B->ct a8 db B:=λB e=>by rw[<-a0] at e;cases e;exact⟨fK.cs.mod bX (da db (.inr (.inl rfl))),fK.cy⟩
      have pn:∀l,aU.line=R l->gQ a8 lb l:=λl e=>by rw[<-a0] at e;cases e;exact d3.mod bX (da lb (.inr (.inr rfl)))
      have po:∀(i:Nat) t,N.tasks[i]?=R t->t.g<o:=λi t e=>by rw[<-a_.out,<-O.out] at e;have bz:=(aA.task i t e).g;have A:=bl.out;rw[<-O.out] at A;change s.groups.length=o at A;omega
      have a7:=k_.i6 (gb:=gb) (db:=db) (lb:=lb) (λx ai=>⟨λe=>by have F:=aq x e;omega,by obtain⟨ar,fX,fY,_⟩:=kh;omega⟩) (λe=>cG.1 e.symm) (λe=>cG.2.1 e.symm) cG.2.2 fG (G:=aU) (by rw[<-a0]) bX pe aJ ph dv pk pn po;have fZ:=gI _ _ _ (bP _ _ _ (kg _ _ _ (a7.lX (λk e=>by
       rcases e with e|e;·exact .inl e
       ·exact .inr (by omega)))))
      have el:N.i6 aU E={s with tree:=bR.1,hiers:=s.hiers.map (λx=>x.link f.idx G.h.idx),groups:=s.groups++[⟨f,n.toNat,0,R (aM.new s.c.aO),R [],true⟩],places:=s.places.set f.idx.toNat (R s.groups.length)}:=(by have em:=aa.x1 (λx:ad=>x.link f.idx G.h.idx) K (n:=j) (by rw[eW.out.1,bI.out]);rw[<-a_.out,em,<-a0,<-O.out];have pq:E=f.idx.toNat:=(by rw[cF.out];omega);unfold aa.i6;rw[ck.out,pq]);rw[el] at fZ;have cE:=C fZ;have uD:=dv.cell 0 (v:=I J (o:Int)) rfl;have qg:s.groups.length=o:=(by have A:=bl.out;rw[<-O.out] at A;exact A);have f_:=C qg;go_wp2_with fail;go_ret2;rw[<-iA.out,f_.out];have bz:=cE.out;rw[f_.out] at bz;exact⟨rfl,L.i6 o gb db lb (ay (R ⟨ac,0,U⟩) (o+1) az),rfl,bz⟩
theorem Nb (d a b n m f:Int) (H:ax ao S L s w) (hk:s.Ok k) (j:k<100000):Calls au 45 #[aX L.b,bk (cx d a b n m f)] w (mo ao S L (s.grow a n)):=by
 by_cases c:s.group a=U∨kv n=false∨∀G,s.group a=R G->ae.fl s.tree G.h≠0;·exact(MZ d a b n m f H hk c).mono (λe w' l=>l.kM)
 ·obtain⟨G,g⟩:∃G,s.group a=R G:=by
   cases e:s.group a with
   |none=>exact absurd (.inl e) c
   |some G=>exact⟨G,rfl⟩
  refine Na d a b n m f H hk j g ?_ ?_;·cases e:kv n with
   |false=>exact absurd (.inr (.inl e)) c
   |true=>rfl
  ·exact Classical.byContradiction (λe=>c (.inr (.inr (λo i=>by rw[g] at i;cases i;exact e))))
end
end
end Go.Proofs.YtddbkdjcjoofpaaGreatDoor
