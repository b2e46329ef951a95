import Derived.Test.YtddbkdjcjoofpaaGreatDoorLA
import Derived.Test.YtddbkdjcjoofpaaGreatDoorLC
import Derived.Test.YtddbkdjcjoofpaaGreatDoorLD
import Derived.Test.YtddbkdjcjoofpaaGreatDoorLE
import Derived.Test.YtddbkdjcjoofpaaGreatDoorLF
import Derived.Test.YtddbkdjcjoofpaaGreatDoorLG
import Derived.LaidEqlPtr
namespace Go.Proofs.YtddbkdjcjoofpaaGreatDoor
set_option linter.unusedVariables false
set_option linter.unusedSimpArgs false
set_option maxRecDepth 100000
set_option maxHeartbeats 20000000
open _root_.Go.Proofs.Tryz Go.RowKit
open Go renaming World→ab
open _root_.Go.Proofs.Tryz renaming prog→au
open Option renaming none→U,some→R
open _root_.Go.Value renaming int→I,pointer→af,slice→aA,bool→aE,agg→bm,tuple→bD
open _root_.Go.IntKind renaming i64→J,u64→ah,wrap_u64→nT
open _root_.Go.Obj renaming cells→av
open _root_.Go.Ending renaming returned→aK
open _root_.Nat renaming le_refl→bM,le_trans→cJ,mul_le_mul_right→o5,lt_or_ge→nd,zero_le→hq,sub_self→k5,add_assoc→qd,ne_of_lt→o_
open _root_.Go renaming World→ab
open _root_.List renaming getElem?_eq_getElem→b6,getElem?_map→dP,length_eq_zero_iff→nM,drop_eq_getElem_cons→o3,getElem?_eq_some_iff→bE,length_cons→dY,length_append→eZ,getElem?_append_right→gC,getElem?_append_left→iR,take_of_length_le→ub,mem_map→e0,cons_append→gQ,mem_iff_getElem?→mm,getElem?_toArray→ff,mem_of_getElem?→ea,length_map→ep,map_append→h4,append_assoc→h2,filter_append→r1,length_filter_le→o4,getElem?_set_self→cZ,getElem?_set_ne→dK,range→gh,nodup_iff_pairwise_ne→p2,any_eq_true→nS,foldl_cons→nV,mem_range→o9,getElem?_eq_none→ho,length_set→ef,mem_iff_getElem→uc,getElem?_zipIdx→nR,setIfInBounds_toArray→rX,range_succ→nU,length_nil→hJ,take_length→h3,length_take→ix,pairwise_iff_getElem→p4,ext_getElem?→p9,set_append_right→nO,take_add_one→gE,append_nil→qa,map_congr_left→uf,length_singleton→nP
open _root_.And renaming intro→bx
open _root_.Int renaming toNat_natCast→cd,le_refl→hL,eq_ofNat_of_zero_le→dW
open _root_.Option renaming isSome_iff_exists→gP,map_eq_some_iff→h1,map_some→iS,toList_some→lI
open _root_.Go.World renaming cell?_setCell_other→jz
variable {b n g i p j c B m o:Nat} {S Z al:Nat->Prop} {w W w' y A W':ab} {v aH u:Value} {a:Option Addr} {ar:Array Value} {k x:Key} {l:List Int} {ai:Int->Nat} {e:aI} {ag:List (Int×Int)} {s:bt (aG×Int)} {r:T} {P:List (List Nat)} {V:List (Int×Int)->ab->Prop} {L:List ByteArray} {aJ:Bool}
theorem LW {t:ae} {h parent:aG} {g p:aG×Int} (a:ae.get t h=R g) (b:ae.get t parent=R p):ae.eg t h parent=if h=bS then 1 else if ae.di t parent h then 10 else if(ae.below t h).any (λx=>decide (8<ae.fE t x+(p.2+1-g.2))) then 5 else 0:=by unfold ae.eg;rw[a,b]
theorem xg (h parent:aG) (d:Int):∀(l:List aG) (x:aG) (t:ae),ae.fs h parent d (l++[x]) t=ae.fs h parent d [x] (ae.fs h parent d l t)
 |[],x,t=>rfl
 |a::l,x,t=>by
  rw[gQ];conv=>lhs;unfold ae.fs
  conv=>rhs;rhs;unfold ae.fs
  cases ae.get t a with
  |none=>exact xg h parent d l x t
  |some y=>exact xg h parent d l x _
theorem LX {h parent x:aG} {d:Int} {t:ae} {y:aG×Int} (a:ae.get t x=R y):ae.fs h parent d [x] t=an.set t x (if x=h then parent else y.1,y.2+d):=by unfold ae.fs;rw[a];rfl
theorem LY {h parent x:aG} {d:Int} {t:ae} {L:List aG} (a:L.Nodup) (g:∀x∈L,(ae.get t x).isSome=true) (b:L[i]?=R x) {y:aG×Int} (j:ae.get t x=R y):ae.get (ae.fs h parent d (L.take i) t) x=R y∧ae.fs h parent d (L.take (i+1)) t=an.set (ae.fs h parent d (L.take i) t) x (if x=h then parent else y.1,y.2+d):=by
 have c:=(bE.1 b);have l:x∉L.take i:=by intro m;obtain⟨k,n,e⟩:=uc.1 m;rw[ix] at n;rw[List.getElem_take] at e;exact(p4.1 (p2.1 a)) k i (by omega) c.1 (by omega) (e.trans c.2.symm)
 have f:ae.get (ae.fs h parent d (L.take i) t) x=R y:=by rw[ae.vl h parent d (L.take i) t (a.sublist (List.take_sublist _ _)) (λo p=>g o ((List.take_sublist _ _).subset p)),z0 l,j]
 refine⟨f,?_⟩;rw[gE,b];show ae.fs h parent d (L.take i++[x]) t=_;rw[xg,LX f]
theorem LZ (S:Nat->Prop) (b:Nat) (t:ae) (h parent:aG) (w:ab) (aQ:cX w S b t) (hk:ae.Ok t) {g p:aG×Int} (aS:ae.get t h=R g) (aU:ae.get t parent=R p):Calls au 90 #[af (R ⟨b,0,U⟩),bm #[I J h.idx,I J h.gen],bm #[I J parent.idx,I J parent.gen]] w (tK S b (ae.move t h parent) (I J (ae.eg t h parent)) w):=by
 obtain⟨V,ag⟩:∃V,(w.alloc (av #[I J h.idx,I J h.gen] 77)).alloc (av #[I J parent.idx,I J parent.gen] 77)=V:=⟨_,rfl⟩;have bY:Below w.heap.size w V:=ag▸(bz _ _).alloc (by simp) _;have a4:ak V w.heap.size #[I J h.idx,I J h.gen] 77:=ag▸(ak.new w _ _).alloc _;have cS:ak V (w.heap.size+1) #[I J parent.idx,I J parent.gen] 77:=ag▸(by have:=ak.new (w.alloc (av #[I J h.idx,I J h.gen] 77)) #[I J parent.idx,I J parent.gen] 77;simpa using this);have bb:=C aQ.trim;have bZ:=kL _ b t h V (aQ.trim.next bY);rw[aS] at bZ;have cT:=C bZ;have cU:=C (λ(W:ab) (ad:Below w.heap.size w W)=>by have:=kL _ b t parent W (aQ.trim.next ad);rw[aU] at this;exact this);have aB:=a4.cell 0 (v:=I J h.idx) rfl;have N:=a4.cell 1 (v:=I J h.gen) rfl;have fl:=C ag;have aI:=C bY;have bJ:=C a4;have bD:=C cS;have cR:=C (λ(W:ab) (ad:Below w.heap.size w W)=>tj _ b t parent h W (aQ.trim.next ad) hk);have c7:=C (λ(W:ab) (ad:Below w.heap.size w W)=>LO _ b t h W (aQ.trim.next ad) hk);have a5:=C (LW aS aU);have b2:=C hk;have l7:=C aS;have l8:=C aU;obtain⟨O,aw⟩:∃O,ae.eg t h parent=O:=⟨_,rfl⟩;obtain⟨bC,aR⟩:∃bC,ae.move t h parent=bC:=⟨_,rfl⟩;have bQ:=C (show O≠0->bC=t fromλe=>by rw[<-aR];unfold ae.move;rw[z0 (by rw[aw];exact e)]);have bs:=C (show O=0->bC=ae.fs h parent (p.2+1-g.2) (ae.below t h) t fromλe=>by rw[<-aR];unfold ae.move;rw[aj (by rw[aw];exact e),aS,aU]);rw[aw] at a5;rw[aw,aR];have l9:=hk.oO aS;have b3:=hk.oO aU;clear ag bY a4 cS aQ bZ aS aU hk aw aR;go_enter func90,ntmps90;go_upto_region 1 with fail;rw[fl.out];go_wp2_with fail;refine cT.out.mono ?_;rintro e a9 ⟨rfl,aD⟩;have bh:=C (aI.out.trans (aD.mono aI.out.size));have fy:=C (bJ.out.next aD);have fz:=C (bD.out.next aD);clear aD aB N;unfold hD;go_upto_region 2 with fail;obtain⟨az,aP⟩:∃az,a9.alloc (av #[I J g.1.idx,I J g.1.gen,I J g.2] 124)=az:=⟨_,rfl⟩;rw[aP];have b9:=C (show Below w.heap.size w az from aP▸bh.out.alloc bh.out.size _);have fA:=C (show ak az w.heap.size #[I J h.idx,I J h.gen] 77 from aP▸fy.out.alloc _);have a1:=C (show ak az (w.heap.size+1) #[I J parent.idx,I J parent.gen] 77 from aP▸fz.out.alloc _);have fB:=C (show ak az a9.heap.size #[I J g.1.idx,I J g.1.gen,I J g.2] 124 from aP▸ak.new a9 _ _);have bv:=a1.out.cell 0 (v:=I J parent.idx) rfl;have a7:=a1.out.cell 1 (v:=I J parent.gen) rfl;have cB:=C (cU.out az b9.out);clear aP;go_wp2_with fail;refine cB.out.mono ?_;rintro e cb ⟨rfl,bc⟩;have bI:=C (b9.out.trans (bc.mono b9.out.size));have fC:=C (fA.out.next bc);have fO:=C (a1.out.next bc);have bF:=C (fB.out.next bc);clear bc bv a7;unfold hD;go_upto_region 3 with fail;obtain⟨q,aC⟩:∃q,cb.alloc (av #[I J p.1.idx,I J p.1.gen,I J p.2] 124)=q:=⟨_,rfl⟩;rw[aC];have dc:=C (show Below w.heap.size w q from aC▸bI.out.alloc bI.out.size _);have aT:=C (show ak q w.heap.size #[I J h.idx,I J h.gen] 77 from aC▸fC.out.alloc _);have aL:=C (show ak q (w.heap.size+1) #[I J parent.idx,I J parent.gen] 77 from aC▸fO.out.alloc _);have fU:=C (show ak q a9.heap.size #[I J g.1.idx,I J g.1.gen,I J g.2] 124 from aC▸bF.out.alloc _);have fV:=C (show ak q cb.heap.size #[I J p.1.idx,I J p.1.gen,I J p.2] 124 from aC▸ak.new cb _ _);have aB:=aT.out.cell 0 (v:=I J h.idx) rfl;have N:=aT.out.cell 1 (v:=I J h.gen) rfl;have dA:=dc.out.size;clear aC;go_upto_region 5 with fail;go_cut [40] from 41 to 43 (λv f_=>v=aE (decide (h=bS))∧Below q.heap.size q f_);case first=>
  rcases xf h with⟨o,B,bf⟩|⟨o,⟨B,bf⟩|B⟩;·have n:=C (decide_eq_true o);have Z:(h.idx==0)=true:=(by simp[B]);have aV:(h.gen==0)=true:=(by simp[bf]);clear o B bf;go_region_held3 (λW'=>W'.cell? ⟨w.heap.size,0,U⟩=R (I J h.idx)∧W'.cell? ⟨w.heap.size,1,U⟩=R (I J h.gen)) ((refine⟨?_,?_⟩)<;>(repeat(first|assumption|(with_reducible refine b7 ?_)))) (first|(go_at_call 65;refine(lu _).mono ?_;rintro e df ⟨rfl,l⟩;have A:=aT.out.drew.next l;have bG:=A.cell 0 (v:=I J h.idx) rfl;have b_:=A.cell 1 (v:=I J h.gen) rfl;have H:=C l;clear l A));all_goals go_wp2_with fail;go_meet;exact⟨by rw[n.out],(Below.refl q.heap.size q).drew.trans H.out⟩
  ·have n:=C (decide_eq_false o);have Z:(h.idx==0)=true:=(by simp[B]);have aV:(h.gen==0)=false:=(by simp[bf]);clear o B bf;go_region_held3 (λW'=>W'.cell? ⟨w.heap.size,0,U⟩=R (I J h.idx)∧W'.cell? ⟨w.heap.size,1,U⟩=R (I J h.gen)) ((refine⟨?_,?_⟩)<;>(repeat(first|assumption|(with_reducible refine b7 ?_)))) (first|(go_at_call 65;refine(lu _).mono ?_;rintro e df ⟨rfl,l⟩;have A:=aT.out.drew.next l;have bG:=A.cell 0 (v:=I J h.idx) rfl;have b_:=A.cell 1 (v:=I J h.gen) rfl;have H:=C l;clear l A));all_goals go_wp2_with fail;go_meet;exact⟨by rw[n.out],(Below.refl q.heap.size q).drew.trans H.out⟩
  ·have n:=C (decide_eq_false o);have Z:(h.idx==0)=false:=(by simp[B]);clear o B;go_region_held3 (λW'=>W'.cell? ⟨w.heap.size,0,U⟩=R (I J h.idx)∧W'.cell? ⟨w.heap.size,1,U⟩=R (I J h.gen)) ((refine⟨?_,?_⟩)<;>(repeat(first|assumption|(with_reducible refine b7 ?_)))) (first|(go_at_call 65;refine(lu _).mono ?_;rintro e df ⟨rfl,l⟩;have A:=aT.out.drew.next l;have bG:=A.cell 0 (v:=I J h.idx) rfl;have b_:=A.cell 1 (v:=I J h.gen) rfl;have H:=C l;clear l A));all_goals go_wp2_with fail;go_meet;exact⟨by rw[n.out],(Below.refl q.heap.size q).drew.trans H.out⟩
 case rest=>
  obtain⟨rfl,l⟩:=hcut;have H:=C (dc.out.trans (Below.mono l dA));have cf:=C (aT.out.next l);have cg:=C (aL.out.next l);have gq:=C (fU.out.next l);have gr:=C (fV.out.next l);clear l aB N;cases o:decide (h=bS) with
  |true=>have n:=C (show O=1 by rw[a5.out,aj (of_decide_eq_true o)]);clear o;go_wp2_with fail;go_ret;rw[bQ.out (by rw[n.out];decide),n.out];exact bb.out.rP H.out
  |false=>
   have dj:=C (of_decide_eq_false o);clear o;have aB:=cf.out.cell 0 (v:=I J h.idx) rfl;have N:=cf.out.cell 1 (v:=I J h.gen) rfl;have bv:=cg.out.cell 0 (v:=I J parent.idx) rfl;have a7:=cg.out.cell 1 (v:=I J parent.gen) rfl;have b4:=C (cR.out wc H.out);go_wp2_with fail;refine b4.out.mono ?_;rintro e gB ⟨rfl,aZ⟩;have bg:=C (H.out.trans (Below.mono aZ H.out.size));have ch:=C (cf.out.next aZ);have gN:=C (cg.out.next aZ);have bN:=C (gq.out.next aZ);have hi:=C (gr.out.next aZ);clear aZ aB N bv a7;cases a6:ae.di t parent h with
   |true=>have n:=C (show O=10 by rw[a5.out,z0 dj.out,aj a6]);clear a6;go_wp2_with fail;go_ret;rw[bQ.out (by rw[n.out];decide),n.out];exact bb.out.rP bg.out
   |false=>
    have n:=C (show O=if(ae.below t h).any (λx=>decide (8<ae.fE t x+(p.2+1-g.2))) then 5 else 0 by rw[a5.out,z0 dj.out,z0 (by rw[a6];simp)]);clear a6;have hj:=bN.out.cell 2 (v:=I J g.2) rfl;have hG:=hi.out.cell 2 (v:=I J p.2) rfl;have aB:=ch.out.cell 0 (v:=I J h.idx) rfl;have N:=ch.out.cell 1 (v:=I J h.gen) rfl;have hH:IntKind.i64.wrap (p.2+1)=p.2+1:=IntWalk.i64_in _ (by omega);have dv:IntKind.i64.wrap (p.2+1-g.2)=p.2+1-g.2:=IntWalk.i64_in _ (by omega);have c0:=C (c7.out gB bg.out);go_wp2_with fail;refine c0.out.mono ?_;rintro e aa ⟨l_,rfl,bH,bd⟩;obtain⟨_,bo,ma,rfl,_,_,_,cj⟩:=bH.rd;have a8:=C (bg.out.trans (Below.mono bd bg.out.size));have c2:=C (ch.out.next bd);have c3:=C (gN.out.next bd);have mb:=bg.out.size;have cn:=ae.oe t h;have b5:=λ(i:Nat) (x:aG) (m:(ae.below t h)[i]?=R x)=>(ae.jO.1 (ea m)).1;have c4:(ae.below t h).length<=32:=(by unfold ae.below;refine cJ (o4 _ _) ?_;have:=xe t;have:=b2.out.cA;omega);obtain⟨L,dw⟩:∃L,ae.below t h=L:=⟨_,rfl⟩;rw[dw] at bH cj n bs cn b5 c4⊢;obtain⟨d,dx⟩:∃d,p.2+1-g.2=d:=⟨_,rfl⟩;rw[dx] at n bs dv⊢;have mc:-16<=d∧d<=16:=(by omega);have cp:=C (show∀j x,L[j]?=R x->∃c s,bo=R ⟨c,s,U⟩∧w.heap.size<=c∧c<aa.heap.size∧∀(a:Nat) (u:Value),(kK.e x)[a]?=R u->aa.cell? ⟨c,s+(j*2+a),U⟩=R u fromλj x m=>by have me:=(bE.1 m).1;obtain⟨c,s,rfl,an,P⟩:=cj.cells (by omega);exact⟨c,s,rfl,by have:=(bH.lt c rfl).1;omega,an,λa u c5=>P j x m a u c5⟩);have bO:=C cn;have bB:=C b5;have iq:=C (λ(x:aG) (W:ab) (ad:Below w.heap.size w W)=>kL _ b t x W (bb.out.next ad));clear bd bH cj dw dx cn b5 hj hG aB N hH dv;go_wp2_with fail;go_loopw [60] (λaF wr=>∃i:Nat,i<=L.length∧aF=I J (i:Int)∧Below aa.heap.size aa wr∧(L.take i).any (λx=>decide (8<ae.fE t x+d))=false) (λaF _=>L.length-(intOf aF).toNat);case atStart=>exact⟨0,by omega,rfl,Below.refl _ _,rfl⟩
    case round=>
     obtain⟨i,bX,rfl,dy,dF⟩:=hrel;have E:=C dy;have be:=C dF;clear dy dF;by_cases an:i<L.length
     ·have ir:(i:Int)<(L.length:Int):=(by omega);have bG:(0:Int)<=(i:Int):=(by omega);have c9:(i:Int).toNat=i:=(by omega);obtain⟨x,m⟩:∃x,L[i]?=R x:=⟨_,b6 an⟩;obtain⟨y,ao⟩:=gP.1 (bB.out i x m);obtain⟨c,s,rfl,iu,ax,P⟩:=cp.out i x m;have cr:=(show wr.cell? ⟨c,s+i*2,U⟩=R (I J x.idx) from(Mod.below (S:=λ_=>False) E.out).cell (P 0 (I J x.idx) rfl) ax id);have cu:=(show wr.cell? ⟨c,s+i*2+1,U⟩=R (I J x.gen) from by rw[qd];exact(Mod.below (S:=λ_=>False) E.out).cell (P 1 (I J x.gen) rfl) ax id);have db:=b2.out.oO ao;have bk:=a8.out.size;have dL:=E.out.size;have dQ:=C m;have iL:=C ao;have mf:=C (a8.out.trans (Below.mono E.out bk));clear m P;go_upto_region 14 with fail;obtain⟨F,Q⟩:∃F,wr.alloc (av #[I J x.idx,I J x.gen] 77)=F:=⟨_,rfl⟩;rw[Q];have a_:=C (show Below aa.heap.size aa F from Q▸E.out.alloc dL _);have cy:ak F wr.heap.size #[I J x.idx,I J x.gen] 77:=Q▸ak.new wr _ _;have cE:=cy.cell 0 (v:=I J x.idx) rfl;have b8:=cy.cell 1 (v:=I J x.gen) rfl;have am:=iq.out x F (a8.out.trans (Below.mono a_.out bk));rw[ao] at am;have cq:=C am;clear Q cy cr cu am ao;go_wp2_with fail;refine cq.out.mono ?_;rintro e f ⟨rfl,K⟩;have bl:=C (a_.out.trans (Below.mono K a_.out.size));clear K cE b8;unfold hD;go_upto_region 15 with fail;obtain⟨z,T⟩:∃z,f.alloc (av #[I J y.1.idx,I J y.1.gen,I J y.2] 124)=z:=⟨_,rfl⟩;rw[T];have aq:=C (show Below aa.heap.size aa z from T▸bl.out.alloc bl.out.size _);have ce:ak z f.heap.size #[I J y.1.idx,I J y.1.gen,I J y.2] 124:=T▸ak.new f _ _;have dR:=ce.cell 2 (v:=I J y.2) rfl;have iM:IntKind.i64.wrap (y.2+d)=y.2+d:=IntWalk.i64_in _ (by omega);have bu:=C (show ae.fE t x=y.2 by unfold ae.fE;rw[iL.out]);clear T ce;by_cases iN:8<y.2+d;·have bn:=C (show O=5 by rw[n.out,aj];exact nS.2 ⟨x,ea dQ.out,by rw[bu.out];simpa using iN⟩);go_wp2_with fail;go_ret;rw[bQ.out (by rw[bn.out];decide),bn.out];exact bb.out.rP (a8.out.trans (Below.mono aq.out bk))
      ·go_wp2_with fail;go_roundw;case rel=>refine⟨i+1,by omega,by go_num,aq.out,?_⟩;rw[gE,dQ.out,List.any_append,be.out];simp[bu.out];omega
       case measure=>simp[intOf];omega
     ·obtain rfl:i=L.length:=by omega
      rw[h3] at be;have bn:=C (show O=0 by rw[n.out,z0 (by rw[be.out];simp)]);have bk:=a8.out.size;have dL:=E.out.size;have bT:=C (c2.out.next E.out);have dg:=C (c3.out.next E.out);have dX:=C (a8.out.trans (Below.mono E.out bk));have jk:=C (show∀j x,L[j]?=R x->∃c s,bo=R ⟨c,s,U⟩∧w.heap.size<=c∧c<wr.heap.size∧∀(a:Nat) (u:Value),(kK.e x)[a]?=R u->wr.cell? ⟨c,s+(j*2+a),U⟩=R u fromλj x m=>by obtain⟨c,s,e,N,aH,jl⟩:=cp.out j x m;exact⟨c,s,e,N,by omega,λa u a6=>(Mod.below (S:=λ_=>False) E.out).cell (jl a u a6) aH id⟩);have jy:=C (show∀x∈L,(ae.get t x).isSome=true fromλx m=>by obtain⟨i,bX⟩:=mm.1 m;exact bB.out i x bX);clear E be n cp cR c7 cU cT;obtain⟨bK,dl⟩:∃bK,bK=wr:=⟨_,rfl⟩;subst dl;go_wp2_with fail;go_loopw [78] (λaF ci=>∃i:Nat,i<=L.length∧aF=I J (i:Int)∧cX ci (λk=>S k∧k<w.heap.size) b (ae.fs h parent d (L.take i) t)∧Mod (λk=>(S k∧k<w.heap.size)) bK ci) (λaF _=>L.length-(intOf aF).toNat);case atStart=>exact⟨0,by omega,rfl,bb.out.next dX.out,Mod.refl _ _⟩
      case round=>
       obtain⟨i,bX,rfl,ee,ck⟩:=hrel;have bL:=C ee;have aM:=C ck;clear ee ck;by_cases an:i<L.length
       ·obtain⟨x,m⟩:∃x,L[i]?=R x:=⟨_,b6 an⟩;obtain⟨y,ao⟩:=gP.1 (bB.out i x m);obtain⟨cH,ar⟩:=LY (h:=h) (parent:=parent) (d:=d) bO.out jy.out m ao;obtain⟨c,s,rfl,iu,ax,P⟩:=jk.out i x m;have ir:(i:Int)<(L.length:Int):=(by omega);have bG:(0:Int)<=(i:Int):=(by omega);have c9:(i:Int).toNat=i:=(by omega);have cr:=(show wr.cell? ⟨c,s+i*2,U⟩=R (I J x.idx) from aM.out.cell (P 0 (I J x.idx) rfl) ax (λa=>by omega));have cu:=(show wr.cell? ⟨c,s+i*2+1,U⟩=R (I J x.gen) from by rw[qd];exact aM.out.cell (P 1 (I J x.gen) rfl) ax (λa=>by omega));have db:=b2.out.oO ao;have j3:=C (bT.out.mod aM.out (λa=>by omega));have en:=C (dg.out.mod aM.out (λa=>by omega));have mg:=aM.out.size;have d0:=en.out.lt;obtain⟨aA,eo⟩:∃aA,ae.fs h parent d (L.take i) t=aA:=⟨_,rfl⟩;rw[eo] at cH ar bL;have j4:=C ar;clear m P ar eo ao;go_upto_region 21 with fail;obtain⟨F,Q⟩:∃F,wr.alloc (av #[I J x.idx,I J x.gen] 77)=F:=⟨_,rfl⟩;rw[Q];have bp:Below wr.heap.size wr F:=Q▸bz _ _;have aN:=C (show ak F wr.heap.size #[I J x.idx,I J x.gen] 77 from Q▸ak.new wr _ _);have bW:=C (j3.out.next bp);have j5:=C (en.out.next bp);have ew:=C (bL.out.next bp);have a_:=C bp;have d1:=aN.out.lt;have cE:=aN.out.cell 0 (v:=I J x.idx) rfl;have b8:=aN.out.cell 1 (v:=I J x.gen) rfl;have am:=kL _ b aA x F ew.out;rw[cH] at am;have cq:=C am;clear Q bp am cr cu cH;go_wp2_with fail;refine cq.out.mono ?_;rintro e f ⟨rfl,K⟩;have kq:=C (aN.out.next K);have bV:=C (bW.out.next K);have eE:=C (j5.out.next K);have kR:=C (ew.out.next K);have bl:=C (a_.out.trans (Below.mono K a_.out.size));have d2:=K.size;clear K cE b8;unfold hD;go_upto_region 22 with fail;obtain⟨ap,bi⟩:∃ap,f.alloc (av #[I J y.1.idx,I J y.1.gen,I J y.2] 124)=ap:=⟨_,rfl⟩;rw[bi];have ba:Below f.heap.size f ap:=bi▸bz _ _;have bP:=C (show ak ap f.heap.size #[I J y.1.idx,I J y.1.gen,I J y.2] 124 from bi▸ak.new f _ _);have fK:=C (kq.out.next ba);have kS:=C (bV.out.next ba);have kT:=C (eE.out.next ba);have kU:=C (kR.out.next ba);have kV:=C (bl.out.trans (Below.mono ba bl.out.size));have d3:=bP.out.lt;have dR:=bP.out.cell 2 (v:=I J y.2) rfl;have b1:=bP.out.free 2;have iM:IntKind.i64.wrap (y.2+d)=y.2+d:=IntWalk.i64_in _ (by omega);clear bi ba;go_upto_region 23 with fail;obtain⟨z,T⟩:∃z,ap.setCell ⟨f.heap.size,2,U⟩ (I J (y.2+d))=z:=⟨_,rfl⟩;rw[T];have aO:Mod (λk=>k=f.heap.size) ap z:=T▸Mod.one ap f.heap.size 2 _;have D:=C (show ak z f.heap.size #[I J y.1.idx,I J y.1.gen,I J (y.2+d)] 124 from T▸bP.out.set 2 (I J (y.2+d)));have bq:=C (fK.out.mod aO (λe=>by omega));have co:=C (kS.out.mod aO (λe=>by omega));have eH:=C (kT.out.mod aO (λe=>by omega));have bj:=C (kU.out.frame aO (λk a e=>by omega));have aq:=C (show Below wr.heap.size wr z from mS kV.out (bM _) aO (λk _ e=>by omega));have d4:=aO.size;have kW:=bq.out.cell 0 (v:=I J x.idx) rfl;have kX:=bq.out.cell 1 (v:=I J x.gen) rfl;have o:=co.out.cell 0 (v:=I J h.idx) rfl;have B:=co.out.cell 1 (v:=I J h.gen) rfl;clear T aO dR b1;have eI:∀(X:aG×Int) (W:ab),X=(if x=h then parent else y.1,y.2+d)->ak W f.heap.size #[I J X.1.idx,I J X.1.gen,I J X.2] 124->ak W wr.heap.size #[I J x.idx,I J x.gen] 77->cX W (λk=>S k∧k<w.heap.size) b aA->Below wr.heap.size wr W->∃Y,W.cell? ⟨b,0,U⟩=R (af (R ⟨Y,0,U⟩))∧Calls au 139 #[af (R ⟨Y,0,U⟩),bm #[I J x.idx,I J x.gen],bm #[I J X.1.idx,I J X.1.gen,I J X.2]] W.drew λe w'=>(∃r,e=aK r)∧cX w' (λk=>S k∧k<w.heap.size) b (ae.fs h parent d (L.take (i+1)) t)∧Mod (λk=>(S k∧k<w.heap.size)) bK w':=(by intro X W kY d5 d6 aJ kZ;obtain⟨Y,al,eL,k0,k1,cs,eT⟩:=aJ;refine⟨Y,eL.cell 0 rfl,(LV al Y 32 aA x X W.drew (k0.frame ((Mod.refl (λ_=>False) W).drew) (λ_ _=>id))).mono ?_⟩;rintro e w' ⟨k2,lB,G⟩;refine⟨k2,⟨Y,al,eL.drew.mod G cs,by rw[j4.out,<-kY];exact lB,k1,cs,eT⟩,?_⟩;exact((aM.out.ju kZ).drew).trans G (λk _ a=>eT k a));have cO:=C eI;clear eI;rcases(by omega:(x.idx=h.idx∧x.gen=h.gen)∨(x.idx=h.idx∧¬x.gen=h.gen)∨¬x.idx=h.idx) with⟨M,ah⟩|⟨M,ah⟩|M;·have ai:=C (lV M ah);have Z:(x.idx==h.idx)=true:=(by simp[M]);have aV:(x.gen==h.gen)=true:=(by simp[ah]);clear M ah;have lC:=eH.out.cell 0 (v:=I J parent.idx) rfl;have A:=eH.out.cell 1 (v:=I J parent.gen) rfl;have lD:=D.out.cell 0 (v:=I J y.1.idx) rfl;have b0:=D.out.cell 1 (v:=I J y.1.gen) rfl;have lE:=λj=>D.out.free j;go_upto_region 25 with fail;obtain⟨br,aY⟩:∃br,(z.setCell ⟨f.heap.size,0,U⟩ (I J parent.idx)).setCell ⟨f.heap.size,1,U⟩ (I J parent.gen)=br:=⟨_,rfl⟩;rw[aY];have bR:Mod (λk=>k=f.heap.size) z br:=aY▸(Mod.one z f.heap.size 0 _).setCell rfl _;have a0:ak br f.heap.size #[I J parent.idx,I J parent.gen,I J (y.2+d)] 124:=aY▸(D.out.set 0 (I J parent.idx)).set 1 (I J parent.gen);have bU:=bq.out.mod bR (λe=>by omega);obtain⟨Y,eU,ac⟩:=cO.out (parent,y.2+d) br (by rw[aj ai.out]) a0 bU (bj.out.frame bR (λk a e=>by omega)) (mS aq.out (bM _) bR (λk _ e=>by omega));have bw:=C ac;have d7:=bU.cell 0 (v:=I J x.idx) rfl;have d8:=bU.cell 1 (v:=I J x.gen) rfl;have cv:=a0.cell 0 (v:=I J parent.idx) rfl;have eY:=a0.cell 1 (v:=I J parent.gen) rfl;have bA:=a0.cell 2 (v:=I J (y.2+d)) rfl;clear aY bR a0 bU ac lC A lD b0 lE kW kX o B Z aV;go_region_with (first|(go_at_call 139;refine bw.out.mono ?_;rintro e e2 ⟨⟨e3,rfl⟩,ay,G⟩;have a2:=C ay;have a3:=C G;clear ay G));all_goals
         go_wp2_with fail;go_roundw;case rel=>exact⟨i+1,by omega,by go_num,a2.out,a3.out⟩
         case measure=>simp[intOf];omega
        ·have ai:=C (show¬x=h fromλa=>ah (by rw[a]));have Z:(x.idx==h.idx)=true:=(by simp[M]);have aV:(x.gen==h.gen)=false:=(by simp[ah]);clear M ah;go_upto_region 25 with fail;obtain⟨Y,eU,ac⟩:=cO.out (y.1,y.2+d) z (by rw[z0 ai.out]) D.out bq.out bj.out aq.out;have bw:=C ac;have cv:=D.out.cell 0 (v:=I J y.1.idx) rfl;have eY:=D.out.cell 1 (v:=I J y.1.gen) rfl;have bA:=D.out.cell 2 (v:=I J (y.2+d)) rfl;clear ac o B Z;try clear aV
         go_region_with (first|(go_at_call 139;refine bw.out.mono ?_;rintro e e2 ⟨⟨e3,rfl⟩,ay,G⟩;have a2:=C ay;have a3:=C G;clear ay G));all_goals
          go_wp2_with fail;go_roundw;case rel=>exact⟨i+1,by omega,by go_num,a2.out,a3.out⟩
          case measure=>simp[intOf];omega
        ·have ai:=C (show¬x=h fromλa=>M (by rw[a]));have Z:(x.idx==h.idx)=false:=(by simp[M]);clear M;go_upto_region 25 with fail;obtain⟨Y,eU,ac⟩:=cO.out (y.1,y.2+d) z (by rw[z0 ai.out]) D.out bq.out bj.out aq.out;have bw:=C ac;have cv:=D.out.cell 0 (v:=I J y.1.idx) rfl;have eY:=D.out.cell 1 (v:=I J y.1.gen) rfl;have bA:=D.out.cell 2 (v:=I J (y.2+d)) rfl;clear ac o B Z;try clear aV
         go_region_with (first|(go_at_call 139;refine bw.out.mono ?_;rintro e e2 ⟨⟨e3,rfl⟩,ay,G⟩;have a2:=C ay;have a3:=C G;clear ay G));all_goals
          go_wp2_with fail;go_roundw;case rel=>exact⟨i+1,by omega,by go_num,a2.out,a3.out⟩
          case measure=>simp[intOf];omega
       ·obtain rfl:i=L.length:=by omega
        rw[h3] at bL;go_wp2_with fail;go_ret;rw[bs.out bn.out,bn.out];exact⟨rfl,bL.out.mono (λk _ a=>.inl a.1),(Mod.below (S:=S) dX.out).trans aM.out (λk _ a=>a.1)⟩
variable {t:ex} {f:Int->Option aL}
section
variable {aq w:ab} {S:Nat->Prop} {L:bu} {s:aa} {k:Nat}
theorem L0 (d a b n m e:Int) (H:aw aq S L s w) (hk:s.Ok k) (g:k<=100000):Calls au 58 #[aY L.b,bm (cD d a b n m e)] w (iv aq S L (s.tick a n)):=by
 cases hp:s.e8 a with
 |false=>exact w5 d a b n m e H hk (.inl hp)
 |true=>
  by_cases f:n<0∨s.c.tick<n;·exact w5 d a b n m e H hk (.inr (.inl ⟨hp,f⟩))
  ·rcases hk.runs a with h|⟨p,t,j,l,o,_⟩;·exact w5 d a b n m e H hk (.inr (.inr ⟨hp,f,h⟩))
   ·obtain⟨i,rfl⟩:=dW (aa.mE.1 hp).1;exact Ld d i b n m e H hk g rfl hp f j l o
theorem aw.Cr {t':ae} {f:Nat} {args:Array Value} {V:Value} (H:aw aq S L s w) (b:∀T,cX w T L.eF s.tree->Calls au f args w (tK T L.eF t' V w)):Calls au f args w λe w'=>e=aK V∧aw aq S L {s with tree:=t'} w':=by obtain⟨T,c,d⟩:=H.Bn;exact(b T c).mono (λe w' a=>⟨a.1,d w' t' a.2.1 a.2.2⟩)
def aa.fD (f:ad->ad) (j:Nat) (s:aa):aa:={s with hiers:=(s.hiers.take j).map f++s.hiers.drop j}
theorem aa.xh (f:ad->ad) (s:aa):s.fD f 0=s:=by unfold aa.fD;simp
theorem aa.xi (f:ad->ad) (s:aa) (h:s.hiers.length=n):s.fD f n={s with hiers:=s.hiers.map f}:=by unfold aa.fD;rw[<-h,h3,List.drop_length,qa]
theorem aa.L1 (f:ad->ad) (s:aa) (h:j<=s.hiers.length):(s.fD f j).hiers.length=s.hiers.length:=by unfold aa.fD;simp only[eZ,ep,ix,List.length_drop];omega
theorem eG.fD (h:eG s) (f:ad->ad) {j:Nat} (a:j<=s.c.aR):eG (s.fD f j):=⟨(aa.L1 f s (by rw[h.1];exact a)).trans h.1,h.2⟩
theorem aa.xj (f:ad->ad) {h:ad} (e:s.hiers[j]?=R h):(s.fD f j).hiers[j]?=R h:=by have a:=(bE.1 e).1;unfold aa.fD;rw[gC (by simp;omega)];simp only[ep,ix,List.getElem?_drop];rw[show j+(j-min j s.hiers.length)=j by omega];exact e
theorem aa.xk (f:ad->ad) {h:ad} (e:s.hiers[j]?=R h):(s.fD f j).bO (j:Int) (f h)=s.fD f (j+1):=by obtain⟨a,b⟩:=bE.1 e;unfold aa.fD aa.bO;dsimp only;congr 1;rw[cd,nO _ _ (by simp;omega),o3 a,b,gE,e];simp[ix,Nat.min_eq_left (Nat.le_of_lt a)]
end
variable {G:aL} {gp:Int->Nat}
def tL (gp:Int->Nat):cm Int:=⟨1,λi=>[af (R ⟨gp i,0,U⟩)],λ_=>rfl,λ_ u h=>by simp at h;rw[h];rfl,by decide⟩
theorem L4 (gp:Int->Nat):ij (tL gp) 235 128 8:=⟨underlying235,⟨.pointer U,by kernel_rfl,rfl⟩,by decide⟩
def hY (h:ad) (g:Int) (i:Nat):List Int:=((gh i).map λk:Nat=>(k:Int)).filter λk=>(h.at k).isSome&&h.di k g
theorem xn (h:ad) (g:Int):hY h g 32=h.below g:=rfl
theorem Cw {h:ad} {g:Int} {a:aL} (hk:h.at i=R a) (b:h.di i g=true):hY h g (i+1)=hY h g i++[(i:Int)]:=by unfold hY;rw[nU,h4,r1];simp[hk,b]
theorem tM {h:ad} {g:Int} (hk:h.at i=U∨h.di i g=false):hY h g (i+1)=hY h g i:=by unfold hY;rw[nU,h4,r1];rcases hk with e|e<;>simp[e]
theorem L5 {h:ad} {g:Int} (a:i<32) {b:aL} (hk:h.at i=R b) (c:h.di i g=true):(i:Int)∈h.below g:=by rw[<-xn];unfold hY;rw[List.mem_filter];exact⟨e0.2 ⟨i,o9.2 a,rfl⟩,by simp[hk,c]⟩
theorem bB.L6 {h:ad} (H:bB w S b gp ai h w) (e:Below w.heap.size w w'):bB w' (λk=>S k∧k<w.heap.size) b gp ai h w':=by obtain⟨_,f,H⟩:=H;exact⟨Mod.refl _ _,f,((H.mono (T:=λk=>S k∧k<w.heap.size) (λk c a=>a.elim (λd=>⟨d,c⟩) (λd=>absurd c (by omega)))).frame (zF9 e) (λ_ _=>id)).mono (λk _ a=>.inl a)⟩
theorem Cx (h:ad) (g:Int) (i:Nat):(hY h g i).length<=i:=by unfold hY;exact cJ (o4 _ _) (by simp)
theorem L7 (h:ad) (l:List Int) (i:Int):h.kF (l++[i])=max (h.kF l) (h.fE i):=by unfold ad.kF;simp
theorem L8 {h:ad} {i:Int} (a:h.at i=R G):h.fE i=G.deep:=by unfold ad.fE;rw[a]
theorem Cy {h:ad} (hk:h.Ok) (l:List Int):0<=h.kF l∧h.kF l<=8:=by
 have d:∀(l:List Int) (a:Int),0<=a->a<=8->0<=l.foldl (λa i=>max a (h.fE i)) a∧l.foldl (λa i=>max a (h.fE i)) a<=8:=by
  intro l;induction l with
  |nil=>intro a b c;exact⟨b,c⟩
  |cons i l e=>
   intro a b c;simp only[nV];apply e _ (by omega);have:h.fE i<=8:=by
    unfold ad.fE;cases aT:h.at i with
    |none=>decide
    |some G=>exact(hk.g.deep _ _ aT).2
   omega
 exact d l 0 (by decide) (by decide)
theorem xo (b k:Int) (l:List Int) (h:ad):h.fp b (k::l)=(match h.at k with|none=>h|some G=>h.set k (R {G with deep:=G.deep+b})).fp b l:=by
 conv=>lhs;unfold ad.fp
 cases h.at k<;>rfl
theorem Cz (b:Int) (i:Int):∀(l:List Int) (h:ad),h.fp b (l++[i])=(h.fp b l).fp b [i]
 |[],h=>rfl
 |k::l,h=>by rw[gQ,xo b k (l++[i]) h,xo b k l h];exact Cz b i l _
theorem L9 {b i:Int} {h:ad} (a:h.at i=R G):h.fp b [i]=h.set i (R {G with deep:=G.deep+b}):=by unfold ad.fp;rw[a];rfl
theorem L_ {b:Int} {h:ad} (a:l.Nodup) {i:Int} (c:l[j]?=R i) (f:h.at i=R G):(h.fp b (l.take j)).at i=R G∧h.fp b (l.take (j+1))=(h.fp b (l.take j)).set i (R {G with deep:=G.deep+b}):=by
 have d:(h.fp b (l.take j)).at i=R G:=by rw[ad.so b (l.take j) h (a.sublist (List.take_sublist _ _)) i,z0,f];intro g;obtain⟨k,m,e⟩:=uc.1 g;rw[ix] at m;rw[List.getElem_take] at e;obtain⟨n,o⟩:=bE.1 c;have:=(p2.1 a);have p:=p4.1 this k j (by omega) n (by omega);exact p (e.trans o.symm)
 refine⟨d,?_⟩;rw[gE,c];show h.fp b (l.take j++[i])=_;rw[Cz,L9 d]
theorem Ma {b:Int} {h:ad} (d:l.Nodup) {k:Int} {a:aL} (hk:h.at k=R a):∃c,(h.fp b l).at k=R c∧c.q=a.q:=by
 rw[ad.so b l h d k,hk];split;·exact⟨_,rfl,rfl⟩
 ·exact⟨_,rfl,rfl⟩
theorem sq (b:Int):∀(l:List Int) (h:ad),(h.fp b l).gs.length=h.gs.length
 |[],h=>rfl
 |k::l,h=>by
  rw[xo,sq b l];cases h.at k with
  |none=>rfl
  |some G=>unfold ad.set;split<;>simp
theorem rQ (h:W.cell? ⟨b,o,U⟩=R v):b<W.heap.size:=by
 rcases nd b W.heap.size with q|q;·exact q
 ·unfold World.cell? at h;simp[Array.getElem?_eq_none q] at h
theorem Mb (h:w.cell? ⟨b,i,U⟩=R v) (a:(⟨b,i,U⟩:Addr)≠⟨c,j,U⟩):(w.setCell ⟨c,j,U⟩ u).cell? ⟨b,i,U⟩=R v:=by rw[jz _ _ _ _ a.symm];exact h
theorem bB.Mc {c:ab} {h:ad} (H:bB c S b gp ai h w) {g:Int} (a:h.at g=R G):b≠gp g:=by obtain⟨_,i,H⟩:=H;have d:=(H.g g G a).2.2;have f:=H.b.2;have j:=(ad.dp a).1;intro e;rw[<-e,f] at d;omega
theorem ad.Ok.Md {h:ad} (hk:h.Ok) {g parent:Int} {x up:aL} (h0:g≠0) (a:h.at g=R x) (c:h.at parent=R up) (e:h.eg g parent=0):∃y,(h.fp (up.deep+1-x.deep) (h.below g)).at g=R y∧y.own=x.own∧y.up=x.up∧y.q=x.q∧h.move g parent=(h.fp (up.deep+1-x.deep) (h.below g)).set g (R {y with own:={y.own with v:=(kC x.own.v (h.minOf x.up) (h.minOf parent)).1},up:=parent}):=by
 have b:=ad.so (up.deep+1-x.deep) (h.below g) h (h.oe g) g;have d:h.linked g=R x:=by unfold ad.linked;rw[z0 h0];exact a
 have f:g∈h.below g:=(ad.jO hk.len).2 ⟨⟨x,a⟩,hk.mA.yF (ad.eh a)⟩;rw[aj f,a,iS] at b;refine⟨_,b,rfl,rfl,rfl,?_⟩;unfold ad.move;rw[aj e,d,c];dsimp only;rw[b]
section
def CA:Oper:={dst:=R 102,op:=Op.load 2 (Operand.tmp 101),type:=2,pos:= "hier.go:109",after:=#[{on:=4,ground:=Ground.data}],guard:=U}
attribute [local go_sem] CA
theorem Me (S:Nat->Prop) (b:Nat) (h:ad) (g parent:Int) (w:ab) (bn:cQ w S b h) (hk:h.Ok):Calls au 91 #[af (R ⟨b,0,U⟩),I J g,I J parent] w (dA S b (I J (h.eg g parent)) (h.move g parent) w):=by
 obtain⟨gp,ai,A⟩:=bn.start;have Z:=C (q7 g A hk.len);have M:=C (oF parent A hk.len);have aa:=C A;have E:h.eg g parent≠0->h.move g parent=h:=λe=>by unfold ad.move;rw[z0 e]
 cases s:h.linked g with
 |none=>
  have n:h.eg g parent=1:=by unfold ad.eg;rw[s]
  rw[ri s] at Z;rw[E (by rw[n];decide),n];obtain⟨v,bZ⟩:∃v,gl h gp parent=v:=⟨_,rfl⟩;rw[bZ] at M;clear A hk s n E bZ;go_enter func91,ntmps91;go_wp2_with fail;refine Z.out.mono ?_;rintro e a ⟨rfl,rfl⟩;go_wp2_with fail;refine M.out.mono ?_;rintro e a ⟨rfl,rfl⟩;go_wp2_with fail;go_ret;exact aa.out.hp _
 |some x=>
  rw[rj s] at Z;cases hp:h.at parent with
  |none=>have n:h.eg g parent=1:=(by unfold ad.eg;rw[s,hp]);rw[wd hp] at M;rw[E (by rw[n];decide),n];clear A hk s n E hp;go_enter func91,ntmps91;go_wp2_with fail;refine Z.out.mono ?_;rintro e a ⟨rfl,rfl⟩;go_wp2_with fail;refine M.out.mono ?_;rintro e a ⟨rfl,rfl⟩;go_wp2_with fail;go_ret;exact aa.out.hp _
  |some up=>
   rw[jY hp] at M;obtain⟨b2,aA⟩:=ke s;have aZ:=C (Cv parent g A hk.len hk.g hp);cases ao:h.di parent g with
   |true=>have n:h.eg g parent=10:=(by unfold ad.eg;rw[s,hp];dsimp only;rw[aj ao]);rw[ao] at aZ;rw[E (by rw[n];decide),n];clear A hk s n E hp ao aA;go_enter func91,ntmps91;go_wp2_with fail;refine Z.out.mono ?_;rintro e a ⟨rfl,rfl⟩;go_wp2_with fail;refine M.out.mono ?_;rintro e a ⟨rfl,rfl⟩;go_wp2_with fail;refine aZ.out.mono ?_;rintro e a ⟨rfl,rfl⟩;go_wp2_with fail;go_ret;exact aa.out.hp _
   |false=>
    have n:h.eg g parent=if(h.below g).any h.busy then 6 else if 8<h.kF (h.below g)+(up.deep+1-x.deep) then 5 else 0:=(by unfold ad.eg;rw[s,hp];dsimp only;rw[z0 (by rw[ao];simp)]);rw[ao] at aZ;have bp:=C n;have bQ:=C E;have a6:=C aA;have aF:=C hp;have p:=C hk;have c4:=C bn;have bs:=C A.range;have b9:=C (xl h gp);have a1:=C (λi (bv:i<32)=>xm h gp bv);obtain⟨L,a7⟩:∃L,oY h gp=L:=⟨_,rfl⟩;rw[a7] at bs b9 a1;obtain⟨ae,bq⟩:∃ae,h.eg g parent=ae:=⟨_,rfl⟩;obtain⟨am,br⟩:∃am,h.move g parent=am:=⟨_,rfl⟩;have B:=C (bx bq br);rw[bq,br];clear A hk s n E hp ao aA a7 bq br bn;go_enter func91,ntmps91;go_wp2_with fail;refine Z.out.mono ?_;rintro e a ⟨rfl,rfl⟩;go_wp2_with fail;refine M.out.mono ?_;rintro e a ⟨rfl,rfl⟩;go_wp2_with fail;refine aZ.out.mono ?_;rintro e a ⟨rfl,rfl⟩;go_wp2_with ((refine wpList_load_mid rfl _ _ rfl b 2 rfl L _ bs.out underlying160 rfl (by rw[b9.out];kernel_rfl) ?_));go_loopw [9,10,36] (λdv bo N wr=>∃i:Nat,i<=32∧N=I J (i:Int)∧bo=I J (h.kF (hY h g i))∧Own (tL gp) wr a.heap.size 128 dv (hY h g i).length (hY h g i)∧Below a.heap.size a wr∧(hY h g i).any h.busy=false) (λ_ _ N _=>32-(intOf N).toNat);case atStart=>exact⟨0,by omega,rfl,rfl,Own.nil _ _ _,Below.refl _ _,rfl⟩
    case round=>
     obtain⟨i,bv,rfl,rfl,cb,aE,cf⟩:=hrel;have O:=C cb;have ac:=C aE;have P:=C cf;have F:=C (aa.out.below aE);clear cb aE cf;by_cases H:i<32;·have dw:(i:Int)<32:=(by omega);have ay:=a1.out i H;have c5:(0:Int)<=(i:Int):=(by omega);have bO:(i:Int).toNat=i:=(by omega);cases Q:h.at i with
      |none=>
       rw[wd Q] at ay;have cg:=tD L i _ H ay wr;have f:=C Q;clear Q ay;go_wp2_with fail;go_roundw;case rel=>exact⟨i+1,by omega,by go_num,by rw[tM (.inl f.out)],by rw[tM (.inl f.out)];exact O.out,ac.out,by rw[tM (.inl f.out)];exact P.out⟩
       case measure=>simp[intOf];omega
      |some aM=>
       rw[jY Q] at ay;have cg:=tD L i _ H ay wr;have a8:=C (Cv i g F.out p.out.len p.out.g Q);have f:=C Q;clear Q ay;cases T:h.di i g with
       |false=>
        rw[T] at a8;have a0:=C (tM (h:=h) (g:=g) (i:=i) (.inr T));clear T;go_wp2_with fail;refine a8.out.mono ?_;rintro e dx ⟨rfl,rfl⟩;go_wp2_with fail;go_roundw;case rel=>exact⟨i+1,by omega,by go_num,by rw[a0.out],by rw[a0.out];exact O.out,ac.out,by rw[a0.out];exact P.out⟩
        case measure=>simp[intOf];omega
       |true=>
        rw[T] at a8;have iq:=C (Cw f.out T);have dy:=C (F.out.ra f.out (p.out.g.q _ _ f.out));have dF:=(F.out.cw f.out).cell 2 (v:=af (R ⟨ai i,0,U⟩)) rfl;have ch:=C T;clear T;go_wp2_with fail;refine a8.out.mono ?_;rintro e dx ⟨rfl,rfl⟩;go_wp2_with fail;refine dy.out.mono ?_;rintro e ap ⟨ir,rfl,cj,a_⟩;obtain⟨c9,iu,rfl⟩:=cj.mR;have cn:=C a_;have bw:=C (F.out.below a_);have dL:=C (O.out.next' a_);clear cj a_ cg dF;have db:=p.out.g.deep _ _ f.out;have aq:=C (Cy p.out (hY h g i));have a2:=aq.out;by_cases ba:aM.q.es.length=0
        ·have a3:=C (show h.busy i=false by unfold ad.busy;rw[f.out];simp[nM.1 ba]);rw[ba];have a4:=(bw.out.cw f.out).cell 1 (v:=I J aM.deep) rfl;clear ba;obtain⟨K,D⟩:∃K,h.kF (hY h g i)=K:=⟨_,rfl⟩;rw[D] at a2;have aO:=C D;rw[D];clear D;go_upto_region 14 with fail;have iL:=cn.out.size;have dQ:=ac.out.size;have a5:=Cx h g i;have aK:=C (dL.out.alloc (av #[af (R ⟨gp i,0,U⟩)] 128));have ce:(hY h g i).length<=10000000:=(by omega);have b5:a.heap.size<=(ap.alloc (av #[af (R ⟨gp i,0,U⟩)] 128)).heap.size:=(by simp;omega);have dR:=C (show∀X u,((tL gp).e (i:Int))[X]?=R u->(ap.alloc (av #[af (R ⟨gp i,0,U⟩)] 128)).cell? ⟨ap.heap.size,X,U⟩=R u fromλX u bu=>dE.trans (by rw[<-bu];show([af (R ⟨gp i,0,U⟩)]:List Value).toArray[X]?=_;rw[ff];rfl));have cp:=((bw.out.cw f.out)).lt;have bX:=fo (av #[af (R ⟨gp i,0,U⟩)] 128) cp a4;have dX:=C (show gp i<a.heap.size from(aa.out.cw f.out).lt);clear a4;go_wp2_with ((at_builtin;refine jv (L4 gp) rfl _ _ rfl a.heap.size _ (hY h g i).length (hY h g i) rfl aK.out ap.heap.size _ (i:Int) rfl dR.out ce b5 ?_;intro ci u cr cu cy;have cE:=C (show Grow _ u u9 ci from Grow.gK cu cy);have ee:=C cr;have a4:=cE.out.cell (by simp;omega) (λe=>by have:=aK.out.lt _ e.symm;have:=dX.out;omega) bX;have ck:=C (show Below a.heap.size a u from((ac.out.trans (cn.out.mono dQ)).trans ((bz ap _).mono (by omega))).trans (cE.out.below b5 (λen x=>(aK.out.lt en x).1)));clear cr cu cy bX cp));go_roundw;case rel=>have d:=Cw f.out ch.out;refine⟨i+1,by omega,by go_num,by rw[d,L7,aO.out,L8 f.out],by rw[d,eZ];exact ee.out,ck.out,by rw[d,List.any_append,P.out];simp[a3.out]⟩
         case measure=>simp[intOf];omega
        ·have a3:=C (show h.busy i=true by unfold ad.busy;rw[f.out];simp;exactλX=>ba (by rw[X];rfl));have t:ae=6:=(by rw[<-B.out.1,bp.out,aj];exact nS.2 ⟨(i:Int),L5 H f.out ch.out,a3.out⟩);have ah:am=h:=(by rw[<-B.out.2];exact bQ.out (by rw[B.out.1,t];decide));have aQ:=C (bx t ah);clear t ah;have iM:(0:Int)<(aM.q.es.length:Int):=(by omega);go_wp2_with fail;go_ret;rw[aQ.out.1,aQ.out.2];exact bw.out.hp _
     ·obtain rfl:i=32:=by omega
      rw[xn] at O P⊢;have aq:=C (Cy p.out (h.below g));have a2:=aq.out;have iN:=p.out.g.deep _ _ a6.out;have bT:=p.out.g.deep _ _ aF.out;have eo:=(F.out.cw a6.out).cell 1 (v:=I J x.deep) rfl;have u1:=(F.out.cw aF.out).cell 1 (v:=I J up.deep) rfl;obtain⟨K,D⟩:∃K,h.kF (h.below g)=K:=⟨_,rfl⟩;rw[D] at a2;have aO:=C D;rw[D];clear D;have bC:IntKind.i64.wrap (up.deep+1)=up.deep+1:=IntWalk.i64_in _ (by omega);have ew:IntKind.i64.wrap (up.deep+1-x.deep)=up.deep+1-x.deep:=IntWalk.i64_in _ (by omega);have co:IntKind.i64.wrap (K+(up.deep+1-x.deep))=K+(up.deep+1-x.deep):=IntWalk.i64_in _ (by omega);go_wp2_with fail;go_region;by_cases aR:8<K+(up.deep+1-x.deep);·have t:ae=5:=(by rw[<-B.out.1,bp.out,z0 (by rw[P.out];simp),aO.out,aj aR]);have ah:am=h:=(by rw[<-B.out.2];exact bQ (by rw[B.out.1,t];decide));have aQ:=C (bx t ah);clear t ah;go_wp2_with fail;go_ret;rw[aQ.out.1,aQ.out.2];exact F.drew.hp _
      ·have t:ae=0:=(by rw[<-B.out.1,bp.out,z0 (by rw[P.out];simp),aO.out,z0 aR]);obtain⟨V,ag⟩:=aX wr.drew;have a9:Below a.heap.size a V:=ag▸ac.out.drew;have eH:=C (aa.L6 a9);obtain⟨eI,eL,dg,rfl,cs,eT,eU,bm⟩:=O.rd;have b8:=C (show∀j y,(h.below g)[j]?=R y->∃Y aS,eL=R ⟨Y,aS,U⟩∧a.heap.size<=Y∧V.cell? ⟨Y,aS+j,U⟩=R (af (R ⟨gp y,0,U⟩)) fromλj y d=>by have bb:=(bE.1 d).1;obtain⟨Y,aS,rfl,H,cv⟩:=bm.cells (by omega);refine⟨Y,aS,rfl,(O.lt Y rfl).1,?_⟩;rw[<-ag];have:=cv j y d 0 (af (R ⟨gp y,0,U⟩)) rfl;rw[show j*(tL gp).c+0=j*1 from rfl,Nat.mul_one] at this;exact this);have aD:=C (λ(j:Nat) (y:Int) (bb:(h.below g)[j]?=R y) (G:aL) (aU:h.at y=R G)=>L_ (b:=up.deep+1-x.deep) (h:=h) (h.oe g) bb aU);have aw:=C (λ(k:Int) (aM:aL) (hk:h.at k=R aM)=>Ma (b:=up.deep+1-x.deep) (h.oe g) hk);have bG:=C (show(h.fp (up.deep+1-x.deep) (h.below g)).gs.length=32 by rw[sq];exact p.len);have cq:=C (λ(j:Nat) (y:Int) (d:(h.below g)[j]?=R y)=>((ad.jO p.len).1 (ea d)).1);have bH:=C (p.Md b2 a6 aF (by rw[B.out.1];exact t));have eY:=C t;have a5:=Cx h g 32;rw[xn] at a5;generalize bA:h.below g=l at b8 aD cq bH aw bG a5⊢;generalize e2:up.deep+1-x.deep=z at aD bH aw bG aR⊢;have jk:-8<=z∧z<=9:=(by omega);have e3:=C a9;rw[ag];clear t ag a9 cs eT eU bm bA e2 bC ew co eo u1 O ac P F aO aq eI;go_wp2_with fail;go_loopw [83] (λN W=>∃j:Nat,j<=l.length∧N=I J (j:Int)∧bB V (λk=>S k∧k<a.heap.size) b gp ai (h.fp z (l.take j)) W) (λN _=>l.length-(intOf N).toNat);case atStart=>exact⟨0,by omega,rfl,eH⟩
       case round=>
        obtain⟨j,bb,rfl,aP⟩:=hrel;have m:=C aP;clear aP;by_cases H:j<l.length
        ·have dw:(j:Int)<(l.length:Int):=(by omega);have aH:(j:Int).toNat=j:=(by omega);obtain⟨y,d⟩:∃y,l[j]?=R y:=⟨_,b6 H⟩;obtain⟨Y,aS,rfl,jl,bd⟩:=b8 j y d;obtain⟨G,aU⟩:=cq j y d;obtain⟨bc,cH⟩:=aD j y d G aU;have fl:=m.1.cell bd (rQ bd) (λX=>by omega);have bJ:=(m.cw bc).cell 1 (v:=I J G.deep) rfl;have bD:=(m.cw bc).free 1;have jy:=p.g.deep _ _ aU;have bC:IntKind.i64.wrap (G.deep+z)=G.deep+z:=IntWalk.i64_in _ (by omega);have fy:=C cH;have ar:=C bc;clear d bd aU bc cH;go_upto_region 24 with fail;generalize be:wr.setCell ⟨gp y,1,U⟩ (I J (G.deep+z))=bj;have cO:Mod (λk=>k=gp y) wr bj:=be▸Mod.one wr (gp y) 1 _;have cS:ak bj (gp y) (im {G with deep:=G.deep+z} (ai y)) 132:=be▸(m.cw ar).set 1 (I J (G.deep+z));have aP:=m.cells (G':={G with deep:=G.deep+z}) ar cS cO rfl;have aB:=C (fy▸aP);clear be cO cS aP bC bJ bD fl;go_wp2_with fail;go_roundw;case rel=>exact⟨j+1,by omega,by go_num,aB⟩
         case measure=>simp[intOf];omega
        ·obtain rfl:j=l.length:=by omega
         rw[h3] at m;obtain⟨y,d,cT,cU,fz,aI⟩:=bH;obtain⟨fA,bK,fB⟩:=p.g.up g x a6 b2;obtain⟨cB,bf,cR⟩:=aw x.up fA bK;obtain⟨fC,bL,c7⟩:=aw parent up aF;obtain⟨o,bg,dl,an⟩:=m.ty bf bG;have ax:=(m.cw d).cell 0 (v:=I J y.up) rfl;have fO:=(m.cw d).cell 5 (v:=I J y.own.v) rfl;have u2:=(m.cw bf).cell 2 (v:=af (R ⟨ai x.up,0,U⟩)) rfl;have aN:=(m.cw bL).cell 2 (v:=af (R ⟨ai parent,0,U⟩)) rfl;rw[cU,bg] at ax;rw[bg] at an u2;have bi:=C (m.drew.s_ bf);have bh:=C (m.drew.s_ bL);rw[bg] at bi;have j3:(0:Int)<=(o:Int):=(by omega);have j4:(o:Int)<32:=(by omega);have bW:(o:Int).toNat=o:=(by omega);obtain⟨bI,bP⟩:=aX cB.q.mn;obtain⟨dc,aY⟩:=aX fC.q.mn;have bF:=C (show h.minOf x.up=bI by unfold ad.minOf;rw[bK,<-bP,cR]);have fU:=C (show h.minOf parent=dc by unfold ad.minOf;rw[aF.out,<-aY,c7]);rw[bP] at bi;rw[aY] at bh;have az:=C d;have fV:=C cT;have f_:=C aI;clear d cT cU fz aI bK fB bf cR bL c7 bP aY bg bb H;have gq:=m.Mc az;have gr:=C (show∀W',Below wr.drew.heap.size wr.drew W'->W'.cell? ⟨gp g,0,U⟩=R (I J o)∧W'.cell? ⟨b,2+o,U⟩=R (af (R ⟨gp o,0,U⟩))∧W'.cell? ⟨gp o,2,U⟩=R (af (R ⟨ai o,0,U⟩))∧W'.cell? ⟨gp parent,2,U⟩=R (af (R ⟨ai parent,0,U⟩)) fromλW' bk=>⟨(zF9 bk).cell (b7 ax) (rQ ax) id,(zF9 bk).cell (b7 an) (rQ an) id,(zF9 bk).cell (b7 u2) (rQ u2) id,(zF9 bk).cell (b7 aN) (rQ aN) id⟩);go_upto_region 25 with fail;rw[show({dst:=R 102,op:=Op.load 2 (Operand.tmp 101),type:=2,pos:= "hier.go:109",after:=#[{on:=4,ground:=Ground.data}],guard:=U}:Oper)=CA from rfl];go_region_held3 (λW'=>W'.cell? ⟨gp g,0,U⟩=R (I J o)∧W'.cell? ⟨b,2+o,U⟩=R (af (R ⟨gp o,0,U⟩))∧W'.cell? ⟨gp o,2,U⟩=R (af (R ⟨ai o,0,U⟩))∧W'.cell? ⟨gp parent,2,U⟩=R (af (R ⟨ai parent,0,U⟩))) ((refine⟨?_,?_,?_,?_⟩)<;>(repeat(first|assumption|(with_reducible refine b7 ?_)|(refine Mb ?_ (by simp[gq]))))) (first|(go_at_call 132;refine bi.mono ?_;rintro e b4 ⟨rfl,rfl⟩)|(go_at_call 132;refine bh.mono ?_;rintro e b4 ⟨rfl,rfl⟩)|(go_at_call 141;refine(Ad _ _ _ _).mono ?_;rintro e bR ⟨rfl,bU⟩;have aB:=C (m.drew.below bU);have gB:=(aB.cw az).free 5;have gN:=(aB.cw az).cell 5 (v:=I J y.own.v) rfl;have bY:=gr _ bU;obtain⟨bY,bN,hi,hj⟩:=bY;clear bU));all_goals obtain⟨r,al⟩:∃r,(kC y.own.v bI dc).1=r:=⟨_,rfl⟩;rw[al];obtain⟨aC,bl⟩:∃aC,bR.setCell ⟨gp g,5,U⟩ (I J r)=aC:=⟨_,rfl⟩;rw[bl];have df:Mod (λk=>k=gp g) bR aC:=bl▸Mod.one bR (gp g) 5 _;have aT:ak aC (gp g) (im {y with own:={y.own with v:=r}} (ai g)) 132:=bl▸(aB.cw az).set 5 (I J r);have b_:=aB.cells (G':={y with own:={y.own with v:=r}}) az aT df rfl;have hG:=C al;have hH:=C b_;have c0:=C (show((h.fp z l).set g (R {y with own:={y.own with v:=r}})).at g=R {y with own:={y.own with v:=r}} by rw[ad.dq az.out];exact eV _ _ _);have j5:=aT.cell 0 (v:=I J y.up) rfl;have kq:=aT.free 0;have bS:=C aT;clear bl df aT b_ al gB gN bY bN hi hj ax fO u2 aN an;go_wp2_with fail;have dj:ak (aC.setCell ⟨gp g,0,U⟩ (I J parent)) (gp g) (im {y with own:={y.own with v:=r},up:=parent} (ai g)) 132:=bS.set 0 (I J parent);have aV:=hH.cells (G':={y with own:={y.own with v:=r},up:=parent}) c0 dj (Mod.one aC (gp g) 0 _) rfl;have c2:=C aV;clear aV dj;go_ret;have c3:((h.fp z l).set g (R {y with own:={y.own with v:=r}})).set g (R {y with own:={y.own with v:=r},up:=parent})=am:=(by rw[<-B.out.2,f_.out,ad.set_set,bF.out,fU.out,<-fV.out,hG.out]);have aV:=c2;rw[c3] at aV;rw[eY.out];exact aV.I7 e3 _
end
variable {cap:Nat} {v1:Value}
theorem CB {f:ex->Bool} {l:List ex} (e:l[j]?=R t) (h:(l.take j).any f=false) (a:f t=false):(l.take (j+1)).any f=false:=by rw[gE,e,lI,List.any_append,h];simp[a]
theorem CC {f:ex->Bool} {l:List ex} (e:l[j]?=R t) (a:f t=true):l.any f=true:=nS.2 ⟨t,ea e,a⟩
section
variable {aq w:ab} {S:Nat->Prop} {L:bu} {s:aa} {k:Nat}
theorem aw.tN (H:aw aq S L s w) (hv:L.tv=aA a n cap) (c:s.tasks[j]?=R t):∃g,a=R ⟨g,0,U⟩∧w.cell? ⟨g,j,U⟩=R (af (R ⟨L.tk j,0,U⟩)):=by obtain⟨f,d⟩:=H.fk .fx;obtain⟨g,h,b,e,i,k,l⟩:=dJ.cell d (td (L:=L) (s:=s) (bE.1 c).1);rw[hv] at b;simp only[Value.slice.injEq] at b;exact⟨g,b.1,e⟩
theorem aw.pX (H:aw aq S L s w) (e:L.b=b):∃a cap,L.tv=aA a s.tasks.length cap∧w.cell? ⟨b,7,U⟩=R (aA a s.tasks.length cap):=by have d:=H.top.cell 7 pL;obtain⟨T,f⟩:=H.fk .fx;obtain⟨a,cap,c⟩:=dJ.form f;rw[oL] at c;rw[c,e] at d;exact⟨a,cap,c,d⟩
theorem Mf (a4 a b n m a5:Int) (H:aw aq S L s w) (hk:s.Ok k) (eT:k<=100000):Calls au 47 #[aY L.b,bm (cD a4 a b n m a5)] w (iv aq S L (s.move a b)):=by
 obtain⟨V,aK⟩:=aX (w.alloc (av (cD a4 a b n m a5) 33));obtain⟨bC,eU,Q,cp,a9⟩:=H.enter _ aK;have bb:=C aK;have aO:=C cp;have bB:=bN (i:=1) a9 (v:=I J a) rfl;have bX:=bN (i:=2) a9 (v:=I J b) rfl;have E:=C (kO a Q.drew);have X:=C (kO b Q.drew);have cv:=b7 bB;have eY:=b7 bX;generalize Y:s.move a b=Z;unfold aa.move at Y;unfold aY at*;obtain⟨ao,bc⟩:=aX L.b;have ah:=C bc;rw[bc] at E X⊢;unfold cD at bb⊢;obtain⟨aD,aQ⟩:=aX (kp L s a);obtain⟨cr,aS⟩:=aX (kp L s b);rw[aQ] at E;rw[aS] at X;by_cases ac:s.group a=U∨s.group b=U
 ·have aU:Z=(s,0,2):=by
   rw[<-Y];rcases ac with e|e;·rw[e]
   ·rw[e];cases s.group a<;>rfl
  have aP:=C aU;have cu:aD=af U∨(∃x,aD=af (R ⟨x,0,U⟩))∧cr=af U:=by
   rw[<-aQ,<-aS];cases az:s.group a with
   |none=>exact .inl (aa.mV az)
   |some G=>
    rcases ac with e|e;·rw[az] at e;cases e
    ·exact .inr ⟨⟨_,aa.k3 az⟩,aa.mV e⟩
  rcases cu with rfl|⟨⟨x,rfl⟩,rfl⟩;all_goals go_enter func47,ntmps47;go_upto_region 1 with fail;rw[bb.out];go_wp2_with fail;go_region_held3 (λW'=>W'.cell? ⟨w.heap.size,1,U⟩=R (I J a)∧W'.cell? ⟨w.heap.size,2,U⟩=R (I J b)) ((refine⟨?_,?_⟩)<;>(with_reducible repeat(first|assumption|refine b7 ?_))) (first|(go_at_call 24;first|(refine E.mono ?_;rintro e bf ⟨rfl,rfl⟩;clear E)|(refine X.mono ?_;rintro e bf ⟨rfl,rfl⟩)));all_goals go_wp2_with fail;go_ret2;rw[aP.out];exact dk (aO _ _ _ Q.drew)
 ·obtain⟨G,M⟩:∃G,s.group a=R G:=by
   cases e:s.group a with
   |none=>exact absurd (.inl e) ac
   |some G=>exact⟨G,rfl⟩
  obtain⟨y,bg⟩:∃G,s.group b=R G:=by
   cases e:s.group b with
   |none=>exact absurd (.inr e) ac
   |some G=>exact⟨G,rfl⟩
  obtain⟨cy,bG,cE⟩:=aa.hc M;obtain⟨b8,bH,cq⟩:=aa.hc bg;rw[M,bg] at Y;dsimp only at Y;rw[aa.k3 M] at aQ;rw[aa.k3 bg] at aS;subst aQ aS;obtain⟨F,rfl⟩:=dW cy;obtain⟨K,rfl⟩:=dW b8;rw[cd] at bG E;rw[cd] at bH X;obtain⟨N,bd⟩:=aX (L.gk F);obtain⟨an,be⟩:=aX (L.gk K);rw[bd] at E;rw[be] at X;have aC:=C bd;have aT:=C be;have O:=C (bx bG cE);have ay:=C (bx bH cq);obtain⟨f,bk⟩:=aX ((λt:ex=>t.on&&ae.di s.tree (s.ax t.g).h G.h));have cH:∀t:ex,t.on=false->f t=false:=λt aF=>by rw[<-bk];simp[aF]
  have ar:∀t:ex,t.on=true->f t=ae.di s.tree (s.ax t.g).h G.h:=λt aF=>by rw[<-bk];simp[aF]
  have bj:=C cH;have cO:=C ar;rw[bk] at Y;have aP:=C Y;obtain⟨bA,e2,cS,bK⟩:=Q.pX bc;have cT:=C cS;have cU:=b7 bK;obtain⟨ad,bL⟩:=aX s.tasks.length;have e3:=hk.eA.1;have fl:ad<=100000:=by omega
  have aN:=C bL;rw[bL] at bK cU;obtain⟨aB,bl⟩:=aX s.c.aR;have bn:=C bl;have aI:=hk.aR;rw[bl] at aI;obtain⟨bJ,bD,cR,_,bi⟩:=Q.iJ hk.lens (p:=0) (by rw[bl];omega);have bP:=C cR;go_enter func47,ntmps47;go_upto_region 1 with fail;rw[bb.out];go_wp2_with fail;go_region_held3 (λW'=>W'.cell? ⟨w.heap.size,1,U⟩=R (I J F)∧W'.cell? ⟨w.heap.size,2,U⟩=R (I J K)) ((refine⟨?_,?_⟩)<;>(with_reducible repeat(first|assumption|refine b7 ?_))) (first|(go_at_call 24;first|(refine E.mono ?_;rintro e bf ⟨rfl,rfl⟩;clear E)|(refine X.mono ?_;rintro e bf ⟨rfl,rfl⟩)));all_goals
   go_wp2_with fail;go_loopw [32] (λu W=>∃j:Nat,j<=ad∧u=I J (j:Int)∧(s.tasks.take j).any f=false∧aw V bC L s W) (λu _=>ad-(intOf u).toNat);case atStart=>exact⟨0,by omega,rfl,by simp,Q.drew⟩
   case round=>
    obtain⟨j,c7,rfl,bh,d⟩:=hrel;have aA:=C bh;have bp:=C d;by_cases aV:j<ad;·obtain⟨t,aZ⟩:∃t,s.tasks[j]?=R t:=⟨_,b6 (by rw[aN.out];exact aV)⟩;obtain⟨g,rfl,az⟩:=d.tN cT aZ;obtain⟨ak,bR⟩:∃x,L.tk j=x:=⟨_,rfl⟩;rw[bR] at az;obtain⟨_,_,_,a6,_,bq,_⟩:=d.ek aZ bR;have bI:(j:Int)<(ad:Int):=(by omega);have dc:(0:Int)<=(j:Int):=(by omega);have df:(j:Int).toNat=j:=(by omega);have ai:=C aZ;cases am:t.on with
     |false=>
      rw[am] at a6;have bU:=C am;go_wp2_with fail;go_quiet (fail);go_wp2_with fail;go_roundw;case rel=>exact⟨j+1,by omega,by go_num,CB ai aA (bj t bU),bp.next (below_drewN (Below.refl _ _) nq)⟩
      case measure=>simp[intOf];omega
     |true=>
      rw[am] at a6;have bU:=C am;obtain⟨_,u1,u2,_⟩:=d.dB (hk.jT aZ) rfl;obtain⟨_,v1,a8,_⟩:=d.dB O.1 aC;have D:=d.top.cell 5 jX;unfold aY at D;rw[ah.out] at D;obtain⟨b_,dj⟩:=d.drew.tree;have aM:=C (tj b_ L.eF s.tree (s.ax t.g).h G.h wr.drew dj hk.tree);generalize dv:ae.di s.tree (s.ax t.g).h G.h=r at aM;have bY:=C ((cO t am).trans dv);generalize fy:(s.ax t.g).h=a_ at u1 u2 aM;generalize fz:L.gk t.g=gb at bq u1 u2;generalize br:L.eF=eF at D aM;have z:=C (λ(W':ab) (ao o:Nat) (al:Value) (bZ:Below wr.drew.heap.size wr.drew W') (b2:wr.cell? ⟨ao,o,U⟩=R al)=>show W'.cell? ⟨ao,o,U⟩=R al from(zF9 bZ).cell (b7 b2) (ig b2) id);go_wp2_with fail;cases r with
      |false=>go_region_held3 (λW'=>W'.cell? ⟨ao,5,U⟩=R (af (R ⟨eF,0,U⟩))∧W'.cell? ⟨ak,3,U⟩=R (aE true)∧W'.cell? ⟨ak,5,U⟩=R (af (R ⟨gb,0,U⟩))∧W'.cell? ⟨gb,1,U⟩=R (I J a_.idx)∧W'.cell? ⟨gb,2,U⟩=R (I J a_.gen)∧W'.cell? ⟨N,1,U⟩=R (I J G.h.idx)∧W'.cell? ⟨N,2,U⟩=R (I J G.h.gen)) ((refine⟨?_,?_,?_,?_,?_,?_,?_⟩)<;>(with_reducible repeat(first|assumption|refine b7 ?_))) (first|(go_at_call 70;refine aM.mono ?_;rintro e q ⟨rfl,l⟩;have bo:=z q _ _ _ l D;have dw:=z q _ _ _ l a6;have dx:=z q _ _ _ l bq;have dy:=z q _ _ _ l u1;have bz:=z q _ _ _ l u2;have dF:=z q _ _ _ l v1;have dL:=z q _ _ _ l a8;have P:=C (bp.drew.next l)));all_goals
       go_wp2_with fail;go_roundw;case rel=>exact⟨j+1,by omega,by go_num,CB ai aA bY,P⟩
       case measure=>simp[intOf];omega
      |true=>go_region_held3 (λW'=>W'.cell? ⟨ao,5,U⟩=R (af (R ⟨eF,0,U⟩))∧W'.cell? ⟨ak,3,U⟩=R (aE true)∧W'.cell? ⟨ak,5,U⟩=R (af (R ⟨gb,0,U⟩))∧W'.cell? ⟨gb,1,U⟩=R (I J a_.idx)∧W'.cell? ⟨gb,2,U⟩=R (I J a_.gen)∧W'.cell? ⟨N,1,U⟩=R (I J G.h.idx)∧W'.cell? ⟨N,2,U⟩=R (I J G.h.gen)) ((refine⟨?_,?_,?_,?_,?_,?_,?_⟩)<;>(with_reducible repeat(first|assumption|refine b7 ?_))) (first|(go_at_call 70;refine aM.mono ?_;rintro e q ⟨rfl,l⟩;have bo:=z q _ _ _ l D;have dw:=z q _ _ _ l a6;have dx:=z q _ _ _ l bq;have dy:=z q _ _ _ l u1;have bz:=z q _ _ _ l u2;have dF:=z q _ _ _ l v1;have dL:=z q _ _ _ l a8;have P:=C (bp.drew.next l)));all_goals go_wp2_with fail;go_ret2;rw[<-aP.out,if_pos (CC ai.out bY.out)];exact dk (aO _ _ _ P)
    ·obtain rfl:j=ad:=by omega
     have ac:s.tasks.any f=false:=(by have aF:=aA.out;rwa[<-aN.out,h3] at aF);have aU:=aP.out;rw[z0 (by rw[ac];decide)] at aU;have bQ:=C aU;obtain⟨fA,dQ⟩:=gP.1 (hk.there F G O.1 O.2).1;obtain⟨fB,ce⟩:=gP.1 (hk.there K y ay.1 ay.2).1;obtain⟨_,v1,a8,_⟩:=d.dB O.1 aC;obtain⟨_,u1,u2,_⟩:=d.dB ay.1 aT;have D:=d.top.cell 5 jX;unfold aY at D;rw[ah.out] at D;have a0:=C (d.drew.Cr (λT M=>LZ T L.eF s.tree G.h y.h wr.drew M hk.tree dQ ce));obtain⟨B,bs⟩:=aX (({s with tree:=ae.move s.tree G.h y.h}:aa));obtain⟨b9,bv⟩:=aX (ae.eg s.tree G.h y.h);rw[bs,bv] at a0;have A:=C bs;have bw:=C bv;obtain⟨eF,br⟩:=aX L.eF;have dR:=C br;rw[br] at D a0;go_wp2_with fail;go_region_held3 (λW'=>W'.cell? ⟨ao,5,U⟩=R (af (R ⟨eF,0,U⟩))∧W'.cell? ⟨N,1,U⟩=R (I J G.h.idx)∧W'.cell? ⟨N,2,U⟩=R (I J G.h.gen)∧W'.cell? ⟨an,1,U⟩=R (I J y.h.idx)∧W'.cell? ⟨an,2,U⟩=R (I J y.h.gen)) ((refine⟨?_,?_,?_,?_,?_⟩)<;>(with_reducible repeat(first|assumption|refine b7 ?_))) (first|(go_at_call 90;refine a0.mono ?_;rintro e q ⟨rfl,ba⟩;obtain⟨_,bu,dX,_⟩:=ba.dB (g:=F) (by rw[<-A.out];exact O.1) aC;obtain⟨_,ci,ee,_⟩:=ba.dB (g:=K) (by rw[<-A.out];exact ay.1) aT;have a7:=ba.top.cell 5 jX;unfold aY at a7;rw[ah.out,dR.out] at a7;have P:=C ba));all_goals
      by_cases aj:b9=0
      ·have a2:eG B:=(by rw[<-A.out];exact hk.lens);have cb:B.c.aR=aB:=(by rw[<-A.out];exact bn);have cf:=C cb;obtain⟨_,bi⟩:=P.fN a2 (p:=0) (by rw[cb];omega) bP;rw[ah.out,bn.out] at bi;have ap:=bQ.out;rw[bw.out,z0 (by rw[aj];decide)] at ap;have a3:=C ap;subst aj;go_wp2_with fail;go_loopw [80] (λu W=>∃j:Nat,j<=aB∧u=I J (j:Int)∧aw V bC L (B.fD (λx=>x.move G.h.idx y.h.idx) j) W) (λu _=>aB-(intOf u).toNat);case atStart=>exact⟨0,by omega,rfl,by rw[aa.xh];exact P⟩
       case round=>
        obtain⟨j,c7,rfl,d⟩:=hrel;by_cases aV:j<aB;·obtain⟨x,cg⟩:∃x,s.hiers[j]?=R x:=⟨_,b6 (by rw[hk.hlen,bn.out];exact aV)⟩;have ck:=(hk.a1 j x cg).1;have ch:B.hiers[j]?=R x:=(by rw[<-A.out];exact cg);have en:j<B.c.aR:=(by rw[cf.out];exact aV);have eo:=C (a2.fD (λx=>x.move G.h.idx y.h.idx) (j:=j) (by omega));obtain⟨ew,_⟩:=d.fN eo (p:=j) en bP;have cj:=C (d.drew.kP (aa.xj _ ch) (λT M=>Me T (L.hk j) x G.h.idx y.h.idx wr.drew M ck));obtain⟨_,v1,a8,_⟩:=d.dB (g:=F) (show(B.fD _ j).groups[F]?=R G by rw[<-A.out];exact O.1) aC;obtain⟨_,u1,u2,_⟩:=d.dB (g:=K) (show(B.fD _ j).groups[K]?=R y by rw[<-A.out];exact ay.1) aT;have co:=C ch;obtain⟨bZ,eH⟩:∃x,L.hk j=x:=⟨_,rfl⟩;rw[eH] at ew cj;have bI:(j:Int)<(aB:Int):=(by omega);have dc:(0:Int)<=(j:Int):=(by omega);have df:(j:Int).toNat=j:=(by omega);go_wp2_with fail;go_region_held3 (λW'=>W'.cell? ⟨N,1,U⟩=R (I J G.h.idx)∧W'.cell? ⟨an,1,U⟩=R (I J y.h.idx)) ((refine⟨?_,?_⟩)<;>(with_reducible repeat(first|assumption|refine b7 ?_))) (first|(go_at_call 91;refine cj.mono ?_;rintro e cB ⟨rfl,ag⟩;rw[aa.xk (λx=>x.move G.h.idx y.h.idx) co.out] at ag;obtain⟨_,bu,dX,_⟩:=ag.dB (g:=F) (show(B.fD _ (j+1)).groups[F]?=R G by rw[<-A.out];exact O.1) aC;obtain⟨_,ci,ee,_⟩:=ag.dB (g:=K) (show(B.fD _ (j+1)).groups[K]?=R y by rw[<-A.out];exact ay.1) aT;have eI:=C ag));all_goals
         go_wp2_with fail;go_roundw;case rel=>exact⟨j+1,by omega,by go_num,eI⟩
         case measure=>simp[intOf];omega
        ·obtain rfl:j=aB:=by omega
         go_wp2_with fail;go_ret2;have cn:=d;rw[aa.xi _ B (by rw[a2.1,cf.out])] at cn;rw[<-a3.out];have eL:=A.out;subst eL;exact dk (aO _ _ _ cn)
      ·have fC:(b9 !=0)=true:=(by simp[aj]);have b5:=P.out;rw[<-A.out,show ae.move s.tree G.h y.h=s.tree by unfold ae.move;rw[bw.out,z0 aj]] at b5;have cs:=C b5;have ap:=bQ.out;rw[bw.out,if_pos aj] at ap;have a3:=C ap;go_wp2_with fail;go_ret2;rw[<-a3.out];exact dk (aO _ _ _ cs)
end
theorem CD:(prog.info? 85).map (λj=>j.size !=0)=R true:=by kernel_rfl
theorem Mh (b:Nat) (w:ab):(binOp .eql 65 (af (R ⟨b,0,U⟩)) (af (R ⟨b,0,U⟩))).run au w= .ok (aE true) w:=by obtain⟨j,a,c⟩:=h1.1 CD;exact run_eql_ptr_same w _ underlying65 a
theorem Mi {a:Nat} {c:Array Value} {T d:TypeId} {w:ab} (f:ak w a ar T) (g:ak w b c d) (h:a≠b):(binOp .eql 65 (af (R ⟨a,0,U⟩)) (af (R ⟨b,0,U⟩))).run au w= .ok (aE false) w:=by obtain⟨j,i,k⟩:=h1.1 CD;exact run_eql_ptr_other w underlying65 i (by simpa using k) (λe=>h (by injection e)) f g
section
variable {aq w:ab} {S:Nat->Prop} {L:bu} {s:aa} {k:Nat}
theorem CE (a:s.places.length=32) (b:i<32) (o:Option Nat):(cY L s).setIfInBounds (9+i) (c8 (o.map L.gk))=cY L {s with places:=s.places.set i o}:=by unfold cY;rw[rX,h2,h2,nO _ _ (by simp),List.set_append_left _ _ (by simp;omega),h2,h2,List.map_set];congr 3;simp
theorem Mj (a:s.places.length=32) (b:s.at_.length=64) (c:i<64) (x:Int):(cY L s).setIfInBounds (41+i) (I J x)=cY L {s with at_:=s.at_.set i x}:=by unfold cY;rw[rX,h2,h2,nO _ _ (by simp;omega),nO _ _ (by simp;omega),List.set_append_left _ _ (by simp;omega),h2,h2,List.map_set];congr 4;simp only[ep,a,dY,hJ];congr 1;omega
theorem aw.Mk (H:aw aq S L s w) (c:s.places.length=32) (d:i<32) (o:Option Nat) (e:L.b=b):aw aq S L {s with places:=s.places.set i o} (w.setCell ⟨b,9+i,U⟩ (c8 (o.map L.gk))):=by subst e;have a:=H.top.set (9+i) (c8 (o.map L.gk));rw[CE c d o] at a;exact H.JI (places:=s.places.set i o) (at_:=s.at_) a (Mod.one _ _ _ _)
theorem Ml {G G':cc} {r:Part} {v:ab} {T:Nat->Prop} (d:s.groups[g]?=R G) (i:r≠ .eX) (k:hg L g G'=hg L g G) (l:G'.band=G.band) (m:G'.line=G.line) (h:fZ v T L s r):fZ v T L (s.b0 g G') r:=by
 have o:=(bE.1 d).1;have f:∀(j:Nat) a,(s.b0 g G').groups[j]?=R a->(j=g∧a=G')∨(j≠g∧s.groups[j]?=R a):=by
  intro j a b;unfold aa.b0 at b;dsimp only at b;by_cases e:j=g;·subst e;rw[cZ o] at b;cases b;exact .inl ⟨rfl,rfl⟩
  ·rw[dK (Ne.symm e)] at b;exact .inr ⟨e,b⟩
 cases r with
 |eX=>exact absurd rfl i
 |ax n=>
  intro a b;rcases f n a b with⟨rfl,rfl⟩|⟨_,e⟩;·rw[k];exact h G d
  ·exact h a e
 |band n=>
  intro a B b c;rcases f n a b with⟨rfl,rfl⟩|⟨_,e⟩;·exact h G B d (by rw[<-l];exact c)
  ·exact h a B e c
 |line n=>
  intro a B b c;rcases f n a b with⟨rfl,rfl⟩|⟨_,e⟩;·exact h G B d (by rw[<-m];exact c)
  ·exact h a B e c
 |_=>exact h
theorem Mm {G:cc} (a:s.groups[g]?=R G):fL L (s.b0 g {G with there:=false})=(fL L s).set g U:=by
 unfold fL aa.b0;dsimp only;apply p9;intro i;rw[dP,nR];by_cases e:i=g;·subst e;rw[cZ (bE.1 a).1,cZ (by rw[ep,List.length_zipIdx];exact(bE.1 a).1)];simp
 ·rw[dK (Ne.symm e),dK (Ne.symm e),dP,nR]
theorem aw.Mn (H:aw aq S L s w) {G:cc} (b:s.groups[g]?=R G) {a:Nat} (hv:L.gv=aA (R ⟨a,0,U⟩) n cap):aw aq S L (s.b0 g {G with there:=false}) (w.setCell ⟨a,g,U⟩ (af U)):=by
 obtain⟨T,l,m⟩:=H.part .eX (by simp);have c:dJ w T 65 L.gv (fL L s):=l;have f:=rf (L:=L) b;obtain⟨x,y,d,_,_,_,_⟩:=dJ.cell c f;rw[hv] at d;simp only[Value.slice.injEq,Option.some.injEq,Addr.mk.injEq] at d;obtain⟨⟨rfl,_⟩,h,rfl⟩:=d;have i:=c.1;rw[hv,h] at i;obtain⟨o,z,A,B,C⟩:=Own.set i f (q:=0) (z':=U) (u:=af U) (by decide) rfl g (by show g=g*1+0;omega);have j:=c.2 a (by rw[hv];rfl);refine m _ L _ ((Mod.one _ _ _ _).mono (λk _ e=>by rw[e];exact j)) ?_ ?_
 ·show dJ _ _ _ L.gv (fL L (s.b0 g {G with there:=false}));rw[Mm b,hv];refine⟨?_,λk e=>?_⟩;·rw[ef,h];exact o
  ·obtain rfl:a=k:=by simpa[Value.ownBlock] using e
   exact .inl j
 ·intro r p v T t;exact Ml b p rfl rfl rfl t
end
section
variable {aq w:ab} {S:Nat->Prop} {L:bu} {s:aa} {k:Nat}
theorem ae.Mo {t:ae} {h:aG} (e:ae.h8 t h≠0):ae.gY t h=t:=by unfold ae.gY;rw[z0 e]
theorem CF {α:Type} {f:α->Bool} {l:List α} {t:α} (e:l[j]?=R t) (h:(l.take j).any f=false) (a:f t=false):(l.take (j+1)).any f=false:=by rw[gE,e,lI,List.any_append,h];simp[a]
theorem aw.xp (H:aw aq S L s w) {G:cc} (h:s.groups[g]?=R G) (i:G.there=true):∃d cap,L.gv=aA (R ⟨d,0,U⟩) s.groups.length cap∧w.cell? ⟨d,g,U⟩=R (af (R ⟨L.gk g,0,U⟩))∧w.frozen? ⟨d,g,U⟩=false∧w.cell? ⟨L.b,8,U⟩=R (aA (R ⟨d,0,U⟩) s.groups.length cap):=by obtain⟨T,j⟩:=H.fk .eX;obtain⟨k,l,e,a,b,c,m⟩:=dJ.cell j (rf (L:=L) h);rw[te] at e;have f:=H.top.cell 8 oE;rw[e] at f;rw[i] at a;exact⟨k,l,e,a,b,f⟩
theorem Mp (bw a b n m a2:Int) (H:aw aq S L s w) (hk:s.Ok k) (b8:k<=100000):Calls au 46 #[aY L.b,bm (cD bw a b n m a2)] w (iv aq S L (s.drop a)):=by
 obtain⟨V,a3⟩:=aX (w.alloc (av (cD bw a b n m a2) 33));obtain⟨ak,cq,Y,cH,ar⟩:=H.enter _ a3;have a6:=C a3;have ap:=C cH;have bj:=bN (i:=1) ar (v:=I J a) rfl;have a4:=C Y;have q:=C hk;have cv:=C b8;have K:=C (kO a Y);generalize D:s.drop a=Z;unfold aa.drop at D;unfold aY at*;obtain⟨M,ao⟩:=aX L.b;have N:=C ao;rw[ao] at K⊢;unfold cD at a6⊢;cases B:s.group a with
 |none=>rw[B] at D;have aO:=C D;rw[aa.mV B] at K;go_enter func46,ntmps46;go_upto_region 1 with fail;rw[a6.out];go_wp2_with fail;refine K.mono ?_;rintro e cO ⟨rfl,rfl⟩;go_wp2_with fail;go_ret2;rw[<-aO.out];exact dk (ap _ _ _ a4)
 |some G=>
  obtain⟨cS,ah,a5⟩:=aa.hc B;rw[B] at D;dsimp only at D;rw[aa.k3 B] at K;obtain⟨d,rfl⟩:=dW cS;rw[cd] at ah K D;generalize aQ:L.gk d=O at K;have E:=C aQ;have y:=C (bx ah a5);obtain⟨f,a8⟩:=aX ((λt:ex=>!t.dead&&decide ((t.g:Int)=(d:Int))));have cT:=C (show∀t:ex,t.dead=true->f t=false fromλt aC=>by rw[<-a8];simp[aC]);have aK:=C (show∀t:ex,t.dead=false->f t=decide (t.g=d) fromλt aC=>by
   rw[<-a8];show(!t.dead&&decide ((t.g:Int)=(d:Int)))=_;rw[aC];by_cases e:t.g=d;·simp[e]
   ·have:¬((t.g:Int)=(d:Int)):=(by omega);rw[decide_eq_false this,decide_eq_false e];rfl)
  rw[a8] at D;have aO:=C D;obtain⟨eY,bA,cU,aI⟩:=Y.pX ao;have cR:=C cU;obtain⟨e2,bC,e3,aS,fl,bJ,bD,a9⟩:=Y.tags;have aU:=(bE.1 ah).1;have c7:=C (show∀j,j<s.groups.length->j≠d->L.gk j≠O fromλj a_ bh=>aQ▸apart (aS j a_) (aS d aU) (λe=>bh (by injection e)));obtain⟨P,bI,aP,_,_,_⟩:=Y.xp ah a5;have aD:=C aP;have fy:M≠P:=by rw[<-ao];exact apart bC (a9 P _ _ aP) (by simp)
  have fz:O≠P:=by rw[<-aQ];exact apart (aS d aU) (a9 P _ _ aP) (by simp)
  have fA:O≠M:=by rw[<-aQ,<-ao];exact apart (aS d aU) bC (by simp)
  obtain⟨fB,cB⟩:w.heap.size≠P∧w.heap.size≠M:=by
   refine⟨λe=>?_,λe=>?_⟩;·obtain⟨T,dc⟩:=H.fk .eX;have Q:=dc.1.lt P (by rw[aP];rfl);omega
   ·have Q:=H.top.lt;rw[ao] at Q;omega
  obtain⟨ac,bG⟩:=aX s.tasks.length;have fC:=hk.eA.1;have fO:ac<=100000:=by omega
  have bH:=C bG;rw[bG] at aI;obtain⟨ay,ba⟩:=aX s.c.aR;have ag:=C ba;have df:=hk.aR;rw[ba] at df;obtain⟨bF,aL,b_,_,bd⟩:=Y.iJ hk.lens (p:=0) (by rw[ba];omega);have be:=C b_;have dj:=C (λ(W:ab) (r:aa) (l:aw V ak L r W)=>l.kept cq bj zK9);have dv:d<s.groups.length:=aU;obtain⟨bb,bK⟩:=aX s.groups.length;have bo:=C bK;rw[bK] at dv;go_enter func46,ntmps46;go_upto_region 1 with fail;rw[a6.out];go_wp2_with fail;apply K.mono;rintro e cO ⟨rfl,bc⟩;obtain rfl:=bc.symm;go_wp2_with fail;go_loopw [23] (λu W=>∃j:Nat,j<=ac∧u=I J (j:Int)∧(s.tasks.take j).any f=false∧aw V ak L s W) (λu _=>ac-(intOf u).toNat);case atStart=>exact⟨0,by omega,rfl,by simp,a4⟩
  case round=>
   obtain⟨j,a_,rfl,dw,l⟩:=hrel;have bf:=C dw;have aT:=C l;by_cases aV:j<ac;·obtain⟨t,aF⟩:∃t,s.tasks[j]?=R t:=⟨_,b6 (by rw[bH.out];exact aV)⟩;obtain⟨g,rfl,bL⟩:=l.tN cR aF;obtain⟨fU,aN⟩:∃x,L.tk j=x:=⟨_,rfl⟩;rw[aN] at bL;obtain⟨_,_,bi,_,_,bP,_⟩:=l.ek aF aN;have dx:(j:Int)<(ac:Int):=(by omega);have dy:(0:Int)<=(j:Int):=(by omega);have bz:(j:Int).toNat=j:=(by omega);have bg:=C aF;cases X:t.dead with
    |true=>
     rw[X] at bi;have am:=C (cT t X);go_wp2_with fail;go_roundw;case rel=>exact⟨j+1,by omega,by go_num,CF bg bf am,aT⟩
     case measure=>simp[intOf];omega
    |false=>
     rw[X] at bi;by_cases aZ:t.g=d;·have am:=C (show f t=true by rw[aK.out t X];exact decide_eq_true aZ);rw[aZ,E.out] at bP;have bR:=Mh O wr;go_wp2_with fail;go_ret2;rw[<-aO.out,if_pos (CC bg.out am.out)];exact dk (ap _ _ _ aT)
     ·have am:=C (show f t=false by rw[aK.out t X];exact decide_eq_false aZ);have bU:=c7 t.g (q.task j t aF).g aZ;obtain⟨fV,bY⟩:=aX (L.gk t.g);have bR:=Mi (l.ax (q.jT aF)) (l.ax y.1) (by rw[E.out];exact bU);rw[E.out,bY] at bR;rw[bY] at bP bU;go_wp2_with fail;go_roundw;case rel=>exact⟨j+1,by omega,by go_num,CF bg bf am,aT⟩
      case measure=>simp[intOf];omega
   ·obtain rfl:j=ac:=by omega
    have dF:s.tasks.any f=false:=(by have aC:=bf.out;rwa[<-bH.out,h3] at aC);have al:=aO.out;rw[z0 (by rw[dF];decide)] at al;have bZ:=C al;obtain⟨dA,dL⟩:=gP.1 (q.there d G y.1 y.2).1;obtain⟨_,v1,b2,_⟩:=l.dB y.1 E;have an:=l.top.cell 5 jX;unfold aY at an;rw[N.out] at an;have bk:=C (l.drew.Cr (λT B=>LU T L.eF s.tree G.h wr.drew B q.tree dL));obtain⟨F,bQ⟩:=aX (({s with tree:=ae.gY s.tree G.h}:aa));obtain⟨bs,b9⟩:=aX (ae.h8 s.tree G.h);rw[bQ,b9] at bk;have z:=C bQ;have bl:=C b9;obtain⟨dQ,bv⟩:=aX L.eF;have ce:=C bv;rw[bv] at an bk;go_wp2_with fail;go_region_held3 (λW'=>W'.cell? ⟨M,5,U⟩=R (af (R ⟨dQ,0,U⟩))∧W'.cell? ⟨O,1,U⟩=R (I J G.h.idx)∧W'.cell? ⟨O,2,U⟩=R (I J G.h.gen)) ((refine⟨?_,?_,?_⟩)<;>(with_reducible repeat(first|assumption|refine b7 ?_))) (first|(go_at_call 88;refine bk.mono ?_;rintro e f_ ⟨rfl,bn⟩;obtain⟨_,gq,gr,_⟩:=bn.dB (g:=d) (by rw[<-z.out];exact y.1) E;have a7:=bn.top.cell 5 jX;unfold aY at a7;rw[N.out,ce.out] at a7;have bp:=C bn));all_goals
     by_cases aM:bs=0
     ·have cb:eG F:=(by rw[<-z.out];exact q.lens);have cf:=C cb;have cg:F.c.aR=ay:=(by rw[<-z.out];exact ag);have ch:=C cg;obtain⟨_,bd⟩:=bp.fN cb (p:=0) (by rw[cg];omega) be;rw[N.out,ag.out] at bd;have aj:=bZ.out;rw[bl.out,z0 (by rw[aM];decide)] at aj;have bq:=C aj;subst aM;go_wp2_with fail;go_loopw [58] (λu W=>∃j:Nat,j<=ay∧u=I J (j:Int)∧aw V ak L (F.fD (λx=>x.unlink G.h.idx) j) W) (λu _=>ay-(intOf u).toNat);case atStart=>exact⟨0,by omega,rfl,by rw[aa.xh];exact bp⟩
      case round=>
       obtain⟨j,a_,rfl,l⟩:=hrel;have aT:=C l;by_cases aV:j<ay
       ·obtain⟨x,cj⟩:∃x,s.hiers[j]?=R x:=⟨_,b6 (by rw[q.out.hlen,ag.out];exact aV)⟩;have dR:=(q.a1 j x cj).1;have cn:F.hiers[j]?=R x:=(by rw[<-z.out];exact cj);have bu:j<F.c.aR:=(by rw[ch.out];exact aV);have dX:=C (cf.fD (λx=>x.unlink G.h.idx) (j:=j) (by omega));obtain⟨ci,_⟩:=l.fN dX (p:=j) bu be;have b5:=C (l.kP (aa.xj _ cn) (λT B=>L3 T (L.hk j) x G.h.idx wr B dR));obtain⟨_,v1,b2,_⟩:=l.dB (g:=d) (show(F.fD _ j).groups[d]?=R G by rw[<-z.out];exact y.1) E;have ee:=C cn;generalize b4:L.hk j=gB at ci b5;have dx:(j:Int)<(ay:Int):=(by omega);have dy:(0:Int)<=(j:Int):=(by omega);have bz:(j:Int).toNat=j:=(by omega);go_wp2_with fail;apply b5.mono;rintro e gN ⟨rfl,cp⟩;rw[aa.xk (λx=>x.unlink G.h.idx) ee.out] at cp;have ck:=C cp;go_wp2_with fail;go_roundw;case rel=>exact⟨j+1,by omega,by go_num,ck⟩
        case measure=>simp[intOf];omega
       ·obtain rfl:j=ay:=by omega
        obtain⟨aB,az⟩:∃x,F.fD (λx=>x.unlink G.h.idx) j=x:=⟨_,rfl⟩;have en:=C az;rw[az] at l;have ai:aB.groups[d]?=R G:=(by rw[<-az,<-z.out];exact y.1);have eo:=C ai;have ew:=C l;have co:=C (show aB.places.length=32 by rw[<-az,<-z.out];exact q.eB);obtain⟨_,v1,b2,_⟩:=l.dB ai E;obtain⟨hi,hj,br,eH,hG,eI⟩:=l.xp ai y.2;have eL:aB.groups.length=bb:=(by rw[<-az,<-z.out];exact bo);rw[aD.out] at br;simp only[Value.slice.injEq,Option.some.injEq,Addr.mk.injEq] at br;obtain⟨⟨rfl,_⟩,_,rfl⟩:=br;rw[eL,N.out] at eI;rw[E.out] at eH;have bL:=dj wr aB l;obtain⟨A,aE⟩:=dW (show 0<=G.h.idx from by obtain⟨hH,bB,c0,bS⟩:=q.place _ _ (q.there d G y.1 y.2).2;rw[y.out.1] at bB;cases bB;omega);have bX:A<32:=(by have cs:=(q.there d G y.1 y.2).2;have cr:=(bE.1 cs).1;rw[aE,q.out.eB,cd] at cr;exact cr);rw[aE] at v1;have cu:=C aE;have c2:wr.frozen? ⟨M,9+A,U⟩=false:=(by rw[<-N.out];exact l.top.free _);obtain⟨c3,c4⟩:∃v,wr.cell? ⟨M,9+A,U⟩=R v:=by have cy:aB.places.length=32:=(by rw[<-az,<-z.out];exact q.eB);obtain⟨o,X⟩:∃o,aB.places[A]?=R o:=⟨_,b6 (by rw[cy];exact bX)⟩;have Q:=l.top.cell (9+A) (pM cy X);rw[N.out] at Q;exact⟨_,Q⟩
        have c5:(A:Int)<32:=(by omega);have bO:(A:Int).toNat=A:=(by omega);have iq:(0:Int)<=(A:Int):=(by omega);have ir:(d:Int)<(bb:Int):=(by omega);have c9:(d:Int).toNat=d:=(by omega);have iu:(0:Int)<=(d:Int):=(by omega);go_wp2_with fail;go_region_held3 (λW'=>W'.cell? ⟨M,8,U⟩=R (aA (R ⟨P,0,U⟩) bb bI)∧W'.cell? ⟨w.heap.size,1,U⟩=R (I J d)∧W'.cell? ⟨O,1,U⟩=R (I J A)) ((refine⟨?_,?_,?_⟩)<;>(with_reducible repeat(first|assumption|refine b7 ?_|refine jV (by with_reducible assumption) ?_|refine Bo (by omega) ?_))) (fail);all_goals have Q:=((ew.Mn eo aD).Mk co bX U N).drew;have eT:=C Q;go_wp2_with fail;go_ret2;have bc:=aa.xi (λx:ad=>x.unlink G.h.idx) F (n:=j) (by rw[cf.out.1,ch.out]);have a0:=ap _ _ _ eT;rw[<-bq.out,cu.out,cd];rw[<-en.out,bc,<-z.out] at a0;rw[cu.out] at a0;exact dk a0
     ·have db:(bs !=0)=true:=(by simp[aM]);have cE:=bp.out;rw[<-z.out,ae.Mo (by rw[bl.out];exact aM)] at cE;have eU:=C cE;have aj:=bZ.out;rw[bl.out,if_pos aM] at aj;have bq:=C aj;go_wp2_with fail;go_ret2;rw[<-bq.out];exact dk (ap _ _ _ eU)
end
variable {n₀:Nat} {zs:List Int}
def Mx (c:dd):Array Value:=#[I J c.id,I ah c.w,I ah c.m,aE c.r]
def rT:cm dd:=⟨4,λc=>[I J c.id,I ah c.w,I ah c.m,aE c.r],λ_=>rfl,λ_ u h=>by simp at h;rcases h with rfl|rfl|rfl|rfl<;>rfl,by decide⟩
theorem My:ij rT 195 197 32:=⟨underlying195,⟨.agg #[.int .i64 0,.int .u64 0,.int .u64 0,.bool false],by kernel_rfl,rfl⟩,by decide⟩
theorem Mz (w:ab) (c:dd):∀q u,(rT.e c)[q]?=R u->(w.alloc (av (Mx c) 197)).cell? ⟨w.heap.size,q,U⟩=R u:=λq u h=>dE.trans (by rw[<-h];show([I J c.id,I ah c.w,I ah c.m,aE c.r]:List Value).toArray[q]?=_;rw[ff];rfl)
theorem CP {l:List dd} {c:dd} (h:l[j]?=R c):cat l j=c:=by unfold cat;rw[h];rfl
theorem Rd.MA {zs:List dd} (h:Rd rT n₀ W a n zs):iD n₀ W (aA a n cap) zs:=by
 have g:=h.1;by_cases i:0<n
 ·obtain⟨b,k,rfl,l,e⟩:=h.cells i;refine .inr ⟨b,k,cap,by rw[g],l,λj m=>?_⟩;have d:=b6 m;rw[CP d];have f:rT.c=4:=rfl;refine⟨?_,?_,?_,?_⟩;·have:=e j _ d 0 _ rfl;rw[f] at this;exact this
  ·have:=e j _ d 1 _ rfl;rw[f,<-qd] at this;exact this
  ·have:=e j _ d 2 _ rfl;rw[f,<-qd] at this;exact this
  ·have:=e j _ d 3 _ rfl;rw[f,<-qd] at this;exact this
 ·obtain rfl:n=0:=by omega
  exact .inl ⟨⟨a,cap,rfl⟩,nM.1 g⟩
section
variable {aq w:ab} {S:Nat->Prop} {L:bu} {s:aa} {k:Nat}
def hZ (s:aa) (f:Int) (j:Nat):List dd:=((s.tasks.zipIdx.take j).filter λx=>x.1.on&&decide (x.1.p=f)).map λx=>⟨x.2,x.1.w,x.1.mask,decide ((x.2:Int)=s.running f)⟩
theorem MB (s:aa) (f:Int) (h:s.tasks.length=n):hZ s f n=s.jt f:=by unfold hZ aa.jt;rw[ub (by rw[List.length_zipIdx,h];exact bM _)]
theorem MC {f:Int} (a:s.tasks[j]?=R t) (b:t.on=true) (c:t.p=f):hZ s f (j+1)=hZ s f j++[⟨j,t.w,t.mask,decide ((j:Int)=s.running f)⟩]:=by unfold hZ;rw[gE,nR,a,r1,h4];simp[b,c]
theorem CQ {f:Int} (a:s.tasks[j]?=R t) (h:t.on=false∨t.p≠f):hZ s f (j+1)=hZ s f j:=by unfold hZ;rw[gE,nR,a,r1,h4];rcases h with h|h<;>simp[h]
theorem CR (s:aa) (f:Int) (j:Nat):(hZ s f j).length<=j:=by unfold hZ;rw[ep];refine cJ (o4 _ _) ?_;rw[ix];omega
theorem aa.Ok.MD (h:s.Ok k) (f:Int):tP (s.jt f):=by
 intro i;by_cases b:i<(s.jt f).length;·obtain⟨n,t,e,c,_,_⟩:=aa.vJ b;rw[e];have a:=h.task n t c;have:=a.w;exact⟨⟨by show(0:Int)<=(t.w:Int);omega,by show(t.w:Int)<_;omega⟩,a.mask⟩
 ·unfold cat;rw[ho (by omega)];exact⟨by unfold lF;decide,by unfold lF;decide⟩
theorem aa.Ok.CS (h:s.Ok k) (hk:k<=100000) (i:Nat):lF (bj s.iF i):=by
 unfold bj aa.iF;rw[dP];cases e:(gh s.c.aR)[i]? with
 |none=>exact⟨hL 0,by show(0:Int)<_;omega⟩
 |some p=>have a:=h.wQ 0 (p:Int);have:=o5 262144 hk;exact⟨by show(0:Int)<=(s.load 0 (p:Int):Int);omega,by show(s.load 0 (p:Int):Int)<_;omega⟩
end
section
variable {aq w:ab} {S:Nat->Prop} {L:bu} {s:aa} {k:Nat}
theorem ME (bY a b n m al:Int) (H:aw aq S L s w) (hk:s.Ok k) (ax:k<=100000):Calls au 59 #[aY L.b,bm (cD bY a b n m al)] w (iv aq S L (s.pull a)):=by
 obtain⟨V,bk⟩:=aX (w.alloc (av (cD bY a b n m al) 33));obtain⟨dQ,bZ,bl,ce,dR⟩:=H.enter _ bk;have bn:=C bk;have b2:=C (show w.heap.size<V.heap.size by rw[<-bk];simp);have aQ:=C ce;have bu:=C bZ;have dX:=bN (i:=1) dR (v:=I J a) rfl;have bQ:=C bl;have B:=C hk;have bp:=C ax;have ac:=C (re a bl);generalize A:s.pull a=Z;unfold aa.pull at A;unfold aY at*;obtain⟨O,bq⟩:=aX L.b;have ay:=C bq;rw[bq] at ac⊢;unfold cD at bn⊢;cases hp:s.e8 a with
 |false=>rw[hp] at A ac;rw[aj rfl] at A;have aS:=C A;go_enter func59,ntmps59;go_upto_region 1 with fail;rw[bn.out];go_wp2_with fail;refine ac.mono ?_;rintro e d ⟨rfl,P⟩;obtain rfl:=P.symm;go_wp2_with fail;go_ret2;rw[<-aS.out];exact dk (aQ _ _ _ bQ)
 |true=>
  rw[hp] at A ac;rw[z0 (by decide)] at A;obtain⟨ci,aU⟩:=aa.mE.1 hp;obtain⟨i,rfl⟩:=dW ci;have aP:i<s.c.aR:=by omega
  have ee:=C aP;have aT:=C (BR bl hk ax);unfold aY at aT;rw[bq] at aT;obtain⟨E,ai⟩:=aX s.c.aR;have j3:=C ai;have ck:=hk.aR;rw[ai] at ck aP;generalize bs:ml s s.c.aR=ls at aT;have aV:=C (show s.iF=ls.map (λn:Nat=>(n:Int)) by rw[BQ,bs]);have b9:ls.length=E:=by rw[<-bs,<-ai];exact tt s 0 _
  have br:=C b9;obtain⟨zs,a1⟩:=aX s.iF;have en:=C a1;rw[a1] at aV A;have eo:zs.length=E:=by rw[aV.out,ep];exact b9
  have bv:=yX zs (i:Int) 18446744073709551615;obtain⟨f,a7⟩:=aX (lW zs (i:Int) 18446744073709551615);have ew:=C a7;rw[a7] at A bv;have aS:=C A;have co:=C (show f=-1∨∃p:Nat,f=p∧p<E by
   rcases bv with⟨e,_⟩|⟨p,e,j4,_⟩;·exact .inl e
   ·exact .inr ⟨p,e,by omega⟩)
  have a0:=C (λ(W:ab) (r:aa) (aZ:aw V dQ L r W)=>aZ.kept bZ dX zK9);go_enter func59,ntmps59;go_upto_region 1 with fail;rw[bn.out];go_wp2_with fail;apply ac.mono;rintro e d ⟨rfl,P⟩;obtain rfl:=P.symm;go_wp2_with fail;apply aT.mono;rintro e d ⟨bW,rfl,ak,cb⟩;have cf:=bQ.next cb;have j5:=a0 d s cf;have eH:0<ls.length:=by rw[br.out];omega
  obtain⟨kq,bV,cg,rfl,_,_,_,ch⟩:=ak.rd;obtain⟨F,eE,eI,_⟩:=ak.form eH;injection eI with bw eL a2
  subst bw;subst a2;have a6:=C (show∀q,q<E->d.cell? ⟨F,q,U⟩=R (I ah (bj zs q)) fromλq eT=>by have cj:q<ls.length:=(by rw[br.out];exact eT);have cn:=ak.at_ (i:=q) (q:=0) (b6 cj) (u:=I ah (ls[q]:Nat)) rfl;have eU:bj zs q=(ls[q]:Nat):=(by rw[aV.out];unfold bj;rw[dP,b6 cj];rfl);rw[eU];have cv:q*jj.c+0=q:=(by show q*1+0=q;omega);rw[cv] at cn;exact cn);have b5:=C (show gJ d.heap.size d (aA (R ⟨F,0,U⟩) ls.length cg) zs by rw[aV.out];exact ch.BS);have eY:=C ch;have y:=C cf;have kR:=C cb.size;have fK:=C ak;rw[br.out] at b5 eY⊢;have cp:=C (KA (R ⟨F,0,U⟩) E cg zs (i:Int) 18446744073709551615 d b5 (by rw[eo];omega));rw[ew.out] at cp;go_wp2_with fail;apply cp.mono;rintro e bA ⟨rfl,a8⟩;have kS:=a0 bA s (y.next a8);have bB:=C a8;rcases co with rfl|⟨f,rfl,bX⟩;·clear a8;have l:=aS.out;rw[aj (by decide)] at l;have ad:=C l;go_wp2_with fail;go_ret2;rw[<-ad.out];exact dk (aQ _ _ _ (y.next bB))
  ·have l:=aS.out;rw[z0 (by omega),cd,cd] at l;have e2:=C l;have kT:¬((f:Int)<0):=(by omega);have a3:=C (λ(W:ab) (aB:Below d.heap.size d W)=>oM (f:Int) (y.next aB) B);unfold aY at a3;obtain⟨kU,kV,e3,fl⟩:=(y.next a8).pX ay;have a4:=C e3;obtain⟨Q,cr⟩:=aX s.tasks.length;have b1:=B.eA.1;have ax:=bp.out;have kW:Q<=100000:=(by omega);have a_:=C cr;rw[cr] at fl;obtain⟨az,cu⟩:=aX (s.running (f:Int));rw[ay.out,cu] at a3;have bJ:=C (show∀(j:Nat) (t:ex),s.tasks[j]?=R t->t.on=true->t.p=(f:Int)->hZ s (f:Int) (j+1)=hZ s (f:Int) j++[⟨j,t.w,t.mask,decide ((j:Int)=az)⟩] fromλj t a b c=>by rw[<-cu];exact MC a b c);go_wp2_with fail;go_loopw [8,32] (λv u W=>∃(j:Nat),j<=Q∧u=I J (j:Int)∧Own rT W d.heap.size 197 v (hZ s (f:Int) j).length (hZ s (f:Int) j)∧Below d.heap.size d W) (λ_ u _=>Q-(intOf u).toNat);case atStart=>exact⟨0,by omega,rfl,by show Own _ _ _ _ _ (hZ s (f:Int) 0).length (hZ s (f:Int) 0);rw[show hZ s (f:Int) 0=[] by unfold hZ;simp];exact Own.nil _ _ _,bB⟩
   case round=>
    obtain⟨j,kX,rfl,aC,G⟩:=hrel;have ba:=C aC;have T:=C G;by_cases a5:j<Q;·obtain⟨t,K⟩:∃t,s.tasks[j]?=R t:=⟨_,b6 (by rw[a_.out];exact a5)⟩;have aZ:=y.next G;obtain⟨g,rfl,aF⟩:=aZ.tN a4 K;obtain⟨M,X⟩:∃x,L.tk j=x:=⟨_,rfl⟩;rw[X] at aF;obtain⟨_,_,_,cy,cE,_,_,aK,bC,_⟩:=aZ.ek K X;have kY:(j:Int)<(Q:Int):=(by omega);have aJ:(0:Int)<=(j:Int):=(by omega);have kZ:(j:Int).toNat=j:=(by omega);have k0:=C K;cases ag:t.on with
     |false=>
      rw[ag] at cy;have a9:=C (CQ (f:=(f:Int)) K (.inl ag));go_wp2_with fail;go_roundw;case rel=>exact⟨j+1,by omega,by go_num,by rw[a9.out];exact ba,T⟩
      case measure=>simp[intOf];omega
     |true=>
      rw[ag] at cy;by_cases af:t.p=(f:Int)
      ·rw[af] at cE;have aD:=C (bJ j t K ag af);generalize N:hZ s (f:Int) j=cs at aD ba;have bb:=CR s (f:Int) j;rw[N] at bb;obtain⟨ae,b8⟩:=aX t.w;obtain⟨am,cq⟩:=aX t.mask;rw[b8,cq] at aD;rw[b8] at aK;rw[cq] at bC;have bD:((f:Int)==(f:Int))=true:=(by simp);have fy:=C (a3 wr.drew G.drew);have Y:=C (λ(W':ab) (O o:Nat) (aM:Value) (aB:Below wr.drew.heap.size wr.drew W') (ap:wr.cell? ⟨O,o,U⟩=R aM)=>show W'.cell? ⟨O,o,U⟩=R aM from(zF9 aB).cell (b7 ap) (ig ap) id);have k1:=ig aK;have k2:=ig bC;have lB:=G.size;have lC:M<d.heap.size:=(by rw[<-X];exact(y.task K).lt);have fz:∀bG:Value,(∀g,bG.ownBlock=R g->d.heap.size<=g)->R M≠bG.ownBlock:=λbG fA x=>by have:=fA M x.symm;omega
       have cH:=C fz;have fB:cs.length<=10000000:=(by omega);go_wp2_with fail;go_region_held3 (λW'=>W'.cell? ⟨M,7,U⟩=R (I ah (ae:Int))∧W'.cell? ⟨M,8,U⟩=R (I ah am)) ((refine⟨?_,?_⟩)<;>(with_reducible repeat(first|assumption|refine b7 ?_|refine fo _ ?_ ?_))) (first|(go_at_call 17;refine fy.mono ?_;rintro e h ⟨rfl,z⟩;have bH:=Y h _ _ _ z aK;have ar:=Y h _ _ _ z bC;have cO:Below d.heap.size d h:=T.drew.trans (z.mono T.size);have bc:=C ((ba.drew.next' z).alloc (av #[I J (j:Int),I ah (ae:Int),I ah am,aE ((j:Int)==az)] 197));have cS:d.heap.size<=(h.alloc (av #[I J (j:Int),I ah (ae:Int),I ah am,aE ((j:Int)==az)] 197)).heap.size:=(by have:=cO.size;simp;omega);have cB:=C (Mz h ⟨(j:Int),(ae:Int),am,(j:Int)==az⟩);have bf:M<h.heap.size:=ig bH;have cT:=C cO)|(refine oC My rfl _ _ rfl d.heap.size _ cs.length cs rfl bc h.heap.size _ ⟨(j:Int),(ae:Int),am,(j:Int)==az⟩ rfl cB fB cS ?_;intro fC u fO bF aL;have bd:=C (Grow.gK bF aL);have lD:=bd.cell (uq bf) (cH _ (λg x=>(bc.lt g x).1)) (fo _ bf bH);have b0:=bd.cell (uq bf) (cH _ (λg x=>(bc.lt g x).1)) (fo _ bf ar);have fU:=C fO;have fV:=C (show Below d.heap.size d u from(cT.alloc cT.size _).trans (bd.below cS (λg x=>(bc.lt g x).1)))));all_goals
        go_wp2_with fail;go_roundw;case rel=>exact⟨j+1,by omega,by go_num,by rw[aD.out,eZ];exact fU,fV⟩
        case measure=>simp[intOf];omega
      ·have a9:=C (CQ (f:=(f:Int)) K (.inr af));generalize dA:t.p=nX at cE af;have bD:(nX==(f:Int))=false:=(by simp[af]);go_wp2_with fail;go_roundw;case rel=>exact⟨j+1,by omega,by go_num,by rw[a9.out];exact ba,T⟩
       case measure=>simp[intOf];omega
    ·obtain rfl:j=Q:=by omega
     have cU:=C (MB s (f:Int) a_);rw[cU.out] at aC;obtain⟨cs,N⟩:=aX (s.jt (f:Int));have aI:=C N;rw[N] at aC;have bb:=CR s (f:Int) j;rw[cU.out,N] at bb;have cR:=B.MD (f:Int);rw[N] at cR;obtain⟨_,f_,gq,rfl,_,_,_,gr⟩:=aC.drew.rd;have b4:=C aC;have c7:=(G.cell (p:=⟨F,f,U⟩) (ig (a6 f bX))).trans (a6 f bX);have bh:=(G.cell (p:=⟨F,i,U⟩) (ig (a6 i aP))).trans (a6 i aP);have aF:=a0 wr s (y.next G);have bI:=B.CS bp f;have dc:=B.CS bp i;rw[en.out] at bI dc;have aO:=C (Mw f_ cs.length gq cs (bj zs f) (bj zs i) (i:Int) wr.drew rfl (gr.MA) cR (by omega) bI dc);generalize gB:lj cs (jc (bj zs f) (bj zs i)) (i:Int)=lE at aO;have be:=e2.out;rw[N] at be;rw[gB] at be;have df:=C be;obtain⟨gN,hi⟩:=aX (bj zs f);obtain⟨hj,hG⟩:=aX (bj zs i);rw[hi] at c7 aO;rw[hG] at bh aO;have Y:=C (λ(W':ab) (O o:Nat) (aM:Value) (aB:Below wr.drew.heap.size wr.drew W') (ap:wr.cell? ⟨O,o,U⟩=R aM)=>show W'.cell? ⟨O,o,U⟩=R aM from(zF9 aB).cell (b7 ap) (ig ap) id);obtain⟨hH,bK⟩:=aX cs.length;have bL:=C bK;rw[bK] at aO bb;rw[bK];have l7:(f:Int)<(E:Int):=(by omega);have l8:(f:Int).toNat=f:=(by omega);have l9:(0:Int)<=(f:Int):=(by omega);have b3:(i:Int)<(E:Int):=(by omega);have l_:(i:Int).toNat=i:=(by omega);have ma:(0:Int)<=(i:Int):=(by omega);go_wp2_with fail;go_region_held3 (λW'=>W'.cell? ⟨F,f,U⟩=R (I ah gN)∧W'.cell? ⟨F,i,U⟩=R (I ah hj)∧W'.cell? ⟨w.heap.size,1,U⟩=R (I J i)) ((refine⟨?_,?_,?_⟩)<;>(with_reducible repeat(first|assumption|refine b7 ?_))) (first|(go_at_call 114;refine aO.mono ?_;rintro e h ⟨⟨u5,fC,rfl,c0⟩,z⟩;have mb:=Y h _ _ _ z c7;have mc:=Y h _ _ _ z bh;have bS:=Y h _ _ _ z aF;have c2:=C c0;have aN:=C (T.drew.trans (z.mono T.size));have bi:=C (b4.drew.next' z)));all_goals
      rcases c2 with⟨b_,rfl,rfl⟩|⟨p,b_,dj,rfl,rfl⟩;·have l:=df.out;rw[aj (by omega)] at l;have ad:=C l;go_wp2_with fail;go_ret2;rw[<-ad.out];exact dk (aQ _ _ _ (y.next aN))
      ·have c3:p<(s.jt (f:Int)).length:=(by rw[aI.out,bL.out];exact dj);obtain⟨q,t,bP,bg,c4,dA⟩:=aa.vJ c3;rw[aI.out] at bP;have l:=df.out;rw[z0 (by omega),b_,cd,bP] at l;dsimp only at l;rw[cd] at l;have ad:=C l;have dv:=y.next aN;obtain⟨me,rfl,aF⟩:=dv.tN a4 bg;obtain⟨mf,mg,bo,c5⟩:=dv.pX ay;rw[a4.out] at bo;injection bo with bw eL a2
       subst bw;subst a2;rw[a_.out] at c5;obtain⟨an,d0,bO,_⟩:=bi.form (by rw[bL.out];omega);injection bO with iq d1 ir
       subst iq;subst ir;have c9:cs[p]?=R (⟨(q:Int),(t.w:Int),t.mask,decide ((q:Int)=s.running (f:Int))⟩:dd):=(by have aU:p<cs.length:=(by rw[bL.out];exact dj);have P:=CP (b6 aU);rw[bP] at P;rw[b6 aU,<-P]);have iu:=bi.at_ (i:=p) (q:=0) c9 (u:=I J (q:Int)) rfl;have db:h.cell? ⟨an,p*4,U⟩=R (I J (q:Int)):=iu;have d2:=(bi.lt an rfl).1;obtain⟨M,X⟩:=aX (L.tk q);have dw:=C X;rw[X] at aF;have D:=C (bx bg (bx c4 (B.task q t bg)));have iL:=(bE.1 bg).1;rw[a_.out] at iL;have d3:(q:Int)<(j:Int):=(by omega);have d4:(q:Int).toNat=q:=(by omega);have d5:(0:Int)<=(q:Int):=(by omega);have d6:(p:Int)<(hH:Int):=(by omega);have d7:(p:Int).toNat=p:=(by omega);have d8:(0:Int)<=(p:Int):=(by omega);have d9:=C b2;go_wp2_with fail;go_quiet (fail);have iM:=below_drewN aN nq;obtain⟨dx,dy,iN,bT⟩:=y.w6 iM;have dg:=C bT;have jk:=C (show¬dx w.heap.size fromλao=>by
        rcases(dy _ ao).2 with ao|ao;·have:=(bu _ ao);omega
        ·have aU:=b2.out;omega)
       have aH:=C (show¬dx an fromλao=>by have:=(dy _ ao).1;omega);have bz:=C (show(h.drewN nq).cell? ⟨an,p*4,U⟩=R (I J (q:Int))∧(h.drewN nq).cell? ⟨w.heap.size,1,U⟩=R (I J i) by
        refine⟨?_,?_⟩;·rw[World.cell?_drewN];exact db
        ·rw[World.cell?_drewN];exact bS)
       have bR:=C (wM D.1 D.2.1 iN B);unfold aY at bR;rw[ay.out,dw.out] at bR;go_wp2_with fail;apply bR.mono;rintro e cc ⟨rfl,dF⟩;have jl:=B.leave D.1 D.2.1;have a5:=aa.pz D.1;have jy:=aa.sG D.1;have bH:=dF.iW bz.2 jk;have bU:=C (tp a5 rfl (D.2.2.kJ D.2.1) i (by rw[jy];exact ee) false dF jl);unfold aY at bU;rw[ay.out,dw.out] at bU;go_wp2_with fail;apply bU.mono;rintro e ca ⟨rfl,dL⟩;have ar:=dL.iW bz.1 aH;have dl:=C dL;go_wp2_with fail;go_ret2;rw[<-ad.out];exact dk (aQ _ _ _ (dg _ _ _ dl))
end
section
variable {aq w w' W:ab} {S:Nat->Prop} {L:bu} {s:aa} {k:Nat}
theorem aw.MG (H:aw aq S L s w) (e:L.tv.ownBlock=R g):(S g∨aq.heap.size<=g)∧g<w.heap.size∧g≠L.b:=by obtain⟨f,h,H⟩:=H;have a:=(H.part .fx).2 g e;have c:=(H.part .fx).1.lt g e;refine⟨H.own g c.2 (by rw[a];simp),c.2,λx=>?_⟩;have d:=(H.part .top).2;rw[<-x,a] at d;cases d
theorem aw.MH (H:aw aq S L s w) (e:L.gv.ownBlock=R g):(S g∨aq.heap.size<=g)∧g<w.heap.size∧g≠L.b:=by obtain⟨f,h,H⟩:=H;have a:=(H.part .eX).2 g e;have c:=(H.part .eX).1.lt g e;refine⟨H.own g c.2 (by rw[a];simp),c.2,λx=>?_⟩;have d:=(H.part .top).2;rw[<-x,a] at d;cases d
theorem MI:ij dr 63 73 8:=⟨underlying63,⟨.pointer U,by kernel_rfl,rfl⟩,by decide⟩
theorem MJ:ij dr 64 65 8:=⟨underlying64,⟨.pointer U,by kernel_rfl,rfl⟩,by decide⟩
def bu.ga (L:bu) (n a:Nat) (v:Value):bu:={L with tk:=λm=>if m=n then a else L.tk m,tv:=v}
def aa.ga (s:aa) (t:ex) (i:Nat):aa:={s with tasks:=s.tasks++[t],at_:=s.at_.set i (s.tasks.length:Int)}
theorem MK {a:Nat} (h:s.tasks.length=n):hf (L.ga n a v) (s.ga t i)=hf L s++[R a]:=by
 unfold hf aa.ga bu.ga;dsimp only;rw[eZ,nP,nU,h4,h];congr 1;·refine uf (λm b=>?_);rw[o9] at b;rw[z0 (by omega)]
 ·simp
theorem ML {a:Nat} (b:s.places.length=32) (c:s.at_.length=64) (d:i<64) (h:s.tasks.length=n):((cY L s).setIfInBounds 7 v).setIfInBounds (41+i) (I J (n:Int))=cY (L.ga n a v) (s.ga t i):=by
 have e:(cY L s).setIfInBounds 7 v=cY (L.ga n a v) s:=by unfold cY bu.ga;simp[rX]
 rw[e,Mj b c d];unfold cY aa.ga;rw[h]
theorem aw.ga (H:aw aq S L s w) {a:Nat} (E:¬S a) (P:a<aq.heap.size) {n i:Nat} (q:s.tasks.length=n) {t:ex} {v:Value} (z:Mod (λk=>k=L.b∨L.tv.ownBlock=R k) w w') (F:Own dr w' 0 73 v (n+1) (hf L s++[R a])) (hv:∀g,v.ownBlock=R g->L.tv.ownBlock=R g∨w.heap.size<=g) (G:ak w' L.b (cY (L.ga n a v) (s.ga t i)) 72) (I:ak w' a (kM L t) 81):aw aq (λk=>S k∨k=a) (L.ga n a v) (s.ga t i) w':=by
 obtain⟨A,f,H⟩:=H;have Q:=A.size;have o:f a= .no:=by
  by_cases e:f a= .no;·exact e
  ·rcases H.own a (by omega) e with c|c;·exact absurd c E
   ·omega
 have p:=(H.part .top).2;have u:∀g,L.tv.ownBlock=R g->f g= .fx:=(H.part .fx).2;have J:L.b≠a:=λe=>by rw[<-e,p] at o;cases o
 refine⟨?_,λk=>if k=a then .task n else if k<w.heap.size then f k else .fx,?_,?_⟩
 ·refine(A.mono (λk _ c=>.inl c)).trans z (λi K c=>?_);have M:f i≠ .no:=by
   rcases c with rfl|c;·rw[p];simp
   ·rw[u i c];simp
  rcases H.own i (by omega) M with g|g;·exact .inl g
  ·exact absurd K (by omega)
 ·intro c;have d:∀r,r≠ .top->r≠ .fx->fZ w' (λk=>(if k=a then Part.task n else if k<w.heap.size then f k else Part.fx)=r) L s r:=by
   intro r h l;by_cases B:r= .no;·subst B;trivial
   ·refine(H.part r).frame z ?_ ?_
    ·rintro k e (rfl|c);·exact h (e.symm.trans p)
     ·exact l (e.symm.trans (u k c))
    ·intro k C e;have:k≠a:=λx=>by rw[x,o] at e;exact B e.symm
     rw[z0 this,aj C];exact e
  cases c with
  |no=>trivial
  |top=>exact⟨G,by show(if L.b=a then _ else if L.b<w.heap.size then f L.b else _)=_;rw[z0 J,aj (H.part .top).1.lt];exact p⟩
  |fx=>
   show dJ _ _ _ v (hf _ _);rw[MK q];refine⟨by rw[show(hf L s++[R a]).length=n+1 by rw[eZ,oL,q];rfl];exact F,λg e=>?_⟩;rcases hv g e with c|c
   ·have h:=u g c;have l:g≠a:=λx=>by rw[x,o] at h;cases h
    by_cases D:g<w.heap.size;·rw[z0 l,aj D];exact h
    ·rw[z0 l,z0 D]
   ·rw[z0 (by omega),z0 (by omega)]
  |task m=>
   intro y j;by_cases e:m=n;·subst e;have:y=t:=(by unfold aa.ga at j;rw[gC (by omega),q,k5] at j;exact(Option.some.inj j).symm);subst this;show ak w' (if m=m then a else L.tk m) _ _∧_;rw[aj rfl];exact⟨I,by show(if(if m=m then a else L.tk m)=a then _ else _)=_;rw[aj rfl,aj rfl]⟩
   ·have N:s.tasks[m]?=R y:=by
     unfold aa.ga at j;dsimp only at j;by_cases O:m<s.tasks.length;·rwa[iR O] at j
     ·rw[ho (by rw[eZ,nP];omega)] at j;cases j
    have:=d (.task m) (by simp) (by simp) y N;show ak w' (if m=n then a else L.tk m) _ _∧_;rw[z0 e];exact⟨this.1,by show(if(if m=n then a else L.tk m)=a then _ else if(if m=n then a else L.tk m)<w.heap.size then f (if m=n then a else L.tk m) else _)=_;rw[z0 e];exact this.2⟩
  |eX=>exact d .eX (by simp) (by simp)
  |fY=>exact d .fY (by simp) (by simp)
  |gm=>exact d .gm (by simp) (by simp)
  |tree=>exact d .tree (by simp) (by simp)
  |pool=>exact d .pool (by simp) (by simp)
  |book=>exact d .book (by simp) (by simp)
  |ax m=>exact d (.ax m) (by simp) (by simp)
  |band m=>exact d (.band m) (by simp) (by simp)
  |line m=>exact d (.line m) (by simp) (by simp)
  |a1 m=>exact d (.a1 m) (by simp) (by simp)
  |gM m=>exact d (.gM m) (by simp) (by simp)
 ·intro k C e;by_cases h:k=a;·exact .inl (.inr h)
  ·rw[z0 h] at e;by_cases l:k<w.heap.size
   ·rw[aj l] at e;rcases H.own k l e with c|c;·exact .inl (.inl c)
    ·exact .inr c
   ·exact .inr (by omega)
end
variable {fn:Func}
section
variable {aq w w' W:ab} {S:Nat->Prop} {L:bu} {s:aa} {k:Nat}
def bu.i6 (L:bu) (n gb db lb:Nat) (v:Value):bu:={L with gk:=λm=>if m=n then gb else L.gk m,bd:=λm=>if m=n then db else L.bd m,ln:=λm=>if m=n then lb else L.ln m,gv:=v}
def aa.i6 (s:aa) (G:cc) (i:Nat):aa:={s with groups:=s.groups++[G],places:=s.places.set i (R s.groups.length)}
theorem MM {gb db lb:Nat} {G:cc} (h:s.groups.length=n) (a:G.there=true):fL (L.i6 n gb db lb v) (s.i6 G i)=fL L s++[R gb]:=by
 unfold fL aa.i6 bu.i6;dsimp only;rw[List.zipIdx_append,h4,h];congr 1;·refine uf (λx b=>?_);have:=List.snd_lt_of_mem_zipIdx b;rw[z0 (show¬x.2=n by omega)]
 ·simp[a]
theorem MN {gb db lb:Nat} {G:cc} (a:s.places.length=32) (b:i<32) (h:s.groups.length=n) (c:∀(j g:Nat),s.places[j]?=R (R g)->g<n):((cY L s).setIfInBounds 8 v).setIfInBounds (9+i) (aY gb)=cY (L.i6 n gb db lb v) (s.i6 G i):=by
 have d:s.places.map (λo=>c8 (o.map (L.i6 n gb db lb v).gk))=s.places.map (λo=>c8 (o.map L.gk)):=by
  refine uf (λo f=>?_);cases o with
  |none=>rfl
  |some g=>obtain⟨j,k⟩:=List.getElem?_of_mem f;have:=c j g k;unfold bu.i6;simp only[iS];rw[z0 (by omega)]
 have e:(cY L s).setIfInBounds 8 v=cY (L.i6 n gb db lb v) s:=by unfold cY;rw[d];unfold bu.i6;simp[rX]
 have l:aY gb=c8 ((R n).map (L.i6 n gb db lb v).gk):=by unfold bu.i6;simp[c8]
 rw[e,l,CE a b (R n)];unfold cY aa.i6;rw[h]
theorem aw.i6 (H:aw aq S L s w) {gb db lb:Nat} (E:∀x,x=gb∨x=db∨x=lb->¬S x∧x<aq.heap.size) (u:gb≠db) (y:gb≠lb) (I:db≠lb) {n i:Nat} (J:s.groups.length=n) {G:cc} (Z:G.there=true) {v:Value} (P:Mod (λk=>k=L.b∨L.gv.ownBlock=R k) w w') (ao:Own dr w' 0 65 v (n+1) (fL L s++[R gb])) (hv:∀g,v.ownBlock=R g->L.gv.ownBlock=R g∨w.heap.size<=g) (ac:ak w' L.b (cY (L.i6 n gb db lb v) (s.i6 G i)) 72) (ay:ak w' gb (hg (L.i6 n gb db lb v) n G) 85) (ad:∀B,G.band=R B->cx w' db B) (aB:∀l,G.line=R l->gI w' lb l) (az:∀(m:Nat) t,s.tasks[m]?=R t->t.g<n):aw aq (λk=>S k∨k=gb∨k=db∨k=lb) (L.i6 n gb db lb v) (s.i6 G i) w':=by
 obtain⟨Q,p,H⟩:=H;have ap:=Q.size;have A:∀x,x=gb∨x=db∨x=lb->p x= .no:=by
  intro x q;by_cases e:p x= .no;·exact e
  ·have:=E x q;rcases H.own x (by omega) e with d|d;·exact absurd d this.1
   ·omega
 have F:=(H.part .top).2;have K:∀g,L.gv.ownBlock=R g->p g= .eX:=(H.part .eX).2;have aC:∀x,p x≠ .no->x≠gb∧x≠db∧x≠lb:=λx q=>⟨λe=>q (A x (.inl e)),λe=>q (A x (.inr (.inl e))),λe=>q (A x (.inr (.inr e)))⟩;obtain⟨f,z⟩:=aX ((λk=>if k=gb then Part.ax n else if k=db then Part.band n else if k=lb then Part.line n else if k<w.heap.size then p k else Part.eX):Nat->Part);have ab:f gb= .ax n:=by rw[<-z];show(if gb=gb then _ else _)=_;rw[aj rfl]
 have aF:f db= .band n:=by rw[<-z];show(if db=gb then _ else if db=db then _ else _)=_;rw[z0 (Ne.symm u),aj rfl]
 have af:f lb= .line n:=by rw[<-z];show(if lb=gb then _ else if lb=db then _ else if lb=lb then _ else _)=_;rw[z0 (Ne.symm y),z0 (Ne.symm I),aj rfl]
 have M:∀x,x<w.heap.size->p x≠ .no->f x=p x:=by intro x q ae;obtain⟨a,b,c⟩:=aC x ae;rw[<-z];show(if x=gb then _ else if x=db then _ else if x=lb then _ else if x<w.heap.size then _ else _)=_;rw[z0 a,z0 b,z0 c,aj q]
 have fn:∀x,w.heap.size<=x->f x= .eX:=by intro x q;have a:=(E gb (.inl rfl)).2;have b:=(E db (.inr (.inl rfl))).2;have c:=(E lb (.inr (.inr rfl))).2;rw[<-z];show(if x=gb then _ else if x=db then _ else if x=lb then _ else if x<w.heap.size then _ else _)=_;rw[z0 (by omega),z0 (by omega),z0 (by omega),z0 (by omega)]
 refine⟨?_,f,?_,?_⟩
 ·refine(Q.mono (λk _ d=>.inl d)).trans P (λi am d=>?_);have A:p i≠ .no:=by
   rcases d with rfl|d;·rw[F];simp
   ·rw[K i d];simp
  rcases H.own i (by omega) A with g|g;·exact .inl g
  ·exact absurd am (by omega)
 ·intro d;have o:∀r,r≠ .top->r≠ .eX->fZ w' (λk=>f k=r) L s r:=by
   intro r u y;by_cases T:r= .no;·subst T;trivial
   ·refine(H.part r).frame P ?_ ?_
    ·rintro k e (rfl|d);·exact u (e.symm.trans F)
     ·exact y (e.symm.trans (K k d))
    ·intro k U e;rw[M k U (by rw[e];exact T)];exact e
  have N:∀(m:Nat) (h:cc),(s.i6 G i).groups[m]?=R h->(m=n∧h=G)∨(m≠n∧s.groups[m]?=R h):=by
   intro m h j;unfold aa.i6 at j;dsimp only at j;by_cases e:m=n;·subst e;rw[gC (by omega),J,k5] at j;exact .inl ⟨rfl,(Option.some.inj j).symm⟩
   ·by_cases aM:m<s.groups.length;·rw[iR aM] at j;exact .inr ⟨e,j⟩
    ·rw[ho (by rw[eZ,nP];omega)] at j;cases j
  cases d with
  |no=>trivial
  |top=>exact⟨ac,(M _ (H.part .top).1.lt (by rw[F];simp)).trans F⟩
  |eX=>
   show dJ _ _ _ v (fL _ _);rw[MM J Z];refine⟨by rw[show(fL L s++[R gb]).length=n+1 by rw[eZ];unfold fL;rw[ep,List.length_zipIdx,J];rfl];exact ao,λg e=>?_⟩;rcases hv g e with d|d
   ·have u:=K g d;by_cases I:g<w.heap.size;·rw[M g I (by rw[u];simp)];exact u
    ·exact fn g (by omega)
   ·exact fn g d
  |ax m=>
   intro h j;rcases N m h j with⟨rfl,rfl⟩|⟨e,C⟩;·show ak w' (if m=m then gb else L.gk m) _ _∧_;rw[aj rfl];refine⟨ay,?_⟩;show f (if m=m then gb else L.gk m)=_;rw[aj rfl];exact ab
   ·have:=o (.ax m) (by simp) (by simp) h C;have O:hg (L.i6 n gb db lb v) m h=hg L m h:=(by unfold hg bu.i6;simp only[z0 e]);rw[O];show ak w' (if m=n then gb else L.gk m) _ _∧f (if m=n then gb else L.gk m)=_;rw[z0 e];exact this
  |band m=>
   intro h B j D;rcases N m h j with⟨rfl,rfl⟩|⟨e,C⟩;·show cx w' (if m=m then db else L.bd m) _∧f (if m=m then db else L.bd m)=_;rw[aj rfl];exact⟨ad B D,aF⟩
   ·have:=o (.band m) (by simp) (by simp) h B C D;show cx w' (if m=n then db else L.bd m) _∧f (if m=n then db else L.bd m)=_;rw[z0 e];exact this
  |line m=>
   intro h B j D;rcases N m h j with⟨rfl,rfl⟩|⟨e,C⟩;·show gI w' (if m=m then lb else L.ln m) _∧f (if m=m then lb else L.ln m)=_;rw[aj rfl];exact⟨aB B D,af⟩
   ·have:=o (.line m) (by simp) (by simp) h B C D;show gI w' (if m=n then lb else L.ln m) _∧f (if m=n then lb else L.ln m)=_;rw[z0 e];exact this
  |task m=>intro t V;have:=o (.task m) (by simp) (by simp) t V;have O:kM (L.i6 n gb db lb v) t=kM L t:=(by have:=az m t V;unfold kM bu.i6;simp only[z0 (show¬t.g=n by omega)]);rw[O];exact this
  |fx=>exact o .fx (by simp) (by simp)
  |fY=>exact o .fY (by simp) (by simp)
  |gm=>exact o .gm (by simp) (by simp)
  |tree=>exact o .tree (by simp) (by simp)
  |pool=>exact o .pool (by simp) (by simp)
  |book=>exact o .book (by simp) (by simp)
  |a1 m=>exact o (.a1 m) (by simp) (by simp)
  |gM m=>exact o (.gM m) (by simp) (by simp)
 ·intro k U e;by_cases W:k=gb;·exact .inl (.inr (.inl W))
  ·by_cases X:k=db;·exact .inl (.inr (.inr (.inl X)))
   ·by_cases Y:k=lb;·exact .inl (.inr (.inr (.inr Y)))
    ·by_cases y:k<w.heap.size
     ·have:f k=p k:=(by rw[<-z];show(if k=gb then _ else if k=db then _ else if k=lb then _ else if k<w.heap.size then _ else _)=_;rw[z0 W,z0 X,z0 Y,aj y]);rw[this] at e;rcases H.own k y e with d|d;·exact .inl (.inl d)
      ·exact .inr d
     ·exact .inr (by omega)
end
section
variable {aq w:ab} {S:Nat->Prop} {L:bu} {s:aa} {k:Nat}
theorem ae.xr {t:ae} {h:aG} (e:ae.fj t h≠0):(ae.create t h).1=t:=by unfold ae.create;rw[z0 e]
theorem aw.xt (H:aw aq S L s w) (hk:s.Ok k) (p:aG):Calls au 84 #[aY L.eF,bm #[I J p.idx,I J p.gen]] w λe w'=>e=aK (bD #[bm #[I J (ae.create s.tree p).2.idx,I J (ae.create s.tree p).2.gen],I J (ae.fj s.tree p)])∧aw aq S L {s with tree:=(ae.create s.tree p).1} w':=by obtain⟨T,b,c⟩:=H.Bn;exact(LR T L.eF s.tree p w b hk.tree).mono (λe w' a=>⟨a.1,c w' _ a.2.1 a.2.2⟩)
theorem aw.CT (H:aw aq S L s w) (hk:s.Ok k) (p:aG):Calls au 84 #[aY L.eF,bm #[I J p.idx,I J p.gen]] (w.alloc (av #[I J 0,I J 0] 77)).drew λe w'=>e=aK (bD #[bm #[I J (ae.create s.tree p).2.idx,I J (ae.create s.tree p).2.gen],I J (ae.fj s.tree p)])∧aw aq S L {s with tree:=(ae.create s.tree p).1} w'∧ak w' w.heap.size #[I J 0,I J 0] 77∧∀d,Mod (λk=>k=w.heap.size) w' d->∃f:Nat->Prop,(∀k,f k->k<d.heap.size∧k≠w.heap.size)∧aw d f L {s with tree:=(ae.create s.tree p).1} d∧∀(g:bu) (h:aa) (i:ab),aw d f g h i->aw aq S g h i:=by
 obtain⟨o,q,r,m⟩:=H.pY (bz w (av #[I J 0,I J 0] 77)).drew;have n:¬o w.heap.size:=λe=>by have:=(q _ e).1;omega
 have t:w.heap.size<(w.alloc (av #[I J 0,I J 0] 77)).drew.heap.size:=(ak.new w _ _).lt;refine(r.xt hk p).mono (λe w' j=>⟨j.1,m _ _ _ (j.2.na λk l=>.inl l),(ak.new w #[I J 0,I J 0] 77).drew.mod j.2.1 n,λd u=>?_⟩);obtain⟨f,a,b,c⟩:=j.2.MF u n t;exact⟨f,a,b,λg h i l=>m _ _ _ ((c g h i l).na λk y=>y.elim .inl (λe=>.inr (by omega)))⟩
theorem MO (ad a b n m aB:Int) (H:aw aq S L s w) (hk:s.Ok k) (P:s.group a=U∨kg n=false∨∀G,s.group a=R G->ae.fj s.tree G.h≠0):Calls au 45 #[aY L.b,bm (cD ad a b n m aB)] w (iv aq S L (s.grow a n)):=by
 obtain⟨V,D⟩:=aX (w.alloc (av (cD ad a b n m aB) 33));obtain⟨an,az,d,Q,E⟩:=H.enter _ D;have F:=C D;have K:=C Q;have bk:=bN (i:=1) E (v:=I J a) rfl;have bl:=bN (i:=3) E (v:=I J n) rfl;have aC:=C d;have bn:=C hk;have l:=C (kO a d);generalize c:s.grow a n=Z;unfold aa.grow at c;unfold aY at*;obtain⟨T,o⟩:=aX L.b;have W:=C o;rw[o] at l⊢;unfold cD at F⊢;cases f:s.group a with
 |none=>rw[f] at c;have r:=C c;rw[aa.mV f] at l;clear H hk D az d Q E c o f P;go_enter func45,ntmps45;go_upto_region 1 with fail;rw[F.out];go_wp2_with fail;refine l.mono ?_;rintro e ab ⟨rfl,p⟩;obtain rfl:=p.symm;go_wp2_with fail;go_ret2;rw[<-r.out];exact dk (K.out _ _ _ aC.out)
 |some G=>
  obtain⟨ap,t,aO⟩:=aa.hc f;rw[f] at c;dsimp only at c;rw[aa.k3 f] at l;obtain⟨g,rfl⟩:=dW ap;rw[cd] at l t;obtain⟨M,u⟩:=aX (L.gk g);have X:=C u;rw[u] at l;have N:=C (wX n V);cases hw:kg n with
  |false=>rw[hw,aj rfl] at c;have r:=C c;rw[hw] at N;clear H hk D az d Q E c o f u t aO hw P;go_enter func45,ntmps45;go_upto_region 1 with fail;rw[F.out];go_wp2_with fail;refine l.mono ?_;rintro e ab ⟨rfl,p⟩;obtain rfl:=p.symm;clear p;go_wp2_with fail;refine N.mono ?_;rintro e ah ⟨rfl,O⟩;obtain rfl:=O.symm;clear O;go_wp2_with fail;go_ret2;rw[<-r.out];exact dk (K.out _ _ _ aC.out)
  |true=>
   rw[hw,z0 (by decide)] at c;rw[hw] at N;have q:ae.fj s.tree G.h≠0:=by
    rcases P with e|e|e;·rw[f] at e;cases e
    ·rw[hw] at e;cases e
    ·exact e G f
   rw[aj q] at c;have r:=C c;have aA:=C (ae.xr q);obtain⟨_,v1,bp,_⟩:=d.dB t u;have Y:=d.top.cell 5 jX;have aQ:T<V.heap.size:=(by rw[<-o];exact d.top.lt);have aS:M<V.heap.size:=(by rw[<-u];exact(d.ax t).lt);have aU:T≠V.heap.size:=(by omega);have aP:M≠V.heap.size:=(by omega);have x:=C (by have y:=d.drew.xt hk G.h;rw[ae.xr q] at y;exact y);have z:=C (by have y:=d.CT hk G.h;rw[ae.xr q] at y;exact y);generalize aT:ae.fj s.tree G.h=aV at x z q;have aZ:=C aT;generalize bq:(ae.create s.tree G.h).2=ai at x z;obtain⟨ak,aF⟩:=aX L.eF;have am:=C aF;unfold aY at Y x z;rw[aF] at Y x z;rw[o] at Y;have ao:=C t;have br:(aV !=0)=true:=(by simp[q]);go_enter func45,ntmps45;go_upto_region 1 with fail;rw[F.out];go_wp2_with fail;refine l.mono ?_;rintro e ab ⟨rfl,p⟩;obtain rfl:=p.symm;go_wp2_with fail;refine N.mono ?_;rintro e ah ⟨rfl,O⟩;obtain rfl:=O.symm;go_wp2_with fail;go_region_held3 (λW'=>W'.cell? ⟨T,5,U⟩=R (af (R ⟨ak,0,U⟩))∧W'.cell? ⟨M,1,U⟩=R (I J G.h.idx)∧W'.cell? ⟨M,2,U⟩=R (I J G.h.gen)) ((refine⟨?_,?_,?_⟩)<;>(with_reducible repeat(first|assumption|refine b7 ?_|refine jV (by first|exact aU|exact aP|exact a6|exact a8) ?_|refine fo _ (by first|exact aQ|exact aS|exact ac|exact ay) ?_))) (first
    |(
     go_at_call 84;with_reducible refine x.out.mono ?_;rintro e a_ ⟨rfl,j⟩
     obtain⟨_,ba,ag,_⟩:=j.dB ao.out X.out;have A:=j.top.cell 5 jX;unfold aY at A;rw[W.out,am.out] at A;have ac:=j.top.lt;rw[W.out] at ac;have ay:=(j.ax ao.out).lt;rw[X.out] at ay;have a6:=o_ ac;have a8:=o_ ay;have aM:=C j)|(
     go_at_call 84;with_reducible refine z.out.mono ?_;rintro e a_ ⟨rfl,j,B,bb⟩
     obtain⟨_,ba,ag,_⟩:=j.dB ao.out X.out;have A:=j.top.cell 5 jX;unfold aY at A;rw[W.out,am.out] at A;have aE:=B.cell 0 (v:=I J 0) rfl;have a0:=B.cell 1 (v:=I J 0) rfl;have bw:=B.free 0;have a2:=B.free 1;have aM:=C j;have a3:=C B;have bc:=C bb))
   all_goals go_wp2_with fail;go_ret2;rw[<-r.out,aZ.out];first
    |exact dk (K.out _ _ _ (aM.next (bz _ _)))
    |(obtain⟨a4,_,bf,bg⟩:=bc.out _ (nI _ _ _ _ _ _);exact dk (K.out _ _ _ (bg _ _ _ bf)))
end
section
variable {aq w:ab} {S:Nat->Prop} {L:bu} {s:aa} {k:Nat}
theorem MP {G:cc} (i:Nat) (o:i<s.c.aR) (j:Nat) (q:s.groups[g]?=R G) (t:eG s) {h:ad} (u:s.hiers[i]?=R h) (w:h.Ok) (W:ab) (f:aw aq S L s W) (t5:W.cell? ⟨j,5,U⟩=R (af (R ⟨L.gk g,0,U⟩))):Calls au 36 #[af (R ⟨L.b,0,U⟩),af (R ⟨j,0,U⟩),I J (i:Int)] W λe w'=>e=aK (I J (h.minOf G.h.idx))∧∃a,w'=W.drewN a:=by
 obtain⟨B,cap,D,y,k⟩:=f.iJ t o;obtain⟨T,z⟩:=f.a1 (p:=i) (h:=h) u;have d:=C (λa=>Calls.quiet_of_same (n:=a) (wH T (L.hk i) h G.h.idx (W.drewN a) (z.frame ((Mod.refl (λ_=>False) W).drewN a) (λ_ _=>id)) w));have l:=(f.ax q).cell 1 (v:=I J G.h.idx) rfl;have A:(i:Int)<(s.c.aR:Int):=by omega
 have E:(i:Int).toNat=i:=by omega
 have F:(0:Int)<=(i:Int):=by omega
 generalize H:s.c.aR=m at A k;generalize K:L.hk i=M at y d;generalize N:L.b=b at k⊢;generalize O:L.gk g=gb at t5 l;generalize P:G.h.idx=x at l d⊢;generalize Q:h.minOf x=r at d⊢;unfold aY at*;go_enter func36,ntmps36;go_wp2_with fail;go_quiet ((go_at_call 76;with_reducible exact d.out _));go_wp2_with fail;go_ret;exact⟨rfl,nq,rfl⟩
end
section
variable {aq w:ab} {S:Nat->Prop} {L:bu} {s:aa} {k:Nat}
theorem aw.MQ (H:aw aq S L s w) (x:Int):Calls au 99 #[aY L.km,s4 x] w λe w'=>e=aK (if s.pool.many=64 then bD #[bm #[I J 0,I J 0],I J 3] else bD #[bm #[I J (s.pool.put x).2.idx,I J (s.pool.put x).2.gen],I J 0])∧aw aq S L {s with pool:=if s.pool.many=64 then s.pool else(s.pool.put x).1} w':=by obtain⟨T,b,c⟩:=H.Bm;exact(Ig T L.km 64 s.pool x w b).mono (λe w' a=>⟨a.1,c w' _ a.2.1 a.2.2⟩)
theorem MR (F a b n m f:Int) (am:0<=f∧f<18446744073709551616) (H:aw aq S L s w) (hk:s.Ok k) (Q:k<=100000) (T:s.group a=U∨kh n=false∨e7 n≠0∨(s.free (-1) f).2≠0):Calls au 51 #[aY L.b,bm (cD F a b n m f)] w (iv aq S L (s.spawn a n f)):=by
 obtain⟨V,K⟩:=aX (w.alloc (av (cD F a b n m f) 33));obtain⟨X,Y,A,ao,B⟩:=H.enter _ K;have p:=C K;have y:=C ao;have q:=C A;have aM:=bN (i:=1) B (v:=I J a) rfl;have ap:=bN (i:=3) B (v:=I J n) rfl;have ac:=bN (i:=5) B (v:=I ah f) rfl;have h:=C (kO a A);have z:=C (λ(W:ab) (ay:Below V.heap.size V W)=>rF (-1) f (A.next ay) hk Q);have ad:=C (λ(W:ab) (r:aa) (o:Nat) (v:Value) (aB:aw V X L r W) (az:V.cell? ⟨w.heap.size,o,U⟩=R v)=>aB.kept Y az zK9);have t:=C (wa n V);unfold nv at t;generalize c:s.spawn a n f=Z;unfold aa.spawn at c;unfold aY at*;obtain⟨aO,D⟩:=aX L.b;have aQ:=C D;rw[D] at h⊢;rw[D] at z;unfold cD at p⊢;obtain⟨aS,aU,aP,M,_⟩:=w4 n;cases u:s.group a with
 |none=>rw[u] at c;have j:=C c;rw[aa.mV u] at h;go_enter func51,ntmps51;go_upto_region 1 with fail;rw[p.out];go_wp2_with fail;refine h.mono ?_;rintro e l ⟨rfl,d⟩;obtain rfl:=d.symm;go_wp2_with fail;go_ret2;rw[<-j.out];exact dk (y _ _ _ q)
 |some G=>
  rw[u] at c;dsimp only at c;rw[aa.k3 u] at h;generalize aT:L.gk a.toNat=gb at h;cases E:kh n with
  |false=>rw[E] at M c;rw[aj rfl] at c;have j:=C c;go_enter func51,ntmps51;go_upto_region 1 with fail;rw[p.out];go_wp2_with fail;refine h.mono ?_;rintro e l ⟨rfl,d⟩;obtain rfl:=d.symm;go_wp2_with fail;go_ret2;rw[<-j.out];exact dk (y _ _ _ q)
  |true=>
   rw[E] at M c;rw[z0 (by decide)] at c;generalize aC:e7 n=N at t c;generalize aV:ei n=aZ at t;by_cases x:N=0
   ·have O:(s.free (-1) f).2≠0:=by
     rcases T with g|g|g|g;·rw[u] at g;cases g
     ·rw[E] at g;cases g
     ·exact absurd (aC.trans x) g
     ·exact g
    rw[z0 (by rw[x];decide),aj O] at c;rw[decide_eq_false O] at z;generalize ak:(s.free (-1) f).1=a6 at z;have j:=C c;subst x;go_enter func51,ntmps51;go_upto_region 1 with fail;rw[p.out];go_wp2_with fail;refine h.mono ?_;rintro e l ⟨rfl,d⟩;obtain rfl:=d.symm;go_wp2_with fail;refine t.mono ?_;rintro e l ⟨rfl,d⟩;have a8:=ad l s 5 _ (q.next d) ac;have P:=C d;go_wp2_with fail;refine(z l P).mono ?_;rintro e a_ ⟨rfl,aF⟩;have af:=C ((q.next P).next aF);go_wp2_with fail;go_ret2;rw[<-j.out];exact dk (y _ _ _ af)
   ·rw[aj x] at c;have j:=C c;have ba:(N !=0)=true:=(by simp[x]);go_enter func51,ntmps51;go_upto_region 1 with fail;rw[p.out];go_wp2_with fail;refine h.mono ?_;rintro e l ⟨rfl,d⟩;obtain rfl:=d.symm;go_wp2_with fail;refine t.mono ?_;rintro e l ⟨rfl,d⟩;have ae:=C (q.next d);go_wp2_with fail;go_ret2;rw[<-j.out];exact dk (y _ _ _ ae)
end
section
def CW:Oper:={dst:=R 91,op:=Op.load 63 (Operand.tmp 90),type:=63,pos:= "sched.go:442",after:=#[{on:=6,ground:=Ground.data}],guard:=U}
attribute [local go_sem] CW
section
variable {aq w:ab} {S:Nat->Prop} {L:bu} {s:aa} {k:Nat}
theorem MU (a7 a b n m t:Int) (bu:0<=t∧t<18446744073709551616) (H:aw aq S L s w) (hk:s.Ok k) (j5:k<100000) {G:cc} (bq:s.group a=R G) (cb:kh n=true) (ai:e7 n=0) (cf:(s.free (-1) t).2=0):Calls au 51 #[aY L.b,bm (cD a7 a b n m t)] w (mh aq S L (s.spawn a n t)):=by
 obtain⟨V,cg⟩:∃V,w.alloc (av (cD a7 a b n m t) 33)=V:=⟨_,rfl⟩;obtain⟨br,dX,aP,ci,a0⟩:=H.enter _ cg;have ch:=C cg;have cj:=C ci;have kq:=bN (i:=1) a0 (v:=I J a) rfl;have ee:=bN (i:=3) a0 (v:=I J n) rfl;have cn:=bN (i:=5) a0 (v:=I ah t) rfl;have aT:=C (kO a aP);have aC:=C (λ(W:ab) (A:Below V.heap.size V W)=>rF (-1) t (aP.next A) hk (by omega));have bw:=C (λ(W:ab) (r:aa) (o:Nat) (v:Value) (ck:aw V br L r W) (aF:V.cell? ⟨w.heap.size,o,U⟩=R v)=>ck.kept dX aF (bM _));have aV:=C (wa n V);unfold nv at aV;obtain⟨en,b5,eo⟩:=aa.hc bq;obtain⟨Q,rfl⟩:=dW en;rw[cd] at b5;obtain⟨Z,ao⟩:∃Z,s.spawn (Q:Int) n t=Z:=⟨_,rfl⟩;rw[ao];rw[aa.zt,bq] at ao;dsimp only at ao;rw[cb,if_neg (by decide),ai,if_neg (by decide),cf,if_neg (by decide),cd] at ao;rw[ai] at aV;rw[cf] at aC;rw[show decide ((0:Int)=0)=true from rfl] at aC;obtain⟨ew,co⟩:=hk.py (-1) t;obtain⟨p,cp⟩:=dW ew;rw[cp] at co;rw[cp] at ao aC;have aZ:p<s.c.aR:=by omega
 have ae:=C (bx b5 eo);have eH:=C ai;rw[aa.k3 bq,cd] at aT;unfold aY at*;obtain⟨E,a2⟩:∃b,L.b=b:=⟨_,rfl⟩;have B:=C a2;rw[a2] at aT⊢;rw[a2] at aC;obtain⟨a3,bB⟩:∃x,L.gk Q=x:=⟨_,rfl⟩;have bX:=C bB;rw[bB] at aT;unfold cD at ch⊢;obtain⟨bV,eE,kR,eI,_⟩:=w4 n;rw[cb] at eI;obtain⟨f,cr⟩:∃x,s.tasks.length=x:=⟨_,rfl⟩;have am:=C cr;have eL:=hk.eA.1;obtain⟨ac,cu⟩:∃x,ei n=x:=⟨_,rfl⟩;have cy:=C cu;rw[cu] at aV;have a4:=C (λ(W:ab) (cs:aw V br L s W)=>cs.MQ (s.tasks.length:Int));rw[cr] at a4 eL;unfold aY s4 at a4;have cE:=C ao;have fK:f<=100000:=by omega
 go_enter func51,ntmps51;go_upto_region 1 with fail;rw[ch.out];go_wp2_with fail;refine aT.out.mono ?_;rintro e a5 ⟨rfl,T⟩;obtain rfl:=T.symm;go_wp2_with fail;refine aV.out.mono ?_;rintro e a5 ⟨rfl,T⟩;have kS:=bw.out a5 s 5 _ (aP.next T) cn;have b8:=C T;go_wp2_with fail;refine(aC.out a5 b8.out).mono ?_;rintro e eT ⟨rfl,eU⟩;have bC:=(aP.next b8.out).next eU;obtain⟨kT,kU,kV,cq⟩:=bC.pX B.out;rw[am.out] at cq;have a6:=bC.top.cell 6 AH;unfold aY at a6;rw[B.out] at a6;have ay:=C (a4.out eT bC);obtain⟨b1,cv⟩:∃x,L.km=x:=⟨_,rfl⟩;rw[cv] at a6 ay;by_cases O:s.pool.many=64;·rw[aj O,aj O] at ay;have aM:=cE.out;rw[aj (by exact O)] at aM;have a9:=C aM;go_wp2_with fail;refine ay.out.mono ?_;rintro e y ⟨rfl,aD⟩;have eY:=C aD;go_wp2_with fail;go_ret2;rw[<-a9.out];exact mU (cj.out _ _ _ (eY.out.next (bz _ _)))
 ·rw[if_neg O,if_neg O] at ay;have aM:=cE.out;rw[if_neg (by exact O)] at aM;have a9:=C aM;obtain⟨c,aF⟩:∃c,s.pool.put (f:Int)=c:=⟨_,rfl⟩;rw[aF] at ay;have cH:=C aF;have ar:=C (show 0<=c.2.idx∧c.2.idx<64 by obtain⟨bG,_,_,_,bA,e2⟩:=hk.pool.qy (f:Int);rw[aF] at bG bA e2;have bH:=hk.cA;have T:an.many s.pool<=s.pool.pl.length:=(by unfold an.many;omega);have bd:an.many s.pool≠64:=O;exact⟨bG,by omega⟩);go_wp2_with fail;refine ay.out.mono ?_;rintro e y ⟨rfl,aD⟩;go_upto_region 16 with fail;obtain⟨l,be⟩:∃l:aa,({s with pool:=c.1}:aa)=l:=⟨_,rfl⟩;have P:=C be;have ad:=C (show aw V br L l y from by rw[<-be];exact aD);obtain⟨D,ap⟩:∃D,y.alloc (av #[I J c.2.idx,I J c.2.gen] 77)=D:=⟨_,rfl⟩;rw[ap];have a8:=C (show Below y.heap.size y D from ap▸bz _ _);have bK:ak D y.heap.size #[I J c.2.idx,I J c.2.gen] 77:=ap▸ak.new y _ _;have bj:D.heap.size=y.heap.size+1:=by rw[<-ap];simp
  have e3:=C bj;have fl:=bK.cell 0 (v:=I J c.2.idx) rfl;have bJ:=bK.cell 1 (v:=I J c.2.gen) rfl;have kW:=bw.out D l 3 _ (ad.out.next a8.out) ee;have kX:=bw.out D l 5 _ (ad.out.next a8.out) cn;obtain⟨A,a_⟩:∃x,y.heap.size=x:=⟨_,rfl⟩;have X:=C a_;rw[a_] at fl bJ;simp only[a_];clear be ap bj a_ a6 cq;go_upto_region 17 with fail;obtain⟨K,ba⟩:∃K,D.alloc (av #[I J c.2.idx,I J c.2.gen,aE false,aE false,I J (p:Int),af (R ⟨a3,0,U⟩),I J n,I ah (ac:Int),I ah t,I J 0,I ah 0,I J 0,I ah 0,I J 0] 81)=K:=⟨_,rfl⟩;rw[ba];have bL:ak K D.heap.size #[I J c.2.idx,I J c.2.gen,aE false,aE false,I J (p:Int),af (R ⟨a3,0,U⟩),I J n,I ah (ac:Int),I ah t,I J 0,I ah 0,I J 0,I ah 0,I J 0] 81:=ba▸ak.new D _ _;have aN:Below y.heap.size y K:=a8.out.trans ((show Below D.heap.size D K from ba▸bz _ _).mono a8.out.size);have bi:ak K y.heap.size #[I J c.2.idx,I J c.2.gen] 77:=ba▸bK.alloc _;have bD:=C bL;have fy:=C bi;obtain⟨d,ag⟩:∃x,D.heap.size=x:=⟨_,rfl⟩;have fz:=C ag;have cO:d=A+1:=by rw[<-ag,e3.out,X.out]
  have bb:A≠d:=by omega
  have bP:=C cO;clear cO;rw[ag] at bL;rw[X.out] at bi;simp only[ag];have fA:=ad.out.next aN;have cS:=bi.cell 0 (v:=I J c.2.idx) rfl;have fB:=bL.cell 5 (v:=af (R ⟨a3,0,U⟩)) rfl;have cB:eG l:=by rw[<-P.out];exact hk.lens
  have cT:l.hiers[p]?=R (s.a1 (p:Int)):=by have bc:=hk.eu (p:=(p:Int)) (by omega) (by have:=aZ;omega);rw[cd] at bc;rw[<-P.out];exact bc
  have fC:=(hk.a1 p _ (by have:=cT;rw[<-P.out] at this;exact this)).1;have fO:l.groups[Q]?=R G:=by rw[<-P.out];exact ae.out.1
  have bF:p<l.c.aR:=by rw[<-P.out];exact aZ
  have bR:=C ((MP p bF d fO cB cT fC K.drew fA.drew (by rw[bX.out];exact b7 fB)).mono (λe w' j=>show e=aK (I J ((s.a1 (p:Int)).minOf G.h.idx))∧Below K.heap.size K w' from⟨j.1,by obtain⟨_,x,rfl⟩:=j;exact below_drewN (Below.refl _ _).drew x⟩));rw[B.out] at bR;obtain⟨bU,cU⟩:∃x,(s.a1 (p:Int)).minOf G.h.idx=x:=⟨_,rfl⟩;have aI:=C cU;rw[cU] at bR;go_region_held3 (λW'=>W'.cell? ⟨A,0,U⟩=R (I J c.2.idx)) (repeat(first|(with_reducible assumption)|(with_reducible refine b7 ?_)|(with_reducible refine jV (by with_reducible assumption) ?_))) (first|(go_at_call 36;refine bR.out.mono ?_;rintro e aL ⟨rfl,bY⟩;have F:=bD.out.next bY;rw[fz.out] at F;have kY:=F.cell 9 (v:=I J 0) rfl;have aJ:=F.cell 10 (v:=I ah 0) rfl;have kZ:=F.cell 11 (v:=I J 0) rfl;have k0:=F.cell 12 (v:=I ah 0) rfl;have k1:=F.free 9;have k2:=F.free 10;have lB:=F.free 11;have lC:=F.free 12;have al:=fy.out.next bY;rw[X.out] at al;have lD:=al.cell 0 (v:=I J c.2.idx) rfl;have fU:=C bY;have fV:=C F;have dA:=C al));all_goals
   obtain⟨q,bf⟩:∃q,(((aL.setCell ⟨d,9,U⟩ (I J c.2.idx)).setCell ⟨d,10,U⟩ (I ah (ac:Int))).setCell ⟨d,11,U⟩ (I J bU)).setCell ⟨d,12,U⟩ (I ah 0)=q:=⟨_,rfl⟩;rw[bf];obtain⟨Y,cR⟩:∃Y:ex,(⟨c.2,false,false,(p:Int),Q,n,ac,t,⟨c.2.idx,ac,bU,0⟩,0⟩:ex)=Y:=⟨_,rfl⟩;have bg:=C cR;have c7:ak q d (kM L Y) 81:=(by rw[<-bf,<-cR];unfold kM aY;dsimp only;rw[bX.out];exact(((fV.out.set 9 (I J c.2.idx)).set 10 (I ah (ac:Int))).set 11 (I J bU)).set 12 (I ah 0));have bZ:ak q A #[I J c.2.idx,I J c.2.gen] 77:=bf▸((((dA.out.other bb _).other bb _).other bb _).other bb _);have aO:y.heap.size<=d:=(by have bH:=bP.out;have T:=X.out;omega);have f_:Below y.heap.size y q:=bf▸((((aN.trans (fU.out.mono aN.size)).setCell aO _).setCell aO _).setCell aO _).setCell aO _;have gq:d<q.heap.size:=c7.lt;obtain⟨ax,bh,aB,gr⟩:=ad.out.pY f_;have b4:=C gr;have gB:=C (λg (j:ax g)=>(bh g j).1);have gN:=C (show¬ax d fromλb2=>by have:=(bh _ b2).1;omega);have hi:=C (show∀k,(ax k∨k=d)->(ax k∨y.heap.size<=k) fromλk b2=>b2.elim .inl (λe=>.inr (by rw[e];exact aO)));have bQ:l.tasks.length=f:=(by rw[<-P.out];exact am.out);have bI:=C bQ;obtain⟨dc,df,bk,hj⟩:=aB.pX B.out;rw[bQ] at bk hj;obtain⟨b0,hG⟩:=aB.fk .fx;have b_:Own dr q 0 73 L.tv (hf L l).length (hf L l):=hG.1;rw[oL,bQ,bk] at b_;have cS:=bZ.cell 0 (v:=I J c.2.idx) rfl;obtain⟨z,dj⟩:=dW ar.out.1;have dv:z<64:=(by have:=ar.out.2;omega);have bo:=C dj;rw[dj] at cS;have lE:(z:Int)<64:=(by omega);have l7:(z:Int).toNat=z:=(by omega);have l8:(0:Int)<=(z:Int):=(by omega);have hH:=C (b_.drew.alloc (av #[af (R ⟨d,0,U⟩)] 73));have c0:=C (show∀j u,(dr.e (R d))[j]?=R u->(q.drew.alloc (av #[af (R ⟨d,0,U⟩)] 73)).cell? ⟨q.drew.heap.size,j,U⟩=R u fromλj u bs=>dE.trans (by rw[<-bs];show([af (R ⟨d,0,U⟩)]:List Value).toArray[j]?=_;rw[ff];rfl));have bS:0<=(q.drew.alloc (av #[af (R ⟨d,0,U⟩)] 73)).heap.size:=hq _;have c2:f<=10000000:=(by omega);have l9:E<q.heap.size:=(by rw[<-B.out];exact aB.top.lt);have bl:=C (show∀g,(aA dc f df).ownBlock=R g->g≠E∧g≠A∧g≠d fromλg e=>by
    obtain⟨bH,T,bd⟩:=aB.MG (by rw[bk];exact e);rw[B.out] at bd;have c3:=bP.out;have dw:=X.out;rcases bH with j|j;·have:=gB.out g j;exact⟨bd,by omega,by omega⟩
    ·omega)
   have b3:A<q.heap.size:=bZ.lt;have l_:A≠E:=λe=>by have b9:=ad.out.top.lt;rw[B.out] at b9;have dw:=X.out;omega
   have c4:=C (show ak (q.drew.alloc (av #[af (R ⟨d,0,U⟩)] 73)) E (cY L l) 72 from by rw[<-B.out];exact aB.top.drew.alloc _);have c5:=C (show ak (q.drew.alloc (av #[af (R ⟨d,0,U⟩)] 73)) A #[I J c.2.idx,I J c.2.gen] 77 from bZ.drew.alloc _);have bn:=C (show l.places.length=32∧l.at_.length=64 by rw[<-P.out];exact⟨hk.eB,hk.gH⟩);have bp:=C bk;obtain⟨ma,bO⟩:∃x,l.at_[z]?=R x:=⟨_,b6 (by rw[bn.out.2];exact dv)⟩;have iq:=C bO;go_wp2_with fail;rw[show({dst:=R 91,op:=Op.load 63 (Operand.tmp 90),type:=63,pos:= "sched.go:442",after:=#[{on:=6,ground:=Ground.data}],guard:=U}:Oper)=CW from rfl];go_region_held3 (λW'=>W'.cell? ⟨A,0,U⟩=R (I J z)) (repeat(first|(with_reducible assumption)|(with_reducible refine b7 ?_)|(with_reducible refine jV (by with_reducible assumption) ?_)|(with_reducible refine fo _ ?_ ?_))) ((refine oC MI (by rfl) _ _ (by rfl) 0 _ f (hf L l) (by rfl) hH.out q.drew.heap.size _ (R d) (by rfl) c0.out c2 bS ?_;intro mb u dx ir c9;obtain⟨M,N,rfl,mc⟩:=dx.form (Nat.succ_pos _);have aQ:=C (show Grow _ u (aA dc f df) (aA (R ⟨M,0,U⟩) (f+1) N) from Grow.gK ir c9);have aS:=c4.out.grow aQ.out (λe=>(bl.out E e.symm).1 rfl);have dy:=c5.out.grow aQ.out (λe=>(bl.out A e.symm).2.1 rfl);rw[bo.out] at dy;have bG:=dy.cell 0 (v:=I J z) rfl;have iu:=aS.cell 7 pL;rw[bp.out] at iu;have me:=aS.cell (41+z) (s7 bn.out.1 iq.out);have mf:=aS.free 7;have mg:=aS.free (41+z);have db:=C dx;have iL:=C aS));all_goals
    obtain⟨az,aU⟩:∃az,(u.setCell ⟨E,7,U⟩ (aA (R ⟨M,0,U⟩) (f+1) N)).setCell ⟨E,41+z,U⟩ (I J (f:Int))=az:=⟨_,rfl⟩;rw[aU];have d0:E<A:=(by have b9:=ad.out.top.lt;rw[B.out] at b9;have dw:=X.out;omega);have dF:d≠E:=(by have c3:=bP.out;omega);have iM:Mod (λk=>k=L.b∨L.tv.ownBlock=R k) q (q.drew.alloc (av #[af (R ⟨d,0,U⟩)] 73)):=((Mod.refl _ _).drew).alloc _;have iN:Mod (λk=>k=L.b∨L.tv.ownBlock=R k) q az:=(by rw[<-aU];exact((iM.grow aQ.out (λg e=>.inr (by rw[bp.out];exact e))).setCell (.inl B.out.symm) _).setCell (.inl B.out.symm) _);have dL:∀g,(aA (R ⟨M,0,U⟩) (f+1) N).ownBlock=R g->L.tv.ownBlock=R g∨q.heap.size<=g:=λg e=>by
     rcases aQ.out.loc with j|⟨d1,j,bs⟩;·exact .inl (by rw[bp.out,<-j];exact e)
     ·rw[e] at j;cases j;exact .inr (cJ (by simp) bs)
    have bT:∀g,(aA (R ⟨M,0,U⟩) (f+1) N).ownBlock=R g->¬g=E:=λg e=>by
     rcases dL g e with j|j;·rw[bp.out] at j;exact(bl.out g j).1
     ·omega
    have dg:Own dr az 0 73 (aA (R ⟨M,0,U⟩) (f+1) N) (f+1) (hf L l++[R d]):=(by rw[<-aU];exact db.out.mod (nI _ _ _ _ _ _) bT);have jk:ak az L.b (cY (L.ga f d (aA (R ⟨M,0,U⟩) (f+1) N)) (l.ga Y z)) 72:=(by rw[<-ML bn.out.1 bn.out.2 dv bI.out,B.out,<-aU];exact(iL.out.set 7 _).set (41+z) _);have aH:ak az d (kM L Y) 81:=(by rw[<-aU];exact((((c7.drew).alloc _).grow aQ.out (λe=>(bl.out d e.symm).2.2 rfl)).other dF _).other dF _);have bc:=aB.ga gN.out gq bI.out iN dg dL jk aH;have dQ:=b4.out _ _ _ (bc.na hi.out);have jl:l.ga Y z=s.born Q n t (p:Int):=(by rw[<-P.out,<-bg.out];have bv:=aa.l2 ae.out.1;have jy:z=c.2.idx.toNat:=(by rw[bo.out];omega);unfold aa.ga aa.born;rw[am.out,cH.out,bv,aI.out,cy.out,jy]);rw[jl] at dQ;have dl:(s.born Q n t (p:Int)).tasks[f]?=R Y:=(by have ce:=s.zr Q n t (p:Int);have bv:=aa.l2 ae.out.1;rw[am.out,cH.out,bv,aI.out,cy.out,bg.out] at ce;exact ce);have j3:=hk.born ae.out.1 ae.out.2 eH.out bu (p:=(p:Int)) (by omega) (by have:=aZ;omega) O;have dR:=tp dl (by rw[<-bg.out]) (by rw[<-bg.out]) p aZ false dQ j3;rw[show aY (L.ga f d (aA (R ⟨M,0,U⟩) (f+1) N)).b=af (R ⟨E,0,U⟩) by rw[<-B.out];rfl,show aY ((L.ga f d (aA (R ⟨M,0,U⟩) (f+1) N)).tk f)=af (R ⟨d,0,U⟩) by show aY (if f=f then d else L.tk f)=_;rw[aj rfl];rfl] at dR;have j4:=C dR;go_wp2_with fail;refine j4.out.mono ?_;rintro e d2 ⟨rfl,bW⟩;go_wp2_with fail;go_ret2;rw[<-a9.out,am.out];exact⟨rfl,L.ga f d (aA (R ⟨M,0,U⟩) (f+1) N),rfl,cj.out _ _ _ bW⟩
theorem MV (f a b n m c:Int) (g:0<=c∧c<18446744073709551616) (H:aw aq S L s w) (hk:s.Ok k) (h:k<100000):Calls au 51 #[aY L.b,bm (cD f a b n m c)] w (mh aq S L (s.spawn a n c)):=by
 by_cases d:s.group a=U∨kh n=false∨e7 n≠0∨(s.free (-1) c).2≠0;·exact(MR f a b n m c g H hk (by omega) d).mono (λe w' i=>i.ks)
 ·obtain⟨G,j⟩:∃G,s.group a=R G:=by
   cases e:s.group a with
   |none=>exact absurd (.inl e) d
   |some G=>exact⟨G,rfl⟩
  refine MU f a b n m c g H hk h j ?_ ?_ ?_;·cases e:kh n with
   |false=>exact absurd (.inr (.inl e)) d
   |true=>rfl
  ·exact Classical.byContradiction (λe=>d (.inr (.inr (.inl e))))
  ·exact Classical.byContradiction (λe=>d (.inr (.inr (.inr e))))
end
end
section
def CX:Oper:={dst:=R 89,op:=Op.load 64 (Operand.tmp 88),type:=64,pos:= "sched.go:322",after:=#[{on:=6,ground:=Ground.data}],guard:=U}
attribute [local go_sem] CX
section
variable {aq w w':ab} {S:Nat->Prop} {L:bu} {s:aa} {k:Nat}
theorem aw.MW (H:aw aq S L s w):S L.b∨aq.heap.size<=L.b:=by obtain⟨a,c,H⟩:=H;exact H.own _ (H.part .top).1.lt (by rw[(H.part .top).2];simp)
theorem MX (h:w.grownBy w' U):Below w.heap.size w w':=⟨h.os,h.tape,h.output,h.size,λk a=>h.block k a (by simp)⟩
theorem MY (w:ab):Calls au 85 #[] w.drew λe w'=>e=aK (af (R ⟨w.heap.size,0,U⟩))∧gI w' w.heap.size []∧Below w.heap.size w w':=(GZ w.drew).mono λe w' q=>⟨q.1,⟨_,_,_,q.2.1,rfl⟩,(Below.refl _ _).drew.trans (MX q.2.2)⟩
theorem MZ (aI a b n m cR:Int) (H:aw aq S L s w) (hk:s.Ok k) (gr:k<100000) {G:cc} (a_:s.group a=R G) (a2:kg n=true) (bU:ae.fj s.tree G.h=0):Calls au 45 #[aY L.b,bm (cD aI a b n m cR)] w (mh aq S L (s.grow a n)):=by
 obtain⟨V,bY⟩:∃V,w.alloc (av (cD aI a b n m cR) 33)=V:=⟨_,rfl⟩;obtain⟨b4,gB,aB,gN,c7⟩:=H.enter _ bY;have bh:=C bY;have hi:=C (show w.heap.size<V.heap.size by rw[<-bY];simp);have hj:=C gN;have eq:=bN (i:=1) c7 (v:=I J a) rfl;have hG:=bN (i:=3) c7 (v:=I J n) rfl;have cm:=C aB;have az:=C hk;have hH:=C gr;have ba:=C (kO a aB);have c0:=C (λ(W:ab) (bS:bu) (r:aa) (z:aw V b4 bS r W)=>z.kept gB hG (bM _));obtain⟨Z,aC⟩:∃Z,s.grow a n=Z:=⟨_,rfl⟩;rw[aC];unfold aa.grow at aC;unfold aY at*;obtain⟨D,a3⟩:∃b,L.b=b:=⟨_,rfl⟩;have y:=C a3;rw[a3] at ba⊢;unfold cD at bh⊢;obtain⟨c2,ag,c3⟩:=aa.hc a_;rw[a_] at aC;dsimp only at aC;rw[aa.k3 a_] at ba;obtain⟨g,rfl⟩:=dW c2;rw[cd] at ba ag;obtain⟨bb,a4⟩:∃b,L.gk g=b:=⟨_,rfl⟩;have bc:=C a4;rw[a4] at ba;have bI:=C (wX n V);rw[a2,if_neg (by decide),bU,if_neg (by decide)] at aC;rw[a2] at bI;have es:=C ag;have c4:=C c3;have c5:=C (qI.1 a2);obtain⟨tG,tH⟩:=qI.1 a2;have ct:IntKind.u64.wrap n=n:=by rw[nT];omega
 obtain⟨al,bZ,_,_⟩:=hk.tree.sr bU;obtain⟨_,v1,ex,_⟩:=aB.dB ag a4;have b2:=aB.top.cell 5 jX;have bO:D<V.heap.size:=by rw[<-a3];exact aB.top.lt
 have iq:bb<V.heap.size:=by rw[<-a4];exact(aB.ax ag).lt
 have ir:D≠V.heap.size:=by omega
 have c9:bb≠V.heap.size:=by omega
 have aM:=C (aB.drew.xt hk G.h);have aj:=C (aB.CT hk G.h);rw[bU] at aM aj;obtain⟨bQ,iu⟩:∃x,ae.create s.tree G.h=x:=⟨_,rfl⟩;rw[iu] at aM aj aC al bZ;obtain⟨f,iL⟩:∃x,bQ.2=x:=⟨_,rfl⟩;rw[iL] at aM aj aC al bZ;obtain⟨K,bs⟩:∃x,({s with tree:=bQ.1}:aa)=x:=⟨_,rfl⟩;rw[bs] at aM aj;have O:=C bs;have iM:=C aC;have dc:=C (bx al bZ);have aP:=C (show K.groups[g]?=R G by rw[<-bs];exact ag);obtain⟨iN,df⟩:∃x,L.eF=x:=⟨_,rfl⟩;have b_:=C df;unfold aY at b2 aM aj;rw[df] at b2 aM aj;rw[a3] at b2;go_enter func45,ntmps45;go_upto_region 1 with fail;rw[bh.out];go_wp2_with fail;refine ba.out.mono ?_;rintro e w7 ⟨rfl,Q⟩;obtain rfl:=Q.symm;go_wp2_with fail;refine bI.out.mono ?_;rintro e w8 ⟨rfl,A⟩;obtain rfl:=A.symm;go_wp2_with fail;go_region_held3 (λW'=>W'.cell? ⟨D,5,U⟩=R (af (R ⟨iN,0,U⟩))∧W'.cell? ⟨bb,1,U⟩=R (I J G.h.idx)∧W'.cell? ⟨bb,2,U⟩=R (I J G.h.gen)) ((refine⟨?_,?_,?_⟩)<;>(with_reducible repeat(first|assumption|refine b7 ?_|refine jV (by first|exact ir|exact c9|exact bT|exact dg) ?_|refine fo _ (by first|exact bO|exact iq|exact b9|exact bv) ?_))) (first
  |(
   go_at_call 84;with_reducible refine aM.out.mono ?_;rintro e aF ⟨rfl,X⟩
   obtain⟨_,jk,aH,_⟩:=X.dB aP.out bc.out;have bf:=X.top.cell 5 jX;unfold aY at bf;rw[y.out,b_.out] at bf;have b9:=X.top.lt;rw[y.out] at b9;have bv:=(X.ax aP.out).lt;rw[bc.out] at bv;have bT:=o_ b9;have dg:=o_ bv;have dj:=C X)|(
   go_at_call 84;with_reducible refine aj.out.mono ?_;rintro e aF ⟨rfl,X,bg,jl⟩
   obtain⟨_,jk,aH,_⟩:=X.dB aP.out bc.out;have bf:=X.top.cell 5 jX;unfold aY at bf;rw[y.out,b_.out] at bf;have cw:=bg.cell 0 (v:=I J 0) rfl;have w9:=bg.cell 1 (v:=I J 0) rfl;have w_:=bg.free 0;have xa:=bg.free 1;have dj:=C X;have jy:=C bg;have dl:=C jl))
 all_goals
  first
   |(
    obtain⟨q,ap⟩:∃q,aF.alloc (av #[I J f.idx,I J f.gen] 77)=q:=⟨_,rfl⟩;rw[ap];obtain⟨a7,cb,aO,a5⟩:=dj.out.rq (show Below aF.heap.size aF q from ap▸bz _ _);have aQ:ak q aF.heap.size #[I J f.idx,I J f.gen] 77:=ap▸ak.new _ _ _;have aK:∀k,a7 k->k≠aF.heap.size:=λk d=>by have:=cb k d;omega
    obtain⟨M,an⟩:∃x,aF.heap.size=x:=⟨_,rfl⟩;rw[an] at aQ aK;simp only[an])|(obtain⟨q,ap⟩:∃q,(aF.setCell ⟨V.heap.size,0,U⟩ (I J f.idx)).setCell ⟨V.heap.size,1,U⟩ (I J f.gen)=q:=⟨_,rfl⟩;rw[ap];obtain⟨a7,cb,aO,a5⟩:=dl.out q (ap▸nI _ _ _ _ _ _);have aQ:ak q V.heap.size #[I J f.idx,I J f.gen] 77:=ap▸((jy.out.set 0 _).set 1 _);have aK:∀k,a7 k->k≠V.heap.size:=λk d=>(cb k d).2;obtain⟨M,an⟩:∃x,V.heap.size=x:=⟨_,rfl⟩;rw[an] at aQ aK;simp only[an])
  have j3:=C aK;have j4:=C aQ;have cf:=C aO;have bW:=C a5;have bC:=aQ.cell 0 (v:=I J f.idx) rfl;have j5:=aQ.cell 1 (v:=I J f.gen) rfl;have kq:=c0.out q L K (a5 _ _ _ aO);obtain⟨cg,ch,dv,_,_,cj⟩:=aO.xp aP.out c4.out;rw[y.out] at cj;obtain⟨o,bo⟩:∃x,K.groups.length=x:=⟨_,rfl⟩;rw[bo] at cj dv;have bk:=C bo;have am:=C dv;have dw:=C (MY q);obtain⟨lb,a9⟩:∃x,q.heap.size=x:=⟨_,rfl⟩;have Y:=C a9;rw[a9] at dw;have dx:D<lb:=by rw[<-a9,<-y.out];exact aO.top.lt
  have cn:M<lb:=by rw[<-a9];exact aQ.lt
  have dy:w.heap.size<lb:=by have F:=(a5 _ _ _ aO).1.size;have Q:=hi.out;omega
  go_wp2_with fail;go_region_held3 (λW'=>W'.cell? ⟨D,8,U⟩=R (aA (R ⟨cg,0,U⟩) o ch)∧W'.cell? ⟨M,0,U⟩=R (I J f.idx)∧W'.cell? ⟨M,1,U⟩=R (I J f.gen)∧W'.cell? ⟨w.heap.size,3,U⟩=R (I J n)) ((refine⟨?_,?_,?_,?_⟩)<;>(with_reducible repeat(first|assumption|refine b7 ?_|refine fo _ (by first|exact bV|exact eE|exact kR) ?_))) (first|(
   go_at_call 85;with_reducible refine dw.out.mono ?_;rintro e bl ⟨rfl,dF,fK⟩
   have bn:Below q.heap.size q bl:=(by rw[Y.out];exact fK);have cF:=(Mod.below (S:=λ_=>False) bn).cell cj (by rw[Y.out];exact dx) id;have xb:=(Mod.below (S:=λ_=>False) bn).cell bC (by rw[Y.out];exact cn) id;have cz:=(Mod.below (S:=λ_=>False) bn).cell j5 (by rw[Y.out];exact cn) id;have cC:=(Mod.below (S:=λ_=>False) bn).cell kq (by rw[Y.out];exact dy) id;have b5:=dF.lt;have bV:=Nat.lt_trans dx b5;have eE:=Nat.lt_trans cn b5;have kR:=Nat.lt_trans dy b5;have dL:=C dF;have dQ:=C bn))
  all_goals
   obtain⟨aT,aD⟩:∃aT,bl.alloc (av #[I J (o:Int),I J f.idx,I J f.gen,I ah n,I J 0,af U,af (R ⟨lb,0,U⟩)] 85)=aT:=⟨_,rfl⟩;rw[aD];have cp:ak aT bl.heap.size #[I J (o:Int),I J f.idx,I J f.gen,I ah n,I J 0,af U,af (R ⟨lb,0,U⟩)] 85:=aD▸ak.new _ _ _;have ce:Below q.heap.size q aT:=aD▸dQ.out.alloc dQ.out.size _;have bB:gI aT lb []:=aD▸dL.out.mod (Mod.below (S:=λ_=>False) (bz _ _)) id;have dR:lb<bl.heap.size:=dL.out.lt;obtain⟨gb,dX⟩:∃x,bl.heap.size=x:=⟨_,rfl⟩;rw[dX] at cp dR;simp only[dX];have bp:=C cp;have ci:=C ce;have kS:=C bB;have bX:=C dR;have kT:=cf.next ce;have ee:=kT.top.cell 0 oD;rw[y.out] at ee;have cr:=az.out.aR;have cu:K.c.aR=s.c.aR:=(by rw[<-O.out]);generalize kU:s.c.aR=aS at cu cr;rw[cu] at ee;have ck:=C kU;have bG:=C cu;have kV:=C (Jv aS cr.1 cr.2 aT);have cG:=cp.cell 5 (v:=af U) rfl;go_wp2_with fail;apply kV.mono;rintro e b1 ⟨db,rfl,kW,kX,en⟩;have eo:=C kW;have bq:=C kX;have ew:=C en;have aV:=bp.next en;have xc:=aV.cell 5 (v:=af U) rfl;have xd:=aV.free 5;have kY:=C aV;go_upto_region 11 with fail;generalize bH:b1.setCell ⟨gb,5,U⟩ (af (R ⟨db,0,U⟩))=aZ;have bt:=bp.out.lt;have co:q.heap.size<=gb:=(by have F:=bX.out;have Q:=Y.out;omega);have eH:Below q.heap.size q aZ:=bH▸(ci.trans (ew.mono ci.size)).setCell (p:=⟨gb,5,U⟩) co _;have eI:db≠gb:=(by have:=bq.out;omega);have eL:lb≠gb:=(by have:=bX.out;omega);have aJ:db≠lb:=(by have:=bq.out;have:=bX.out;omega);have cy:=C (bx eI (bx eL aJ));have bd:=C co;have eT:=C (show ak aZ gb #[I J (o:Int),I J f.idx,I J f.gen,I ah n,I J 0,af (R ⟨db,0,U⟩),af (R ⟨lb,0,U⟩)] 85 from bH▸kY.out.set 5 _);have cE:=C (show cx aZ db (aN.new aS) from bH▸⟨eo.cs.other eI _,eo.cA⟩);have eU:=C (show gI aZ lb [] from bH▸(kS.mod (zF9 ew) id).mod (Mod.one _ _ _ _) eL);have aV:=j4.next eH;have b8:=C aV;obtain⟨cq,cH,a6,kZ⟩:=cf.pY eH;have be:=C a6;have k0:=C kZ;have ao:=C (show∀k,cq k->k<q.heap.size∧k≠M fromλk d=>⟨(cH k d).1,j3 k ((cH k d).2.elim id (λe=>absurd (cH k d).1 (by omega)))⟩);have k1:=C (bx eT.lt (bx cE.cs.lt (bx eU.lt aV.lt)));have cv:eG K:=(by rw[<-O.out];exact az.lens);have eY:=C cv;obtain⟨B3,cI,bA,_,e2⟩:=a6.iJ cv (p:=0) (by rw[bG.out];omega);rw[bG.out] at bA e2;rw[y.out] at e2;have k2:=C bA;go_wp2_with fail;go_loopw [68] (λu W=>∃j:Nat,j<=aS∧u=I J (j:Int)∧aw aZ cq L (K.fD (λx=>x.link f.idx G.h.idx) j) W) (λu _=>aS-(intOf u).toNat);case atStart=>exact⟨0,by omega,rfl,by rw[aa.xh];exact be⟩
   case round=>
    obtain⟨j,B4,rfl,z⟩:=hrel;have B5:=C z;by_cases e3:j<aS;·obtain⟨x,ai⟩:∃x,s.hiers[j]?=R x:=⟨_,b6 (by rw[az.out.hlen,ck.out];exact e3)⟩;have lB:=(az.a1 j x ai).1;have fl:K.hiers[j]?=R x:=(by rw[<-O.out];exact ai);have lC:j<K.c.aR:=(by rw[bG.out];exact e3);have lD:=C (eY.fD (λx=>x.link f.idx G.h.idx) (j:=j) (by omega));obtain⟨b0,_⟩:=z.fN lD (p:=j) lC k2;have bJ:=C (z.drew.kP (aa.xj _ fl) (λT a_=>L2 T (L.hk j) x f.idx G.h.idx wr.drew a_ lB));obtain⟨_,v1,_⟩:=z.dB (g:=g) (show(K.fD _ j).groups[g]?=R G from aP) bc;have br:=b8.mod z.1 (λe=>(ao _ e).2 rfl);have bC:=br.cell 0 (v:=I J f.idx) rfl;have lE:=C fl;obtain⟨cN,l7⟩:∃x,L.hk j=x:=⟨_,rfl⟩;rw[l7] at b0 bJ;have cL:(j:Int)<(aS:Int):=(by omega);have B6:(0:Int)<=(j:Int):=(by omega);have B7:(j:Int).toNat=j:=(by omega);go_wp2_with fail;go_region_held3 (λW'=>W'.cell? ⟨M,0,U⟩=R (I J f.idx)∧W'.cell? ⟨bb,1,U⟩=R (I J G.h.idx)) ((refine⟨?_,?_⟩)<;>(with_reducible repeat(first|assumption|refine b7 ?_))) (first|(go_at_call 87;refine bJ.mono ?_;rintro e B8 ⟨rfl,bK⟩;rw[aa.xk (λx=>x.link f.idx G.h.idx) lE.out] at bK;have B9:=(b8.mod bK.1 (λe=>(ao _ e).2 rfl)).cell 0 (v:=I J f.idx) rfl;have ar:=(bK.dB (g:=g) (show(K.fD _ (j+1)).groups[g]?=R G from aP) bc).2.1;have l8:=C bK));all_goals
     go_wp2_with fail;go_roundw;case rel=>exact⟨j+1,by omega,by go_num,l8⟩
     case measure=>simp[intOf];omega
    ·obtain rfl:j=aS:=by omega
     obtain⟨N,bL⟩:∃x,K.fD (λx=>x.link f.idx G.h.idx) j=x:=⟨_,rfl⟩;have bj:=C bL;rw[bL] at z;have l9:=C z;have bD:N.groups.length=o:=(by rw[<-bL];exact bk);have fy:=C bD;obtain⟨B_,b3⟩:=z.fk .eX;have fz:Own dr wr 0 65 L.gv (fL L N).length (fL L N):=b3.1;rw[te,bD,am.out] at fz;have br:=b8.mod z.1 (λe=>(ao _ e).2 rfl);have bC:=br.cell 0 (v:=I J f.idx) rfl;obtain⟨E,fA⟩:=dW (show 0<=f.idx by have:=dc.1;omega);have fB:E<32:=(by have:=dc.2;omega);have cB:=C fA;rw[fA] at bC;have Ca:(E:Int)<32:=(by omega);have Cb:(E:Int).toNat=E:=(by omega);have Cc:(0:Int)<=(E:Int):=(by omega);have l_:=C (fz.drew.alloc (av #[af (R ⟨gb,0,U⟩)] 65));have ma:=C (show∀d u,(dr.e (R gb))[d]?=R u->(wr.drew.alloc (av #[af (R ⟨gb,0,U⟩)] 65)).cell? ⟨wr.drew.heap.size,d,U⟩=R u fromλd u cO=>dE.trans (by rw[<-cO];show([af (R ⟨gb,0,U⟩)]:List Value).toArray[d]?=_;rw[ff];rfl));have mb:0<=(wr.drew.alloc (av #[af (R ⟨gb,0,U⟩)] 65)).heap.size:=hq _;have mc:o<=10000000:=(by have F:=az.eA.2;have Q:=hH.out;have A:=bk.out;rw[<-O.out] at A;change s.groups.length=o at A;omega);have bi:=C (show∀d,(aA (R ⟨cg,0,U⟩) o ch).ownBlock=R d->d≠D∧d≠M∧d≠gb∧d≠db∧d≠lb fromλd e=>by
      obtain⟨F,Q,A⟩:=be.MH (by rw[am.out];exact e);rw[y.out] at A;have me:=bd.out;have cK:=bq.out;have aO:=bp.out.lt;have Cd:=Y.out;rcases F with P|P;·have:=ao d P;exact⟨A,this.2,by omega,by omega,by omega⟩
      ·omega)
     have Ce:M<wr.heap.size:=br.lt;have Cf:D<wr.heap.size:=(by rw[<-y.out];exact z.top.lt);have mf:D<aZ.heap.size:=(by rw[<-y.out];exact be.top.lt);have mg:cq D:=(by have F:=be.out.MW;rw[y.out] at F;exact F.elim id (λe=>absurd mf (by omega)));have d0:=C (show ak (wr.drew.alloc (av #[af (R ⟨gb,0,U⟩)] 65)) D (cY L N) 72 from by rw[<-y.out];exact z.top.drew.alloc _);have d1:=C (show ak (wr.drew.alloc (av #[af (R ⟨gb,0,U⟩)] 65)) M #[I J f.idx,I J f.gen] 77 from br.drew.alloc _);have d2:=C (eT.mod z.1 (λe=>by have F:=ao _ e;have Q:=bd.out;omega));have fC:=C (show cx wr db (aN.new j) from⟨cE.cs.mod z.1 (λe=>by have F:=ao _ e;have Q:=bd.out;have A:=bq.out;have me:=bp.out.lt;omega),cE.cA⟩);have d3:=C (eU.mod z.1 (λe=>by have F:=ao _ e;have Q:=Y.out;omega));have d4:=z.top.cell 8 oE;rw[y.out,am.out] at d4;have cS:=C (show N.places.length=32 by rw[<-bL,<-O.out];exact az.eB);obtain⟨Cg,d5⟩:∃x,N.places[E]?=R x:=⟨_,b6 (by rw[cS.out];exact fB)⟩;have d6:=C d5;have Ch:M≠D:=λe=>by subst e;exact(ao _ mg).2 rfl
     go_wp2_with fail;rw[show({dst:=R 89,op:=Op.load 64 (Operand.tmp 88),type:=64,pos:= "sched.go:322",after:=#[{on:=6,ground:=Ground.data}],guard:=U}:Oper)=CX from rfl];go_region_held3 (λW'=>W'.cell? ⟨M,0,U⟩=R (I J E)) (with_reducible repeat(first|assumption|refine b7 ?_|refine jV (by with_reducible assumption) ?_|refine fo _ ?_ ?_)) ((refine oC MJ rfl _ _ rfl 0 _ o (fL L N) rfl l_ wr.drew.heap.size _ (R gb) rfl ma mc mb ?_;intro cM u fO d7 bB;obtain⟨ac,ay,rfl,dz⟩:=fO.form (Nat.succ_pos _);have bP:=C (show Grow _ u (aA (R ⟨cg,0,U⟩) o ch) (aA (R ⟨ac,0,U⟩) (o+1) ay) from Grow.gK d7 bB);have aE:=d0.grow bP (λe=>(bi D e.symm).1 rfl);have bF:=d1.grow bP (λe=>(bi M e.symm).2.1 rfl);rw[cB.out] at bF;have Ci:=bF.cell 0 (v:=I J E) rfl;have d8:=aE.cell 8 oE;rw[am.out] at d8;have cW:=aE.cell (9+E) (pM cS d6);have Cj:=aE.free 8;have Ck:=aE.free (9+E);have d9:=C fO;have ca:=C aE));all_goals
      generalize cT:(u.setCell ⟨D,8,U⟩ (aA (R ⟨ac,0,U⟩) (o+1) ay)).setCell ⟨D,9+E,U⟩ (af (R ⟨gb,0,U⟩))=a8;have fd:D<q.heap.size:=(by rw[<-y.out];exact cf.top.lt);have Cl:=bd.out;have Cm:q.heap.size<=db:=(by have F:=bq.out;have Q:=bp.out.lt;omega);have dh:q.heap.size<=lb:=(by have F:=Y.out;omega);obtain⟨aU,a0⟩:=aX ((⟨f,n.toNat,0,R (aN.new j),R [],true⟩:cc):cc);have pV:Mod (λk=>k=L.b∨L.gv.ownBlock=R k) wr (wr.drew.alloc (av #[af (R ⟨gb,0,U⟩)] 65)):=((Mod.refl _ _).drew).alloc _;have bR:Mod (λk=>k=L.b∨L.gv.ownBlock=R k) wr a8:=(by rw[<-cT];exact((pV.grow bP (λg e=>.inr (by rw[am.out];exact e))).setCell (.inl y.symm) _).setCell (.inl y.symm) _);have aL:∀d,(aA (R ⟨ac,0,U⟩) (o+1) ay).ownBlock=R d->L.gv.ownBlock=R d∨wr.heap.size<=d:=λd e=>by
       rcases bP.loc with P|⟨Cn,P,cO⟩;·exact .inl (by rw[am.out,<-P];exact e)
       ·rw[e] at P;cases P;exact .inr (cJ (by simp) cO)
      have pW:∀d,(aA (R ⟨ac,0,U⟩) (o+1) ay).ownBlock=R d->¬d=D:=λd e=>by
       rcases aL d e with P|P;·rw[am.out] at P;exact(bi d P).1
       ·omega
      have rG:Own dr a8 0 65 (aA (R ⟨ac,0,U⟩) (o+1) ay) (o+1) (fL L N++[R gb]):=(by rw[<-cT];exact d9.mod (nI _ _ _ _ _ _) pW);have rH:∀(i d:Nat),N.places[i]?=R (R d)->d<o:=λi d e=>by rw[<-bj.out,<-O.out] at e;obtain⟨cP,a6,_⟩:=az.place i d e;have:=(bE.1 a6).1;have A:=bk.out;rw[<-O.out] at A;change s.groups.length=o at A;omega
      have rI:ak a8 L.b (cY (L.i6 o gb db lb (aA (R ⟨ac,0,U⟩) (o+1) ay)) (N.i6 aU E)) 72:=(by rw[<-MN cS.out fB fy.out rH,y.out,<-cT];exact(ca.set 8 _).set (9+E) _);have cU:∀x,(x=gb∨x=db∨x=lb)->¬(x=L.b∨L.gv.ownBlock=R x):=λx ai e=>by
       rcases e with e|e;·rw[y.out] at e;omega
       ·rw[am.out] at e;obtain⟨_,_,ar,fU,fV⟩:=bi x e;rcases ai with d|d|d;·exact ar d
        ·exact fU d
        ·exact fV d
      have dA:ak a8 gb (hg (L.i6 o gb db lb (aA (R ⟨ac,0,U⟩) (o+1) ay)) o aU) 85:=(by have bw:=d2.mod bR (cU gb (.inl rfl));have e:hg (L.i6 o gb db lb (aA (R ⟨ac,0,U⟩) (o+1) ay)) o aU=#[I J (o:Int),I J f.idx,I J f.gen,I ah n,I J 0,af (R ⟨db,0,U⟩),af (R ⟨lb,0,U⟩)]:=(by rw[<-a0];unfold hg bu.i6;have rJ:((n.toNat:Nat):Int)=n:=(by have:=c5.1;omega);simp[if_true,c8,aY,rJ]);rw[e];exact bw);have rK:∀B,aU.band=R B->cx a8 db B:=λB e=>by rw[<-a0] at e;cases e;exact⟨fC.cs.mod bR (cU db (.inr (.inl rfl))),fC.cA⟩
      have rL:∀l,aU.line=R l->gI a8 lb l:=λl e=>by rw[<-a0] at e;cases e;exact d3.mod bR (cU lb (.inr (.inr rfl)))
      have rM:∀(i:Nat) t,N.tasks[i]?=R t->t.g<o:=λi t e=>by rw[<-bj.out,<-O.out] at e;have bw:=(az.task i t e).g;have A:=bk.out;rw[<-O.out] at A;change s.groups.length=o at A;omega
      have a6:=l9.i6 (gb:=gb) (db:=db) (lb:=lb) (λx ai=>⟨λe=>by have F:=ao x e;omega,by obtain⟨ar,fU,fV,_⟩:=k1;omega⟩) (λe=>cy.1 e.symm) (λe=>cy.2.1 e.symm) cy.2.2 fy (G:=aU) (by rw[<-a0]) bR rG aL rI dA rK rL rM;have f_:=hj _ _ _ (bW _ _ _ (k0 _ _ _ (a6.na (λk e=>by
       rcases e with e|e;·exact .inl e
       ·exact .inr (by omega)))))
      have el:N.i6 aU E={s with tree:=bQ.1,hiers:=s.hiers.map (λx=>x.link f.idx G.h.idx),groups:=s.groups++[⟨f,n.toNat,0,R (aN.new s.c.aR),R [],true⟩],places:=s.places.set f.idx.toNat (R s.groups.length)}:=(by have em:=aa.xi (λx:ad=>x.link f.idx G.h.idx) K (n:=j) (by rw[eY.out.1,bG.out]);rw[<-bj.out,em,<-a0,<-O.out];have rN:E=f.idx.toNat:=(by rw[cB.out];omega);unfold aa.i6;rw[ck.out,rN]);rw[el] at f_;have cl:=C f_;have Co:=dA.cell 0 (v:=I J (o:Int)) rfl;have rO:s.groups.length=o:=(by have A:=bk.out;rw[<-O.out] at A;exact A);have gq:=C rO;go_wp2_with fail;go_ret2;rw[<-iM.out,gq.out];have bw:=cl.out;rw[gq.out] at bw;exact⟨rfl,L.i6 o gb db lb (aA (R ⟨ac,0,U⟩) (o+1) ay),rfl,bw⟩
theorem M0 (d a b n m f:Int) (H:aw aq S L s w) (hk:s.Ok k) (j:k<100000):Calls au 45 #[aY L.b,bm (cD d a b n m f)] w (mh aq S L (s.grow a n)):=by
 by_cases c:s.group a=U∨kg n=false∨∀G,s.group a=R G->ae.fj s.tree G.h≠0;·exact(MO d a b n m f H hk c).mono (λe w' l=>l.ks)
 ·obtain⟨G,g⟩:∃G,s.group a=R G:=by
   cases e:s.group a with
   |none=>exact absurd (.inl e) c
   |some G=>exact⟨G,rfl⟩
  refine MZ d a b n m f H hk j g ?_ ?_;·cases e:kg n with
   |false=>exact absurd (.inr (.inl e)) c
   |true=>rfl
  ·exact Classical.byContradiction (λe=>c (.inr (.inr (λo i=>by rw[g] at i;cases i;exact e))))
end
end
end Go.Proofs.YtddbkdjcjoofpaaGreatDoor
