import Derived.Test.YtddbkdjcjoofpaaGreatDoorLA
import Derived.Test.YtddbkdjcjoofpaaGreatDoorLC
import Derived.Test.YtddbkdjcjoofpaaGreatDoorLD
import Derived.Test.YtddbkdjcjoofpaaGreatDoorLE
import Derived.Test.YtddbkdjcjoofpaaGreatDoorLF
import Derived.Test.YtddbkdjcjoofpaaGreatDoorLG
namespace Go.Proofs.YtddbkdjcjoofpaaGreatDoor
set_option linter.unusedVariables false
set_option linter.unusedSimpArgs false
set_option maxRecDepth 100000
set_option maxHeartbeats 20000000
open _root_.Go.Proofs.Tryz Go.RowKit
open Go renaming World→ab
open _root_.Go.Proofs.Tryz renaming prog→au
open Option renaming none→U,some→R
open _root_.Go.Value renaming int→I,pointer→af,slice→ay,bool→aD,agg→bk,tuple→bC
open _root_.Go.IntKind renaming i64→J,u64→ah
open _root_.Go.Obj renaming cells→av
open _root_.Go.Ending renaming returned→aK
open _root_.Nat renaming le_refl→bK,le_trans→cA,lt_of_lt_of_le→dd,zero_le→gN,sub_self→lu,ne_of_lt→pC
open _root_.Go renaming World→ab
open _root_.List renaming getElem?_eq_getElem→b5,getElem?_eq_some_iff→bD,length_append→eX,getElem?_append_right→gJ,getElem?_append_left→ja,getElem?_toArray→fg,map_append→iI,range→gi,replicate→gY,mem_range→pB,getElem?_eq_none→gh,setIfInBounds_toArray→sd,range_succ→oa,set_append_right→n1,map_congr_left→vc,length_singleton→n2,length_replicate→se
open _root_.And renaming intro→br
open _root_.Int renaming toNat_natCast→bZ,eq_ofNat_of_zero_le→dS
open _root_.Option renaming isSome_iff_exists→gK
variable {l:List Int} {e:aI} {s:bp (aF×Int)}
def mK:hT:=⟨1,100,0,0,100⟩
def q_:List gm:=[⟨1,0,0,1024,0,0⟩,⟨1,0,0,1024,0,0⟩,⟨5,1,0,30,10,0⟩,⟨6,1,0,0,0,1⟩,⟨6,2,0,0,0,1⟩,⟨11,0,0,10,0,0⟩,⟨11,0,0,10,0,0⟩]
def fm:List gm->aa->List (Int×Int)×aa
 |[],s=>([],s)
 |e::l,s=>((s.dP e).2::(fm l (s.dP e).1).1,(fm l (s.dP e).1).2)
theorem GM:(fm q_ (aa.new mK)).1.map (·.1)=[1,2,0,0,1,0,1]:=by decide+kernel
theorem GN:(fm q_ (aa.new mK)).2.book.tasks 1=10:=by decide+kernel
variable {b n m:Nat} {a:Option Addr} {k x:Key}
def er (x:bQ):gm:=⟨x.k,x.a,x.b,x.n,x.m,(x.s:Int)⟩
def oH:List Nat:=[103,114,111,117,112,32,48,32,49,48,50,52,10,103,114,111,117,112,32,48,32,49,48,50,52,10,113,117,111,116,97,32,49,32,51,48,32,49,48,10,115,112,97,119,110,32,49,32,48,32,48,10,115,112,97,119,110,32,50,32,48,32,48,10,116,105,99,107,32,48,32,49,48,10,116,105,99,107,32,48,32,49,48,10]
def oI:List bQ:=[⟨1,0,0,1024,0,0⟩,⟨1,0,0,1024,0,0⟩,⟨5,1,0,30,10,0⟩,⟨6,1,0,0,0,1⟩,⟨6,2,0,0,0,1⟩,⟨11,0,0,10,0,0⟩,⟨11,0,0,10,0,0⟩]
theorem GO:kp oH=(oI,0,0):=by kernel_rfl
theorem Av:oI.map er=q_:=by kernel_rfl
variable {g i p j c B o:Nat} {S Z al:Nat->Prop} {w W w' y A W':ab} {v v1 u:Value} {t:ex} {tmps:Array Value} {G:aJ} {f:Int->Option aJ} {ai:Int->Nat} {ag:List (Int×Int)} {fn:Func} {r:T} {P:List (List Nat)} {V:List (Int×Int)->ab->Prop} {L:List ByteArray}
theorem Nl:(prog.info? 36).map (·.size)=R 7:=by kernel_rfl
theorem uO {p:Tmp} {w:ab} {T:Nat} {v0 v2 v3 v4 v5 a:Value} (h:fn.results=#[.cell p 36]) (b:tmps.getD p undef=af (R ⟨g,0,U⟩)) (c:w.heap[g]?=R (av #[v0,v1,v2,v3,v4,v5,a] T (0,0))):(results fn tmps).run au w= .ok (bk #[v0,v1,v2,v3,v4,v5,a]) w:=results_cell_row h tmps w g T _ _ _ b c underlying36 rfl Nl
def ql (s:aa) (n:Int) (t:ex):Int:=if t.on=true then(if s.running t.p=n then 3 else 2) else 1
def ll (s:aa) (n:Int):Array Value:=match s.task n with
 |none=>#[I J 4,I J 0,I J 0,I J 0,I ah 0,I ah 0,I J (s.book.tasks n)]
 |some t=>#[I J (ql s n t),I J t.p,I J t.g,I J t.nice,I ah t.w,I ah t.mask,I J (s.book.tasks n)]
section
variable {ao w:ab} {S:Nat->Prop} {L:bu} {s:aa} {k:Nat}
theorem ax.yc (H:ax ao S L s w) (hk:s.Ok k):w.cell? ⟨L.b,107,U⟩=R (aX L.fc):=H.top.cell 107 ((lR (L:=L) hk.eB hk.gP 2).trans (show[L.hv,L.cv,aX L.fc][2]?=R (aX L.fc) from rfl))
theorem DF (H:ax ao S L s w) (n:Int):Calls au 22 #[aX L.fc,I J n] w λe w'=>e=aK (I J (s.book.tasks n))∧w'=w:=by obtain⟨T,h⟩:=H.book;exact ID n h
theorem DG (H:ax ao S L s w) (n:Int):Calls au 23 #[aX L.fc,I J n] w λe w'=>e=aK (I J (s.book.groups n))∧w'=w:=by obtain⟨T,h⟩:=H.book;exact IE n h
theorem Nn {n:Int} (h:s.task n=U):jD L s n=af U:=by unfold jD;rw[h]
theorem No {n:Int} (h:s.task n=R t):jD L s n=af (R ⟨L.tk n.toNat,0,U⟩):=by unfold jD;rw[h];rfl
theorem uP (n:Int) (H:ax ao S L s w) (hk:s.Ok k):Calls au 10 #[aX L.b,I J n] w λe w'=>e=aK (bk (ll s n))∧Below w.heap.size w w':=by
 obtain⟨V,y⟩:=aW (w.alloc (av #[I J 0,I J 0,I J 0,I J 0,I ah 0,I ah 0,I J 0] 36));have h:ak V w.heap.size #[I J 0,I J 0,I J 0,I J 0,I ah 0,I ah 0,I J 0] 36:=y▸ak.new w _ _;have j:=C (show Below w.heap.size w V from y▸bx _ _);have bf:=C y;have f:=H.next j;have bS:=C f;have z:=C h;have d:=λi=>h.free i;have u:=C (tA n f);have bc:=f.yc hk;have aA:=C (DF f n);have aG:=C (λ(W:ab) (aL:Below V.heap.size V W)=>DF (f.next aL) n);unfold aX at*;obtain⟨ae,x⟩:=aW L.b;have aM:=C x;obtain⟨bw,am⟩:=aW L.fc;rw[x] at u bc⊢;rw[am] at aA aG bc;generalize A:s.book.tasks n=ns at aA aG;have bi:=C A;have bT:=C hk;cases o:s.task n with
 |none=>rw[Nn o] at u;have aD:=C (show ll s n=#[I J 4,I J 0,I J 0,I J 0,I ah 0,I ah 0,I J ns] by unfold ll;rw[o,A]);rw[aD.out];have N:=d 0;have O:=d 1;have P:=d 2;have Q:=d 3;have X:=d 4;have Y:=d 5;have Z:=d 6;have aN:=h.cell 0 (v:=I J 0) rfl;have aj:=h.cell 1 (v:=I J 0) rfl;have ap:=h.cell 2 (v:=I J 0) rfl;have aQ:=h.cell 3 (v:=I J 0) rfl;have aR:=h.cell 4 (v:=I ah 0) rfl;have aS:=h.cell 5 (v:=I ah 0) rfl;have aU:=h.cell 6 (v:=I J 0) rfl;clear H hk y h f d x am A o;go_enter func10,ntmps10;go_upto_region 1 with fail;rw[bf.out];go_wp2_with fail;refine u.mono ?_;rintro e aP ⟨rfl,q⟩;obtain rfl:=q.symm;go_wp2_with fail;refine aA.mono ?_;rintro e aP ⟨rfl,q⟩;obtain rfl:=q.symm;go_wp2_with fail;exact bodyPost_ret (uO (g:=w.heap.size) (T:=36) rfl rfl (((((((z.set 0 (I J 4)).set 1 (I J 0)).set 2 (I J 0)).set 3 (I J 0)).set 4 (I ah 0)).set 5 (I ah 0)).set 6 (I J ns))) rfl ⟨rfl,((((((j.setCell zK9 _).setCell zK9 _).setCell zK9 _).setCell zK9 _).setCell zK9 _).setCell zK9 _).setCell zK9 _⟩
 |some t=>
  obtain⟨bg,B,_⟩:=aa.oE o;obtain⟨i,rfl⟩:=dS bg;rw[bZ] at B;rw[No o,bZ] at u;generalize aV:L.tk i=bW at u;obtain⟨_,_,_,a0,bz,a2,bX,bV,b1,a3⟩:=f.en B aV;clear a3;have aZ:=hk.jz B;obtain⟨aq,ac⟩:=aW (L.gk t.g);have al:=(f.dw aZ ac).1;rw[ac] at a2;have a4:=C (show ll s (i:Int)=#[I J (ql s i t),I J t.p,I J t.g,I J t.nice,I ah t.w,I ah t.mask,I J ns] by unfold ll;rw[o,A]);rw[a4.out];have N:=d 0;have O:=d 1;have P:=d 2;have Q:=d 3;have X:=d 4;have Y:=d 5;have Z:=d 6;have a6:=C (λ(W:ab) (aL:Below V.heap.size V W)=>o0 t.p (f.next aL) hk);unfold aX at a6;rw[x] at a6;have a5:ae<V.heap.size:=by rw[<-x];exact f.top.lt
  have az:bW<V.heap.size:=by rw[<-aV];exact(f.task B).lt
  have bF:aq<V.heap.size:=by rw[<-ac];exact(f.aw aZ).lt
  have aO:ae≠V.heap.size:=by omega
  have a9:bW≠V.heap.size:=by omega
  have aC:aq≠V.heap.size:=by omega
  generalize bj:ql s i t=st;unfold ql at bj;have a7:=C bj;clear H hk y h f d x am A o B aV aZ ac bg;go_enter func10,ntmps10;go_upto_region 1 with fail;rw[bf.out];go_wp2_with fail;apply u.mono;rintro e aP ⟨rfl,q⟩;obtain rfl:=q.symm;go_upto_region 6 with fail;go_region_held3 (λW'=>W'.cell? ⟨ae,107,U⟩=R (af (R ⟨bw,0,U⟩))∧W'.cell? ⟨bW,4,U⟩=R (I J t.p)∧W'.cell? ⟨bW,5,U⟩=R (af (R ⟨aq,0,U⟩))∧W'.cell? ⟨aq,0,U⟩=R (I J t.g)∧W'.cell? ⟨bW,6,U⟩=R (I J t.nice)∧W'.cell? ⟨bW,7,U⟩=R (I ah t.w)∧W'.cell? ⟨bW,8,U⟩=R (I ah t.mask)) ((refine⟨?_,?_,?_,?_,?_,?_,?_⟩)<;>(repeat(first|(with_reducible assumption)|(with_reducible refine b2 ?_)|(with_reducible refine j0 (by first|exact aO|exact a9|exact aC) ?_)|(with_reducible refine fq _ (by first|exact a5|exact az|exact bF) ?_)))) (first|(go_at_call 22;refine(aG _ (by first|exact(Below.refl _ _).drew|exact(bx _ _).drew)).mono ?_;rintro e aP ⟨rfl,q⟩;obtain rfl:=q));all_goals
   generalize an:(V.alloc (av #[I J 1,I J t.p,I J t.g,I J t.nice,I ah t.w,I ah t.mask,I J ns] 36)).drew=a8;have l:=C (show ak a8 V.heap.size #[I J 1,I J t.p,I J t.g,I J t.nice,I ah t.w,I ah t.mask,I J ns] 36 from an▸(ak.new V _ _));have D:Below V.heap.size V a8:=an▸(bx _ _).drew;have r:=C D;obtain⟨m,ba⟩:=aW V.heap.size;have b3:=C ba;have bI:=C (dd az D.size);have ad:=C (show w.heap.size≠m by have:=z.out.lt;omega);have bl:=C (show w.heap.size<=m by have:=z.out.lt;omega);have bb:=(zF9 D).cell a0 az id;have b6:=(zF9 D).cell bz az id;have bL:=C (a6 a8 D);rw[ba] at l;simp only[ba];cases E:t.on with
   |false=>have F:st=1:=(by rw[<-a7.out,if_neg (by rw[E];decide)]);have a:=z.next r;have bo:=l.cell 0 (v:=I J 1) rfl;have v1:=l.cell 1 (v:=I J t.p) rfl;have bm:=l.cell 2 (v:=I J t.g) rfl;have ay:=l.cell 3 (v:=I J t.nice) rfl;have bq:=l.cell 4 (v:=I ah t.w) rfl;have bt:=l.cell 5 (v:=I ah t.mask) rfl;have ai:=l.cell 6 (v:=I J ns) rfl;rw[E] at bb;have aN:=a.cell 0 (v:=I J 0) rfl;have N:=a.free 0;have aj:=a.cell 1 (v:=I J 0) rfl;have O:=a.free 1;have ap:=a.cell 2 (v:=I J 0) rfl;have P:=a.free 2;have aQ:=a.cell 3 (v:=I J 0) rfl;have Q:=a.free 3;have aR:=a.cell 4 (v:=I ah 0) rfl;have X:=a.free 4;have aS:=a.cell 5 (v:=I ah 0) rfl;have Y:=a.free 5;have aU:=a.cell 6 (v:=I J 0) rfl;have Z:=a.free 6;have G:=C a;have K:=C (j.trans (r.mono j.size));subst F;go_wp2_with fail;exact bodyPost_ret (uO (g:=w.heap.size) (T:=36) rfl rfl (((((((G.set 0 (I J 1)).set 1 (I J t.p)).set 2 (I J t.g)).set 3 (I J t.nice)).set 4 (I ah t.w)).set 5 (I ah t.mask)).set 6 (I J ns))) rfl ⟨rfl,((((((K.setCell zK9 _).setCell zK9 _).setCell zK9 _).setCell zK9 _).setCell zK9 _).setCell zK9 _).setCell zK9 _⟩
   |true=>
    rw[E] at bb;go_wp2_with fail;apply bL.mono;rintro e bR ⟨rfl,M⟩;have a:=(z.next r).next M;have c:=l.next M;have bs:=(zF9 M).cell bb bI id;by_cases aB:s.running t.p=(i:Int);·have bd:(s.running t.p==(i:Int))=true:=(by simp[aB]);have F:st=3:=(by rw[<-a7.out,if_pos E,if_pos aB]);have be:=C c;have G:=C a;have aN:=a.cell 0 (v:=I J 0) rfl;have N:=a.free 0;have aj:=a.cell 1 (v:=I J 0) rfl;have O:=a.free 1;have ap:=a.cell 2 (v:=I J 0) rfl;have P:=a.free 2;have aQ:=a.cell 3 (v:=I J 0) rfl;have Q:=a.free 3;have aR:=a.cell 4 (v:=I ah 0) rfl;have X:=a.free 4;have aS:=a.cell 5 (v:=I ah 0) rfl;have Y:=a.free 5;have aU:=a.cell 6 (v:=I J 0) rfl;have Z:=a.free 6;have bo:=c.cell 0 (v:=I J 1) rfl;have v1:=c.cell 1 (v:=I J t.p) rfl;have bm:=c.cell 2 (v:=I J t.g) rfl;have ay:=c.cell 3 (v:=I J t.nice) rfl;have bq:=c.cell 4 (v:=I ah t.w) rfl;have bt:=c.cell 5 (v:=I ah t.mask) rfl;have ai:=c.cell 6 (v:=I J ns) rfl;have fu:=c.free 0;have ag:w.heap.size≠m:=ad;have bN:m≠w.heap.size:=λe=>ad e.symm;have K:=C (((j.trans (r.mono j.size)).trans (M.mono (cA j.size r.size))).setCell (p:=⟨m,0,U⟩) bl (I J 3));subst F;go_wp2_with fail;exact bodyPost_ret (uO (g:=w.heap.size) (T:=36) rfl rfl ((((((((G.other ag (i:=0) (I J 3)).set 0 (I J 3)).set 1 (I J t.p)).set 2 (I J t.g)).set 3 (I J t.nice)).set 4 (I ah t.w)).set 5 (I ah t.mask)).set 6 (I J ns))) rfl ⟨rfl,((((((K.setCell zK9 _).setCell zK9 _).setCell zK9 _).setCell zK9 _).setCell zK9 _).setCell zK9 _).setCell zK9 _⟩
    ·have bd:(s.running t.p==(i:Int))=false:=(by simp[aB]);have F:st=2:=(by rw[<-a7.out,if_pos E,if_neg aB]);have be:=C c;have G:=C a;have aN:=a.cell 0 (v:=I J 0) rfl;have N:=a.free 0;have aj:=a.cell 1 (v:=I J 0) rfl;have O:=a.free 1;have ap:=a.cell 2 (v:=I J 0) rfl;have P:=a.free 2;have aQ:=a.cell 3 (v:=I J 0) rfl;have Q:=a.free 3;have aR:=a.cell 4 (v:=I ah 0) rfl;have X:=a.free 4;have aS:=a.cell 5 (v:=I ah 0) rfl;have Y:=a.free 5;have aU:=a.cell 6 (v:=I J 0) rfl;have Z:=a.free 6;have bo:=c.cell 0 (v:=I J 1) rfl;have v1:=c.cell 1 (v:=I J t.p) rfl;have bm:=c.cell 2 (v:=I J t.g) rfl;have ay:=c.cell 3 (v:=I J t.nice) rfl;have bq:=c.cell 4 (v:=I ah t.w) rfl;have bt:=c.cell 5 (v:=I ah t.mask) rfl;have ai:=c.cell 6 (v:=I J ns) rfl;have fu:=c.free 0;have ag:w.heap.size≠m:=ad;have bN:m≠w.heap.size:=λe=>ad e.symm;have K:=C (((j.trans (r.mono j.size)).trans (M.mono (cA j.size r.size))).setCell (p:=⟨m,0,U⟩) bl (I J 2));subst F;go_wp2_with fail;exact bodyPost_ret (uO (g:=w.heap.size) (T:=36) rfl rfl ((((((((G.other ag (i:=0) (I J 2)).set 0 (I J 2)).set 1 (I J t.p)).set 2 (I J t.g)).set 3 (I J t.nice)).set 4 (I ah t.w)).set 5 (I ah t.mask)).set 6 (I J ns))) rfl ⟨rfl,((((((K.setCell zK9 _).setCell zK9 _).setCell zK9 _).setCell zK9 _).setCell zK9 _).setCell zK9 _).setCell zK9 _⟩
end
variable {aE:Value} {ar:Array Value}
theorem Np:(prog.info? 39).map (·.size)=R 8:=by kernel_rfl
theorem yd {p:Tmp} {w:ab} {T:Nat} {v0 v2 v3 v4 v5 a b:Value} (h:fn.results=#[.cell p 39]) (c:tmps.getD p undef=af (R ⟨g,0,U⟩)) (d:w.heap[g]?=R (av #[v0,v1,v2,v3,v4,v5,a,b] T (0,0))):(results fn tmps).run au w= .ok (bk #[v0,v1,v2,v3,v4,v5,a,b]) w:=results_cell_row h tmps w g T _ _ _ c d underlying39 rfl Np
def jr (G:cb):Int:=match G.band with|none=>0|some b=>b.pool
def js (G:cb):Int:=match G.band with|none=>0|some b=>b.spent
def parentOf (s:aa) (G:cb):Int:=if G.h=bM then-1 else match s.places[(ae.l_ s.tree G.h).idx.toNat]? with|some (R u)=>(u:Int)|_=>0
def gd (s:aa) (i:Int):Nat->Int
 |0=>0
 |j+1=>if(s.aY (j:Int)).nK i=true then bits .or ah (gd s i j) (IntKind.u64.wrap (2^j)) else gd s i j
section
variable {ao w:ab} {S:Nat->Prop} {L:bu} {s:aa} {k:Nat}
theorem ax.parent (H:ax ao S L s w) {h:aF} {y:aF×Int} (a:ae.get s.tree h=R y):Calls au 27 #[aX L.eE,bk #[I J h.idx,I J h.gen]] w λe w'=>e=aK (nd h y)∧Below w.heap.size w w':=by obtain⟨T,b⟩:=H.tree;exact L4 T L.eE s.tree h w b a
theorem Nq (H:ax ao S L s w) {G:cb} (c:s.groups[g]?=R G):Calls au 25 #[cU (G.band.map λ_=>L.bd g)] w λe w'=>e=aK (I J (jr G))∧w'=w:=by
 cases a:G.band with
 |none=>unfold jr;rw[a];exact Hu w
 |some b=>unfold jr;rw[a];exact AM (H.band c a)
theorem Nr (H:ax ao S L s w) {G:cb} (c:s.groups[g]?=R G):Calls au 26 #[cU (G.band.map λ_=>L.bd g)] w λe w'=>e=aK (I J (js G))∧w'=w:=by
 cases a:G.band with
 |none=>unfold js;rw[a];exact Hw w
 |some b=>unfold js;rw[a];exact Hv (H.band c a)
theorem Ns (n:Int) (H:ax ao S L s w) (hk:s.Ok k) (m:s.group n=U):Calls au 12 #[aX L.b,I J n] w λe w'=>e=aK (bk #[aD false,I J 0,I ah 0,I J (s.book.groups n),I J 0,I J 0,I J 0,I ah 0])∧Below w.heap.size w w':=by
 obtain⟨V,h⟩:=aW (w.alloc (av #[aD false,I J 0,I ah 0,I J 0,I J 0,I J 0,I J 0,I ah 0] 39));have o:ak V w.heap.size #[aD false,I J 0,I ah 0,I J 0,I J 0,I J 0,I J 0,I ah 0] 39:=h▸ak.new w _ _;have i:=C (show Below w.heap.size w V from h▸bx _ _);have y:=C h;have d:=H.next i;have K:=C d;have p:=C o;have q:=d.yc hk;have j:=C (DG d n);have M:=C hk;have r:=C (λ(W:ab) (f:Below V.heap.size V W)=>by have t:=k5 n (d.next f);rw[aa.mZ m] at t;exact t);unfold aX at*;obtain⟨N,l⟩:=aW L.b;have O:=C l;obtain⟨P,u⟩:=aW L.fc;rw[l] at r q⊢;rw[u] at j q;generalize z:s.book.groups n=ns at j⊢;clear H hk h o d l u z m;go_enter func12,ntmps12;go_upto_region 1 with fail;rw[y.out];go_wp2_with fail;apply j.mono;rintro e Q ⟨rfl,A⟩;obtain rfl:=A.symm;go_upto_region 4 with fail;generalize f:V.alloc (av #[aD false,I J 0,I ah 0,I J ns,I J 0,I J 0,I J 0,I ah 0] 39)=W;have a:=p.alloc (av #[aD false,I J 0,I ah 0,I J ns,I J 0,I J 0,I J 0,I ah 0] 39);have c:=ak.new V #[aD false,I J 0,I ah 0,I J ns,I J 0,I J 0,I J 0,I ah 0] 39;rw[f] at a c;obtain⟨B,x⟩:=aW V.heap.size;have R:w.heap.size≠B:=by have:=p.out.lt;omega
 have D:=C (r W (f▸bx _ _));have E:=C (i.trans (show Below w.heap.size V W from f▸(bx _ _).mono i.size));rw[x] at c;simp only[x];have X:=c.cell 0 (v:=aD false) rfl;have v1:=c.cell 1 (v:=I J 0) rfl;have Y:=c.cell 2 (v:=I ah 0) rfl;have Z:=c.cell 3 (v:=I J ns) rfl;have aq:=c.cell 4 (v:=I J 0) rfl;have ac:=c.cell 5 (v:=I J 0) rfl;have az:=c.cell 6 (v:=I J 0) rfl;have ad:=c.cell 7 (v:=I ah 0) rfl;have aB:=a.cell 0 (v:=aD false) rfl;have aA:=a.cell 1 (v:=I J 0) rfl;have aG:=a.cell 2 (v:=I ah 0) rfl;have aL:=a.cell 3 (v:=I J 0) rfl;have af:=a.cell 4 (v:=I J 0) rfl;have ae:=a.cell 5 (v:=I J 0) rfl;have am:=a.cell 6 (v:=I J 0) rfl;have aN:=a.cell 7 (v:=I ah 0) rfl;have aj:=a.free 0;have ap:=a.free 1;have aQ:=a.free 2;have aR:=a.free 3;have aS:=a.free 4;have aU:=a.free 5;have aP:=a.free 6;have aV:=a.free 7;have F:=C a;go_wp2_with fail;apply D.mono;rintro e aZ ⟨rfl,G⟩;obtain rfl:=G.symm;go_wp2_with fail;exact bodyPost_ret (yd (g:=w.heap.size) (T:=39) rfl rfl ((((((((F.set 0 (aD false)).set 1 (I J 0)).set 2 (I ah 0)).set 3 (I J ns)).set 4 (I J 0)).set 5 (I J 0)).set 6 (I J 0)).set 7 (I ah 0))) rfl ⟨rfl,(((((((E.setCell zK9 _).setCell zK9 _).setCell zK9 _).setCell zK9 _).setCell zK9 _).setCell zK9 _).setCell zK9 _).setCell zK9 _⟩
theorem Nt (g:Nat) (H:ax ao S L s w) (hk:s.Ok k) {G:cb} (aL:s.group (g:Int)=R G):Calls au 12 #[aX L.b,I J (g:Int)] w λe w'=>e=aK (bk #[aD true,I J (parentOf s G),I ah G.shares,I J (s.book.groups g),I J G.quota,I J (jr G),I J (js G),I ah (gd s G.h.idx s.c.aO)])∧Below w.heap.size w w':=by
 obtain⟨V,a2⟩:∃V,w.alloc (av #[aD false,I J 0,I ah 0,I J 0,I J 0,I J 0,I J 0,I ah 0] 39)=V:=⟨_,rfl⟩;have cM:ak V w.heap.size #[aD false,I J 0,I ah 0,I J 0,I J 0,I J 0,I J 0,I ah 0] 39:=a2▸ak.new w _ _;have bb:=C (show Below w.heap.size w V from a2▸bx _ _);have ci:=C a2;have ag:=H.next bb.out;have bf:=C ag;have aV:=C cM;have ar:=ag.yc hk;have bI:=C (DG ag (g:Int));have o:=C hk;obtain⟨_,bL,a_⟩:=aa.hi aL;rw[bZ] at bL;have P:=C (br bL a_);have be:=C (λ(W:ab) (z:Below V.heap.size V W)=>by have cW:=k5 (g:Int) (ag.next z);rw[aa.lk aL,bZ] at cW;exact cW);unfold aX at*;obtain⟨am,bN⟩:∃b,L.b=b:=⟨_,rfl⟩;have aZ:=C bN;obtain⟨c2,c8⟩:∃b,L.fc=b:=⟨_,rfl⟩;obtain⟨E,bS⟩:∃b,L.gk g=b:=⟨_,rfl⟩;have a6:=C bS;rw[bN] at be ar⊢;rw[bS] at be;rw[c8] at bI ar;obtain⟨B,c_⟩:∃x,s.book.groups (g:Int)=x:=⟨_,rfl⟩;rw[c_] at bI⊢;obtain⟨al,aM⟩:∃al,(#[aD true,I J (parentOf s G),I ah G.shares,I J B,I J G.quota,I J (jr G),I J (js G),I ah (gd s G.h.idx s.c.aO)]:Array Value)=al:=⟨_,rfl⟩;rw[aM];have da:=C aM;clear H hk a2 cM ag bN c8 c_ aL bL a_ bS aM;go_enter func12,ntmps12;go_upto_region 1 with fail;rw[ci.out];go_wp2_with fail;refine bI.out.mono ?_;rintro e c3 ⟨rfl,X⟩;obtain rfl:=X.symm;go_upto_region 4 with fail;obtain⟨W,z⟩:∃W,V.alloc (av #[aD false,I J 0,I ah 0,I J B,I J 0,I J 0,I J 0,I ah 0] 39)=W:=⟨_,rfl⟩;rw[z];have f:=ak.new V #[aD false,I J 0,I ah 0,I J B,I J 0,I J 0,I J 0,I ah 0] 39;rw[z] at f;obtain⟨a,a3⟩:∃x,V.heap.size=x:=⟨_,rfl⟩;have Y:=C a3;have bi:Below V.heap.size V W:=z▸bx _ _;have bc:=C bi;have eu:=C (be.out W bi);have a4:=bf.out.next bi;have c4:E<a:=by rw[<-a3,<-a6.out];exact(bf.out.aw P.out.1).lt
 have c5:E≠a:=by omega
 rw[a3] at f;simp only[a3];have aN:=C f;obtain⟨_,_,_,bU,h3,ck,_⟩:=a4.dw P.out.1 a6.out;obtain⟨ev,aI⟩:∃x,cU (G.band.map λ_=>L.bd g)=x:=⟨_,rfl⟩;rw[aI] at ck;have cZ:=C (Nq a4.drew P.out.1);have de:=C (Nr a4.drew P.out.1);rw[aI] at cZ de;have h4:=C a4;have bh:=f.cell 0 (v:=aD false) rfl;have v1:=f.cell 1 (v:=I J 0) rfl;have aj:=f.cell 2 (v:=I ah 0) rfl;have bG:=f.cell 4 (v:=I J 0) rfl;have df:=f.cell 5 (v:=I J 0) rfl;have di:=f.cell 6 (v:=I J 0) rfl;have ca:=f.free 0;have dA:=f.free 1;have dF:=f.free 2;have bn:=f.free 4;have dG:=f.free 5;have dH:=f.free 6;go_wp2_with fail;refine eu.out.mono ?_;rintro e c9 ⟨rfl,ew⟩;obtain rfl:=ew.symm;go_wp2_with fail;go_region_held3 (λW'=>W'.cell? ⟨E,3,U⟩=R (I ah G.shares)∧W'.cell? ⟨E,4,U⟩=R (I J G.quota)∧W'.cell? ⟨E,5,U⟩=R ev) ((refine⟨?_,?_,?_⟩)<;>(repeat(first|(with_reducible assumption)|(with_reducible refine b2 ?_)|(with_reducible refine j0 (by with_reducible assumption) ?_)))) (first|(go_at_call 25;refine cZ.out.mono ?_;rintro e ey ⟨rfl,bT⟩;obtain rfl:=bT)|(go_at_call 26;refine de.out.mono ?_;rintro e ey ⟨rfl,bT⟩;obtain rfl:=bT));all_goals
  obtain⟨d,a5⟩:∃d,((((((W.setCell ⟨a,0,U⟩ (aD true)).setCell ⟨a,1,U⟩ (I J (-1))).setCell ⟨a,2,U⟩ (I ah G.shares)).setCell ⟨a,4,U⟩ (I J G.quota)).setCell ⟨a,5,U⟩ (I J (jr G))).setCell ⟨a,6,U⟩ (I J (js G))).drew=d:=⟨_,rfl⟩;rw[a5];have a7:=C (show ak d a #[aD true,I J (-1),I ah G.shares,I J B,I J G.quota,I J (jr G),I J (js G),I ah 0] 39 from a5▸((((((aN.out.set 0 _).set 1 _).set 2 _).set 4 _).set 5 _).set 6 _).drew);have bX:Mod (λk=>k=a) W d:=by rw[<-a5];exact(((((((Mod.refl (λk=>k=a) W).setCell (show a=a from rfl) _).setCell (show a=a from rfl) _).setCell (show a=a from rfl) _).setCell (show a=a from rfl) _).setCell (show a=a from rfl) _).setCell (show a=a from rfl) _).drew
  have bg:=C bX;obtain⟨co,dI,A,_⟩:=bf.out.nS bc.out;have bV:¬co a:=λq=>by have:=(dI _ q).1;have:=Y.out;omega
  have ap:=A.out bX bV aN.out.lt;have bj:=C A;have an:=C bV;have h5:=C ap;obtain⟨_,v1,aj,_⟩:=ap.dw P.out.1 a6.out;have a8:=ap.top.cell 5 j2;unfold aX at a8;obtain⟨dB,b1⟩:∃x,L.eE=x:=⟨_,rfl⟩;rw[aZ.out,b1] at a8;obtain⟨y,b3⟩:=gK.1 (o.out.there g G P.out.1 P.out.2).1;have dT:=C b3;have aB:=C (λ(eG:ab) (eH:Below d.heap.size d eG)=>(ap.next eH).parent b3);unfold aX at aB;rw[b1] at aB;have aA:am<d.heap.size:=by rw[<-aZ.out];exact ap.top.lt
  have D:E<d.heap.size:=by rw[<-a6.out];exact(ap.aw P.out.1).lt
  have dU:am≠d.heap.size:=by omega
  have ce:E≠d.heap.size:=by omega
  clear a5 bX dI A bV ap b1 b3;by_cases bl:G.h=bM
  ·have bF:nd G.h y=bC #[bk #[I J 0,I J 0],I J 12]:=(by unfold nd;rw[if_pos bl]);rw[bF] at aB;have b6:=C (show parentOf s G=-1 by unfold parentOf;rw[if_pos bl]);clear bF bl;go_wp2_with fail;go_region_held3 (λW'=>W'.cell? ⟨am,5,U⟩=R (af (R ⟨dB,0,U⟩))∧W'.cell? ⟨E,1,U⟩=R (I J G.h.idx)∧W'.cell? ⟨E,2,U⟩=R (I J G.h.gen)) ((refine⟨?_,?_,?_⟩)<;>(repeat(first|(with_reducible assumption)|(with_reducible refine b2 ?_)|(with_reducible refine j0 (by first|exact dU|exact ce|exact bR|exact bs) ?_)|(with_reducible refine fq _ (by first|exact aA|exact D|exact bo|exact bm) ?_)))) (first
    |(
     go_at_call 27;with_reducible refine(aB.out d.drew ((Below.refl _ _).drew)).mono ?_;rintro e r ⟨rfl,Z⟩
     have m:Below d.heap.size d r:=(Below.refl _ _).drew.trans Z;have b9:=(Mod.below (S:=λ_=>False) m).cell a8 aA id;have bv:=(Mod.below (S:=λ_=>False) m).cell v1 D id;have a1:=(Mod.below (S:=λ_=>False) m).cell aj D id;have bo:=dd aA m.size;have bm:=dd D m.size;have bR:=pC bo;have bs:=pC bm;have F:=C m)|(
     go_at_call 27;with_reducible refine(aB.out _ (bx d (av #[I J 0,I J 0] 77)).drew).mono ?_;rintro e r ⟨rfl,Z⟩
     have m:Below d.heap.size d r:=(bx d (av #[I J 0,I J 0] 77)).drew.trans (Z.mono (by simp));have b9:=(Mod.below (S:=λ_=>False) m).cell a8 aA id;have bv:=(Mod.below (S:=λ_=>False) m).cell v1 D id;have a1:=(Mod.below (S:=λ_=>False) m).cell aj D id;have K:=(ak.new d #[I J 0,I J 0] 77).drew.next Z;have eI:=K.cell 0 (v:=I J 0) rfl;have cs:=K.cell 1 (v:=I J 0) rfl;have eT:=K.free 0;have eU:=K.free 1;have F:=C m;have cc:=C K))
   all_goals
    first|(obtain⟨n,t⟩:∃n,r.alloc (av #[I J 0,I J 0] 77)=n:=⟨_,rfl⟩;rw[t];have aG:Below d.heap.size d n:=t▸F.out.alloc F.out.size _;have aq:ak n r.heap.size #[I J 0,I J 0] 77:=t▸ak.new _ _ _;obtain⟨ac,M⟩:∃x,r.heap.size=x:=⟨_,rfl⟩;have cf:a<ac:=(by have:=F.out.size;have:=a7.out.lt;omega);rw[M] at aq;simp only[M])|(obtain⟨n,t⟩:∃n,(r.setCell ⟨d.heap.size,0,U⟩ (I J 0)).setCell ⟨d.heap.size,1,U⟩ (I J 0)=n:=⟨_,rfl⟩;rw[t];have aG:Below d.heap.size d n:=t▸(F.out.setCell (p:=⟨d.heap.size,0,U⟩) (bK _) _).setCell (p:=⟨d.heap.size,1,U⟩) (bK _) _;have aq:ak n d.heap.size #[I J 0,I J 0] 77:=t▸((cc.out.set 0 _).set 1 _);obtain⟨ac,M⟩:∃x,d.heap.size=x:=⟨_,rfl⟩;have cf:a<ac:=(by have:=a7.out.lt;omega);rw[M] at aq;simp only[M])
    have ay:=C (Mod.below (S:=λk=>k=a) aG);have cg:=C (show ak n a #[aD true,I J (parentOf s G),I ah G.shares,I J B,I J G.quota,I J (jr G),I J (js G),I ah 0] 39 from by rw[b6.out];exact a7.out.next aG);have cj:=bj.out.out (bg.out.trans ay.out (λi _ q=>q)) an.out aN.out.lt;obtain⟨cv,eW,cm,_,bq⟩:=cj.iT o.out.lens (p:=0) (by have:=o.out.aO;omega);rw[aZ.out] at bq;have cn:=C cm;obtain⟨N,aQ⟩:∃x,s.c.aO=x:=⟨_,rfl⟩;rw[aQ] at bq;have aR:=C aQ;have b8:=o.out.aO;rw[aQ] at b8;go_wp2_with fail;go_loopw [81] (λu wr=>∃j:Nat,j<=N∧u=I J (j:Int)∧Mod (λk=>k=a) W wr∧ak wr a #[aD true,I J (parentOf s G),I ah G.shares,I J B,I J G.quota,I J (jr G),I J (js G),I ah (gd s G.h.idx j)] 39) (λu _=>N-(intOf u).toNat);case atStart=>exact⟨0,by omega,rfl,bg.out.trans ay.out (λi _ q=>q),cg.out⟩
    case round=>
     obtain⟨j,bA,rfl,az,f⟩:=hrel;have bt:=C az;have ai:=C f;have z:=bj.out.out az an.out aN.out.lt;by_cases bw:j<N;·obtain⟨x,aS⟩:∃x,s.hiers[j]?=R x:=⟨_,b5 (by rw[o.out.hlen,aR.out];exact bw)⟩;obtain⟨cr,_⟩:=z.fF o.out.lens (p:=j) (by rw[aR.out];exact bw) cn.out;obtain⟨T,aL⟩:=z.aY aS;have O:=C (BM T (L.hk j) x G.h.idx wr aL (o.out.aY j x aS).1);obtain⟨_,v1,_⟩:=z.dw P.out.1 a6.out;have e2:=f.cell 7 (v:=I ah (gd s G.h.idx j)) rfl;have e3:=f.free 7;have a0:=C (aa.zX aS);obtain⟨fe,bB⟩:∃x,L.hk j=x:=⟨_,rfl⟩;rw[bB] at cr O;have bH:(j:Int)<(N:Int):=(by omega);have fG:(0:Int)<=(j:Int):=(by omega);have fH:(j:Int).toNat=j:=(by omega);have fI:(j:Int)<64:=(by omega);have fJ:j<64:=(by omega);cases ad:x.nK G.h.idx with
      |false=>
       rw[ad] at O;have aU:=C (show gd s G.h.idx (j+1)=gd s G.h.idx j by rw[gd,a0.out,ad,if_neg (by decide)]);go_wp2_with fail;refine O.out.mono ?_;rintro e bW ⟨rfl,aP⟩;obtain rfl:=aP.symm;go_wp2_with fail;go_roundw;case rel=>exact⟨j+1,by omega,by go_num,bt.out,by rw[aU.out];exact ai.out⟩
       case measure=>simp[intOf];omega
      |true=>
       rw[ad] at O;have aU:=C (show gd s G.h.idx (j+1)=bits .or ah (gd s G.h.idx j) (IntKind.u64.wrap (2^j)) by rw[gd,a0.out,ad,if_pos rfl]);go_wp2_with fail;refine O.out.mono ?_;rintro e bW ⟨rfl,aP⟩;obtain rfl:=aP.symm;go_wp2_with fail;go_roundw;case rel=>exact⟨j+1,by omega,by go_num,bt.out.setCell (show a=a from rfl) _,by rw[aU.out];exact ai.out.set 7 _⟩
       case measure=>simp[intOf];omega
     ·obtain rfl:j=N:=by omega
      have l:ak wr w.heap.size #[aD false,I J 0,I ah 0,I J 0,I J 0,I J 0,I J 0,I ah 0] 39:=(aV.out.next bc.out).mod az (λe=>by have A:=aV.out.lt;have X:=Y.out;omega);have cu:=C l;have cB:=C (show Mod (λ_=>False) w wr from(((Mod.below (S:=λ_=>False) bb.out).trans (Mod.below (S:=λ_=>False) bc.out) (λi _ q=>q))).trans az (λi cF q=>by have A:=bb.out.size;have X:=Y.out;omega));have cG:a≠w.heap.size:=(by have A:=aV.out.lt;have X:=Y.out;omega);have fK:w.heap.size≠a:=λe=>cG e.symm;have bh:=f.cell 0 (v:=aD true) rfl;have v1:=f.cell 1 (v:=I J (parentOf s G)) rfl;have aj:=f.cell 2 (v:=I ah G.shares) rfl;have fR:=f.cell 3 (v:=I J B) rfl;have bG:=f.cell 4 (v:=I J G.quota) rfl;have df:=f.cell 5 (v:=I J (jr G)) rfl;have di:=f.cell 6 (v:=I J (js G)) rfl;have bE:=f.cell 7 (v:=I ah (gd s G.h.idx j)) rfl;have aJ:=l.cell 0 (v:=aD false) rfl;have ca:=l.free 0;have fX:=l.cell 1 (v:=I J 0) rfl;have dA:=l.free 1;have fY:=l.cell 2 (v:=I ah 0) rfl;have dF:=l.free 2;have dv:=l.cell 3 (v:=I J 0) rfl;have fZ:=l.free 3;have f_:=l.cell 4 (v:=I J 0) rfl;have bn:=l.free 4;have gw:=l.cell 5 (v:=I J 0) rfl;have dG:=l.free 5;have ch:=l.cell 6 (v:=I J 0) rfl;have dH:=l.free 6;have gF:=l.cell 7 (v:=I ah 0) rfl;have gG:=l.free 7;go_wp2_with fail;refine bodyPost_ret (yd (g:=w.heap.size) (T:=39) rfl rfl ((((((((cu.out.set 0 (aD true)).set 1 (I J (parentOf s G))).set 2 (I ah G.shares)).set 3 (I J B)).set 4 (I J G.quota)).set 5 (I J (jr G))).set 6 (I J (js G))).set 7 (I ah (gd s G.h.idx j)))) rfl ?_;rw[<-da.out,aR.out];exact⟨rfl,((((((((cB.out.fw (bK _) _).fw (bK _) _).fw (bK _) _).fw (bK _) _).fw (bK _) _).fw (bK _) _).fw (bK _) _).fw (bK _) _).toBelow⟩
  ·have bF:nd G.h y=bC #[bk #[I J y.1.idx,I J y.1.gen],I J 0]:=(by unfold nd;rw[if_neg bl]);rw[bF] at aB;have dV:=C bl;go_wp2_with fail;go_region_held3 (λW'=>W'.cell? ⟨am,5,U⟩=R (af (R ⟨dB,0,U⟩))∧W'.cell? ⟨E,1,U⟩=R (I J G.h.idx)∧W'.cell? ⟨E,2,U⟩=R (I J G.h.gen)) ((refine⟨?_,?_,?_⟩)<;>(repeat(first|(with_reducible assumption)|(with_reducible refine b2 ?_)|(with_reducible refine j0 (by first|exact dU|exact ce|exact bR|exact bs) ?_)|(with_reducible refine fq _ (by first|exact aA|exact D|exact bo|exact bm) ?_)))) (first
    |(
     go_at_call 27;with_reducible refine(aB.out d.drew ((Below.refl _ _).drew)).mono ?_;rintro e r ⟨rfl,Z⟩
     have m:Below d.heap.size d r:=(Below.refl _ _).drew.trans Z;have b9:=(Mod.below (S:=λ_=>False) m).cell a8 aA id;have bv:=(Mod.below (S:=λ_=>False) m).cell v1 D id;have a1:=(Mod.below (S:=λ_=>False) m).cell aj D id;have bo:=dd aA m.size;have bm:=dd D m.size;have bR:=pC bo;have bs:=pC bm;have F:=C m)|(
     go_at_call 27;with_reducible refine(aB.out _ (bx d (av #[I J 0,I J 0] 77)).drew).mono ?_;rintro e r ⟨rfl,Z⟩
     have m:Below d.heap.size d r:=(bx d (av #[I J 0,I J 0] 77)).drew.trans (Z.mono (by simp));have b9:=(Mod.below (S:=λ_=>False) m).cell a8 aA id;have bv:=(Mod.below (S:=λ_=>False) m).cell v1 D id;have a1:=(Mod.below (S:=λ_=>False) m).cell aj D id;have K:=(ak.new d #[I J 0,I J 0] 77).drew.next Z;have eI:=K.cell 0 (v:=I J 0) rfl;have cs:=K.cell 1 (v:=I J 0) rfl;have eT:=K.free 0;have eU:=K.free 1;have F:=C m;have cc:=C K))
   all_goals
    first|(obtain⟨n,t⟩:∃n,r.alloc (av #[I J y.1.idx,I J y.1.gen] 77)=n:=⟨_,rfl⟩;rw[t];have aG:Below d.heap.size d n:=t▸F.out.alloc F.out.size _;have aq:ak n r.heap.size #[I J y.1.idx,I J y.1.gen] 77:=t▸ak.new _ _ _;obtain⟨ac,M⟩:∃x,r.heap.size=x:=⟨_,rfl⟩;have cf:a<ac:=(by have:=F.out.size;have:=a7.out.lt;omega);rw[M] at aq;simp only[M])|(obtain⟨n,t⟩:∃n,(r.setCell ⟨d.heap.size,0,U⟩ (I J y.1.idx)).setCell ⟨d.heap.size,1,U⟩ (I J y.1.gen)=n:=⟨_,rfl⟩;rw[t];have aG:Below d.heap.size d n:=t▸(F.out.setCell (p:=⟨d.heap.size,0,U⟩) (bK _) _).setCell (p:=⟨d.heap.size,1,U⟩) (bK _) _;have aq:ak n d.heap.size #[I J y.1.idx,I J y.1.gen] 77:=t▸((cc.out.set 0 _).set 1 _);obtain⟨ac,M⟩:∃x,d.heap.size=x:=⟨_,rfl⟩;have cf:a<ac:=(by have:=a7.out.lt;omega);rw[M] at aq;simp only[M])
    obtain⟨db,bJ,_⟩:=o.out.tree.BO dT.out dV.out;obtain⟨u,gH,a9,gI,bu⟩:=o.out.get y.1 (by rw[bJ];rfl);have ba:=(o.out.there u gH a9 gI).2;rw[bu] at ba;have b6:=C (show parentOf s G=(u:Int) by unfold parentOf ae.l_;rw[if_neg dV.out,dT.out];dsimp only;rw[ba]);have bz:=(bj.out.out bg.out an.out aN.out.lt).next aG;have gV:=C (Mod.below (S:=λk=>k=a) aG);have cJ:=C (a7.out.next aG);obtain⟨Q,b_⟩:=dS (show 0<=y.1.idx from by obtain⟨iz,eo,iA,gW⟩:=o.out.place _ _ ba;rw[a9] at eo;cases eo;rw[bu] at gW;omega);have iB:Q<32:=(by have bz:=(bD.1 ba).1;rw[b_,o.out.eB,bZ] at bz;exact bz);rw[b_,bZ] at ba;have c0:=bz.top.cell (9+Q) (p6 o.out.eB ba);obtain⟨aC,cq⟩:∃x,L.gk u=x:=⟨_,rfl⟩;have bQ:=(bz.dw a9 cq).1;have dg:n.cell? ⟨am,9+Q,U⟩=R (af (R ⟨aC,0,U⟩)):=(by rw[<-cq,<-aZ.out];exact c0);rw[b_] at aq;have iC:=aq.cell 0 (v:=I J (Q:Int)) rfl;have aE:=cJ.out.cell 1 (v:=I J (-1)) rfl;have hH:=cJ.out.free 1;have iD:(Q:Int)<32:=(by omega);have dl:(Q:Int).toNat=Q:=(by omega);have iW:(0:Int)<=(Q:Int):=(by omega);have iX:am≠a:=(by have A:=bf.out.top.lt;have X:=Y.out;rw[aZ.out] at A;omega);have bP:aC≠a:=(by have A:=(bf.out.aw a9).lt;have X:=Y.out;rw[cq] at A;omega);have gU:ac≠a:=(by omega);go_wp2_with fail;go_region_held3 (λW'=>W'.cell? ⟨ac,0,U⟩=R (I J (Q:Int))∧W'.cell? ⟨am,9+Q,U⟩=R (af (R ⟨aC,0,U⟩))∧W'.cell? ⟨aC,0,U⟩=R (I J (u:Int))) ((refine⟨?_,?_,?_⟩)<;>(repeat(first|(with_reducible assumption)|(with_reducible refine b2 ?_)|(with_reducible refine j0 (by with_reducible assumption) ?_)))) (fail);all_goals
     have ay:=C (show Mod (λk=>k=a) d (n.setCell ⟨a,1,U⟩ (I J (u:Int))).drew from(gV.out.setCell (show a=a from rfl) _).drew);have cg:=C (show ak (n.setCell ⟨a,1,U⟩ (I J (u:Int))).drew a #[aD true,I J (parentOf s G),I ah G.shares,I J B,I J G.quota,I J (jr G),I J (js G),I ah 0] 39 from by rw[b6.out];exact(cJ.out.set 1 _).drew);have cj:=bj.out.out (bg.out.trans ay.out (λi _ q=>q)) an.out aN.out.lt;obtain⟨cv,eW,cm,_,bq⟩:=cj.iT o.out.lens (p:=0) (by have:=o.out.aO;omega);rw[aZ.out] at bq;have cn:=C cm;obtain⟨N,aQ⟩:∃x,s.c.aO=x:=⟨_,rfl⟩;rw[aQ] at bq;have aR:=C aQ;have b8:=o.out.aO;rw[aQ] at b8;go_wp2_with fail;go_loopw [81] (λu wr=>∃j:Nat,j<=N∧u=I J (j:Int)∧Mod (λk=>k=a) W wr∧ak wr a #[aD true,I J (parentOf s G),I ah G.shares,I J B,I J G.quota,I J (jr G),I J (js G),I ah (gd s G.h.idx j)] 39) (λu _=>N-(intOf u).toNat);case atStart=>exact⟨0,by omega,rfl,bg.out.trans ay.out (λi _ q=>q),cg.out⟩
     case round=>
      obtain⟨j,bA,rfl,az,f⟩:=hrel;have bt:=C az;have ai:=C f;have z:=bj.out.out az an.out aN.out.lt;by_cases bw:j<N;·obtain⟨x,aS⟩:∃x,s.hiers[j]?=R x:=⟨_,b5 (by rw[o.out.hlen,aR.out];exact bw)⟩;obtain⟨cr,_⟩:=z.fF o.out.lens (p:=j) (by rw[aR.out];exact bw) cn.out;obtain⟨T,aL⟩:=z.aY aS;have O:=C (BM T (L.hk j) x G.h.idx wr aL (o.out.aY j x aS).1);obtain⟨_,v1,_⟩:=z.dw P.out.1 a6.out;have e2:=f.cell 7 (v:=I ah (gd s G.h.idx j)) rfl;have e3:=f.free 7;have a0:=C (aa.zX aS);obtain⟨fe,bB⟩:∃x,L.hk j=x:=⟨_,rfl⟩;rw[bB] at cr O;have bH:(j:Int)<(N:Int):=(by omega);have fG:(0:Int)<=(j:Int):=(by omega);have fH:(j:Int).toNat=j:=(by omega);have fI:(j:Int)<64:=(by omega);have fJ:j<64:=(by omega);cases ad:x.nK G.h.idx with
       |false=>
        rw[ad] at O;have aU:=C (show gd s G.h.idx (j+1)=gd s G.h.idx j by rw[gd,a0.out,ad,if_neg (by decide)]);go_wp2_with fail;refine O.out.mono ?_;rintro e bW ⟨rfl,aP⟩;obtain rfl:=aP.symm;go_wp2_with fail;go_roundw;case rel=>exact⟨j+1,by omega,by go_num,bt.out,by rw[aU.out];exact ai.out⟩
        case measure=>simp[intOf];omega
       |true=>
        rw[ad] at O;have aU:=C (show gd s G.h.idx (j+1)=bits .or ah (gd s G.h.idx j) (IntKind.u64.wrap (2^j)) by rw[gd,a0.out,ad,if_pos rfl]);go_wp2_with fail;refine O.out.mono ?_;rintro e bW ⟨rfl,aP⟩;obtain rfl:=aP.symm;go_wp2_with fail;go_roundw;case rel=>exact⟨j+1,by omega,by go_num,bt.out.setCell (show a=a from rfl) _,by rw[aU.out];exact ai.out.set 7 _⟩
        case measure=>simp[intOf];omega
      ·obtain rfl:j=N:=by omega
       have l:ak wr w.heap.size #[aD false,I J 0,I ah 0,I J 0,I J 0,I J 0,I J 0,I ah 0] 39:=(aV.out.next bc.out).mod az (λe=>by have A:=aV.out.lt;have X:=Y.out;omega);have cu:=C l;have cB:=C (show Mod (λ_=>False) w wr from(((Mod.below (S:=λ_=>False) bb.out).trans (Mod.below (S:=λ_=>False) bc.out) (λi _ q=>q))).trans az (λi cF q=>by have A:=bb.out.size;have X:=Y.out;omega));have cG:a≠w.heap.size:=(by have A:=aV.out.lt;have X:=Y.out;omega);have fK:w.heap.size≠a:=λe=>cG e.symm;have bh:=f.cell 0 (v:=aD true) rfl;have v1:=f.cell 1 (v:=I J (parentOf s G)) rfl;have aj:=f.cell 2 (v:=I ah G.shares) rfl;have fR:=f.cell 3 (v:=I J B) rfl;have bG:=f.cell 4 (v:=I J G.quota) rfl;have df:=f.cell 5 (v:=I J (jr G)) rfl;have di:=f.cell 6 (v:=I J (js G)) rfl;have bE:=f.cell 7 (v:=I ah (gd s G.h.idx j)) rfl;have aJ:=l.cell 0 (v:=aD false) rfl;have ca:=l.free 0;have fX:=l.cell 1 (v:=I J 0) rfl;have dA:=l.free 1;have fY:=l.cell 2 (v:=I ah 0) rfl;have dF:=l.free 2;have dv:=l.cell 3 (v:=I J 0) rfl;have fZ:=l.free 3;have f_:=l.cell 4 (v:=I J 0) rfl;have bn:=l.free 4;have gw:=l.cell 5 (v:=I J 0) rfl;have dG:=l.free 5;have ch:=l.cell 6 (v:=I J 0) rfl;have dH:=l.free 6;have gF:=l.cell 7 (v:=I ah 0) rfl;have gG:=l.free 7;go_wp2_with fail;refine bodyPost_ret (yd (g:=w.heap.size) (T:=39) rfl rfl ((((((((cu.out.set 0 (aD true)).set 1 (I J (parentOf s G))).set 2 (I ah G.shares)).set 3 (I J B)).set 4 (I J G.quota)).set 5 (I J (jr G))).set 6 (I J (js G))).set 7 (I ah (gd s G.h.idx j)))) rfl ?_;rw[<-da.out,aR.out];exact⟨rfl,((((((((cB.out.fw (bK _) _).fw (bK _) _).fw (bK _) _).fw (bK _) _).fw (bK _) _).fw (bK _) _).fw (bK _) _).fw (bK _) _).toBelow⟩
end
theorem Nu (v0 v1 v2 v3 v4 v5 a b:Value) (w:ab):(Instr.field 39 (bk #[v0,v1,v2,v3,v4,v5,a,b]) 6).run au w= .ok a w:=by kernel_rfl
theorem Nv (v0 v1 v2 v3 v4 v5 a:Value) (w:ab):(Instr.field 36 (bk #[v0,v1,v2,v3,v4,v5,a]) 6).run au w= .ok a w:=by kernel_rfl
def ye (s:aa) (n:Int):Bool:=(s.group n).isSome
def yf (s:aa) (n:Int):Int:=match s.group n with|none=>0|some G=>parentOf s G
def yg (s:aa) (n:Int):Nat:=match s.group n with|none=>0|some G=>G.shares
def yh (s:aa) (n:Int):Int:=match s.group n with|none=>0|some G=>G.quota
def yi (s:aa) (n:Int):Int:=match s.group n with|none=>0|some G=>jr G
def uQ (s:aa) (n:Int):Int:=match s.group n with|none=>0|some G=>js G
def yj (s:aa) (n:Int):Int:=match s.group n with|none=>0|some G=>gd s G.h.idx s.c.aO
def uR (s:aa) (n:Int):Array Value:=#[aD (ye s n),I J (yf s n),I ah (yg s n:Int),I J (s.book.groups n),I J (yh s n),I J (yi s n),I J (uQ s n),I ah (yj s n)]
theorem Nw {d:ab} {L:bu} {s:aa} {k:Nat} (n:Int) (H:ax d S L s w) (hk:s.Ok k):Calls au 12 #[aX L.b,I J n] w λe w'=>e=aK (bk (uR s n))∧Below w.heap.size w w':=by
 cases a:s.group n with
 |none=>have c:=Ns n H hk a;unfold uR ye yf yg yh yi uQ yj;rw[a];exact c
 |some G=>obtain⟨f,_,_⟩:=aa.hi a;obtain⟨g,rfl⟩:=dS f;have c:=Nt g H hk a;unfold uR ye yf yg yh yi uQ yj;rw[a];exact c
theorem Nx {a:ab} {L:bu} {s:aa} {k:Nat} (n:Int) (H:ax a S L s w) (hk:s.Ok k):∃b p g c d e,ll s n=#[I J b,I J p,I J g,I J c,I ah d,I ah e,I J (s.book.tasks n)]:=by unfold ll;split<;>exact⟨_,_,_,_,_,_,rfl⟩
section
variable {ao w w' W:ab} {S:Nat->Prop} {L:bu} {s:aa} {k:Nat}
def bu.hr (L:bu) (n a:Nat) (v:Value):bu:={L with hk:=λm=>if m=n then a else L.hk m,hv:=v}
def bu.gg (L:bu) (n a:Nat) (v:Value):bu:={L with ck:=λm=>if m=n then a else L.ck m,cv:=v}
def aa.hr (s:aa) (h:ad):aa:={s with hiers:=s.hiers++[h]}
def aa.gg (s:aa) (c:cD):aa:={s with clocks:=s.clocks++[c]}
theorem DH (f:Nat->Nat) (n b:Nat):(gi (n+1)).map (λm=>R (if m=n then b else f m))=(gi n).map (λm=>R (f m))++[R b]:=by
 rw[oa,iI];congr 1;·refine vc (λm a=>?_);rw[pB] at a;rw[z0 (by omega)]
 ·simp
theorem Ny {a:Nat} {h:ad} (e:s.hiers.length=n):hX (L.hr n a v) (s.hr h)=hX L s++[R a]:=by unfold hX aa.hr bu.hr;dsimp only;rw[eX,n2,e];exact DH _ _ _
theorem Nz {a:Nat} {c:cD} (e:s.clocks.length=n):hY (L.gg n a v) (s.gg c)=hY L s++[R a]:=by unfold hY aa.gg bu.gg;dsimp only;rw[eX,n2,e];exact DH _ _ _
theorem DI (a:s.places.length=32) (b:s.at_.length=64) (i:Nat) (v:Value):(cR L s).setIfInBounds (105+i) v=([I J s.c.aO,I J s.c.tick,I J s.c.bG,I J s.c.ch,I ah s.c.hC,aX L.eE,aX L.kC,L.tv,L.gv]++s.places.map (λo=>cU (o.map L.gk))++s.at_.map (I J)++([L.hv,L.cv,aX L.fc].set i v)).toArray:=by unfold cR;rw[sd,n1 _ _ (by simp[a,b])];congr 3;simp[a,b]
theorem NA (a:s.places.length=32) (b:s.at_.length=64) (n c:Nat) (v:Value) (h:ad):(cR L s).setIfInBounds 105 v=cR (L.hr n c v) (s.hr h):=DI a b 0 v
theorem NB (a:s.places.length=32) (b:s.at_.length=64) (n c:Nat) (v:Value) (h:cD):(cR L s).setIfInBounds 106 v=cR (L.gg n c v) (s.gg h):=DI a b 1 v
theorem ax.NC (H:ax ao S L s w) (e:L.hv.ownBlock=R g):(S g∨ao.heap.size<=g)∧g<w.heap.size∧g≠L.b:=by obtain⟨d,f,H⟩:=H;have a:=(H.part .fU).2 g e;refine⟨H.own g ((H.part .fU).1.lt g e).2 (by rw[a];simp),((H.part .fU).1.lt g e).2,λx=>?_⟩;have c:=(H.part .top).2;rw[<-x,a] at c;cases c
theorem ax.ND (H:ax ao S L s w) (e:L.cv.ownBlock=R g):(S g∨ao.heap.size<=g)∧g<w.heap.size∧g≠L.b:=by obtain⟨d,f,H⟩:=H;have a:=(H.part .gr).2 g e;refine⟨H.own g ((H.part .gr).1.lt g e).2 (by rw[a];simp),((H.part .gr).1.lt g e).2,λx=>?_⟩;have c:=(H.part .top).2;rw[<-x,a] at c;cases c
theorem ax.hr (H:ax ao S L s w) {n f:Nat} (o:s.hiers.length=n) {h:ad} {v:Value} {T:Nat->Prop} (z:cO w' T f h) (A:∀k,T k->w.heap.size<=k) (u:Mod (λk=>k=L.b∨L.hv.ownBlock=R k) w w') (B:Own dp w' 0 90 v (n+1) (hX L s++[R f])) (hv:∀g,v.ownBlock=R g->L.hv.ownBlock=R g∨(w.heap.size<=g∧¬T g)) (C:ak w' L.b (cR (L.hr n f v) (s.hr h)) 72):ax ao S (L.hr n f v) (s.hr h) w':=by
 classical
 obtain⟨x,j,H⟩:=H;have M:=x.size;have p:=(H.part .top).2;have q:∀g,L.hv.ownBlock=R g->j g= .fU:=(H.part .fU).2;have D:∀g,L.hv.ownBlock=R g->g<w.heap.size:=λg e=>((H.part .fU).1.lt g e).2;refine⟨?_,λk=>if k<w.heap.size then j k else if T k then .aY n else .fU,?_,?_⟩
 ·refine x.trans u (λi E a=>?_);have F:j i≠ .no:=by
   rcases a with rfl|a;·rw[p];simp
   ·rw[q i a];simp
  rcases H.own i (by omega) F with g|g;·exact g
  ·exact absurd E (by omega)
 ·intro a;have c:∀r,r≠ .top->r≠ .fU->fW w' (λk=>(if k<w.heap.size then j k else if T k then Part.aY n else Part.fU)=r) L s r:=by
   intro r G l;refine(H.part r).frame u ?_ ?_
   ·rintro k e (rfl|a);·exact G (e.symm.trans p)
    ·exact l (e.symm.trans (q k a))
   ·intro k y e;rw[aj y];exact e
  cases a with
  |no=>trivial
  |top=>exact⟨C,by show(if L.b<w.heap.size then j L.b else _)=_;rw[aj (H.part .top).1.lt];exact p⟩
  |fU=>
   show dM _ _ _ v (hX _ _);rw[Ny o];refine⟨by rw[show(hX L s++[R f]).length=n+1 by rw[eX,rN,o];rfl];exact B,λg e=>?_⟩;rcases hv g e with a|⟨a,I⟩;·rw[aj (D g a)];exact q g a
   ·rw[z0 (by omega),z0 I]
  |aY m=>
   intro t d;by_cases e:m=n;·subst e;have:t=h:=(by unfold aa.hr at d;rw[gJ (by omega),o,lu] at d;exact(Option.some.inj d).symm);subst this;show cO w' _ (if m=m then f else L.hk m) _;rw[aj rfl];exact z.mono (λk _ a=>by rw[z0 (by have:=A k a;omega),aj a])
   ·have J:s.hiers[m]?=R t:=by
     unfold aa.hr at d;dsimp only at d;by_cases K:m<s.hiers.length;·rwa[ja K] at d
     ·rw[gh (by rw[eX,n2];omega)] at d;cases d
    have:=c (.aY m) (by simp) (by simp) t J;show cO w' _ (if m=n then f else L.hk m) _;rw[z0 e];exact this
  |task m=>exact c (.task m) (by simp) (by simp)
  |e1=>exact c .e1 (by simp) (by simp)
  |fx=>exact c .fx (by simp) (by simp)
  |gr=>exact c .gr (by simp) (by simp)
  |tree=>exact c .tree (by simp) (by simp)
  |pool=>exact c .pool (by simp) (by simp)
  |book=>exact c .book (by simp) (by simp)
  |aw m=>exact c (.aw m) (by simp) (by simp)
  |band m=>exact c (.band m) (by simp) (by simp)
  |line m=>exact c (.line m) (by simp) (by simp)
  |gT m=>exact c (.gT m) (by simp) (by simp)
 ·intro k y e;by_cases l:k<w.heap.size;·rw[aj l] at e;exact H.own k l e
  ·exact .inr (by omega)
theorem ax.gg (H:ax ao S L s w) {n a:Nat} (D:¬S a) (P:a<ao.heap.size) (u:s.clocks.length=n) {c:cD} {v:Value} (E:dr w' a c) (y:Mod (λk=>k=L.b∨L.cv.ownBlock=R k) w w') (F:Own dp w' 0 109 v (n+1) (hY L s++[R a])) (hv:∀g,v.ownBlock=R g->L.cv.ownBlock=R g∨w.heap.size<=g) (G:ak w' L.b (cR (L.gg n a v) (s.gg c)) 72):ax ao (λk=>S k∨k=a) (L.gg n a v) (s.gg c) w':=by
 obtain⟨B,h,H⟩:=H;have Q:=B.size;have p:h a= .no:=by
  by_cases e:h a= .no;·exact e
  ·rcases H.own a (by omega) e with d|d;·exact absurd d D
   ·omega
 have q:=(H.part .top).2;have z:∀g,L.cv.ownBlock=R g->h g= .gr:=(H.part .gr).2;have I:∀g,L.cv.ownBlock=R g->g<w.heap.size:=λg e=>((H.part .gr).1.lt g e).2;have J:L.b≠a:=λe=>by rw[<-e,q] at p;cases p
 have T:=y.size;refine⟨?_,λk=>if k=a then .gT n else if k<w.heap.size then h k else .gr,?_,?_⟩
 ·refine(B.mono (λk _ d=>.inl d)).trans y (λi K d=>?_);have M:h i≠ .no:=by
   rcases d with rfl|d;·rw[q];simp
   ·rw[z i d];simp
  rcases H.own i (by omega) M with g|g;·exact .inl g
  ·exact absurd K (by omega)
 ·intro d;have f:∀r,r≠ .top->r≠ .gr->fW w' (λk=>(if k=a then Part.gT n else if k<w.heap.size then h k else Part.gr)=r) L s r:=by
   intro r j o;by_cases t:r= .no;·subst t;trivial
   ·refine(H.part r).frame y ?_ ?_
    ·rintro k e (rfl|d);·exact j (e.symm.trans q)
     ·exact o (e.symm.trans (z k d))
    ·intro k C e;have:k≠a:=λx=>by rw[x,p] at e;exact t e.symm
     rw[z0 this,aj C];exact e
  cases d with
  |no=>trivial
  |top=>exact⟨G,by show(if L.b=a then _ else if L.b<w.heap.size then h L.b else _)=_;rw[z0 J,aj (H.part .top).1.lt];exact q⟩
  |gr=>
   show dM _ _ _ v (hY _ _);rw[Nz u];refine⟨by rw[show(hY L s++[R a]).length=n+1 by rw[eX,tz,u];rfl];exact F,λg e=>?_⟩;rcases hv g e with d|d
   ·have j:=z g d;have o:g≠a:=λx=>by rw[x,p] at j;cases j
    rw[z0 o,aj (I g d)];exact j
   ·rw[z0 (by omega),z0 (by omega)]
  |gT m=>
   intro A l;by_cases e:m=n;·subst e;have:A=c:=(by unfold aa.gg at l;rw[gJ (by omega),u,lu] at l;exact(Option.some.inj l).symm);subst this;show dr w' (if m=m then a else L.ck m) _∧_;rw[aj rfl];exact⟨E,by show(if(if m=m then a else L.ck m)=a then _ else _)=_;rw[aj rfl,aj rfl]⟩
   ·have t:s.clocks[m]?=R A:=by
     unfold aa.gg at l;dsimp only at l;by_cases N:m<s.clocks.length;·rwa[ja N] at l
     ·rw[gh (by rw[eX,n2];omega)] at l;cases l
    have:=f (.gT m) (by simp) (by simp) A t;have O:(L.gg n a v).ck m=L.ck m:=z0 e;show dr w' ((L.gg n a v).ck m) _∧(if(L.gg n a v).ck m=a then _ else if(L.gg n a v).ck m<w.heap.size then h ((L.gg n a v).ck m) else _)=_;rw[O];exact this
  |task m=>exact f (.task m) (by simp) (by simp)
  |e1=>exact f .e1 (by simp) (by simp)
  |fx=>exact f .fx (by simp) (by simp)
  |fU=>exact f .fU (by simp) (by simp)
  |tree=>exact f .tree (by simp) (by simp)
  |pool=>exact f .pool (by simp) (by simp)
  |book=>exact f .book (by simp) (by simp)
  |aw m=>exact f (.aw m) (by simp) (by simp)
  |band m=>exact f (.band m) (by simp) (by simp)
  |line m=>exact f (.line m) (by simp) (by simp)
  |aY m=>exact f (.aY m) (by simp) (by simp)
 ·intro k C e;by_cases j:k=a;·exact .inl (.inr j)
  ·rw[z0 j] at e;by_cases o:k<w.heap.size
   ·rw[aj o] at e;rcases H.own k o e with d|d;·exact .inl (.inl d)
    ·exact .inr d
   ·exact .inr (by omega)
end
def aa.uS (c:hT):aa:={aa.new c with hiers:=[],clocks:=[]}
def bu.base (a b c d rb:Nat) (gv:Value):bu:=⟨a,b,c,d,λ_=>0,λ_=>rb,λ_=>0,λ_=>0,λ_=>0,λ_=>0,ay U 0 0,gv,ay U 0 0,ay U 0 0⟩
theorem NF (a b:Nat) (tk c d:Int) (h e f g rb gb:Nat):((((((((((zeroCells72.setIfInBounds 0 (I J (a:Int))).setIfInBounds 1 (I J tk)).setIfInBounds 2 (I J c)).setIfInBounds 3 (I J d)).setIfInBounds 4 (I ah (b:Int))).setIfInBounds 5 (af (R ⟨e,0,U⟩))).setIfInBounds 107 (af (R ⟨g,0,U⟩))).setIfInBounds 6 (af (R ⟨f,0,U⟩))).setIfInBounds 8 (ay (R ⟨gb,0,U⟩) 1 1)).setIfInBounds 9 (af (R ⟨rb,0,U⟩)))=cR (bu.base h e f g rb (ay (R ⟨gb,0,U⟩) 1 1)) (aa.uS ⟨a,tk,c,d,b⟩):=by kernel_rfl
theorem NG {d l h i:ab} {c:hT} {a0 o p a q rb gb:Nat} (u:Mod (λ_=>False) w i) (h0:w.heap.size<=a0) (v:cT d (λk=>a0<=k) o lE) (hk:fD l (λk=>d.heap.size<=k) p fS.new) (x:gS h (λk=>a<k) q 64 an.new) (y:Mod (λk=>k=a) d i) (m3:Mod (λk=>k=a) l i) (z:Mod (λk=>k=a) h i) (M:a0<=d.heap.size) (N:d.heap.size<=l.heap.size) (O:l.heap.size=a) (P:a<h.heap.size) (Q:h.heap.size<=rb) (S:rb<gb) (A:ak i a (cR (bu.base a o q p rb (ay (R ⟨gb,0,U⟩) 1 1)) (aa.uS c)) 72) (C:ak i rb (hn (bu.base a o q p rb (ay (R ⟨gb,0,U⟩) 1 1)) 0 ik) 85) (D:Own dp i 0 65 (ay (R ⟨gb,0,U⟩) 1 1) 1 [R rb]):ax w (λ_=>False) (bu.base a o q p rb (ay (R ⟨gb,0,U⟩) 1 1)) (aa.uS c) i:=by
 obtain⟨f,j⟩:=aW ((λk=>if k<a0 then Part.no else if k<d.heap.size then .tree else if k<a then .book else if k=a then .top else if k<h.heap.size then .pool else if k=rb then .aw 0 else .e1):Nat->Part);have E:∀k,a0<=k->k<d.heap.size->f k= .tree:=λk s m=>by rw[<-j];show(if k<a0 then _ else if k<d.heap.size then _ else _)=_;rw[z0 (by omega),aj m]
 have F:∀k,d.heap.size<=k->k<a->f k= .book:=λk s m=>by rw[<-j];show(if k<a0 then _ else if k<d.heap.size then _ else if k<a then _ else _)=_;rw[z0 (by omega),z0 (by omega),aj m]
 have H:f a= .top:=by rw[<-j];show(if a<a0 then _ else if a<d.heap.size then _ else if a<a then _ else if a=a then _ else _)=_;rw[z0 (by omega),z0 (by omega),z0 (by omega),aj rfl]
 have I:∀k,a<k->k<h.heap.size->f k= .pool:=λk s m=>by rw[<-j];show(if k<a0 then _ else if k<d.heap.size then _ else if k<a then _ else if k=a then _ else if k<h.heap.size then _ else _)=_;rw[z0 (by omega),z0 (by omega),z0 (by omega),z0 (by omega),aj m]
 have J:f rb= .aw 0:=by rw[<-j];show(if rb<a0 then _ else if rb<d.heap.size then _ else if rb<a then _ else if rb=a then _ else if rb<h.heap.size then _ else if rb=rb then _ else _)=_;rw[z0 (by omega),z0 (by omega),z0 (by omega),z0 (by omega),z0 (by omega),aj rfl]
 have K:f gb= .e1:=by rw[<-j];show(if gb<a0 then _ else if gb<d.heap.size then _ else if gb<a then _ else if gb=a then _ else if gb<h.heap.size then _ else if gb=rb then _ else _)=_;rw[z0 (by omega),z0 (by omega),z0 (by omega),z0 (by omega),z0 (by omega),z0 (by omega)]
 have fn:∀k,f k≠ .no->a0<=k:=λk e=>by
  by_cases L:k<a0;·exact absurd (by rw[<-j];show(if k<a0 then _ else _)=_;rw[aj L]) e
  ·omega
 refine⟨u,f,λb=>?_,λk _ e=>.inr (by have:=fn k e;omega)⟩;cases b with
 |no=>trivial
 |top=>exact⟨A,H⟩
 |tree=>exact cT.mono (cT.frame (cT.mono v (T:=λk=>a0<=k∧k<d.heap.size) (λk hk b=>⟨b,hk⟩)) y (λk b e=>by have:=b.2;omega)) (λk _ b=>E k b.1 b.2)
 |pool=>exact gS.mono (gS.frame (gS.mono x (T:=λk=>a<k∧k<h.heap.size) (λk hk b=>⟨b,hk⟩)) z (λk b e=>by have:=b.1;omega)) (λk _ b=>I k b.1 b.2)
 |book=>exact fD.mono (fD.mod (fD.mono hk (T:=λk=>d.heap.size<=k∧k<l.heap.size) (λk hk b=>⟨b,hk⟩)) m3 (λk b e=>by have:=b.2;omega)) (λk _ b=>F k b.1 (by have:=b.2;omega))
 |fx=>exact⟨Own.nil _ _ _,λg e=>by cases e⟩
 |fU=>exact⟨Own.nil _ _ _,λg e=>by cases e⟩
 |gr=>exact⟨Own.nil _ _ _,λg e=>by cases e⟩
 |e1=>exact⟨D,λg e=>by cases e;exact K⟩
 |task n=>exactλt e=>by cases e
 |aY n=>exactλt e=>by cases e
 |gT n=>exactλt e=>by cases e
 |aw n=>
  intro G e;cases n with
  |zero=>cases e;exact⟨C,J⟩
  |succ n=>cases e
 |band n=>
  intro G B e r;cases n with
  |zero=>cases e;cases r
  |succ n=>cases e
 |line n=>
  intro G B e r;cases n with
  |zero=>cases e;cases r
  |succ n=>cases e
variable {aH:Bool}
section
def DJ:Oper:={dst:=R 77,op:=Op.load 68 (Operand.tmp 76),type:=68,pos:= "sched.go:110",after:=#[{on:=3,ground:=Ground.data}],guard:=U}
attribute [local go_sem] DJ
structure hT.Good (c:hT):Prop where
 aO:1<=c.aO∧c.aO<=64
 tick:1<=c.tick∧c.tick<=1000000000
 bG:0<=c.bG∧c.bG<=1099511627776
 ch:0<=c.ch∧c.ch<=1099511627776
 iq:1<=c.hC∧c.hC<=1000000000
def qm (c:hT):Array Value:=#[I J c.aO,I J c.tick,I J c.bG,I J c.ch,I ah c.hC]
theorem NI:iv dp 68 90 8:=⟨underlying68,⟨.pointer U,by kernel_rfl,rfl⟩,by decide⟩
theorem NJ:iv dp 69 109 8:=⟨underlying69,⟨.pointer U,by kernel_rfl,rfl⟩,by decide⟩
def aa.jt (c:hT) (j:Nat):aa:={aa.new c with hiers:=gY j (h0 c.ch c.bG),clocks:=gY j (cD.new c.hC)}
theorem aa.NK (c:hT) (j:Nat):((aa.jt c j).hr (h0 c.ch c.bG)).gg (cD.new c.hC)=aa.jt c (j+1):=by unfold aa.jt aa.hr aa.gg;dsimp only;rw[List.replicate_succ',List.replicate_succ']
theorem NL:nb 39:=enters_of func39 (by kernel_rfl) rfl
theorem uT (n a b:Int) (h:a<=n∧n<=b) (w:ab):Calls au 39 #[I J n,I J a,I J b] w λe w'=>e=aK (aD true)∧w'=w:=by obtain⟨c,d⟩:=h;go_enter func39,ntmps39;go_wp2;go_ret;simp[c,d]
theorem DK (c:hT) (dB:c.Good) (w:ab):Calls au 18 #[bk (qm c)] w λe w'=>∃L:bu,e=aK (bC #[aX L.b,I J 0])∧ax w (λ_=>False) L (aa.new c) w':=by
 obtain⟨V,aw⟩:∃V,w.alloc (av (qm c) 54)=V:=⟨_,rfl⟩;have Y:ak V w.heap.size (qm c) 54:=aw▸ak.new _ _ _;have a1:Below w.heap.size w V:=aw▸bx _ _;have dT:=C aw;have Z:=C Y;have cc:=C a1;obtain⟨p,D,r,s,y⟩:=c;obtain⟨a4,a5,bF,aO,a9⟩:=dB;dsimp only at a4 a5 bF aO a9;have aq:=C (br a4 (br a5 (br bF (br aO a9))));have dU:=NL;unfold nb at dU;have ce:=Y.cell 0 (v:=I J (p:Int)) rfl;have kG:=Y.cell 1 (v:=I J D) rfl;have dV:=Y.cell 2 (v:=I J r) rfl;have eo:=Y.cell 3 (v:=I J s) rfl;have ci:=Y.cell 4 (v:=I ah (y:Int)) rfl;have kH:¬((y:Int)<1):=by omega
 have kI:¬((1000000000:Int)<(y:Int)):=by omega
 have kJ:=C (C2 V.drew);unfold qm at*;dsimp only at*;clear aw Y a1 a4 a5 bF aO a9;go_enter func18,ntmps18;go_upto_region 1 with fail;rw[dT.out];go_wp2_with fail;refine(uT _ 1 64 (by have:=aq.out.1;omega) _).mono ?_;rintro e l ⟨rfl,A⟩;obtain rfl:=A.symm;go_wp2_with fail;refine(uT _ 1 1000000000 aq.out.2.1 _).mono ?_;rintro e l ⟨rfl,A⟩;obtain rfl:=A.symm;go_wp2_with fail;refine(uT _ 0 1099511627776 aq.out.2.2.1 _).mono ?_;rintro e l ⟨rfl,A⟩;obtain rfl:=A.symm;go_wp2_with fail;refine(uT _ 0 1099511627776 aq.out.2.2.2.1 _).mono ?_;rintro e l ⟨rfl,A⟩;obtain rfl:=A.symm;go_wp2_with fail;go_region_held3 (λW'=>W'.cell? ⟨w.heap.size,0,U⟩=R (I J (p:Int))∧W'.cell? ⟨w.heap.size,1,U⟩=R (I J D)∧W'.cell? ⟨w.heap.size,2,U⟩=R (I J r)∧W'.cell? ⟨w.heap.size,3,U⟩=R (I J s)∧W'.cell? ⟨w.heap.size,4,U⟩=R (I ah (y:Int))) ((refine⟨?_,?_,?_,?_,?_⟩)<;>(repeat(first|(with_reducible assumption)|(with_reducible refine b2 ?_)|(with_reducible refine fq _ (by first|exact eu) ?_)))) (first|(go_at_call 40;refine(C2 _).mono ?_;rintro e l ⟨aC,rfl,ck,m⟩;have ae:ak l w.heap.size #[I J (p:Int),I J D,I J r,I J s,I ah (y:Int)] 54:=(by first|exact Z.out.next m|exact Z.out.drew.next m);have b0:=ae.cell 0 (v:=I J (p:Int)) rfl;have kK:=ae.cell 1 (v:=I J D) rfl;have k8:=ae.cell 2 (v:=I J r) rfl;have k9:=ae.cell 3 (v:=I J s) rfl;have k_:=ae.cell 4 (v:=I ah (y:Int)) rfl;have ev:=C ck;have cf:=C m;have cg:=C ae)|(go_at_call 41;refine(IF (λ_=>False) _).mono ?_;rintro e H ⟨bI,rfl,ew,bL⟩;have ac:ak H w.heap.size #[I J (p:Int),I J D,I J r,I J s,I ah (y:Int)] 54:=(by first|exact cg.out.next bL|exact cg.out.drew.next bL);have b4:=ac.cell 0 (v:=I J (p:Int)) rfl;have bl:=ac.cell 1 (v:=I J D) rfl;have bd:=ac.cell 2 (v:=I J r) rfl;have am:=ac.cell 3 (v:=I J s) rfl;have ey:=ac.cell 4 (v:=I ah (y:Int)) rfl;have eu:=ac.lt;have co:=C ew;have aZ:=C bL;have la:=C ac));all_goals
  obtain⟨aN,cj⟩:∃aN,((((((zeroCells72.setIfInBounds 0 (I J (p:Int))).setIfInBounds 1 (I J D)).setIfInBounds 2 (I J r)).setIfInBounds 3 (I J s)).setIfInBounds 4 (I ah (y:Int))).setIfInBounds 5 (af (R ⟨aC,0,U⟩))).setIfInBounds 107 (af (R ⟨bI,0,U⟩))=aN:=⟨_,rfl⟩;rw[cj];have bo:=C cj;obtain⟨aj,bm⟩:∃aj,H.alloc (av aN 72)=aj:=⟨_,rfl⟩;rw[bm];have cm:ak aj H.heap.size aN 72:=bm▸ak.new _ _ _;have eG:Below H.heap.size H aj:=bm▸bx _ _;have eH:aj.heap.size=H.heap.size+1:=by rw[<-bm];simp
  obtain⟨d,be⟩:∃x,H.heap.size=x:=⟨_,rfl⟩;rw[be] at cm;simp only[be];have eI:=C be;have cs:=C cm;have cn:=C eG;have eT:=C eH;have eU:=C (I3 aj);go_wp2_with fail;refine eU.out.mono ?_;rintro e bq ⟨a6,rfl,eW,b8⟩;have bN:=cs.out.next b8;have bA:=bN.cell 6 (v:=af U) (by rw[<-bo.out];kernel_rfl);have e2:=bN.free 6;have e3:=C eW;have cr:=C b8;have fe:=C bN;go_upto_region 11 with fail;obtain⟨K,bt⟩:∃K,bq.setCell ⟨d,6,U⟩ (af (R ⟨a6,0,U⟩))=K:=⟨_,rfl⟩;rw[bt];have bH:=C (show ak K d (aN.setIfInBounds 6 (af (R ⟨a6,0,U⟩))) 72 from bt▸fe.out.set 6 _);have bB:=C (show Mod (λk=>k=d) bq K from bt▸Mod.one _ _ _ _);clear bt bA e2;go_upto_region 12 with fail;obtain⟨z,ap⟩:∃z,K.alloc (av #[I J 0,I J 0,I J 0,I ah 0,I J 0,af U,af U] 85)=z:=⟨_,rfl⟩;rw[ap];have bS:ak z K.heap.size #[I J 0,I J 0,I J 0,I ah 0,I J 0,af U,af U] 85:=ap▸ak.new _ _ _;have az:ak z d (aN.setIfInBounds 6 (af (R ⟨a6,0,U⟩))) 72:=ap▸bH.out.alloc _;have aM:z.heap.size=K.heap.size+1:=by rw[<-ap];simp
  have fG:=C (show Mod (λk=>k=d) bq z from ap▸bB.out.alloc _);obtain⟨B,ai⟩:∃x,K.heap.size=x:=⟨_,rfl⟩;rw[ai] at bS aM;simp only[ai];have fH:=C bS;have fI:=C az;have fJ:=C aM;have cF:=C ai;have ld:=az.cell 8 (v:=ay U 0 0) (by rw[<-bo.out];kernel_rfl);have lf:=az.cell 9 (v:=af U) (by rw[<-bo.out];kernel_rfl);have lg:=az.free 8;have lh:=az.free 9;have ki:=az.lt;clear ap bS az aM ai;go_region_held3 (λW'=>True) (trivial) (fail);all_goals
   obtain⟨E,aQ⟩:∃E,(((z.setCell ⟨d,8,U⟩ (ay (R ⟨z.heap.size,0,U⟩) 1 1)).setCell ⟨d,9,U⟩ (af (R ⟨B,0,U⟩))).alloc (av #[af (R ⟨B,0,U⟩)] 65)).drew=E:=⟨_,rfl⟩;rw[aQ];obtain⟨ad,bi⟩:∃x,z.heap.size=x:=⟨_,rfl⟩;rw[bi] at aQ;simp only[bi];have fK:((z.setCell ⟨d,8,U⟩ (ay (R ⟨ad,0,U⟩) 1 1)).setCell ⟨d,9,U⟩ (af (R ⟨B,0,U⟩))).heap.size=ad:=(by simp[bi]);have fR:Mod (λk=>k=d) z E:=aQ▸(((nT _ _ _ _ _ _).alloc _).drew);have bW:Mod (λk=>k=d) bq E:=fG.out.trans fR (λi _ a=>a);have bE:=cn.out.size;have lj:=cr.out.size;have d0:=eT.out;have aJ:=eI.out;have fX:=aZ.out.size;have bT:=cf.out.size;have d1:=bB.out.size;have d2:=cF.out;have d3:=fJ.out;have bX:Mod (λk=>k=d) H E:=(((Mod.below (S:=λk=>k=d) cn.out).trans (Mod.below (S:=λk=>k=d) cr.out) (λi _ a=>a))).trans bW (λi _ a=>a);have fY:Mod (λk=>k=d) l E:=(Mod.below (S:=λk=>k=d) (by first|exact aZ.out|exact(Below.refl _ _).drew.trans aZ.out)).trans bX (λi _ a=>a);have cu:Mod (λ_=>False) V E:=(((Mod.below (S:=λ_=>False) ((Below.refl _ _).drew.trans cf.out)).trans (Mod.below (S:=λ_=>False) (by first|exact aZ.out|exact(Below.refl _ _).drew.trans aZ.out)) (λi _ a=>a))).trans bX (λi d4 a=>by have aR:V.heap.size<=l.heap.size:=bT;omega);have a7:ak E d (cR (bu.base d aC a6 bI B (ay (R ⟨ad,0,U⟩) 1 1)) (aa.uS ⟨p,D,r,s,y⟩)) 72:=(by rw[<-NF,bo.out,<-aQ];exact(((fI.out.set 8 _).set 9 _).alloc _).drew);have cB:B≠d:=(by omega);have dv:ak E B (hn (bu.base d aC a6 bI B (ay (R ⟨ad,0,U⟩) 1 1)) 0 ik) 85:=(by rw[<-aQ];exact(((fH.out.other cB _).other cB _).alloc _).drew);have a8:Own dp E 0 65 (ay (R ⟨ad,0,U⟩) 1 1) 1 [R B]:=(by rw[<-aQ];refine Own.drew ⟨rfl,.inr ⟨ad,1,#[af (R ⟨B,0,U⟩)],rfl,gN _,?_,bK _,by unfold maxLen;omega,rfl,rfl⟩⟩;have aS:=l2 ((z.setCell ⟨d,8,U⟩ (ay (R ⟨ad,0,U⟩) 1 1)).setCell ⟨d,9,U⟩ (af (R ⟨B,0,U⟩))) (av #[af (R ⟨B,0,U⟩)] 65);rw[fK] at aS;exact aS);have fZ:=NG (c:=⟨p,D,r,s,y⟩) cu (bK _) ev.out (co.out.mono (λk _ a=>a.elim False.elim id)) (e3.out.mono (λk _ a=>by omega)) fY bX bW bT fX aJ (by omega) (by omega) (by omega) a7 dv a8;have f_:=C fZ;have ce:=(Z.out.mod cu id).cell 0 (v:=I J (p:Int)) rfl;have bV:∃c:hT,(⟨p,D,r,s,y⟩:hT)=c:=⟨_,rfl⟩;obtain⟨c,bV⟩:=bV;have ba:=C bV;have gw:=C (show V.heap.size<=d from cA bT (by omega));go_wp2_with fail;go_loopw [65] (λu W=>∃j:Nat,j<=p∧u=I J (j:Int)∧∃L:bu,L.b=d∧ax V (λ_=>False) L (aa.jt c j) W) (λu _=>p-(intOf u).toNat);case atStart=>exact⟨0,by omega,rfl,_,rfl,by rw[<-ba.out];exact f_.out⟩
   case round=>
    obtain⟨j,d5,rfl,L,gF,cG⟩:=hrel;have F:=C gF;have ao:=C cG;by_cases d6:j<p
    ·have ci:=(Z.out.mod cG.1 id).cell 4 (v:=I ah (y:Int)) rfl;have gG:=C (H5 y aq.out.2.2.2.2.1 aq.out.2.2.2.2.2 wr);have d7:(j:Int)<(p:Int):=(by omega);have d8:(0:Int)<=(j:Int):=(by omega);have d9:(j:Int).toNat=j:=(by omega);go_wp2_with fail;refine gG.out.mono ?_;rintro e t ⟨rfl,b1,al,bJ⟩;obtain⟨cJ,gH,aR,gI⟩:=ao.out.nS al;have b_:=C b1;have gV:=C al;have cq:=C bJ;have cM:=C (λk (a:cJ k)=>(gH k a).1);have gW:=C gI;have c0:=C aR;obtain⟨q,b3⟩:∃x,wr.heap.size=x:=⟨_,rfl⟩;have aU:=C b3;rw[b3] at b_;simp only[b3];have bw:=(Z.out.mod ao.out.1 id).next al;have dV:=bw.cell 2 (v:=I J r) rfl;have eo:=bw.cell 3 (v:=I J s) rfl;obtain⟨cb,ar⟩:=aR.fy .fU;obtain⟨a_,cW,bb⟩:=dM.form ar;rw[rN,show(aa.jt c j).hiers.length=j from se] at bb;have ag:Own dp t 0 90 L.hv (hX L (aa.jt c j)).length (hX L (aa.jt c j)):=ar.1;rw[rN,show(aa.jt c j).hiers.length=j from se,bb] at ag;have bM:=C ag;have aB:=C bb;have M:=C (show(aa.jt c j).places.length=32∧(aa.jt c j).at_.length=64 from⟨rfl,rfl⟩);have c2:=aR.top.cell 105 ((lR (L:=L) M.out.1 M.out.2 0).trans (show[L.hv,L.cv,aX L.fc][0]?=R L.hv from rfl));rw[F.out,bb] at c2;have bf:=C (show ak t d (cR L (aa.jt c j)) 72 from by rw[<-F.out];exact aR.top);have c3:=C (NH s r t.drew);have b7:d<t.heap.size:=bf.out.lt;have pc:w.heap.size<t.heap.size:=bw.lt;have aD:=C (show∀a,(ay a_ j cW).ownBlock=R a->a<t.heap.size∧a≠d∧a≠w.heap.size fromλa e=>by
      obtain⟨bl,bd,am⟩:=ao.out.NC (by rw[bb];exact e);rw[F.out] at am;have ey:=gV.out.size;have pd:=Z.out.lt;refine⟨by omega,am,λx=>?_⟩;rcases bl with f|f;·exact f
      ·omega)
     have pe:w.heap.size≠d:=(by have aR:=Z.out.lt;have A:=gw.out;omega);have c8:j<=10000000:=(by have:=aq.out.1;omega);have c4:=C bw;go_upto_region 16 with fail;rw[show({dst:=R 77,op:=Op.load 68 (Operand.tmp 76),type:=68,pos:= "sched.go:110",after:=#[{on:=3,ground:=Ground.data}],guard:=U}:Oper)=DJ from rfl];go_region_held3 (λW'=>W'.cell? ⟨w.heap.size,2,U⟩=R (I J r)∧W'.cell? ⟨w.heap.size,3,U⟩=R (I J s)) ((refine⟨?_,?_⟩)<;>(repeat(first|(with_reducible assumption)|(with_reducible refine b2 ?_)|(with_reducible refine j0 (by with_reducible assumption) ?_)|(with_reducible refine fq _ ?_ ?_)))) (first|(go_at_call 44;refine c3.out.mono ?_;rintro e l ⟨m,rfl,c5,a0⟩;have bz:=c4.out.drew.next a0;have pg:=bz.cell 2 (v:=I J r) rfl;have ph:=bz.cell 3 (v:=I J s) rfl;have b6:=bf.out.drew.next a0;have bU:=b6.cell 105 ((lR (L:=L) M.out.1 M.out.2 0).trans (show[L.hv,L.cv,aX L.fc][0]?=R L.hv from rfl));rw[aB.out] at bU;have h3:=C ((bM.out.drew.next' a0).alloc (av #[af (R ⟨m,0,U⟩)] 90));have h4:0<=(l.alloc (av #[af (R ⟨m,0,U⟩)] 90)).heap.size:=gN _;have c9:=C (show∀a u,(dp.e (R m))[a]?=R u->(l.alloc (av #[af (R ⟨m,0,U⟩)] 90)).cell? ⟨l.heap.size,a,U⟩=R u fromλa u aA=>dz.trans (by rw[<-aA];show([af (R ⟨m,0,U⟩)]:List Value).toArray[a]?=_;rw[fg];rfl));have pj:d<l.heap.size:=b6.lt;have pk:w.heap.size<l.heap.size:=bz.lt;have h5:=C b6;have db:=C bz;have iz:=C c5;have c_:=C a0)|(refine oR NI (by rfl) _ _ (by rfl) 0 _ j (hX L (aa.jt c j)) (by rfl) h3.out l.heap.size _ (R m) (by rfl) c9.out c8 h4 ?_;intro pn u da iA iB;obtain⟨N,O,rfl,po⟩:=da.form (Nat.succ_pos _);have bc:=C (show Grow _ u (ay a_ j cW) (ay (R ⟨N,0,U⟩) (j+1) O) from Grow.gR iA iB);have aG:=(h5.out.alloc (av #[af (R ⟨m,0,U⟩)] 90)).grow bc.out (λe=>(aD.out d e.symm).2.1 rfl);have bR:=(db.out.alloc (av #[af (R ⟨m,0,U⟩)] 90)).grow bc.out (λe=>(aD.out w.heap.size e.symm).2.2 rfl);have el:=bR.cell 2 (v:=I J r) rfl;have em:=bR.cell 3 (v:=I J s) rfl;have bs:=aG.cell 105 ((lR (L:=L) M.out.1 M.out.2 0).trans (show[L.hv,L.cv,aX L.fc][0]?=R L.hv from rfl));rw[aB.out] at bs;have bQ:=aG.free 105;have dg:=C da;have iC:=C aG;have pq:=C bR));all_goals
      obtain⟨o,bg⟩:∃o,u.setCell ⟨d,105,U⟩ (ay (R ⟨N,0,U⟩) (j+1) O)=o:=⟨_,rfl⟩;rw[bg];have aE:=c_.out.size;have bE:t.heap.size<=l.heap.size:=aE;have cE:d<t.heap.size:=bf.out.lt;have hH:Mod (λk=>k=L.b∨L.hv.ownBlock=R k) t (l.alloc (av #[af (R ⟨m,0,U⟩)] 90)):=((Mod.below (S:=λk=>k=L.b∨L.hv.ownBlock=R k) ((Below.refl _ _).drew.trans c_.out))).alloc _;have iD:Mod (λk=>k=L.b∨L.hv.ownBlock=R k) t o:=(by rw[<-bg];exact(hH.grow bc.out (λg e=>.inr (by rw[aB.out];exact e))).setCell (.inl F.out.symm) _);have dl:Mod (λk=>k=L.b∨L.hv.ownBlock=R k) l o:=(by rw[<-bg];exact(((Mod.refl _ l).alloc _).grow bc.out (λg e=>.inr (by rw[aB.out];exact e))).setCell (.inl F.out.symm) _);have aI:∀a,(ay (R ⟨N,0,U⟩) (j+1) O).ownBlock=R a->L.hv.ownBlock=R a∨l.heap.size<a:=λa e=>by
       rcases bc.out.loc with f|⟨iW,f,aA⟩;·exact .inl (by rw[aB.out,<-f];exact e)
       ·rw[e] at f;cases f;exact .inr (dd (by simp) aA)
      have iX:∀a,(ay (R ⟨N,0,U⟩) (j+1) O).ownBlock=R a->¬a=d:=λa e=>by
       rcases aI a e with f|f;·rw[aB.out] at f;exact(aD.out a f).2.1
       ·omega
      have a8:Own dp o 0 90 (ay (R ⟨N,0,U⟩) (j+1) O) (j+1) (hX L (aa.jt c j)++[R m]):=(by rw[<-bg];exact dg.out.mod (Mod.one _ _ _ _) iX);have a7:ak o L.b (cR (L.hr j m (ay (R ⟨N,0,U⟩) (j+1) O)) ((aa.jt c j).hr (h0 c.ch c.bG))) 72:=(by rw[<-NA M.out.1 M.out.2 j m (ay (R ⟨N,0,U⟩) (j+1) O) (h0 c.ch c.bG),F.out,<-bg];exact iC.out.set 105 _);have bP:cO o (λk=>t.heap.size<=k∧k<l.heap.size) m (h0 c.ch c.bG):=by
       refine cO.frame (cO.mono (show cO l (λk=>t.heap.size<=k) m (h0 c.ch c.bG) from by rw[<-ba.out];exact iz.out) (T:=λk=>t.heap.size<=k∧k<l.heap.size) (λk gU a=>⟨a,gU⟩)) dl ?_;rintro k a (e|e);·rw[F.out] at e;omega
       ·rw[aB.out] at e;have:=(aD.out k e).1;omega
      have P:=c0.out.hr (n:=j) se bP (λk a=>a.1) iD a8 (λa e=>(aI a e).elim .inl (λf=>.inr ⟨by omega,λbd=>by omega⟩)) a7;obtain⟨h,cZ⟩:∃h,L.hr j m (ay (R ⟨N,0,U⟩) (j+1) O)=h:=⟨_,rfl⟩;obtain⟨G,a2⟩:∃x,(aa.jt c j).hr (h0 c.ch c.bG)=x:=⟨_,rfl⟩;rw[cZ,a2] at P;have jE:=C a2;have aL:=C (show h.b=d by rw[<-cZ];exact F.out);have de:=C P;have aP:=C (show G.places.length=32∧G.at_.length=64 by rw[<-a2];exact⟨rfl,rfl⟩);have b9:G.clocks.length=j:=(by rw[<-a2];exact se);have bO:=C b9;obtain⟨qg,bh⟩:=P.fy .gr;obtain⟨df,di,bj⟩:=dM.form bh;rw[tz,b9] at bj;have ag:Own dp o 0 109 h.cv (hY h G).length (hY h G):=bh.1;rw[tz,b9,bj] at ag;have an:=C bj;have aY:=C (show∀a,(ay df j di).ownBlock=R a->a≠d∧a≠q fromλa e=>by
       obtain⟨bl,bd,am⟩:=P.ND (by rw[bj];exact e);rw[aL.out] at am;refine⟨am,λx=>?_⟩;rcases bl with f|f;·have:=cM.out a f;have A:=aU.out;omega
       ·have A:=aU.out;have ca:=cq.out;omega)
      have ek:=P.top.cell 106 ((lR (L:=h) aP.out.1 aP.out.2 1).trans (show[h.hv,h.cv,aX h.fc][1]?=R h.cv from rfl));rw[aL.out,bj] at ek;have j8:ak o d (cR h G) 72:=(by rw[<-aL.out];exact P.top);have dA:=C j8;have fo:=C (ag.alloc (av #[af (R ⟨q,0,U⟩)] 109));have j9:=C (show∀a u,(dp.e (R q))[a]?=R u->(o.alloc (av #[af (R ⟨q,0,U⟩)] 109)).cell? ⟨o.heap.size,a,U⟩=R u fromλa u aA=>dz.trans (by rw[<-aA];show([af (R ⟨q,0,U⟩)]:List Value).toArray[a]?=_;rw[fg];rfl));have j_:0<=(o.alloc (av #[af (R ⟨q,0,U⟩)] 109)).heap.size:=gN _;go_upto_region 17 with fail;go_upto_region 18 with((at_builtin;refine jB NJ rfl _ _ rfl 0 _ j (hY h G) rfl fo.out o.heap.size _ (R q) rfl j9.out c8 j_ ?_;intro eq u9 dF ka kb;obtain⟨Q,X,rfl,cd⟩:=dF.form (Nat.succ_pos _);have bv:=C (show Grow _ u9 (ay df j di) (ay (R ⟨Q,0,U⟩) (j+1) X) from Grow.gR ka kb);have aG:=(dA.out.alloc (av #[af (R ⟨q,0,U⟩)] 109)).grow bv.out (λe=>(aY.out d e.symm).1 rfl);have bs:=aG.cell 106 ((lR (L:=h) aP.out.1 aP.out.2 1).trans (show[h.hv,h.cv,aX h.fc][1]?=R h.cv from rfl));rw[an.out] at bs;have bQ:=aG.free 106;have bY:=C dF;have kc:=C aG));obtain⟨aV,a3⟩:∃aV,u9.setCell ⟨d,106,U⟩ (ay (R ⟨Q,0,U⟩) (j+1) X)=aV:=⟨_,rfl⟩;rw[a3];have bn:Mod (λk=>k=h.b∨h.cv.ownBlock=R k) o aV:=(by rw[<-a3];exact(((Mod.refl _ o).alloc _).grow bv.out (λg e=>.inr (by rw[an.out];exact e))).setCell (.inl aL.out.symm) _);have dG:∀a,(ay (R ⟨Q,0,U⟩) (j+1) X).ownBlock=R a->h.cv.ownBlock=R a∨o.heap.size<=a:=λa e=>by
       rcases bv.out.loc with f|⟨iW,f,aA⟩;·exact .inl (by rw[an.out,<-f];exact e)
       ·rw[e] at f;cases f;exact .inr (cA (by simp) aA)
      have es:d<o.heap.size:=dA.out.lt;have kd:∀a,(ay (R ⟨Q,0,U⟩) (j+1) X).ownBlock=R a->¬a=d:=λa e=>by
       rcases dG a e with f|f;·rw[an.out] at f;exact(aY.out a f).1
       ·omega
      have a8:Own dp aV 0 109 (ay (R ⟨Q,0,U⟩) (j+1) X) (j+1) (hY h G++[R q]):=(by rw[<-a3];exact bY.out.mod (Mod.one _ _ _ _) kd);have a7:ak aV h.b (cR (h.gg j q (ay (R ⟨Q,0,U⟩) (j+1) X)) (G.gg (cD.new c.hC))) 72:=(by rw[<-NB aP.out.1 aP.out.2 j q (ay (R ⟨Q,0,U⟩) (j+1) X) (cD.new c.hC),aL.out,<-a3];exact kc.out.set 106 _);have dH:¬cJ q:=λf=>by have:=cM.out _ f;have:=aU.out;omega
      have ke:q<t.heap.size:=(by have:=cq.out;have:=aU.out;omega);have b1:dr aV q (cD.new c.hC):=by
       have aS:dr t q (cD.new c.hC):=(by rw[<-ba.out];exact b_.out);refine(aS.mod de.out.1 dH).mod bn ?_;rintro(e|e);·rw[aL.out] at e;have:=bf.out.lt;have A:=bf.out;have ca:=ao.out.top.lt;rw[F.out] at ca;have:=aU.out;omega
       ·rw[an.out] at e;exact(aY.out _ e).2 rfl
      have P:=de.out.gg dH ke bO.out b1 bn a8 dG a7;have dI:=gW.out _ _ _ (P.lX (λk e=>e.elim .inl (λe=>.inr (by rw[e];have:=aU.out;omega))));rw[<-jE.out,aa.NK] at dI;have aH:=C dI;go_wp2_with fail;go_roundw;case rel=>exact⟨j+1,by omega,by go_num,h.gg j q (ay (R ⟨Q,0,U⟩) (j+1) X),aL.out,aH.out⟩
      case measure=>simp[intOf];omega
    ·obtain rfl:j=p:=by omega
     go_wp2_with fail;go_ret2;refine⟨L,by unfold aX;rw[F.out];rfl,?_⟩;obtain⟨kf,kg,aS⟩:=ao.out;rw[ba.out];have kh:aa.new c=aa.jt c j:=(by rw[<-ba.out];rfl);rw[kh];exact⟨(Mod.below (S:=λ_=>False) cc.out).trans kf (λi _ a=>a),kg,aS.mono (λk a=>a.elim .inl (λa=>.inr (cA cc.out.size a)))⟩
end
end Go.Proofs.YtddbkdjcjoofpaaGreatDoor
