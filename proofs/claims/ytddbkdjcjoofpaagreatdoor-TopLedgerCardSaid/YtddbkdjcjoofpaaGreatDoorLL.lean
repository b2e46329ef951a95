import Derived.Test.YtddbkdjcjoofpaaGreatDoorLA
import Derived.Test.YtddbkdjcjoofpaaGreatDoorLC
import Derived.Test.YtddbkdjcjoofpaaGreatDoorLD
import Derived.Test.YtddbkdjcjoofpaaGreatDoorLE
import Derived.Test.YtddbkdjcjoofpaaGreatDoorLF
import Derived.Test.YtddbkdjcjoofpaaGreatDoorLG
namespace Go.Proofs.YtddbkdjcjoofpaaGreatDoor
set_option linter.unusedVariables false
set_option linter.unusedSimpArgs false
set_option maxRecDepth 100000
set_option maxHeartbeats 20000000
open _root_.Go.Proofs.Tryz Go.RowKit
open Go renaming World→ab
open _root_.Go.Proofs.Tryz renaming prog→au
open Option renaming none→U,some→R
open _root_.Go.Value renaming int→I,pointer→af,slice→aA,bool→aE,agg→bm,tuple→bD
open _root_.Go.IntKind renaming i64→J,u64→ah
open _root_.Go.Obj renaming cells→av
open _root_.Go.Ending renaming returned→aK
open _root_.Nat renaming le_refl→bM,le_trans→cJ,lt_of_lt_of_le→dm,zero_le→hq,sub_self→k5,ne_of_lt→o_
open _root_.Go renaming World→ab
open _root_.List renaming getElem?_eq_getElem→b6,getElem?_eq_some_iff→bE,length_append→eZ,getElem?_append_right→gC,getElem?_append_left→iR,getElem?_toArray→ff,map_append→h4,range→gh,replicate→gR,mem_range→o9,getElem?_eq_none→ho,setIfInBounds_toArray→rX,range_succ→nU,set_append_right→nO,map_congr_left→uf,length_singleton→nP,length_replicate→rZ
open _root_.And renaming intro→bx
open _root_.Int renaming toNat_natCast→cd,eq_ofNat_of_zero_le→dW
open _root_.Option renaming isSome_iff_exists→gP
variable {l:List Int} {e:aI} {s:bt (aG×Int)}
def mG:g_:=⟨1,100,0,0,100⟩
def qL:List e9:=[⟨1,0,0,1024,0,0⟩,⟨1,0,0,1024,0,0⟩,⟨5,1,0,30,10,0⟩,⟨6,1,0,0,0,1⟩,⟨6,2,0,0,0,1⟩,⟨11,0,0,10,0,0⟩,⟨11,0,0,10,0,0⟩]
def eK:List e9->aa->List (Int×Int)×aa
 |[],s=>([],s)
 |e::l,s=>((s.cN e).2::(eK l (s.cN e).1).1,(eK l (s.cN e).1).2)
theorem F9:(eK qL (aa.new mG)).1.map (·.1)=[1,2,0,0,1,0,1]:=by decide+kernel
theorem F_:(eK qL (aa.new mG)).2.book.tasks 1=10:=by decide+kernel
variable {b n m:Nat} {a:Option Addr} {k x:Key}
def dZ (x:bT):e9:=⟨x.k,x.a,x.b,x.n,x.m,(x.s:Int)⟩
def ot:List Nat:=[103,114,111,117,112,32,48,32,49,48,50,52,10,103,114,111,117,112,32,48,32,49,48,50,52,10,113,117,111,116,97,32,49,32,51,48,32,49,48,10,115,112,97,119,110,32,49,32,48,32,48,10,115,112,97,119,110,32,50,32,48,32,48,10,116,105,99,107,32,48,32,49,48,10,116,105,99,107,32,48,32,49,48,10]
def ou:List bT:=[⟨1,0,0,1024,0,0⟩,⟨1,0,0,1024,0,0⟩,⟨5,1,0,30,10,0⟩,⟨6,1,0,0,0,1⟩,⟨6,2,0,0,0,1⟩,⟨11,0,0,10,0,0⟩,⟨11,0,0,10,0,0⟩]
theorem Ga:kb ot=(ou,0,0):=by kernel_rfl
theorem zE:ou.map dZ=qL:=by kernel_rfl
variable {g i p j c B o:Nat} {S Z al:Nat->Prop} {w W w' y A W':ab} {v v1 u:Value} {t:ex} {tmps:Array Value} {G:aL} {f:Int->Option aL} {ai:Int->Nat} {ag:List (Int×Int)} {fn:Func} {r:T} {P:List (List Nat)} {V:List (Int×Int)->ab->Prop} {L:List ByteArray}
theorem Na:(prog.info? 36).map (·.size)=R 7:=by kernel_rfl
theorem tS {p:Tmp} {w:ab} {T:Nat} {v0 v2 v3 v4 v5 a:Value} (h:fn.results=#[.cell p 36]) (b:tmps.getD p undef=af (R ⟨g,0,U⟩)) (c:w.heap[g]?=R (av #[v0,v1,v2,v3,v4,v5,a] T (0,0))):(results fn tmps).run au w= .ok (bm #[v0,v1,v2,v3,v4,v5,a]) w:=results_cell_row h tmps w g T _ _ _ b c underlying36 rfl Na
def tT (s:aa) (n:Int) (t:ex):Int:=if t.on=true then(if s.running t.p=n then 3 else 2) else 1
def o0 (s:aa) (n:Int):Array Value:=match s.task n with
 |none=>#[I J 4,I J 0,I J 0,I J 0,I ah 0,I ah 0,I J (s.book.tasks n)]
 |some t=>#[I J (tT s n t),I J t.p,I J t.g,I J t.nice,I ah t.w,I ah t.mask,I J (s.book.tasks n)]
section
variable {aq w:ab} {S:Nat->Prop} {L:bu} {s:aa} {k:Nat}
theorem aw.xv (H:aw aq S L s w) (hk:s.Ok k):w.cell? ⟨L.b,107,U⟩=R (aY L.fc):=H.top.cell 107 ((lv (L:=L) hk.eB hk.gH 2).trans (show[L.hv,L.cv,aY L.fc][2]?=R (aY L.fc) from rfl))
theorem C2 (H:aw aq S L s w) (n:Int):Calls au 22 #[aY L.fc,I J n] w λe w'=>e=aK (I J (s.book.tasks n))∧w'=w:=by obtain⟨T,h⟩:=H.book;exact HY n h
theorem C3 (H:aw aq S L s w) (n:Int):Calls au 23 #[aY L.fc,I J n] w λe w'=>e=aK (I J (s.book.groups n))∧w'=w:=by obtain⟨T,h⟩:=H.book;exact HZ n h
theorem Nb {n:Int} (h:s.task n=U):jx L s n=af U:=by unfold jx;rw[h]
theorem Nc {n:Int} (h:s.task n=R t):jx L s n=af (R ⟨L.tk n.toNat,0,U⟩):=by unfold jx;rw[h];rfl
theorem xw (n:Int) (H:aw aq S L s w) (hk:s.Ok k):Calls au 10 #[aY L.b,I J n] w λe w'=>e=aK (bm (o0 s n))∧Below w.heap.size w w':=by
 obtain⟨V,y⟩:=aX (w.alloc (av #[I J 0,I J 0,I J 0,I J 0,I ah 0,I ah 0,I J 0] 36));have h:ak V w.heap.size #[I J 0,I J 0,I J 0,I J 0,I ah 0,I ah 0,I J 0] 36:=y▸ak.new w _ _;have j:=C (show Below w.heap.size w V from y▸bz _ _);have bb:=C y;have f:=H.next j;have bL:=C f;have z:=C h;have d:=λi=>h.free i;have u:=C (tg n f);have bc:=f.xv hk;have az:=C (C2 f n);have aC:=C (λ(W:ab) (aF:Below V.heap.size V W)=>C2 (f.next aF) n);unfold aY at*;obtain⟨ae,x⟩:=aX L.b;have aN:=C x;obtain⟨br,am⟩:=aX L.fc;rw[x] at u bc⊢;rw[am] at az aC bc;generalize A:s.book.tasks n=ns at az aC;have bi:=C A;have bP:=C hk;cases o:s.task n with
 |none=>rw[Nb o] at u;have aE:=C (show o0 s n=#[I J 4,I J 0,I J 0,I J 0,I ah 0,I ah 0,I J ns] by unfold o0;rw[o,A]);rw[aE.out];have N:=d 0;have O:=d 1;have P:=d 2;have Q:=d 3;have X:=d 4;have Y:=d 5;have Z:=d 6;have aM:=h.cell 0 (v:=I J 0) rfl;have aj:=h.cell 1 (v:=I J 0) rfl;have ap:=h.cell 2 (v:=I J 0) rfl;have aO:=h.cell 3 (v:=I J 0) rfl;have aQ:=h.cell 4 (v:=I ah 0) rfl;have aS:=h.cell 5 (v:=I ah 0) rfl;have aU:=h.cell 6 (v:=I J 0) rfl;clear H hk y h f d x am A o;go_enter func10,ntmps10;go_upto_region 1 with fail;rw[bb.out];go_wp2_with fail;refine u.mono ?_;rintro e aP ⟨rfl,q⟩;obtain rfl:=q.symm;go_wp2_with fail;refine az.mono ?_;rintro e aP ⟨rfl,q⟩;obtain rfl:=q.symm;go_wp2_with fail;exact bodyPost_ret (tS (g:=w.heap.size) (T:=36) rfl rfl (((((((z.set 0 (I J 4)).set 1 (I J 0)).set 2 (I J 0)).set 3 (I J 0)).set 4 (I ah 0)).set 5 (I ah 0)).set 6 (I J ns))) rfl ⟨rfl,((((((j.setCell zK9 _).setCell zK9 _).setCell zK9 _).setCell zK9 _).setCell zK9 _).setCell zK9 _).setCell zK9 _⟩
 |some t=>
  obtain⟨bf,B,_⟩:=aa.mF o;obtain⟨i,rfl⟩:=dW bf;rw[cd] at B;rw[Nc o,cd] at u;generalize aT:L.tk i=bX at u;obtain⟨_,_,_,a0,bw,a2,bR,bU,bY,a3⟩:=f.ek B aT;clear a3;have aV:=hk.jT B;obtain⟨ao,ac⟩:=aX (L.gk t.g);have al:=(f.dB aV ac).1;rw[ac] at a2;have a4:=C (show o0 s (i:Int)=#[I J (tT s i t),I J t.p,I J t.g,I J t.nice,I ah t.w,I ah t.mask,I J ns] by unfold o0;rw[o,A]);rw[a4.out];have N:=d 0;have O:=d 1;have P:=d 2;have Q:=d 3;have X:=d 4;have Y:=d 5;have Z:=d 6;have aZ:=C (λ(W:ab) (aF:Below V.heap.size V W)=>oM t.p (f.next aF) hk);unfold aY at aZ;rw[x] at aZ;have a5:ae<V.heap.size:=by rw[<-x];exact f.top.lt
  have ay:bX<V.heap.size:=by rw[<-aT];exact(f.task B).lt
  have bC:ao<V.heap.size:=by rw[<-ac];exact(f.ax aV).lt
  have aR:ae≠V.heap.size:=by omega
  have a9:bX≠V.heap.size:=by omega
  have aD:ao≠V.heap.size:=by omega
  generalize bg:tT s i t=st;unfold tT at bg;have a6:=C bg;clear H hk y h f d x am A o B aT aV ac bf;go_enter func10,ntmps10;go_upto_region 1 with fail;rw[bb.out];go_wp2_with fail;apply u.mono;rintro e aP ⟨rfl,q⟩;obtain rfl:=q.symm;go_upto_region 6 with fail;go_region_held3 (λW'=>W'.cell? ⟨ae,107,U⟩=R (af (R ⟨br,0,U⟩))∧W'.cell? ⟨bX,4,U⟩=R (I J t.p)∧W'.cell? ⟨bX,5,U⟩=R (af (R ⟨ao,0,U⟩))∧W'.cell? ⟨ao,0,U⟩=R (I J t.g)∧W'.cell? ⟨bX,6,U⟩=R (I J t.nice)∧W'.cell? ⟨bX,7,U⟩=R (I ah t.w)∧W'.cell? ⟨bX,8,U⟩=R (I ah t.mask)) ((refine⟨?_,?_,?_,?_,?_,?_,?_⟩)<;>(repeat(first|(with_reducible assumption)|(with_reducible refine b7 ?_)|(with_reducible refine jV (by first|exact aR|exact a9|exact aD) ?_)|(with_reducible refine fo _ (by first|exact a5|exact ay|exact bC) ?_)))) (first|(go_at_call 22;refine(aC _ (by first|exact(Below.refl _ _).drew|exact(bz _ _).drew)).mono ?_;rintro e aP ⟨rfl,q⟩;obtain rfl:=q));all_goals
   generalize an:(V.alloc (av #[I J 1,I J t.p,I J t.g,I J t.nice,I ah t.w,I ah t.mask,I J ns] 36)).drew=a8;have l:=C (show ak a8 V.heap.size #[I J 1,I J t.p,I J t.g,I J t.nice,I ah t.w,I ah t.mask,I J ns] 36 from an▸(ak.new V _ _));have D:Below V.heap.size V a8:=an▸(bz _ _).drew;have r:=C D;obtain⟨m,a_⟩:=aX V.heap.size;have bZ:=C a_;have bG:=C (dm ay D.size);have ad:=C (show w.heap.size≠m by have:=z.out.lt;omega);have bk:=C (show w.heap.size<=m by have:=z.out.lt;omega);have ba:=(zF9 D).cell a0 ay id;have b2:=(zF9 D).cell bw ay id;have bH:=C (aZ a8 D);rw[a_] at l;simp only[a_];cases E:t.on with
   |false=>have F:st=1:=(by rw[<-a6.out,if_neg (by rw[E];decide)]);have a:=z.next r;have bl:=l.cell 0 (v:=I J 1) rfl;have v1:=l.cell 1 (v:=I J t.p) rfl;have bn:=l.cell 2 (v:=I J t.g) rfl;have aA:=l.cell 3 (v:=I J t.nice) rfl;have bp:=l.cell 4 (v:=I ah t.w) rfl;have bq:=l.cell 5 (v:=I ah t.mask) rfl;have ai:=l.cell 6 (v:=I J ns) rfl;rw[E] at ba;have aM:=a.cell 0 (v:=I J 0) rfl;have N:=a.free 0;have aj:=a.cell 1 (v:=I J 0) rfl;have O:=a.free 1;have ap:=a.cell 2 (v:=I J 0) rfl;have P:=a.free 2;have aO:=a.cell 3 (v:=I J 0) rfl;have Q:=a.free 3;have aQ:=a.cell 4 (v:=I ah 0) rfl;have X:=a.free 4;have aS:=a.cell 5 (v:=I ah 0) rfl;have Y:=a.free 5;have aU:=a.cell 6 (v:=I J 0) rfl;have Z:=a.free 6;have G:=C a;have K:=C (j.trans (r.mono j.size));subst F;go_wp2_with fail;exact bodyPost_ret (tS (g:=w.heap.size) (T:=36) rfl rfl (((((((G.set 0 (I J 1)).set 1 (I J t.p)).set 2 (I J t.g)).set 3 (I J t.nice)).set 4 (I ah t.w)).set 5 (I ah t.mask)).set 6 (I J ns))) rfl ⟨rfl,((((((K.setCell zK9 _).setCell zK9 _).setCell zK9 _).setCell zK9 _).setCell zK9 _).setCell zK9 _).setCell zK9 _⟩
   |true=>
    rw[E] at ba;go_wp2_with fail;apply bH.mono;rintro e bQ ⟨rfl,M⟩;have a:=(z.next r).next M;have c:=l.next M;have bs:=(zF9 M).cell ba bG id;by_cases aB:s.running t.p=(i:Int);·have bd:(s.running t.p==(i:Int))=true:=(by simp[aB]);have F:st=3:=(by rw[<-a6.out,if_pos E,if_pos aB]);have be:=C c;have G:=C a;have aM:=a.cell 0 (v:=I J 0) rfl;have N:=a.free 0;have aj:=a.cell 1 (v:=I J 0) rfl;have O:=a.free 1;have ap:=a.cell 2 (v:=I J 0) rfl;have P:=a.free 2;have aO:=a.cell 3 (v:=I J 0) rfl;have Q:=a.free 3;have aQ:=a.cell 4 (v:=I ah 0) rfl;have X:=a.free 4;have aS:=a.cell 5 (v:=I ah 0) rfl;have Y:=a.free 5;have aU:=a.cell 6 (v:=I J 0) rfl;have Z:=a.free 6;have bl:=c.cell 0 (v:=I J 1) rfl;have v1:=c.cell 1 (v:=I J t.p) rfl;have bn:=c.cell 2 (v:=I J t.g) rfl;have aA:=c.cell 3 (v:=I J t.nice) rfl;have bp:=c.cell 4 (v:=I ah t.w) rfl;have bq:=c.cell 5 (v:=I ah t.mask) rfl;have ai:=c.cell 6 (v:=I J ns) rfl;have fu:=c.free 0;have ag:w.heap.size≠m:=ad;have bK:m≠w.heap.size:=λe=>ad e.symm;have K:=C (((j.trans (r.mono j.size)).trans (M.mono (cJ j.size r.size))).setCell (p:=⟨m,0,U⟩) bk (I J 3));subst F;go_wp2_with fail;exact bodyPost_ret (tS (g:=w.heap.size) (T:=36) rfl rfl ((((((((G.other ag (i:=0) (I J 3)).set 0 (I J 3)).set 1 (I J t.p)).set 2 (I J t.g)).set 3 (I J t.nice)).set 4 (I ah t.w)).set 5 (I ah t.mask)).set 6 (I J ns))) rfl ⟨rfl,((((((K.setCell zK9 _).setCell zK9 _).setCell zK9 _).setCell zK9 _).setCell zK9 _).setCell zK9 _).setCell zK9 _⟩
    ·have bd:(s.running t.p==(i:Int))=false:=(by simp[aB]);have F:st=2:=(by rw[<-a6.out,if_pos E,if_neg aB]);have be:=C c;have G:=C a;have aM:=a.cell 0 (v:=I J 0) rfl;have N:=a.free 0;have aj:=a.cell 1 (v:=I J 0) rfl;have O:=a.free 1;have ap:=a.cell 2 (v:=I J 0) rfl;have P:=a.free 2;have aO:=a.cell 3 (v:=I J 0) rfl;have Q:=a.free 3;have aQ:=a.cell 4 (v:=I ah 0) rfl;have X:=a.free 4;have aS:=a.cell 5 (v:=I ah 0) rfl;have Y:=a.free 5;have aU:=a.cell 6 (v:=I J 0) rfl;have Z:=a.free 6;have bl:=c.cell 0 (v:=I J 1) rfl;have v1:=c.cell 1 (v:=I J t.p) rfl;have bn:=c.cell 2 (v:=I J t.g) rfl;have aA:=c.cell 3 (v:=I J t.nice) rfl;have bp:=c.cell 4 (v:=I ah t.w) rfl;have bq:=c.cell 5 (v:=I ah t.mask) rfl;have ai:=c.cell 6 (v:=I J ns) rfl;have fu:=c.free 0;have ag:w.heap.size≠m:=ad;have bK:m≠w.heap.size:=λe=>ad e.symm;have K:=C (((j.trans (r.mono j.size)).trans (M.mono (cJ j.size r.size))).setCell (p:=⟨m,0,U⟩) bk (I J 2));subst F;go_wp2_with fail;exact bodyPost_ret (tS (g:=w.heap.size) (T:=36) rfl rfl ((((((((G.other ag (i:=0) (I J 2)).set 0 (I J 2)).set 1 (I J t.p)).set 2 (I J t.g)).set 3 (I J t.nice)).set 4 (I ah t.w)).set 5 (I ah t.mask)).set 6 (I J ns))) rfl ⟨rfl,((((((K.setCell zK9 _).setCell zK9 _).setCell zK9 _).setCell zK9 _).setCell zK9 _).setCell zK9 _).setCell zK9 _⟩
end
variable {aH:Value} {ar:Array Value}
theorem Nd:(prog.info? 39).map (·.size)=R 8:=by kernel_rfl
theorem xx {p:Tmp} {w:ab} {T:Nat} {v0 v2 v3 v4 v5 a b:Value} (h:fn.results=#[.cell p 39]) (c:tmps.getD p undef=af (R ⟨g,0,U⟩)) (d:w.heap[g]?=R (av #[v0,v1,v2,v3,v4,v5,a,b] T (0,0))):(results fn tmps).run au w= .ok (bm #[v0,v1,v2,v3,v4,v5,a,b]) w:=results_cell_row h tmps w g T _ _ _ c d underlying39 rfl Nd
def jm (G:cc):Int:=match G.band with|none=>0|some b=>b.pool
def jn (G:cc):Int:=match G.band with|none=>0|some b=>b.spent
def parentOf (s:aa) (G:cc):Int:=if G.h=bS then-1 else match s.places[(ae.lT s.tree G.h).idx.toNat]? with|some (R u)=>(u:Int)|_=>0
def gd (s:aa) (i:Int):Nat->Int
 |0=>0
 |j+1=>if(s.a1 (j:Int)).nB i=true then bits .or ah (gd s i j) (IntKind.u64.wrap (2^j)) else gd s i j
section
variable {aq w:ab} {S:Nat->Prop} {L:bu} {s:aa} {k:Nat}
theorem aw.parent (H:aw aq S L s w) {h:aG} {y:aG×Int} (a:ae.get s.tree h=R y):Calls au 27 #[aY L.eF,bm #[I J h.idx,I J h.gen]] w λe w'=>e=aK (m_ h y)∧Below w.heap.size w w':=by obtain⟨T,b⟩:=H.tree;exact LS T L.eF s.tree h w b a
theorem Nf (H:aw aq S L s w) {G:cc} (c:s.groups[g]?=R G):Calls au 25 #[c8 (G.band.map λ_=>L.bd g)] w λe w'=>e=aK (I J (jm G))∧w'=w:=by
 cases a:G.band with
 |none=>unfold jm;rw[a];exact GS w
 |some b=>unfold jm;rw[a];exact zU (H.band c a)
theorem Ng (H:aw aq S L s w) {G:cc} (c:s.groups[g]?=R G):Calls au 26 #[c8 (G.band.map λ_=>L.bd g)] w λe w'=>e=aK (I J (jn G))∧w'=w:=by
 cases a:G.band with
 |none=>unfold jn;rw[a];exact GV w
 |some b=>unfold jn;rw[a];exact GU (H.band c a)
theorem Nh (n:Int) (H:aw aq S L s w) (hk:s.Ok k) (m:s.group n=U):Calls au 12 #[aY L.b,I J n] w λe w'=>e=aK (bm #[aE false,I J 0,I ah 0,I J (s.book.groups n),I J 0,I J 0,I J 0,I ah 0])∧Below w.heap.size w w':=by
 obtain⟨V,h⟩:=aX (w.alloc (av #[aE false,I J 0,I ah 0,I J 0,I J 0,I J 0,I J 0,I ah 0] 39));have o:ak V w.heap.size #[aE false,I J 0,I ah 0,I J 0,I J 0,I J 0,I J 0,I ah 0] 39:=h▸ak.new w _ _;have i:=C (show Below w.heap.size w V from h▸bz _ _);have y:=C h;have d:=H.next i;have K:=C d;have p:=C o;have q:=d.xv hk;have j:=C (C3 d n);have M:=C hk;have r:=C (λ(W:ab) (f:Below V.heap.size V W)=>by have t:=kO n (d.next f);rw[aa.mV m] at t;exact t);unfold aY at*;obtain⟨N,l⟩:=aX L.b;have O:=C l;obtain⟨P,u⟩:=aX L.fc;rw[l] at r q⊢;rw[u] at j q;generalize z:s.book.groups n=ns at j⊢;clear H hk h o d l u z m;go_enter func12,ntmps12;go_upto_region 1 with fail;rw[y.out];go_wp2_with fail;apply j.mono;rintro e Q ⟨rfl,A⟩;obtain rfl:=A.symm;go_upto_region 4 with fail;generalize f:V.alloc (av #[aE false,I J 0,I ah 0,I J ns,I J 0,I J 0,I J 0,I ah 0] 39)=W;have a:=p.alloc (av #[aE false,I J 0,I ah 0,I J ns,I J 0,I J 0,I J 0,I ah 0] 39);have c:=ak.new V #[aE false,I J 0,I ah 0,I J ns,I J 0,I J 0,I J 0,I ah 0] 39;rw[f] at a c;obtain⟨B,x⟩:=aX V.heap.size;have R:w.heap.size≠B:=by have:=p.out.lt;omega
 have D:=C (r W (f▸bz _ _));have E:=C (i.trans (show Below w.heap.size V W from f▸(bz _ _).mono i.size));rw[x] at c;simp only[x];have X:=c.cell 0 (v:=aE false) rfl;have v1:=c.cell 1 (v:=I J 0) rfl;have Y:=c.cell 2 (v:=I ah 0) rfl;have Z:=c.cell 3 (v:=I J ns) rfl;have ao:=c.cell 4 (v:=I J 0) rfl;have ac:=c.cell 5 (v:=I J 0) rfl;have ay:=c.cell 6 (v:=I J 0) rfl;have ad:=c.cell 7 (v:=I ah 0) rfl;have aB:=a.cell 0 (v:=aE false) rfl;have az:=a.cell 1 (v:=I J 0) rfl;have aC:=a.cell 2 (v:=I ah 0) rfl;have aF:=a.cell 3 (v:=I J 0) rfl;have af:=a.cell 4 (v:=I J 0) rfl;have ae:=a.cell 5 (v:=I J 0) rfl;have am:=a.cell 6 (v:=I J 0) rfl;have aM:=a.cell 7 (v:=I ah 0) rfl;have aj:=a.free 0;have ap:=a.free 1;have aO:=a.free 2;have aQ:=a.free 3;have aS:=a.free 4;have aU:=a.free 5;have aP:=a.free 6;have aT:=a.free 7;have F:=C a;go_wp2_with fail;apply D.mono;rintro e aV ⟨rfl,G⟩;obtain rfl:=G.symm;go_wp2_with fail;exact bodyPost_ret (xx (g:=w.heap.size) (T:=39) rfl rfl ((((((((F.set 0 (aE false)).set 1 (I J 0)).set 2 (I ah 0)).set 3 (I J ns)).set 4 (I J 0)).set 5 (I J 0)).set 6 (I J 0)).set 7 (I ah 0))) rfl ⟨rfl,(((((((E.setCell zK9 _).setCell zK9 _).setCell zK9 _).setCell zK9 _).setCell zK9 _).setCell zK9 _).setCell zK9 _).setCell zK9 _⟩
theorem Ni (g:Nat) (H:aw aq S L s w) (hk:s.Ok k) {G:cc} (aF:s.group (g:Int)=R G):Calls au 12 #[aY L.b,I J (g:Int)] w λe w'=>e=aK (bm #[aE true,I J (parentOf s G),I ah G.shares,I J (s.book.groups g),I J G.quota,I J (jm G),I J (jn G),I ah (gd s G.h.idx s.c.aR)])∧Below w.heap.size w w':=by
 obtain⟨V,a2⟩:∃V,w.alloc (av #[aE false,I J 0,I ah 0,I J 0,I J 0,I J 0,I J 0,I ah 0] 39)=V:=⟨_,rfl⟩;have cH:ak V w.heap.size #[aE false,I J 0,I ah 0,I J 0,I J 0,I J 0,I J 0,I ah 0] 39:=a2▸ak.new w _ _;have ba:=C (show Below w.heap.size w V from a2▸bz _ _);have ci:=C a2;have ag:=H.next ba.out;have bb:=C ag;have aT:=C cH;have ar:=ag.xv hk;have bG:=C (C3 ag (g:Int));have o:=C hk;obtain⟨_,bH,bj⟩:=aa.hc aF;rw[cd] at bH;have P:=C (bx bH bj);have be:=C (λ(W:ab) (z:Below V.heap.size V W)=>by have cO:=kO (g:Int) (ag.next z);rw[aa.k3 aF,cd] at cO;exact cO);unfold aY at*;obtain⟨am,bK⟩:∃b,L.b=b:=⟨_,rfl⟩;have aV:=C bK;obtain⟨c2,cS⟩:∃b,L.fc=b:=⟨_,rfl⟩;obtain⟨E,bL⟩:∃b,L.gk g=b:=⟨_,rfl⟩;have aZ:=C bL;rw[bK] at be ar⊢;rw[bL] at be;rw[cS] at bG ar;obtain⟨B,cT⟩:∃x,s.book.groups (g:Int)=x:=⟨_,rfl⟩;rw[cT] at bG⊢;obtain⟨al,aN⟩:∃al,(#[aE true,I J (parentOf s G),I ah G.shares,I J B,I J G.quota,I J (jm G),I J (jn G),I ah (gd s G.h.idx s.c.aR)]:Array Value)=al:=⟨_,rfl⟩;rw[aN];have cU:=C aN;clear H hk a2 cH ag bK cS cT aF bH bj bL aN;go_enter func12,ntmps12;go_upto_region 1 with fail;rw[ci.out];go_wp2_with fail;refine bG.out.mono ?_;rintro e c3 ⟨rfl,X⟩;obtain rfl:=X.symm;go_upto_region 4 with fail;obtain⟨W,z⟩:∃W,V.alloc (av #[aE false,I J 0,I ah 0,I J B,I J 0,I J 0,I J 0,I ah 0] 39)=W:=⟨_,rfl⟩;rw[z];have f:=ak.new V #[aE false,I J 0,I ah 0,I J B,I J 0,I J 0,I J 0,I ah 0] 39;rw[z] at f;obtain⟨a,a3⟩:∃x,V.heap.size=x:=⟨_,rfl⟩;have Y:=C a3;have bi:Below V.heap.size V W:=z▸bz _ _;have bc:=C bi;have ee:=C (be.out W bi);have a4:=bb.out.next bi;have c4:E<a:=by rw[<-a3,<-aZ.out];exact(bb.out.ax P.out.1).lt
 have c5:E≠a:=by omega
 rw[a3] at f;simp only[a3];have aM:=C f;obtain⟨_,_,_,bO,iq,ck,_⟩:=a4.dB P.out.1 aZ.out;obtain⟨en,aI⟩:∃x,c8 (G.band.map λ_=>L.bd g)=x:=⟨_,rfl⟩;rw[aI] at ck;have cR:=C (Nf a4.drew P.out.1);have c7:=C (Ng a4.drew P.out.1);rw[aI] at cR c7;have ir:=C a4;have bh:=f.cell 0 (v:=aE false) rfl;have v1:=f.cell 1 (v:=I J 0) rfl;have aj:=f.cell 2 (v:=I ah 0) rfl;have bI:=f.cell 4 (v:=I J 0) rfl;have dc:=f.cell 5 (v:=I J 0) rfl;have df:=f.cell 6 (v:=I J 0) rfl;have b_:=f.free 0;have dj:=f.free 1;have dv:=f.free 2;have bo:=f.free 4;have dw:=f.free 5;have dx:=f.free 6;go_wp2_with fail;refine ee.out.mono ?_;rintro e c9 ⟨rfl,eo⟩;obtain rfl:=eo.symm;go_wp2_with fail;go_region_held3 (λW'=>W'.cell? ⟨E,3,U⟩=R (I ah G.shares)∧W'.cell? ⟨E,4,U⟩=R (I J G.quota)∧W'.cell? ⟨E,5,U⟩=R en) ((refine⟨?_,?_,?_⟩)<;>(repeat(first|(with_reducible assumption)|(with_reducible refine b7 ?_)|(with_reducible refine jV (by with_reducible assumption) ?_)))) (first|(go_at_call 25;refine cR.out.mono ?_;rintro e ew ⟨rfl,bP⟩;obtain rfl:=bP)|(go_at_call 26;refine c7.out.mono ?_;rintro e ew ⟨rfl,bP⟩;obtain rfl:=bP));all_goals
  obtain⟨d,a5⟩:∃d,((((((W.setCell ⟨a,0,U⟩ (aE true)).setCell ⟨a,1,U⟩ (I J (-1))).setCell ⟨a,2,U⟩ (I ah G.shares)).setCell ⟨a,4,U⟩ (I J G.quota)).setCell ⟨a,5,U⟩ (I J (jm G))).setCell ⟨a,6,U⟩ (I J (jn G))).drew=d:=⟨_,rfl⟩;rw[a5];have a6:=C (show ak d a #[aE true,I J (-1),I ah G.shares,I J B,I J G.quota,I J (jm G),I J (jn G),I ah 0] 39 from a5▸((((((aM.out.set 0 _).set 1 _).set 2 _).set 4 _).set 5 _).set 6 _).drew);have bR:Mod (λk=>k=a) W d:=by rw[<-a5];exact(((((((Mod.refl (λk=>k=a) W).setCell (show a=a from rfl) _).setCell (show a=a from rfl) _).setCell (show a=a from rfl) _).setCell (show a=a from rfl) _).setCell (show a=a from rfl) _).setCell (show a=a from rfl) _).drew
  have bf:=C bR;obtain⟨co,dy,A,_⟩:=bb.out.pY bc.out;have bU:¬co a:=λq=>by have:=(dy _ q).1;have:=Y.out;omega
  have ap:=A.out bR bU aM.out.lt;have bg:=C A;have an:=C bU;have iu:=C ap;obtain⟨_,v1,aj,_⟩:=ap.dB P.out.1 aZ.out;have a8:=ap.top.cell 5 jX;unfold aY at a8;obtain⟨dF,bY⟩:∃x,L.eF=x:=⟨_,rfl⟩;rw[aV.out,bY] at a8;obtain⟨y,bZ⟩:=gP.1 (o.out.there g G P.out.1 P.out.2).1;have dL:=C bZ;have aB:=C (λ(eH:ab) (eI:Below d.heap.size d eH)=>(ap.next eI).parent bZ);unfold aY at aB;rw[bY] at aB;have az:am<d.heap.size:=by rw[<-aV.out];exact ap.top.lt
  have D:E<d.heap.size:=by rw[<-aZ.out];exact(ap.ax P.out.1).lt
  have dQ:am≠d.heap.size:=by omega
  have ce:E≠d.heap.size:=by omega
  clear a5 bR dy A bU ap bY bZ;by_cases bk:G.h=bS
  ·have bC:m_ G.h y=bD #[bm #[I J 0,I J 0],I J 12]:=(by unfold m_;rw[if_pos bk]);rw[bC] at aB;have b2:=C (show parentOf s G=-1 by unfold parentOf;rw[if_pos bk]);clear bC bk;go_wp2_with fail;go_region_held3 (λW'=>W'.cell? ⟨am,5,U⟩=R (af (R ⟨dF,0,U⟩))∧W'.cell? ⟨E,1,U⟩=R (I J G.h.idx)∧W'.cell? ⟨E,2,U⟩=R (I J G.h.gen)) ((refine⟨?_,?_,?_⟩)<;>(repeat(first|(with_reducible assumption)|(with_reducible refine b7 ?_)|(with_reducible refine jV (by first|exact dQ|exact ce|exact bQ|exact bs) ?_)|(with_reducible refine fo _ (by first|exact az|exact D|exact bl|exact bn) ?_)))) (first
    |(
     go_at_call 27;with_reducible refine(aB.out d.drew ((Below.refl _ _).drew)).mono ?_;rintro e r ⟨rfl,Z⟩
     have m:Below d.heap.size d r:=(Below.refl _ _).drew.trans Z;have b9:=(Mod.below (S:=λ_=>False) m).cell a8 az id;have bv:=(Mod.below (S:=λ_=>False) m).cell v1 D id;have a7:=(Mod.below (S:=λ_=>False) m).cell aj D id;have bl:=dm az m.size;have bn:=dm D m.size;have bQ:=o_ bl;have bs:=o_ bn;have F:=C m)|(
     go_at_call 27;with_reducible refine(aB.out _ (bz d (av #[I J 0,I J 0] 77)).drew).mono ?_;rintro e r ⟨rfl,Z⟩
     have m:Below d.heap.size d r:=(bz d (av #[I J 0,I J 0] 77)).drew.trans (Z.mono (by simp));have b9:=(Mod.below (S:=λ_=>False) m).cell a8 az id;have bv:=(Mod.below (S:=λ_=>False) m).cell v1 D id;have a7:=(Mod.below (S:=λ_=>False) m).cell aj D id;have K:=(ak.new d #[I J 0,I J 0] 77).drew.next Z;have eL:=K.cell 0 (v:=I J 0) rfl;have cs:=K.cell 1 (v:=I J 0) rfl;have eT:=K.free 0;have eU:=K.free 1;have F:=C m;have cb:=C K))
   all_goals
    first|(obtain⟨n,t⟩:∃n,r.alloc (av #[I J 0,I J 0] 77)=n:=⟨_,rfl⟩;rw[t];have aC:Below d.heap.size d n:=t▸F.out.alloc F.out.size _;have ao:ak n r.heap.size #[I J 0,I J 0] 77:=t▸ak.new _ _ _;obtain⟨ac,M⟩:∃x,r.heap.size=x:=⟨_,rfl⟩;have cf:a<ac:=(by have:=F.out.size;have:=a6.out.lt;omega);rw[M] at ao;simp only[M])|(obtain⟨n,t⟩:∃n,(r.setCell ⟨d.heap.size,0,U⟩ (I J 0)).setCell ⟨d.heap.size,1,U⟩ (I J 0)=n:=⟨_,rfl⟩;rw[t];have aC:Below d.heap.size d n:=t▸(F.out.setCell (p:=⟨d.heap.size,0,U⟩) (bM _) _).setCell (p:=⟨d.heap.size,1,U⟩) (bM _) _;have ao:ak n d.heap.size #[I J 0,I J 0] 77:=t▸((cb.out.set 0 _).set 1 _);obtain⟨ac,M⟩:∃x,d.heap.size=x:=⟨_,rfl⟩;have cf:a<ac:=(by have:=a6.out.lt;omega);rw[M] at ao;simp only[M])
    have aA:=C (Mod.below (S:=λk=>k=a) aC);have cg:=C (show ak n a #[aE true,I J (parentOf s G),I ah G.shares,I J B,I J G.quota,I J (jm G),I J (jn G),I ah 0] 39 from by rw[b2.out];exact a6.out.next aC);have ch:=bg.out.out (bf.out.trans aA.out (λi _ q=>q)) an.out aM.out.lt;obtain⟨cv,eY,cj,_,bp⟩:=ch.iJ o.out.lens (p:=0) (by have:=o.out.aR;omega);rw[aV.out] at bp;have cn:=C cj;obtain⟨N,aO⟩:∃x,s.c.aR=x:=⟨_,rfl⟩;rw[aO] at bp;have aQ:=C aO;have b5:=o.out.aR;rw[aO] at b5;go_wp2_with fail;go_loopw [81] (λu wr=>∃j:Nat,j<=N∧u=I J (j:Int)∧Mod (λk=>k=a) W wr∧ak wr a #[aE true,I J (parentOf s G),I ah G.shares,I J B,I J G.quota,I J (jm G),I J (jn G),I ah (gd s G.h.idx j)] 39) (λu _=>N-(intOf u).toNat);case atStart=>exact⟨0,by omega,rfl,bf.out.trans aA.out (λi _ q=>q),cg.out⟩
    case round=>
     obtain⟨j,bA,rfl,ay,f⟩:=hrel;have bq:=C ay;have ai:=C f;have z:=bg.out.out ay an.out aM.out.lt;by_cases br:j<N;·obtain⟨x,aS⟩:∃x,s.hiers[j]?=R x:=⟨_,b6 (by rw[o.out.hlen,aQ.out];exact br)⟩;obtain⟨cp,_⟩:=z.fN o.out.lens (p:=j) (by rw[aQ.out];exact br) cn.out;obtain⟨T,aF⟩:=z.a1 aS;have O:=C (A3 T (L.hk j) x G.h.idx wr aF (o.out.a1 j x aS).1);obtain⟨_,v1,_⟩:=z.dB P.out.1 aZ.out;have e2:=f.cell 7 (v:=I ah (gd s G.h.idx j)) rfl;have e3:=f.free 7;have a0:=C (aa.za aS);obtain⟨fl,bB⟩:∃x,L.hk j=x:=⟨_,rfl⟩;rw[bB] at cp O;have bJ:(j:Int)<(N:Int):=(by omega);have fy:(0:Int)<=(j:Int):=(by omega);have fz:(j:Int).toNat=j:=(by omega);have fA:(j:Int)<64:=(by omega);have fB:j<64:=(by omega);cases ad:x.nB G.h.idx with
      |false=>
       rw[ad] at O;have aU:=C (show gd s G.h.idx (j+1)=gd s G.h.idx j by rw[gd,a0.out,ad,if_neg (by decide)]);go_wp2_with fail;refine O.out.mono ?_;rintro e bX ⟨rfl,aP⟩;obtain rfl:=aP.symm;go_wp2_with fail;go_roundw;case rel=>exact⟨j+1,by omega,by go_num,bq.out,by rw[aU.out];exact ai.out⟩
       case measure=>simp[intOf];omega
      |true=>
       rw[ad] at O;have aU:=C (show gd s G.h.idx (j+1)=bits .or ah (gd s G.h.idx j) (IntKind.u64.wrap (2^j)) by rw[gd,a0.out,ad,if_pos rfl]);go_wp2_with fail;refine O.out.mono ?_;rintro e bX ⟨rfl,aP⟩;obtain rfl:=aP.symm;go_wp2_with fail;go_roundw;case rel=>exact⟨j+1,by omega,by go_num,bq.out.setCell (show a=a from rfl) _,by rw[aU.out];exact ai.out.set 7 _⟩
       case measure=>simp[intOf];omega
     ·obtain rfl:j=N:=by omega
      have l:ak wr w.heap.size #[aE false,I J 0,I ah 0,I J 0,I J 0,I J 0,I J 0,I ah 0] 39:=(aT.out.next bc.out).mod ay (λe=>by have A:=aT.out.lt;have X:=Y.out;omega);have cr:=C l;have cu:=C (show Mod (λ_=>False) w wr from(((Mod.below (S:=λ_=>False) ba.out).trans (Mod.below (S:=λ_=>False) bc.out) (λi _ q=>q))).trans ay (λi cB q=>by have A:=ba.out.size;have X:=Y.out;omega));have cy:a≠w.heap.size:=(by have A:=aT.out.lt;have X:=Y.out;omega);have fC:w.heap.size≠a:=λe=>cy e.symm;have bh:=f.cell 0 (v:=aE true) rfl;have v1:=f.cell 1 (v:=I J (parentOf s G)) rfl;have aj:=f.cell 2 (v:=I ah G.shares) rfl;have fO:=f.cell 3 (v:=I J B) rfl;have bI:=f.cell 4 (v:=I J G.quota) rfl;have dc:=f.cell 5 (v:=I J (jm G)) rfl;have df:=f.cell 6 (v:=I J (jn G)) rfl;have bF:=f.cell 7 (v:=I ah (gd s G.h.idx j)) rfl;have aL:=l.cell 0 (v:=aE false) rfl;have b_:=l.free 0;have fU:=l.cell 1 (v:=I J 0) rfl;have dj:=l.free 1;have fV:=l.cell 2 (v:=I ah 0) rfl;have dv:=l.free 2;have dA:=l.cell 3 (v:=I J 0) rfl;have f_:=l.free 3;have gq:=l.cell 4 (v:=I J 0) rfl;have bo:=l.free 4;have gr:=l.cell 5 (v:=I J 0) rfl;have dw:=l.free 5;have b4:=l.cell 6 (v:=I J 0) rfl;have dx:=l.free 6;have gB:=l.cell 7 (v:=I ah 0) rfl;have gN:=l.free 7;go_wp2_with fail;refine bodyPost_ret (xx (g:=w.heap.size) (T:=39) rfl rfl ((((((((cr.out.set 0 (aE true)).set 1 (I J (parentOf s G))).set 2 (I ah G.shares)).set 3 (I J B)).set 4 (I J G.quota)).set 5 (I J (jm G))).set 6 (I J (jn G))).set 7 (I ah (gd s G.h.idx j)))) rfl ?_;rw[<-cU.out,aQ.out];exact⟨rfl,((((((((cu.out.fw (bM _) _).fw (bM _) _).fw (bM _) _).fw (bM _) _).fw (bM _) _).fw (bM _) _).fw (bM _) _).fw (bM _) _).toBelow⟩
  ·have bC:m_ G.h y=bD #[bm #[I J y.1.idx,I J y.1.gen],I J 0]:=(by unfold m_;rw[if_neg bk]);rw[bC] at aB;have dR:=C bk;go_wp2_with fail;go_region_held3 (λW'=>W'.cell? ⟨am,5,U⟩=R (af (R ⟨dF,0,U⟩))∧W'.cell? ⟨E,1,U⟩=R (I J G.h.idx)∧W'.cell? ⟨E,2,U⟩=R (I J G.h.gen)) ((refine⟨?_,?_,?_⟩)<;>(repeat(first|(with_reducible assumption)|(with_reducible refine b7 ?_)|(with_reducible refine jV (by first|exact dQ|exact ce|exact bQ|exact bs) ?_)|(with_reducible refine fo _ (by first|exact az|exact D|exact bl|exact bn) ?_)))) (first
    |(
     go_at_call 27;with_reducible refine(aB.out d.drew ((Below.refl _ _).drew)).mono ?_;rintro e r ⟨rfl,Z⟩
     have m:Below d.heap.size d r:=(Below.refl _ _).drew.trans Z;have b9:=(Mod.below (S:=λ_=>False) m).cell a8 az id;have bv:=(Mod.below (S:=λ_=>False) m).cell v1 D id;have a7:=(Mod.below (S:=λ_=>False) m).cell aj D id;have bl:=dm az m.size;have bn:=dm D m.size;have bQ:=o_ bl;have bs:=o_ bn;have F:=C m)|(
     go_at_call 27;with_reducible refine(aB.out _ (bz d (av #[I J 0,I J 0] 77)).drew).mono ?_;rintro e r ⟨rfl,Z⟩
     have m:Below d.heap.size d r:=(bz d (av #[I J 0,I J 0] 77)).drew.trans (Z.mono (by simp));have b9:=(Mod.below (S:=λ_=>False) m).cell a8 az id;have bv:=(Mod.below (S:=λ_=>False) m).cell v1 D id;have a7:=(Mod.below (S:=λ_=>False) m).cell aj D id;have K:=(ak.new d #[I J 0,I J 0] 77).drew.next Z;have eL:=K.cell 0 (v:=I J 0) rfl;have cs:=K.cell 1 (v:=I J 0) rfl;have eT:=K.free 0;have eU:=K.free 1;have F:=C m;have cb:=C K))
   all_goals
    first|(obtain⟨n,t⟩:∃n,r.alloc (av #[I J y.1.idx,I J y.1.gen] 77)=n:=⟨_,rfl⟩;rw[t];have aC:Below d.heap.size d n:=t▸F.out.alloc F.out.size _;have ao:ak n r.heap.size #[I J y.1.idx,I J y.1.gen] 77:=t▸ak.new _ _ _;obtain⟨ac,M⟩:∃x,r.heap.size=x:=⟨_,rfl⟩;have cf:a<ac:=(by have:=F.out.size;have:=a6.out.lt;omega);rw[M] at ao;simp only[M])|(obtain⟨n,t⟩:∃n,(r.setCell ⟨d.heap.size,0,U⟩ (I J y.1.idx)).setCell ⟨d.heap.size,1,U⟩ (I J y.1.gen)=n:=⟨_,rfl⟩;rw[t];have aC:Below d.heap.size d n:=t▸(F.out.setCell (p:=⟨d.heap.size,0,U⟩) (bM _) _).setCell (p:=⟨d.heap.size,1,U⟩) (bM _) _;have ao:ak n d.heap.size #[I J y.1.idx,I J y.1.gen] 77:=t▸((cb.out.set 0 _).set 1 _);obtain⟨ac,M⟩:∃x,d.heap.size=x:=⟨_,rfl⟩;have cf:a<ac:=(by have:=a6.out.lt;omega);rw[M] at ao;simp only[M])
    obtain⟨db,bN,_⟩:=o.out.tree.A5 dL.out dR.out;obtain⟨u,hi,a9,hj,bu⟩:=o.out.get y.1 (by rw[bN];rfl);have a_:=(o.out.there u hi a9 hj).2;rw[bu] at a_;have b2:=C (show parentOf s G=(u:Int) by unfold parentOf ae.lT;rw[if_neg dR.out,dL.out];dsimp only;rw[a_]);have bw:=(bg.out.out bf.out an.out aM.out.lt).next aC;have hG:=C (Mod.below (S:=λk=>k=a) aC);have cE:=C (a6.out.next aC);obtain⟨Q,b8⟩:=dW (show 0<=y.1.idx from by obtain⟨iL,dX,iM,hH⟩:=o.out.place _ _ a_;rw[a9] at dX;cases dX;rw[bu] at hH;omega);have iN:Q<32:=(by have bw:=(bE.1 a_).1;rw[b8,o.out.eB,cd] at bw;exact bw);rw[b8,cd] at a_;have c0:=bw.top.cell (9+Q) (pM o.out.eB a_);obtain⟨aD,cq⟩:∃x,L.gk u=x:=⟨_,rfl⟩;have bT:=(bw.dB a9 cq).1;have dg:n.cell? ⟨am,9+Q,U⟩=R (af (R ⟨aD,0,U⟩)):=(by rw[<-cq,<-aV.out];exact c0);rw[b8] at ao;have jk:=ao.cell 0 (v:=I J (Q:Int)) rfl;have aH:=cE.out.cell 1 (v:=I J (-1)) rfl;have jl:=cE.out.free 1;have jy:(Q:Int)<32:=(by omega);have dl:(Q:Int).toNat=Q:=(by omega);have j3:(0:Int)<=(Q:Int):=(by omega);have j4:am≠a:=(by have A:=bb.out.top.lt;have X:=Y.out;rw[aV.out] at A;omega);have bW:aD≠a:=(by have A:=(bb.out.ax a9).lt;have X:=Y.out;rw[cq] at A;omega);have j5:ac≠a:=(by omega);go_wp2_with fail;go_region_held3 (λW'=>W'.cell? ⟨ac,0,U⟩=R (I J (Q:Int))∧W'.cell? ⟨am,9+Q,U⟩=R (af (R ⟨aD,0,U⟩))∧W'.cell? ⟨aD,0,U⟩=R (I J (u:Int))) ((refine⟨?_,?_,?_⟩)<;>(repeat(first|(with_reducible assumption)|(with_reducible refine b7 ?_)|(with_reducible refine jV (by with_reducible assumption) ?_)))) (fail);all_goals
     have aA:=C (show Mod (λk=>k=a) d (n.setCell ⟨a,1,U⟩ (I J (u:Int))).drew from(hG.out.setCell (show a=a from rfl) _).drew);have cg:=C (show ak (n.setCell ⟨a,1,U⟩ (I J (u:Int))).drew a #[aE true,I J (parentOf s G),I ah G.shares,I J B,I J G.quota,I J (jm G),I J (jn G),I ah 0] 39 from by rw[b2.out];exact(cE.out.set 1 _).drew);have ch:=bg.out.out (bf.out.trans aA.out (λi _ q=>q)) an.out aM.out.lt;obtain⟨cv,eY,cj,_,bp⟩:=ch.iJ o.out.lens (p:=0) (by have:=o.out.aR;omega);rw[aV.out] at bp;have cn:=C cj;obtain⟨N,aO⟩:∃x,s.c.aR=x:=⟨_,rfl⟩;rw[aO] at bp;have aQ:=C aO;have b5:=o.out.aR;rw[aO] at b5;go_wp2_with fail;go_loopw [81] (λu wr=>∃j:Nat,j<=N∧u=I J (j:Int)∧Mod (λk=>k=a) W wr∧ak wr a #[aE true,I J (parentOf s G),I ah G.shares,I J B,I J G.quota,I J (jm G),I J (jn G),I ah (gd s G.h.idx j)] 39) (λu _=>N-(intOf u).toNat);case atStart=>exact⟨0,by omega,rfl,bf.out.trans aA.out (λi _ q=>q),cg.out⟩
     case round=>
      obtain⟨j,bA,rfl,ay,f⟩:=hrel;have bq:=C ay;have ai:=C f;have z:=bg.out.out ay an.out aM.out.lt;by_cases br:j<N;·obtain⟨x,aS⟩:∃x,s.hiers[j]?=R x:=⟨_,b6 (by rw[o.out.hlen,aQ.out];exact br)⟩;obtain⟨cp,_⟩:=z.fN o.out.lens (p:=j) (by rw[aQ.out];exact br) cn.out;obtain⟨T,aF⟩:=z.a1 aS;have O:=C (A3 T (L.hk j) x G.h.idx wr aF (o.out.a1 j x aS).1);obtain⟨_,v1,_⟩:=z.dB P.out.1 aZ.out;have e2:=f.cell 7 (v:=I ah (gd s G.h.idx j)) rfl;have e3:=f.free 7;have a0:=C (aa.za aS);obtain⟨fl,bB⟩:∃x,L.hk j=x:=⟨_,rfl⟩;rw[bB] at cp O;have bJ:(j:Int)<(N:Int):=(by omega);have fy:(0:Int)<=(j:Int):=(by omega);have fz:(j:Int).toNat=j:=(by omega);have fA:(j:Int)<64:=(by omega);have fB:j<64:=(by omega);cases ad:x.nB G.h.idx with
       |false=>
        rw[ad] at O;have aU:=C (show gd s G.h.idx (j+1)=gd s G.h.idx j by rw[gd,a0.out,ad,if_neg (by decide)]);go_wp2_with fail;refine O.out.mono ?_;rintro e bX ⟨rfl,aP⟩;obtain rfl:=aP.symm;go_wp2_with fail;go_roundw;case rel=>exact⟨j+1,by omega,by go_num,bq.out,by rw[aU.out];exact ai.out⟩
        case measure=>simp[intOf];omega
       |true=>
        rw[ad] at O;have aU:=C (show gd s G.h.idx (j+1)=bits .or ah (gd s G.h.idx j) (IntKind.u64.wrap (2^j)) by rw[gd,a0.out,ad,if_pos rfl]);go_wp2_with fail;refine O.out.mono ?_;rintro e bX ⟨rfl,aP⟩;obtain rfl:=aP.symm;go_wp2_with fail;go_roundw;case rel=>exact⟨j+1,by omega,by go_num,bq.out.setCell (show a=a from rfl) _,by rw[aU.out];exact ai.out.set 7 _⟩
        case measure=>simp[intOf];omega
      ·obtain rfl:j=N:=by omega
       have l:ak wr w.heap.size #[aE false,I J 0,I ah 0,I J 0,I J 0,I J 0,I J 0,I ah 0] 39:=(aT.out.next bc.out).mod ay (λe=>by have A:=aT.out.lt;have X:=Y.out;omega);have cr:=C l;have cu:=C (show Mod (λ_=>False) w wr from(((Mod.below (S:=λ_=>False) ba.out).trans (Mod.below (S:=λ_=>False) bc.out) (λi _ q=>q))).trans ay (λi cB q=>by have A:=ba.out.size;have X:=Y.out;omega));have cy:a≠w.heap.size:=(by have A:=aT.out.lt;have X:=Y.out;omega);have fC:w.heap.size≠a:=λe=>cy e.symm;have bh:=f.cell 0 (v:=aE true) rfl;have v1:=f.cell 1 (v:=I J (parentOf s G)) rfl;have aj:=f.cell 2 (v:=I ah G.shares) rfl;have fO:=f.cell 3 (v:=I J B) rfl;have bI:=f.cell 4 (v:=I J G.quota) rfl;have dc:=f.cell 5 (v:=I J (jm G)) rfl;have df:=f.cell 6 (v:=I J (jn G)) rfl;have bF:=f.cell 7 (v:=I ah (gd s G.h.idx j)) rfl;have aL:=l.cell 0 (v:=aE false) rfl;have b_:=l.free 0;have fU:=l.cell 1 (v:=I J 0) rfl;have dj:=l.free 1;have fV:=l.cell 2 (v:=I ah 0) rfl;have dv:=l.free 2;have dA:=l.cell 3 (v:=I J 0) rfl;have f_:=l.free 3;have gq:=l.cell 4 (v:=I J 0) rfl;have bo:=l.free 4;have gr:=l.cell 5 (v:=I J 0) rfl;have dw:=l.free 5;have b4:=l.cell 6 (v:=I J 0) rfl;have dx:=l.free 6;have gB:=l.cell 7 (v:=I ah 0) rfl;have gN:=l.free 7;go_wp2_with fail;refine bodyPost_ret (xx (g:=w.heap.size) (T:=39) rfl rfl ((((((((cr.out.set 0 (aE true)).set 1 (I J (parentOf s G))).set 2 (I ah G.shares)).set 3 (I J B)).set 4 (I J G.quota)).set 5 (I J (jm G))).set 6 (I J (jn G))).set 7 (I ah (gd s G.h.idx j)))) rfl ?_;rw[<-cU.out,aQ.out];exact⟨rfl,((((((((cu.out.fw (bM _) _).fw (bM _) _).fw (bM _) _).fw (bM _) _).fw (bM _) _).fw (bM _) _).fw (bM _) _).fw (bM _) _).toBelow⟩
end
theorem C4 (v0 v1 v2 v3 v4 v5 a b:Value) (w:ab):(Instr.field 39 (bm #[v0,v1,v2,v3,v4,v5,a,b]) 3).run au w= .ok v3 w:=by kernel_rfl
theorem Nj (v0 v1 v2 v3 v4 v5 a b:Value) (w:ab):(Instr.field 39 (bm #[v0,v1,v2,v3,v4,v5,a,b]) 6).run au w= .ok a w:=by kernel_rfl
theorem xy (v0 v1 v2 v3 v4 v5 a:Value) (w:ab):(Instr.field 36 (bm #[v0,v1,v2,v3,v4,v5,a]) 6).run au w= .ok a w:=by kernel_rfl
def xz (s:aa) (n:Int):Bool:=(s.group n).isSome
def xA (s:aa) (n:Int):Int:=match s.group n with|none=>0|some G=>parentOf s G
def xB (s:aa) (n:Int):Nat:=match s.group n with|none=>0|some G=>G.shares
def xC (s:aa) (n:Int):Int:=match s.group n with|none=>0|some G=>G.quota
def xD (s:aa) (n:Int):Int:=match s.group n with|none=>0|some G=>jm G
def tU (s:aa) (n:Int):Int:=match s.group n with|none=>0|some G=>jn G
def xE (s:aa) (n:Int):Int:=match s.group n with|none=>0|some G=>gd s G.h.idx s.c.aR
def nK (s:aa) (n:Int):Array Value:=#[aE (xz s n),I J (xA s n),I ah (xB s n:Int),I J (s.book.groups n),I J (xC s n),I J (xD s n),I J (tU s n),I ah (xE s n)]
theorem xF {d:ab} {L:bu} {s:aa} {k:Nat} (n:Int) (H:aw d S L s w) (hk:s.Ok k):Calls au 12 #[aY L.b,I J n] w λe w'=>e=aK (bm (nK s n))∧Below w.heap.size w w':=by
 cases a:s.group n with
 |none=>have c:=Nh n H hk a;unfold nK xz xA xB xC xD tU xE;rw[a];exact c
 |some G=>obtain⟨f,_,_⟩:=aa.hc a;obtain⟨g,rfl⟩:=dW f;have c:=Ni g H hk a;unfold nK xz xA xB xC xD tU xE;rw[a];exact c
theorem xG {a:ab} {L:bu} {s:aa} {k:Nat} (n:Int) (H:aw a S L s w) (hk:s.Ok k):∃b p g c d e,o0 s n=#[I J b,I J p,I J g,I J c,I ah d,I ah e,I J (s.book.tasks n)]:=by unfold o0;split<;>exact⟨_,_,_,_,_,_,rfl⟩
section
variable {aq w w' W:ab} {S:Nat->Prop} {L:bu} {s:aa} {k:Nat}
def bu.hn (L:bu) (n a:Nat) (v:Value):bu:={L with hk:=λm=>if m=n then a else L.hk m,hv:=v}
def bu.gg (L:bu) (n a:Nat) (v:Value):bu:={L with ck:=λm=>if m=n then a else L.ck m,cv:=v}
def aa.hn (s:aa) (h:ad):aa:={s with hiers:=s.hiers++[h]}
def aa.gg (s:aa) (c:cI):aa:={s with clocks:=s.clocks++[c]}
theorem C5 (f:Nat->Nat) (n b:Nat):(gh (n+1)).map (λm=>R (if m=n then b else f m))=(gh n).map (λm=>R (f m))++[R b]:=by
 rw[nU,h4];congr 1;·refine uf (λm a=>?_);rw[o9] at a;rw[z0 (by omega)]
 ·simp
theorem Nk {a:Nat} {h:ad} (e:s.hiers.length=n):hS (L.hn n a v) (s.hn h)=hS L s++[R a]:=by unfold hS aa.hn bu.hn;dsimp only;rw[eZ,nP,e];exact C5 _ _ _
theorem Nl {a:Nat} {c:cI} (e:s.clocks.length=n):hT (L.gg n a v) (s.gg c)=hT L s++[R a]:=by unfold hT aa.gg bu.gg;dsimp only;rw[eZ,nP,e];exact C5 _ _ _
theorem C6 (a:s.places.length=32) (b:s.at_.length=64) (i:Nat) (v:Value):(cY L s).setIfInBounds (105+i) v=([I J s.c.aR,I J s.c.tick,I J s.c.bI,I J s.c.b4,I ah s.c.hC,aY L.eF,aY L.km,L.tv,L.gv]++s.places.map (λo=>c8 (o.map L.gk))++s.at_.map (I J)++([L.hv,L.cv,aY L.fc].set i v)).toArray:=by unfold cY;rw[rX,nO _ _ (by simp[a,b])];congr 3;simp[a,b]
theorem Nn (a:s.places.length=32) (b:s.at_.length=64) (n c:Nat) (v:Value) (h:ad):(cY L s).setIfInBounds 105 v=cY (L.hn n c v) (s.hn h):=C6 a b 0 v
theorem No (a:s.places.length=32) (b:s.at_.length=64) (n c:Nat) (v:Value) (h:cI):(cY L s).setIfInBounds 106 v=cY (L.gg n c v) (s.gg h):=C6 a b 1 v
theorem aw.Np (H:aw aq S L s w) (e:L.hv.ownBlock=R g):(S g∨aq.heap.size<=g)∧g<w.heap.size∧g≠L.b:=by obtain⟨d,f,H⟩:=H;have a:=(H.part .fY).2 g e;refine⟨H.own g ((H.part .fY).1.lt g e).2 (by rw[a];simp),((H.part .fY).1.lt g e).2,λx=>?_⟩;have c:=(H.part .top).2;rw[<-x,a] at c;cases c
theorem aw.Nq (H:aw aq S L s w) (e:L.cv.ownBlock=R g):(S g∨aq.heap.size<=g)∧g<w.heap.size∧g≠L.b:=by obtain⟨d,f,H⟩:=H;have a:=(H.part .gm).2 g e;refine⟨H.own g ((H.part .gm).1.lt g e).2 (by rw[a];simp),((H.part .gm).1.lt g e).2,λx=>?_⟩;have c:=(H.part .top).2;rw[<-x,a] at c;cases c
theorem aw.hn (H:aw aq S L s w) {n f:Nat} (o:s.hiers.length=n) {h:ad} {v:Value} {T:Nat->Prop} (z:cQ w' T f h) (A:∀k,T k->w.heap.size<=k) (u:Mod (λk=>k=L.b∨L.hv.ownBlock=R k) w w') (B:Own dr w' 0 90 v (n+1) (hS L s++[R f])) (hv:∀g,v.ownBlock=R g->L.hv.ownBlock=R g∨(w.heap.size<=g∧¬T g)) (C:ak w' L.b (cY (L.hn n f v) (s.hn h)) 72):aw aq S (L.hn n f v) (s.hn h) w':=by
 classical
 obtain⟨x,j,H⟩:=H;have M:=x.size;have p:=(H.part .top).2;have q:∀g,L.hv.ownBlock=R g->j g= .fY:=(H.part .fY).2;have D:∀g,L.hv.ownBlock=R g->g<w.heap.size:=λg e=>((H.part .fY).1.lt g e).2;refine⟨?_,λk=>if k<w.heap.size then j k else if T k then .a1 n else .fY,?_,?_⟩
 ·refine x.trans u (λi E a=>?_);have F:j i≠ .no:=by
   rcases a with rfl|a;·rw[p];simp
   ·rw[q i a];simp
  rcases H.own i (by omega) F with g|g;·exact g
  ·exact absurd E (by omega)
 ·intro a;have c:∀r,r≠ .top->r≠ .fY->fZ w' (λk=>(if k<w.heap.size then j k else if T k then Part.a1 n else Part.fY)=r) L s r:=by
   intro r G l;refine(H.part r).frame u ?_ ?_
   ·rintro k e (rfl|a);·exact G (e.symm.trans p)
    ·exact l (e.symm.trans (q k a))
   ·intro k y e;rw[aj y];exact e
  cases a with
  |no=>trivial
  |top=>exact⟨C,by show(if L.b<w.heap.size then j L.b else _)=_;rw[aj (H.part .top).1.lt];exact p⟩
  |fY=>
   show dJ _ _ _ v (hS _ _);rw[Nk o];refine⟨by rw[show(hS L s++[R f]).length=n+1 by rw[eZ,rh,o];rfl];exact B,λg e=>?_⟩;rcases hv g e with a|⟨a,I⟩;·rw[aj (D g a)];exact q g a
   ·rw[z0 (by omega),z0 I]
  |a1 m=>
   intro t d;by_cases e:m=n;·subst e;have:t=h:=(by unfold aa.hn at d;rw[gC (by omega),o,k5] at d;exact(Option.some.inj d).symm);subst this;show cQ w' _ (if m=m then f else L.hk m) _;rw[aj rfl];exact z.mono (λk _ a=>by rw[z0 (by have:=A k a;omega),aj a])
   ·have J:s.hiers[m]?=R t:=by
     unfold aa.hn at d;dsimp only at d;by_cases K:m<s.hiers.length;·rwa[iR K] at d
     ·rw[ho (by rw[eZ,nP];omega)] at d;cases d
    have:=c (.a1 m) (by simp) (by simp) t J;show cQ w' _ (if m=n then f else L.hk m) _;rw[z0 e];exact this
  |task m=>exact c (.task m) (by simp) (by simp)
  |eX=>exact c .eX (by simp) (by simp)
  |fx=>exact c .fx (by simp) (by simp)
  |gm=>exact c .gm (by simp) (by simp)
  |tree=>exact c .tree (by simp) (by simp)
  |pool=>exact c .pool (by simp) (by simp)
  |book=>exact c .book (by simp) (by simp)
  |ax m=>exact c (.ax m) (by simp) (by simp)
  |band m=>exact c (.band m) (by simp) (by simp)
  |line m=>exact c (.line m) (by simp) (by simp)
  |gM m=>exact c (.gM m) (by simp) (by simp)
 ·intro k y e;by_cases l:k<w.heap.size;·rw[aj l] at e;exact H.own k l e
  ·exact .inr (by omega)
theorem aw.gg (H:aw aq S L s w) {n a:Nat} (D:¬S a) (P:a<aq.heap.size) (u:s.clocks.length=n) {c:cI} {v:Value} (E:dt w' a c) (y:Mod (λk=>k=L.b∨L.cv.ownBlock=R k) w w') (F:Own dr w' 0 109 v (n+1) (hT L s++[R a])) (hv:∀g,v.ownBlock=R g->L.cv.ownBlock=R g∨w.heap.size<=g) (G:ak w' L.b (cY (L.gg n a v) (s.gg c)) 72):aw aq (λk=>S k∨k=a) (L.gg n a v) (s.gg c) w':=by
 obtain⟨B,h,H⟩:=H;have Q:=B.size;have p:h a= .no:=by
  by_cases e:h a= .no;·exact e
  ·rcases H.own a (by omega) e with d|d;·exact absurd d D
   ·omega
 have q:=(H.part .top).2;have z:∀g,L.cv.ownBlock=R g->h g= .gm:=(H.part .gm).2;have I:∀g,L.cv.ownBlock=R g->g<w.heap.size:=λg e=>((H.part .gm).1.lt g e).2;have J:L.b≠a:=λe=>by rw[<-e,q] at p;cases p
 have T:=y.size;refine⟨?_,λk=>if k=a then .gM n else if k<w.heap.size then h k else .gm,?_,?_⟩
 ·refine(B.mono (λk _ d=>.inl d)).trans y (λi K d=>?_);have M:h i≠ .no:=by
   rcases d with rfl|d;·rw[q];simp
   ·rw[z i d];simp
  rcases H.own i (by omega) M with g|g;·exact .inl g
  ·exact absurd K (by omega)
 ·intro d;have f:∀r,r≠ .top->r≠ .gm->fZ w' (λk=>(if k=a then Part.gM n else if k<w.heap.size then h k else Part.gm)=r) L s r:=by
   intro r j o;by_cases t:r= .no;·subst t;trivial
   ·refine(H.part r).frame y ?_ ?_
    ·rintro k e (rfl|d);·exact j (e.symm.trans q)
     ·exact o (e.symm.trans (z k d))
    ·intro k C e;have:k≠a:=λx=>by rw[x,p] at e;exact t e.symm
     rw[z0 this,aj C];exact e
  cases d with
  |no=>trivial
  |top=>exact⟨G,by show(if L.b=a then _ else if L.b<w.heap.size then h L.b else _)=_;rw[z0 J,aj (H.part .top).1.lt];exact q⟩
  |gm=>
   show dJ _ _ _ v (hT _ _);rw[Nl u];refine⟨by rw[show(hT L s++[R a]).length=n+1 by rw[eZ,tf,u];rfl];exact F,λg e=>?_⟩;rcases hv g e with d|d
   ·have j:=z g d;have o:g≠a:=λx=>by rw[x,p] at j;cases j
    rw[z0 o,aj (I g d)];exact j
   ·rw[z0 (by omega),z0 (by omega)]
  |gM m=>
   intro A l;by_cases e:m=n;·subst e;have:A=c:=(by unfold aa.gg at l;rw[gC (by omega),u,k5] at l;exact(Option.some.inj l).symm);subst this;show dt w' (if m=m then a else L.ck m) _∧_;rw[aj rfl];exact⟨E,by show(if(if m=m then a else L.ck m)=a then _ else _)=_;rw[aj rfl,aj rfl]⟩
   ·have t:s.clocks[m]?=R A:=by
     unfold aa.gg at l;dsimp only at l;by_cases N:m<s.clocks.length;·rwa[iR N] at l
     ·rw[ho (by rw[eZ,nP];omega)] at l;cases l
    have:=f (.gM m) (by simp) (by simp) A t;have O:(L.gg n a v).ck m=L.ck m:=z0 e;show dt w' ((L.gg n a v).ck m) _∧(if(L.gg n a v).ck m=a then _ else if(L.gg n a v).ck m<w.heap.size then h ((L.gg n a v).ck m) else _)=_;rw[O];exact this
  |task m=>exact f (.task m) (by simp) (by simp)
  |eX=>exact f .eX (by simp) (by simp)
  |fx=>exact f .fx (by simp) (by simp)
  |fY=>exact f .fY (by simp) (by simp)
  |tree=>exact f .tree (by simp) (by simp)
  |pool=>exact f .pool (by simp) (by simp)
  |book=>exact f .book (by simp) (by simp)
  |ax m=>exact f (.ax m) (by simp) (by simp)
  |band m=>exact f (.band m) (by simp) (by simp)
  |line m=>exact f (.line m) (by simp) (by simp)
  |a1 m=>exact f (.a1 m) (by simp) (by simp)
 ·intro k C e;by_cases j:k=a;·exact .inl (.inr j)
  ·rw[z0 j] at e;by_cases o:k<w.heap.size
   ·rw[aj o] at e;rcases H.own k o e with d|d;·exact .inl (.inl d)
    ·exact .inr d
   ·exact .inr (by omega)
end
def aa.tV (c:g_):aa:={aa.new c with hiers:=[],clocks:=[]}
def bu.base (a b c d rb:Nat) (gv:Value):bu:=⟨a,b,c,d,λ_=>0,λ_=>rb,λ_=>0,λ_=>0,λ_=>0,λ_=>0,aA U 0 0,gv,aA U 0 0,aA U 0 0⟩
theorem Nr (a b:Nat) (tk c d:Int) (h e f g rb gb:Nat):((((((((((zeroCells72.setIfInBounds 0 (I J (a:Int))).setIfInBounds 1 (I J tk)).setIfInBounds 2 (I J c)).setIfInBounds 3 (I J d)).setIfInBounds 4 (I ah (b:Int))).setIfInBounds 5 (af (R ⟨e,0,U⟩))).setIfInBounds 107 (af (R ⟨g,0,U⟩))).setIfInBounds 6 (af (R ⟨f,0,U⟩))).setIfInBounds 8 (aA (R ⟨gb,0,U⟩) 1 1)).setIfInBounds 9 (af (R ⟨rb,0,U⟩)))=cY (bu.base h e f g rb (aA (R ⟨gb,0,U⟩) 1 1)) (aa.tV ⟨a,tk,c,d,b⟩):=by kernel_rfl
theorem Ns {d l h i:ab} {c:g_} {a0 o p a q rb gb:Nat} (u:Mod (λ_=>False) w i) (h0:w.heap.size<=a0) (v:cX d (λk=>a0<=k) o lg) (hk:fJ l (λk=>d.heap.size<=k) p fF.new) (x:gL h (λk=>a<k) q 64 an.new) (y:Mod (λk=>k=a) d i) (m3:Mod (λk=>k=a) l i) (z:Mod (λk=>k=a) h i) (M:a0<=d.heap.size) (N:d.heap.size<=l.heap.size) (O:l.heap.size=a) (P:a<h.heap.size) (Q:h.heap.size<=rb) (S:rb<gb) (A:ak i a (cY (bu.base a o q p rb (aA (R ⟨gb,0,U⟩) 1 1)) (aa.tV c)) 72) (C:ak i rb (hg (bu.base a o q p rb (aA (R ⟨gb,0,U⟩) 1 1)) 0 ia) 85) (D:Own dr i 0 65 (aA (R ⟨gb,0,U⟩) 1 1) 1 [R rb]):aw w (λ_=>False) (bu.base a o q p rb (aA (R ⟨gb,0,U⟩) 1 1)) (aa.tV c) i:=by
 obtain⟨f,j⟩:=aX ((λk=>if k<a0 then Part.no else if k<d.heap.size then .tree else if k<a then .book else if k=a then .top else if k<h.heap.size then .pool else if k=rb then .ax 0 else .eX):Nat->Part);have E:∀k,a0<=k->k<d.heap.size->f k= .tree:=λk s m=>by rw[<-j];show(if k<a0 then _ else if k<d.heap.size then _ else _)=_;rw[z0 (by omega),aj m]
 have F:∀k,d.heap.size<=k->k<a->f k= .book:=λk s m=>by rw[<-j];show(if k<a0 then _ else if k<d.heap.size then _ else if k<a then _ else _)=_;rw[z0 (by omega),z0 (by omega),aj m]
 have H:f a= .top:=by rw[<-j];show(if a<a0 then _ else if a<d.heap.size then _ else if a<a then _ else if a=a then _ else _)=_;rw[z0 (by omega),z0 (by omega),z0 (by omega),aj rfl]
 have I:∀k,a<k->k<h.heap.size->f k= .pool:=λk s m=>by rw[<-j];show(if k<a0 then _ else if k<d.heap.size then _ else if k<a then _ else if k=a then _ else if k<h.heap.size then _ else _)=_;rw[z0 (by omega),z0 (by omega),z0 (by omega),z0 (by omega),aj m]
 have J:f rb= .ax 0:=by rw[<-j];show(if rb<a0 then _ else if rb<d.heap.size then _ else if rb<a then _ else if rb=a then _ else if rb<h.heap.size then _ else if rb=rb then _ else _)=_;rw[z0 (by omega),z0 (by omega),z0 (by omega),z0 (by omega),z0 (by omega),aj rfl]
 have K:f gb= .eX:=by rw[<-j];show(if gb<a0 then _ else if gb<d.heap.size then _ else if gb<a then _ else if gb=a then _ else if gb<h.heap.size then _ else if gb=rb then _ else _)=_;rw[z0 (by omega),z0 (by omega),z0 (by omega),z0 (by omega),z0 (by omega),z0 (by omega)]
 have fn:∀k,f k≠ .no->a0<=k:=λk e=>by
  by_cases L:k<a0;·exact absurd (by rw[<-j];show(if k<a0 then _ else _)=_;rw[aj L]) e
  ·omega
 refine⟨u,f,λb=>?_,λk _ e=>.inr (by have:=fn k e;omega)⟩;cases b with
 |no=>trivial
 |top=>exact⟨A,H⟩
 |tree=>exact cX.mono (cX.frame (cX.mono v (T:=λk=>a0<=k∧k<d.heap.size) (λk hk b=>⟨b,hk⟩)) y (λk b e=>by have:=b.2;omega)) (λk _ b=>E k b.1 b.2)
 |pool=>exact gL.mono (gL.frame (gL.mono x (T:=λk=>a<k∧k<h.heap.size) (λk hk b=>⟨b,hk⟩)) z (λk b e=>by have:=b.1;omega)) (λk _ b=>I k b.1 b.2)
 |book=>exact fJ.mono (fJ.mod (fJ.mono hk (T:=λk=>d.heap.size<=k∧k<l.heap.size) (λk hk b=>⟨b,hk⟩)) m3 (λk b e=>by have:=b.2;omega)) (λk _ b=>F k b.1 (by have:=b.2;omega))
 |fx=>exact⟨Own.nil _ _ _,λg e=>by cases e⟩
 |fY=>exact⟨Own.nil _ _ _,λg e=>by cases e⟩
 |gm=>exact⟨Own.nil _ _ _,λg e=>by cases e⟩
 |eX=>exact⟨D,λg e=>by cases e;exact K⟩
 |task n=>exactλt e=>by cases e
 |a1 n=>exactλt e=>by cases e
 |gM n=>exactλt e=>by cases e
 |ax n=>
  intro G e;cases n with
  |zero=>cases e;exact⟨C,J⟩
  |succ n=>cases e
 |band n=>
  intro G B e r;cases n with
  |zero=>cases e;cases r
  |succ n=>cases e
 |line n=>
  intro G B e r;cases n with
  |zero=>cases e;cases r
  |succ n=>cases e
variable {aJ:Bool}
section
def C7:Oper:={dst:=R 77,op:=Op.load 68 (Operand.tmp 76),type:=68,pos:= "sched.go:110",after:=#[{on:=3,ground:=Ground.data}],guard:=U}
attribute [local go_sem] C7
structure g_.Good (c:g_):Prop where
 aR:1<=c.aR∧c.aR<=64
 tick:1<=c.tick∧c.tick<=1000000000
 bI:0<=c.bI∧c.bI<=1099511627776
 b4:0<=c.b4∧c.b4<=1099511627776
 ie:1<=c.hC∧c.hC<=1000000000
def p0 (c:g_):Array Value:=#[I J c.aR,I J c.tick,I J c.bI,I J c.b4,I ah c.hC]
theorem Nu:ij dr 68 90 8:=⟨underlying68,⟨.pointer U,by kernel_rfl,rfl⟩,by decide⟩
theorem Nv:ij dr 69 109 8:=⟨underlying69,⟨.pointer U,by kernel_rfl,rfl⟩,by decide⟩
def aa.jo (c:g_) (j:Nat):aa:={aa.new c with hiers:=gR j (h0 c.b4 c.bI),clocks:=gR j (cI.new c.hC)}
theorem aa.Nw (c:g_) (j:Nat):((aa.jo c j).hn (h0 c.b4 c.bI)).gg (cI.new c.hC)=aa.jo c (j+1):=by unfold aa.jo aa.hn aa.gg;dsimp only;rw[List.replicate_succ',List.replicate_succ']
theorem Nx:mY 39:=enters_of func39 (by kernel_rfl) rfl
theorem tW (n a b:Int) (h:a<=n∧n<=b) (w:ab):Calls au 39 #[I J n,I J a,I J b] w λe w'=>e=aK (aE true)∧w'=w:=by obtain⟨c,d⟩:=h;go_enter func39,ntmps39;go_wp2;go_ret;simp[c,d]
theorem C8 (c:g_) (dF:c.Good) (w:ab):Calls au 18 #[bm (p0 c)] w λe w'=>∃L:bu,e=aK (bD #[aY L.b,I J 0])∧aw w (λ_=>False) L (aa.new c) w':=by
 obtain⟨V,ax⟩:∃V,w.alloc (av (p0 c) 54)=V:=⟨_,rfl⟩;have Y:ak V w.heap.size (p0 c) 54:=ax▸ak.new _ _ _;have a7:Below w.heap.size w V:=ax▸bz _ _;have dL:=C ax;have Z:=C Y;have cb:=C a7;obtain⟨p,D,r,s,y⟩:=c;obtain⟨a4,a5,bC,aR,a9⟩:=dF;dsimp only at a4 a5 bC aR a9;have ao:=C (bx a4 (bx a5 (bx bC (bx aR a9))));have dQ:=Nx;unfold mY at dQ;have ce:=Y.cell 0 (v:=I J (p:Int)) rfl;have k2:=Y.cell 1 (v:=I J D) rfl;have dR:=Y.cell 2 (v:=I J r) rfl;have dX:=Y.cell 3 (v:=I J s) rfl;have ci:=Y.cell 4 (v:=I ah (y:Int)) rfl;have lB:¬((y:Int)<1):=by omega
 have lC:¬((1000000000:Int)<(y:Int)):=by omega
 have lD:=C (Cq V.drew);unfold p0 at*;dsimp only at*;clear ax Y a7 a4 a5 bC aR a9;go_enter func18,ntmps18;go_upto_region 1 with fail;rw[dL.out];go_wp2_with fail;refine(tW _ 1 64 (by have:=ao.out.1;omega) _).mono ?_;rintro e l ⟨rfl,A⟩;obtain rfl:=A.symm;go_wp2_with fail;refine(tW _ 1 1000000000 ao.out.2.1 _).mono ?_;rintro e l ⟨rfl,A⟩;obtain rfl:=A.symm;go_wp2_with fail;refine(tW _ 0 1099511627776 ao.out.2.2.1 _).mono ?_;rintro e l ⟨rfl,A⟩;obtain rfl:=A.symm;go_wp2_with fail;refine(tW _ 0 1099511627776 ao.out.2.2.2.1 _).mono ?_;rintro e l ⟨rfl,A⟩;obtain rfl:=A.symm;go_wp2_with fail;go_region_held3 (λW'=>W'.cell? ⟨w.heap.size,0,U⟩=R (I J (p:Int))∧W'.cell? ⟨w.heap.size,1,U⟩=R (I J D)∧W'.cell? ⟨w.heap.size,2,U⟩=R (I J r)∧W'.cell? ⟨w.heap.size,3,U⟩=R (I J s)∧W'.cell? ⟨w.heap.size,4,U⟩=R (I ah (y:Int))) ((refine⟨?_,?_,?_,?_,?_⟩)<;>(repeat(first|(with_reducible assumption)|(with_reducible refine b7 ?_)|(with_reducible refine fo _ (by first|exact ee) ?_)))) (first|(go_at_call 40;refine(Cq _).mono ?_;rintro e l ⟨aD,rfl,ck,m⟩;have ae:ak l w.heap.size #[I J (p:Int),I J D,I J r,I J s,I ah (y:Int)] 54:=(by first|exact Z.out.next m|exact Z.out.drew.next m);have b0:=ae.cell 0 (v:=I J (p:Int)) rfl;have lE:=ae.cell 1 (v:=I J D) rfl;have l7:=ae.cell 2 (v:=I J r) rfl;have l8:=ae.cell 3 (v:=I J s) rfl;have l9:=ae.cell 4 (v:=I ah (y:Int)) rfl;have en:=C ck;have cf:=C m;have cg:=C ae)|(go_at_call 41;refine(H0 (λ_=>False) _).mono ?_;rintro e H ⟨bG,rfl,eo,bH⟩;have ac:ak H w.heap.size #[I J (p:Int),I J D,I J r,I J s,I ah (y:Int)] 54:=(by first|exact cg.out.next bH|exact cg.out.drew.next bH);have b3:=ac.cell 0 (v:=I J (p:Int)) rfl;have bk:=ac.cell 1 (v:=I J D) rfl;have bd:=ac.cell 2 (v:=I J r) rfl;have am:=ac.cell 3 (v:=I J s) rfl;have ew:=ac.cell 4 (v:=I ah (y:Int)) rfl;have ee:=ac.lt;have co:=C eo;have aV:=C bH;have l_:=C ac));all_goals
  obtain⟨aM,ch⟩:∃aM,((((((zeroCells72.setIfInBounds 0 (I J (p:Int))).setIfInBounds 1 (I J D)).setIfInBounds 2 (I J r)).setIfInBounds 3 (I J s)).setIfInBounds 4 (I ah (y:Int))).setIfInBounds 5 (af (R ⟨aD,0,U⟩))).setIfInBounds 107 (af (R ⟨bG,0,U⟩))=aM:=⟨_,rfl⟩;rw[ch];have bl:=C ch;obtain⟨aj,bn⟩:∃aj,H.alloc (av aM 72)=aj:=⟨_,rfl⟩;rw[bn];have cj:ak aj H.heap.size aM 72:=bn▸ak.new _ _ _;have eH:Below H.heap.size H aj:=bn▸bz _ _;have eI:aj.heap.size=H.heap.size+1:=by rw[<-bn];simp
  obtain⟨d,be⟩:∃x,H.heap.size=x:=⟨_,rfl⟩;rw[be] at cj;simp only[be];have eL:=C be;have cs:=C cj;have cn:=C eH;have eT:=C eI;have eU:=C (Ip aj);go_wp2_with fail;refine eU.out.mono ?_;rintro e bp ⟨aZ,rfl,eY,b5⟩;have bK:=cs.out.next b5;have bA:=bK.cell 6 (v:=af U) (by rw[<-bl.out];kernel_rfl);have e2:=bK.free 6;have e3:=C eY;have cp:=C b5;have fl:=C bK;go_upto_region 11 with fail;obtain⟨K,bq⟩:∃K,bp.setCell ⟨d,6,U⟩ (af (R ⟨aZ,0,U⟩))=K:=⟨_,rfl⟩;rw[bq];have bJ:=C (show ak K d (aM.setIfInBounds 6 (af (R ⟨aZ,0,U⟩))) 72 from bq▸fl.out.set 6 _);have bB:=C (show Mod (λk=>k=d) bp K from bq▸Mod.one _ _ _ _);clear bq bA e2;go_upto_region 12 with fail;obtain⟨z,ap⟩:∃z,K.alloc (av #[I J 0,I J 0,I J 0,I ah 0,I J 0,af U,af U] 85)=z:=⟨_,rfl⟩;rw[ap];have bL:ak z K.heap.size #[I J 0,I J 0,I J 0,I ah 0,I J 0,af U,af U] 85:=ap▸ak.new _ _ _;have ay:ak z d (aM.setIfInBounds 6 (af (R ⟨aZ,0,U⟩))) 72:=ap▸bJ.out.alloc _;have aN:z.heap.size=K.heap.size+1:=by rw[<-ap];simp
  have fy:=C (show Mod (λk=>k=d) bp z from ap▸bB.out.alloc _);obtain⟨B,ai⟩:∃x,K.heap.size=x:=⟨_,rfl⟩;rw[ai] at bL aN;simp only[ai];have fz:=C bL;have fA:=C ay;have fB:=C aN;have cB:=C ai;have ma:=ay.cell 8 (v:=aA U 0 0) (by rw[<-bl.out];kernel_rfl);have mb:=ay.cell 9 (v:=af U) (by rw[<-bl.out];kernel_rfl);have mc:=ay.free 8;have me:=ay.free 9;have mf:=ay.lt;clear ap bL ay aN ai;go_region_held3 (λW'=>True) (trivial) (fail);all_goals
   obtain⟨E,aO⟩:∃E,(((z.setCell ⟨d,8,U⟩ (aA (R ⟨z.heap.size,0,U⟩) 1 1)).setCell ⟨d,9,U⟩ (af (R ⟨B,0,U⟩))).alloc (av #[af (R ⟨B,0,U⟩)] 65)).drew=E:=⟨_,rfl⟩;rw[aO];obtain⟨ad,bi⟩:∃x,z.heap.size=x:=⟨_,rfl⟩;rw[bi] at aO;simp only[bi];have fC:((z.setCell ⟨d,8,U⟩ (aA (R ⟨ad,0,U⟩) 1 1)).setCell ⟨d,9,U⟩ (af (R ⟨B,0,U⟩))).heap.size=ad:=(by simp[bi]);have fO:Mod (λk=>k=d) z E:=aO▸(((nI _ _ _ _ _ _).alloc _).drew);have bX:Mod (λk=>k=d) bp E:=fy.out.trans fO (λi _ a=>a);have bF:=cn.out.size;have mg:=cp.out.size;have d0:=eT.out;have aL:=eL.out;have fU:=aV.out.size;have bP:=cf.out.size;have d1:=bB.out.size;have d2:=cB.out;have d3:=fB.out;have bR:Mod (λk=>k=d) H E:=(((Mod.below (S:=λk=>k=d) cn.out).trans (Mod.below (S:=λk=>k=d) cp.out) (λi _ a=>a))).trans bX (λi _ a=>a);have fV:Mod (λk=>k=d) l E:=(Mod.below (S:=λk=>k=d) (by first|exact aV.out|exact(Below.refl _ _).drew.trans aV.out)).trans bR (λi _ a=>a);have cr:Mod (λ_=>False) V E:=(((Mod.below (S:=λ_=>False) ((Below.refl _ _).drew.trans cf.out)).trans (Mod.below (S:=λ_=>False) (by first|exact aV.out|exact(Below.refl _ _).drew.trans aV.out)) (λi _ a=>a))).trans bR (λi d4 a=>by have aQ:V.heap.size<=l.heap.size:=bP;omega);have a6:ak E d (cY (bu.base d aD aZ bG B (aA (R ⟨ad,0,U⟩) 1 1)) (aa.tV ⟨p,D,r,s,y⟩)) 72:=(by rw[<-Nr,bl.out,<-aO];exact(((fA.out.set 8 _).set 9 _).alloc _).drew);have cu:B≠d:=(by omega);have dA:ak E B (hg (bu.base d aD aZ bG B (aA (R ⟨ad,0,U⟩) 1 1)) 0 ia) 85:=(by rw[<-aO];exact(((fz.out.other cu _).other cu _).alloc _).drew);have a8:Own dr E 0 65 (aA (R ⟨ad,0,U⟩) 1 1) 1 [R B]:=(by rw[<-aO];refine Own.drew ⟨rfl,.inr ⟨ad,1,#[af (R ⟨B,0,U⟩)],rfl,hq _,?_,bM _,by unfold maxLen;omega,rfl,rfl⟩⟩;have aS:=lL ((z.setCell ⟨d,8,U⟩ (aA (R ⟨ad,0,U⟩) 1 1)).setCell ⟨d,9,U⟩ (af (R ⟨B,0,U⟩))) (av #[af (R ⟨B,0,U⟩)] 65);rw[fC] at aS;exact aS);have f_:=Ns (c:=⟨p,D,r,s,y⟩) cr (bM _) en.out (co.out.mono (λk _ a=>a.elim False.elim id)) (e3.out.mono (λk _ a=>by omega)) fV bR bX bP fU aL (by omega) (by omega) (by omega) a6 dA a8;have gq:=C f_;have ce:=(Z.out.mod cr id).cell 0 (v:=I J (p:Int)) rfl;have bU:∃c:g_,(⟨p,D,r,s,y⟩:g_)=c:=⟨_,rfl⟩;obtain⟨c,bU⟩:=bU;have a_:=C bU;have gr:=C (show V.heap.size<=d from cJ bP (by omega));go_wp2_with fail;go_loopw [65] (λu W=>∃j:Nat,j<=p∧u=I J (j:Int)∧∃L:bu,L.b=d∧aw V (λ_=>False) L (aa.jo c j) W) (λu _=>p-(intOf u).toNat);case atStart=>exact⟨0,by omega,rfl,_,rfl,by rw[<-a_.out];exact gq.out⟩
   case round=>
    obtain⟨j,d5,rfl,L,gB,cy⟩:=hrel;have F:=C gB;have aq:=C cy;by_cases d6:j<p
    ·have ci:=(Z.out.mod cy.1 id).cell 4 (v:=I ah (y:Int)) rfl;have gN:=C (Hs y ao.out.2.2.2.2.1 ao.out.2.2.2.2.2 wr);have d7:(j:Int)<(p:Int):=(by omega);have d8:(0:Int)<=(j:Int):=(by omega);have d9:(j:Int).toNat=j:=(by omega);go_wp2_with fail;refine gN.out.mono ?_;rintro e t ⟨rfl,bY,al,bN⟩;obtain⟨cE,hi,aQ,hj⟩:=aq.out.pY al;have b8:=C bY;have hG:=C al;have cq:=C bN;have cH:=C (λk (a:cE k)=>(hi k a).1);have hH:=C hj;have c0:=C aQ;obtain⟨q,bZ⟩:∃x,wr.heap.size=x:=⟨_,rfl⟩;have aU:=C bZ;rw[bZ] at b8;simp only[bZ];have br:=(Z.out.mod aq.out.1 id).next al;have dR:=br.cell 2 (v:=I J r) rfl;have dX:=br.cell 3 (v:=I J s) rfl;obtain⟨cc,ar⟩:=aQ.fk .fY;obtain⟨bj,cO,ba⟩:=dJ.form ar;rw[rh,show(aa.jo c j).hiers.length=j from rZ] at ba;have ag:Own dr t 0 90 L.hv (hS L (aa.jo c j)).length (hS L (aa.jo c j)):=ar.1;rw[rh,show(aa.jo c j).hiers.length=j from rZ,ba] at ag;have bS:=C ag;have aB:=C ba;have M:=C (show(aa.jo c j).places.length=32∧(aa.jo c j).at_.length=64 from⟨rfl,rfl⟩);have c2:=aQ.top.cell 105 ((lv (L:=L) M.out.1 M.out.2 0).trans (show[L.hv,L.cv,aY L.fc][0]?=R L.hv from rfl));rw[F.out,ba] at c2;have bb:=C (show ak t d (cY L (aa.jo c j)) 72 from by rw[<-F.out];exact aQ.top);have c3:=C (Nt s r t.drew);have ca:d<t.heap.size:=bb.out.lt;have pV:w.heap.size<t.heap.size:=br.lt;have aE:=C (show∀a,(aA bj j cO).ownBlock=R a->a<t.heap.size∧a≠d∧a≠w.heap.size fromλa e=>by
      obtain⟨bk,bd,am⟩:=aq.out.Np (by rw[ba];exact e);rw[F.out] at am;have ew:=hG.out.size;have pW:=Z.out.lt;refine⟨by omega,am,λx=>?_⟩;rcases bk with f|f;·exact f
      ·omega)
     have rG:w.heap.size≠d:=(by have aQ:=Z.out.lt;have A:=gr.out;omega);have cS:j<=10000000:=(by have:=ao.out.1;omega);have c4:=C br;go_upto_region 16 with fail;rw[show({dst:=R 77,op:=Op.load 68 (Operand.tmp 76),type:=68,pos:= "sched.go:110",after:=#[{on:=3,ground:=Ground.data}],guard:=U}:Oper)=C7 from rfl];go_region_held3 (λW'=>W'.cell? ⟨w.heap.size,2,U⟩=R (I J r)∧W'.cell? ⟨w.heap.size,3,U⟩=R (I J s)) ((refine⟨?_,?_⟩)<;>(repeat(first|(with_reducible assumption)|(with_reducible refine b7 ?_)|(with_reducible refine jV (by with_reducible assumption) ?_)|(with_reducible refine fo _ ?_ ?_)))) (first|(go_at_call 44;refine c3.out.mono ?_;rintro e l ⟨m,rfl,c5,a0⟩;have bw:=c4.out.drew.next a0;have rH:=bw.cell 2 (v:=I J r) rfl;have rI:=bw.cell 3 (v:=I J s) rfl;have b2:=bb.out.drew.next a0;have bO:=b2.cell 105 ((lv (L:=L) M.out.1 M.out.2 0).trans (show[L.hv,L.cv,aY L.fc][0]?=R L.hv from rfl));rw[aB.out] at bO;have iq:=C ((bS.out.drew.next' a0).alloc (av #[af (R ⟨m,0,U⟩)] 90));have ir:0<=(l.alloc (av #[af (R ⟨m,0,U⟩)] 90)).heap.size:=hq _;have c9:=C (show∀a u,(dr.e (R m))[a]?=R u->(l.alloc (av #[af (R ⟨m,0,U⟩)] 90)).cell? ⟨l.heap.size,a,U⟩=R u fromλa u az=>dE.trans (by rw[<-az];show([af (R ⟨m,0,U⟩)]:List Value).toArray[a]?=_;rw[ff];rfl));have rJ:d<l.heap.size:=b2.lt;have rK:w.heap.size<l.heap.size:=bw.lt;have iu:=C b2;have db:=C bw;have iL:=C c5;have cT:=C a0)|(refine oC Nu (by rfl) _ _ (by rfl) 0 _ j (hS L (aa.jo c j)) (by rfl) iq.out l.heap.size _ (R m) (by rfl) c9.out cS ir ?_;intro rL u cU iM iN;obtain⟨N,O,rfl,rM⟩:=cU.form (Nat.succ_pos _);have bc:=C (show Grow _ u (aA bj j cO) (aA (R ⟨N,0,U⟩) (j+1) O) from Grow.gK iM iN);have aC:=(iu.out.alloc (av #[af (R ⟨m,0,U⟩)] 90)).grow bc.out (λe=>(aE.out d e.symm).2.1 rfl);have bQ:=(db.out.alloc (av #[af (R ⟨m,0,U⟩)] 90)).grow bc.out (λe=>(aE.out w.heap.size e.symm).2.2 rfl);have el:=bQ.cell 2 (v:=I J r) rfl;have em:=bQ.cell 3 (v:=I J s) rfl;have bs:=aC.cell 105 ((lv (L:=L) M.out.1 M.out.2 0).trans (show[L.hv,L.cv,aY L.fc][0]?=R L.hv from rfl));rw[aB.out] at bs;have bT:=aC.free 105;have dg:=C cU;have jk:=C aC;have rN:=C bQ));all_goals
      obtain⟨o,bf⟩:∃o,u.setCell ⟨d,105,U⟩ (aA (R ⟨N,0,U⟩) (j+1) O)=o:=⟨_,rfl⟩;rw[bf];have aH:=cT.out.size;have bF:t.heap.size<=l.heap.size:=aH;have cl:d<t.heap.size:=bb.out.lt;have jl:Mod (λk=>k=L.b∨L.hv.ownBlock=R k) t (l.alloc (av #[af (R ⟨m,0,U⟩)] 90)):=((Mod.below (S:=λk=>k=L.b∨L.hv.ownBlock=R k) ((Below.refl _ _).drew.trans cT.out))).alloc _;have jy:Mod (λk=>k=L.b∨L.hv.ownBlock=R k) t o:=(by rw[<-bf];exact(jl.grow bc.out (λg e=>.inr (by rw[aB.out];exact e))).setCell (.inl F.out.symm) _);have dl:Mod (λk=>k=L.b∨L.hv.ownBlock=R k) l o:=(by rw[<-bf];exact(((Mod.refl _ l).alloc _).grow bc.out (λg e=>.inr (by rw[aB.out];exact e))).setCell (.inl F.out.symm) _);have aI:∀a,(aA (R ⟨N,0,U⟩) (j+1) O).ownBlock=R a->L.hv.ownBlock=R a∨l.heap.size<a:=λa e=>by
       rcases bc.out.loc with f|⟨j3,f,az⟩;·exact .inl (by rw[aB.out,<-f];exact e)
       ·rw[e] at f;cases f;exact .inr (dm (by simp) az)
      have j4:∀a,(aA (R ⟨N,0,U⟩) (j+1) O).ownBlock=R a->¬a=d:=λa e=>by
       rcases aI a e with f|f;·rw[aB.out] at f;exact(aE.out a f).2.1
       ·omega
      have a8:Own dr o 0 90 (aA (R ⟨N,0,U⟩) (j+1) O) (j+1) (hS L (aa.jo c j)++[R m]):=(by rw[<-bf];exact dg.out.mod (Mod.one _ _ _ _) j4);have a6:ak o L.b (cY (L.hn j m (aA (R ⟨N,0,U⟩) (j+1) O)) ((aa.jo c j).hn (h0 c.b4 c.bI))) 72:=(by rw[<-Nn M.out.1 M.out.2 j m (aA (R ⟨N,0,U⟩) (j+1) O) (h0 c.b4 c.bI),F.out,<-bf];exact jk.out.set 105 _);have bW:cQ o (λk=>t.heap.size<=k∧k<l.heap.size) m (h0 c.b4 c.bI):=by
       refine cQ.frame (cQ.mono (show cQ l (λk=>t.heap.size<=k) m (h0 c.b4 c.bI) from by rw[<-a_.out];exact iL.out) (T:=λk=>t.heap.size<=k∧k<l.heap.size) (λk j5 a=>⟨a,j5⟩)) dl ?_;rintro k a (e|e);·rw[F.out] at e;omega
       ·rw[aB.out] at e;have:=(aE.out k e).1;omega
      have P:=c0.out.hn (n:=j) rZ bW (λk a=>a.1) jy a8 (λa e=>(aI a e).elim .inl (λf=>.inr ⟨by omega,λbd=>by omega⟩)) a6;obtain⟨h,cR⟩:∃h,L.hn j m (aA (R ⟨N,0,U⟩) (j+1) O)=h:=⟨_,rfl⟩;obtain⟨G,a2⟩:∃x,(aa.jo c j).hn (h0 c.b4 c.bI)=x:=⟨_,rfl⟩;rw[cR,a2] at P;have kq:=C a2;have aF:=C (show h.b=d by rw[<-cR];exact F.out);have c7:=C P;have aP:=C (show G.places.length=32∧G.at_.length=64 by rw[<-a2];exact⟨rfl,rfl⟩);have b9:G.clocks.length=j:=(by rw[<-a2];exact rZ);have bV:=C b9;obtain⟨rO,bh⟩:=P.fk .gm;obtain⟨dc,df,bg⟩:=dJ.form bh;rw[tf,b9] at bg;have ag:Own dr o 0 109 h.cv (hT h G).length (hT h G):=bh.1;rw[tf,b9,bg] at ag;have an:=C bg;have a1:=C (show∀a,(aA dc j df).ownBlock=R a->a≠d∧a≠q fromλa e=>by
       obtain⟨bk,bd,am⟩:=P.Nq (by rw[bg];exact e);rw[aF.out] at am;refine⟨am,λx=>?_⟩;rcases bk with f|f;·have:=cH.out a f;have A:=aU.out;omega
       ·have A:=aU.out;have b_:=cq.out;omega)
      have eE:=P.top.cell 106 ((lv (L:=h) aP.out.1 aP.out.2 1).trans (show[h.hv,h.cv,aY h.fc][1]?=R h.cv from rfl));rw[aF.out,bg] at eE;have kR:ak o d (cY h G) 72:=(by rw[<-aF.out];exact P.top);have dj:=C kR;have fK:=C (ag.alloc (av #[af (R ⟨q,0,U⟩)] 109));have kS:=C (show∀a u,(dr.e (R q))[a]?=R u->(o.alloc (av #[af (R ⟨q,0,U⟩)] 109)).cell? ⟨o.heap.size,a,U⟩=R u fromλa u az=>dE.trans (by rw[<-az];show([af (R ⟨q,0,U⟩)]:List Value).toArray[a]?=_;rw[ff];rfl));have kT:0<=(o.alloc (av #[af (R ⟨q,0,U⟩)] 109)).heap.size:=hq _;go_upto_region 17 with fail;go_upto_region 18 with((at_builtin;refine jv Nv rfl _ _ rfl 0 _ j (hT h G) rfl fK.out o.heap.size _ (R q) rfl kS.out cS kT ?_;intro eq u9 dv kU kV;obtain⟨Q,X,rfl,cm⟩:=dv.form (Nat.succ_pos _);have bv:=C (show Grow _ u9 (aA dc j df) (aA (R ⟨Q,0,U⟩) (j+1) X) from Grow.gK kU kV);have aC:=(dj.out.alloc (av #[af (R ⟨q,0,U⟩)] 109)).grow bv.out (λe=>(a1.out d e.symm).1 rfl);have bs:=aC.cell 106 ((lv (L:=h) aP.out.1 aP.out.2 1).trans (show[h.hv,h.cv,aY h.fc][1]?=R h.cv from rfl));rw[an.out] at bs;have bT:=aC.free 106;have b1:=C dv;have kW:=C aC));obtain⟨aT,a3⟩:∃aT,u9.setCell ⟨d,106,U⟩ (aA (R ⟨Q,0,U⟩) (j+1) X)=aT:=⟨_,rfl⟩;rw[a3];have bo:Mod (λk=>k=h.b∨h.cv.ownBlock=R k) o aT:=(by rw[<-a3];exact(((Mod.refl _ o).alloc _).grow bv.out (λg e=>.inr (by rw[an.out];exact e))).setCell (.inl aF.out.symm) _);have dw:∀a,(aA (R ⟨Q,0,U⟩) (j+1) X).ownBlock=R a->h.cv.ownBlock=R a∨o.heap.size<=a:=λa e=>by
       rcases bv.out.loc with f|⟨j3,f,az⟩;·exact .inl (by rw[an.out,<-f];exact e)
       ·rw[e] at f;cases f;exact .inr (cJ (by simp) az)
      have es:d<o.heap.size:=dj.out.lt;have kX:∀a,(aA (R ⟨Q,0,U⟩) (j+1) X).ownBlock=R a->¬a=d:=λa e=>by
       rcases dw a e with f|f;·rw[an.out] at f;exact(a1.out a f).1
       ·omega
      have a8:Own dr aT 0 109 (aA (R ⟨Q,0,U⟩) (j+1) X) (j+1) (hT h G++[R q]):=(by rw[<-a3];exact b1.out.mod (Mod.one _ _ _ _) kX);have a6:ak aT h.b (cY (h.gg j q (aA (R ⟨Q,0,U⟩) (j+1) X)) (G.gg (cI.new c.hC))) 72:=(by rw[<-No aP.out.1 aP.out.2 j q (aA (R ⟨Q,0,U⟩) (j+1) X) (cI.new c.hC),aF.out,<-a3];exact kW.out.set 106 _);have dx:¬cE q:=λf=>by have:=cH.out _ f;have:=aU.out;omega
      have kY:q<t.heap.size:=(by have:=cq.out;have:=aU.out;omega);have bY:dt aT q (cI.new c.hC):=by
       have aS:dt t q (cI.new c.hC):=(by rw[<-a_.out];exact b8.out);refine(aS.mod c7.out.1 dx).mod bo ?_;rintro(e|e);·rw[aF.out] at e;have:=bb.out.lt;have A:=bb.out;have b_:=aq.out.top.lt;rw[F.out] at b_;have:=aU.out;omega
       ·rw[an.out] at e;exact(a1.out _ e).2 rfl
      have P:=c7.out.gg dx kY bV.out bY bo a8 dw a6;have dy:=hH.out _ _ _ (P.na (λk e=>e.elim .inl (λe=>.inr (by rw[e];have:=aU.out;omega))));rw[<-kq.out,aa.Nw] at dy;have aJ:=C dy;go_wp2_with fail;go_roundw;case rel=>exact⟨j+1,by omega,by go_num,h.gg j q (aA (R ⟨Q,0,U⟩) (j+1) X),aF.out,aJ.out⟩
      case measure=>simp[intOf];omega
    ·obtain rfl:j=p:=by omega
     go_wp2_with fail;go_ret2;refine⟨L,by unfold aY;rw[F.out];rfl,?_⟩;obtain⟨kZ,k0,aS⟩:=aq.out;rw[a_.out];have k1:aa.new c=aa.jo c j:=(by rw[<-a_.out];rfl);rw[k1];exact⟨(Mod.below (S:=λ_=>False) cb.out).trans kZ (λi _ a=>a),k0,aS.mono (λk a=>a.elim .inl (λa=>.inr (cJ cb.out.size a)))⟩
end
end Go.Proofs.YtddbkdjcjoofpaaGreatDoor
