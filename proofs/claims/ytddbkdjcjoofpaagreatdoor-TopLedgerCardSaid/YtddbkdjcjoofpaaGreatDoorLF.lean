import Derived.Test.YtddbkdjcjoofpaaGreatDoorLA
import Derived.Test.YtddbkdjcjoofpaaGreatDoorLD
import Derived.TacticsInMore
import Derived.LoopNIn
import Derived.LoopIn
import Derived.OwnWalkIn
import Derived.IntWalk
import Derived.Shelf.RegionOpen
namespace Go.Proofs.YtddbkdjcjoofpaaGreatDoor
set_option linter.unusedVariables false
set_option linter.unusedSimpArgs false
set_option maxRecDepth 100000
set_option maxHeartbeats 20000000
open _root_.Go.Proofs.Tryz Go.RowKit
open Go renaming World→ab
open _root_.Go.Proofs.Tryz renaming prog→au
open Option renaming none→U,some→R
open _root_.Go.Value renaming int→I,pointer→af,slice→aA,bool→aE,agg→bm,tuple→bD
open _root_.Go.IntKind renaming i64→J,u64→ah
open _root_.Go.Obj renaming cells→av
open _root_.Go.Ending renaming returned→aK
open _root_.Nat renaming le_refl→bM,le_trans→cJ,lt_of_lt_of_le→dm,lt_or_ge→nd,mul_le_mul→qc,reduceSub→jG,reduceAdd→jH
open _root_.Array renaming getElem?_eq_some_iff→iQ,replicate_zero→jA,replicate_succ→jB
open _root_.Go renaming World→ab
open _root_.List renaming getElem?_eq_some_iff→bE,length_cons→dY,cons_append→gQ,getD_eq_getElem?_getD→dD,getElem?_toArray→ff,mem_of_getElem?→ea,range→gh,replicate→gR,any_eq_true→nS,getElem?_replicate→xN,mem_iff_getElem→uc,getElem?_cons_succ→nN,length_nil→hJ,nil_append→iU,append_toArray→jC,size_toArray→jE,push_toArray→jF,map_congr_left→uf,getLast?_concat→nQ
open _root_.Bool renaming or_eq_true→nW,or_eq_false_iff→ue
open _root_.And renaming intro→bx
open _root_.Int renaming tmod_eq_emod_of_nonneg→rY
open _root_.Go.World renaming putObj_heap_other→p5
variable {b n g i p j c m o:Nat} {S Z:Nat->Prop} {w w' y A:ab} {v u:Value} {a:Option Addr} {G:aL} {k x:Key} {f:Int->Option aL} {l:List Int} {gp ai:Int->Nat} {e:aI} {r:T}
def gl (h:ad) (gp:Int->Nat) (g:Int):Value:=if(h.at g).isSome then af (R ⟨gp g,0,U⟩) else af U
def eE (h:ad) (gp:Int->Nat):Array Value:=(I J h.b4::I J h.bI::((gh 32).map λi:Nat=>gl h gp i)).toArray
def im (G:aL) (qb:Nat):Array Value:=#[I J G.up,I J G.deep,af (R ⟨qb,0,U⟩),I J G.own.id,I ah (G.own.wt:Int),I J G.own.v,I ah (G.own.rem:Int),aE G.on,aE G.stopped]
theorem q5 (h:ad) (gp:Int->Nat) (a:g<32):(eE h gp)[2+g]?=R (gl h gp g):=by unfold eE;rw[ff,show 2+g=g+1+1 by omega,nN,nN];simp[a]
theorem wx (h:ad) (gp:Int->Nat):(eE h gp)[0]?=R (I J h.b4):=by unfold eE;simp
theorem s5 (h:ad) (gp:Int->Nat):(eE h gp)[1]?=R (I J h.bI):=by unfold eE;simp
theorem wz (h:ad) (gp:Int->Nat):(eE h gp).size=34:=by unfold eE;simp
theorem AE {h h':ad} {gp:Int->Nat} (a:h'.b4=h.b4) (b:h'.bI=h.bI) (e:∀g,(h'.at g).isSome=(h.at g).isSome):eE h' gp=eE h gp:=by unfold eE gl;rw[a,b];congr 3;apply uf;intro i _;rw[e]
structure ms (w:ab) (S:Nat->Prop) (b:Nat) (h:ad) (gp ai:Int->Nat) (tag:Nat->Int):Prop where
 cs:ak w b (eE h gp) 162
 b:S b∧tag b=-1
 g:∀g G,h.at g=R G->ak w (gp g) (im G (ai g)) 132∧S (gp g)∧tag (gp g)=-2-g
 q:∀g G,h.at g=R G->ev w (λk=>S k∧tag k=g) (ai g) G.q
def cQ (w:ab) (S:Nat->Prop) (b:Nat) (h:ad):Prop:=∃gp ai tag,ms w S b h gp ai tag
section
variable {w w':ab} {S:Nat->Prop} {b:Nat} {h:ad} {gp ai:Int->Nat} {tag:Nat->Int}
theorem ms.frame {Z:Nat->Prop} (H:ms w S b h gp ai tag) (c:Mod Z w w') (d:∀k,S k->¬Z k):ms w' S b h gp ai tag:=⟨H.cs.mod c (d _ H.b.1),H.b,λg G a=>⟨(H.g g G a).1.mod c (d _ (H.g g G a).2.1),(H.g g G a).2⟩,λg G a=>(H.q g G a).frame c (λk e=>d k e.1)⟩
theorem ms.mono {T:Nat->Prop} (H:ms w S b h gp ai tag) (c:∀k,k<w.heap.size->S k->T k):ms w T b h gp ai tag:=⟨H.cs,⟨c _ H.cs.lt H.b.1,H.b.2⟩,λg G a=>⟨(H.g g G a).1,c _ (H.g g G a).1.lt (H.g g G a).2.1,(H.g g G a).2.2⟩,λg G a=>(H.q g G a).mono (λk e d=>⟨c k e d.1,d.2⟩)⟩
theorem cQ.frame {Z:Nat->Prop} (H:cQ w S b h) (a:Mod Z w w') (c:∀k,S k->¬Z k):cQ w' S b h:=by obtain⟨gp,ai,tag,H⟩:=H;exact⟨gp,ai,tag,H.frame a c⟩
theorem cQ.next (H:cQ w S b h) (a:Below w.heap.size w w'):cQ w' S b h:=H.frame (Mod.below (S:=λ_=>False) a) (λ_ _=>id)
theorem cQ.mono {T:Nat->Prop} (H:cQ w S b h) (a:∀k,k<w.heap.size->S k->T k):cQ w T b h:=by obtain⟨gp,ai,tag,H⟩:=H;exact⟨gp,ai,tag,H.mono a⟩
theorem cQ.own (H:cQ w S b h):S b∧b<w.heap.size:=by obtain⟨gp,ai,tag,H⟩:=H;exact⟨H.b.1,H.cs.lt⟩
theorem ad.AF {h:ad} {g:Int} {G':aL} (a:h.at g=R G) (k:Int):((h.set g (R G')).at k).isSome=(h.at k).isSome:=by
 rw[ad.dq a];unfold cP;split;·rename_i e;rw[e,a];rfl
 ·rfl
theorem ms.queue (H:ms w S b h gp ai tag) {g:Int} (f:h.at g=R G) {p:aD} (x:ev w' (c6 (λk=>S k∧tag k=g) w) (ai g) p) (r:Mod (λk=>S k∧tag k=g) w w'):ms w' (c6 S w) b (h.set g (R {G with q:=p})) gp ai (λk=>if k<w.heap.size then tag k else g):=by
 have z:=(ad.dp f).1;have y:¬(S b∧tag b=g):=λe=>by have:=H.b.2;omega
 refine⟨?_,⟨.inl H.b.1,by rw[aj H.cs.lt];exact H.b.2⟩,?_,?_⟩;·rw[AE (h:=h) (h':=h.set g (R {G with q:=p})) rfl rfl (λk=>ad.AF f k)];exact H.cs.mod r y
 ·intro k s j;rw[ad.dq f] at j;have u:∀m,h.at k=R m->S (gp k)∧ak w' (gp k) (im m (ai k)) 132∧(if gp k<w.heap.size then tag (gp k) else g)=-2-k:=by intro m v;have o:=H.g k m v;have A:=(ad.dp v).1;refine⟨o.2.1,o.1.mod r (λe=>by omega),?_⟩;rw[aj o.1.lt];exact o.2.2
  rcases ht j with⟨rfl,e⟩|⟨_,e⟩;·cases e;obtain⟨a,c,t⟩:=u G f;exact⟨c,.inl a,t⟩
  ·obtain⟨a,c,t⟩:=u s e;exact⟨c,.inl a,t⟩
 ·intro k s j;rw[ad.dq f] at j;rcases ht j with⟨rfl,e⟩|⟨n,e⟩
  ·cases e;refine x.mono (λi l d=>?_);rcases d with d|d
   ·refine⟨.inl d.1,?_⟩;split;·exact d.2
    ·rfl
   ·exact⟨.inr d,by rw[z0 (by omega)]⟩
  ·refine(((H.q k s e).mono (T:=λi=>(S i∧tag i=k)∧i<w.heap.size) (λi l d=>⟨d,l⟩)).frame r (λi l q=>n (l.1.2.symm.trans q.2))).mono (λi l d=>?_);exact⟨.inl d.1.1,by rw[aj d.2];exact d.1.2⟩
theorem ms.cells (H:ms w S b h gp ai tag) {g:Int} {G':aL} (a:h.at g=R G) (t:ak w' (gp g) (im G' (ai g)) 132) (f:Mod (λk=>k=gp g) w w') (u:G'.q=G.q):ms w' S b (h.set g (R G')) gp ai tag:=by
 have x:=(ad.dp a).1;have j:=H.g g G a;refine⟨?_,H.b,?_,?_⟩;·rw[AE (h:=h) (h':=h.set g (R G')) rfl rfl (λk=>ad.AF a k)];exact H.cs.mod f (λe=>by have:=H.b.2;rw[e] at this;omega)
 ·intro k l c;rw[ad.dq a] at c;rcases ht c with⟨rfl,e⟩|⟨n,e⟩;·cases e;exact⟨t,j.2⟩
  ·have m:=H.g k l e;exact⟨m.1.mod f (λo=>by have p:=m.2.2;rw[o,j.2.2] at p;omega),m.2⟩
 ·intro k l c;rw[ad.dq a] at c;have r:∀d,h.at k=R d->ev w' (λi=>S i∧tag i=k) (ai k) d.q:=λd s=>(H.q k d s).frame f (λi v o=>by have p:=v.2;rw[o,j.2.2] at p;have:=(ad.dp s).1;omega);rcases ht c with⟨rfl,e⟩|⟨n,e⟩;·cases e;rw[u];exact r G a
  ·exact r l e
end
def bB (aq:ab) (S:Nat->Prop) (b:Nat) (gp ai:Int->Nat) (h:ad) (w:ab):Prop:=Mod S aq w∧∃tag,ms w (c6 S aq) b h gp ai tag
section
variable {aq w w':ab} {S:Nat->Prop} {b:Nat} {h:ad} {gp ai:Int->Nat}
theorem cQ.start (H:cQ w S b h):∃gp ai,bB w S b gp ai h w:=by obtain⟨gp,ai,tag,H⟩:=H;exact⟨gp,ai,Mod.refl _ _,tag,H.mono (λk _ a=>.inl a)⟩
theorem bB.done (H:bB aq S b gp ai h w):cQ w (c6 S aq) b h∧Mod S aq w:=by obtain⟨a,tag,H⟩:=H;exact⟨⟨gp,ai,tag,H⟩,a⟩
theorem bB.below (H:bB aq S b gp ai h w) (a:Below w.heap.size w w'):bB aq S b gp ai h w':=by obtain⟨c,tag,H⟩:=H;exact⟨c.ju a,tag,H.frame (Mod.below (S:=λ_=>False) a) (λ_ _=>id)⟩
theorem bB.drew (H:bB aq S b gp ai h w):bB aq S b gp ai h w.drew:=by obtain⟨a,tag,H⟩:=H;exact⟨a.drew,tag,H.frame (Mod.refl (λ_=>False) w).drew (λ_ _=>id)⟩
theorem bB.cs (H:bB aq S b gp ai h w):ak w b (eE h gp) 162:=by obtain⟨a,tag,H⟩:=H;exact H.cs
theorem bB.cw (H:bB aq S b gp ai h w) {g:Int} (a:h.at g=R G):ak w (gp g) (im G (ai g)) 132:=by obtain⟨c,tag,H⟩:=H;exact(H.g g G a).1
theorem bB.q (H:bB aq S b gp ai h w) {g:Int} {G:aL} (d:h.at g=R G):∃T,ev w T (ai g) G.q∧T=T∧∀w' c,ev w' (c6 T w) (ai g) c->Mod T w w'->bB aq S b gp ai (h.set g (R {G with q:=c})) w':=by
 obtain⟨f,tag,H⟩:=H;refine⟨_,H.q g G d,rfl,λw' c l j=>?_⟩;have m:=(H.queue d l j).mono (T:=c6 S aq) (λk o a=>by
  rcases a with a|a;·exact a
  ·exact .inr (cJ f.size a))
 exact⟨f.trans j (λi n a=>a.1.elim id (λe=>absurd n (by omega))),_,m⟩
theorem bB.cells (H:bB aq S b gp ai h w) {g:Int} {G G':aL} (a:h.at g=R G) (f:ak w' (gp g) (im G' (ai g)) 132) (c:Mod (λk=>k=gp g) w w') (j:G'.q=G.q):bB aq S b gp ai (h.set g (R G')) w':=by obtain⟨l,tag,H⟩:=H;refine⟨?_,tag,H.cells a f c j⟩;have:=(H.g g G a).2.1;exact l.trans c (λi d e=>by rw[e] at d⊢;exact this.elim id (λm=>absurd d (by omega)))
end
theorem wd {h:ad} {gp:Int->Nat} {g:Int} (e:h.at g=U):gl h gp g=af U:=by unfold gl;rw[e];rfl
theorem jY {h:ad} {gp:Int->Nat} {g:Int} (e:h.at g=R G):gl h gp g=af (R ⟨gp g,0,U⟩):=by unfold gl;rw[e];rfl
theorem ad.AI {h:ad} (a:h.gs.length=32) {g:Int} (b:g<0∨32<=g):h.at g=U:=by
 cases e:h.at g with
 |none=>rfl
 |some G=>have:=ad.dp e;omega
section
variable {aq w w':ab} {S:Nat->Prop} {b:Nat} {h:ad} {gp ai:Int->Nat}
theorem bB.ptr (H:bB aq S b gp ai h w) (a:n<32):w.cell? ⟨b,2+n,U⟩=R (gl h gp n):=H.cs.cell (2+n) (q5 h gp a)
theorem bB.drewN (H:bB aq S b gp ai h w) (n:Nat):bB aq S b gp ai h (w.drewN n):=by obtain⟨a,c,H⟩:=H;exact⟨a.drewN n,c,H.frame ((Mod.refl (λ_=>False) w).drewN n) (λ_ _=>id)⟩
theorem bB.ty (H:bB aq S b gp ai h w) {g:Int} (a:h.at g=R G) (c:h.gs.length=32):∃n:Nat,g=n∧n<32∧w.cell? ⟨b,2+n,U⟩=R (af (R ⟨gp g,0,U⟩)):=by obtain⟨d,e,_⟩:=ad.dp a;refine⟨g.toNat,by omega,by omega,?_⟩;have:=H.ptr (n:=g.toNat) (by omega);rw[show((g.toNat:Nat):Int)=g by omega,jY a] at this;exact this
theorem oF (g:Int) (H:bB aq S b gp ai h w) (a:h.gs.length=32):Calls au 71 #[af (R ⟨b,0,U⟩),I J g] w λe w'=>e=aK (gl h gp g)∧w'=w:=by
 by_cases d:g<0;·rw[wd (ad.AI a (.inl d))];clear H;go_enter func71,ntmps71;go_wp2;go_ret;exact⟨rfl,rfl⟩
 by_cases f:32<=g;·rw[wd (ad.AI a (.inr f))];clear H;go_enter func71,ntmps71;go_wp2;go_ret;exact⟨rfl,rfl⟩
 obtain⟨n,rfl⟩:∃n:Nat,g=n:=⟨g.toNat,by omega⟩;have i:n<32:=by omega
 have c:=H.ptr i;generalize j:gl h gp n=v at c⊢;go_enter func71,ntmps71;go_wp2;go_ret;exact⟨rfl,rfl⟩
def ad.mO (h:ad) (gp:Int->Nat) (g:Int):Value:=if(h.linked g).isSome then af (R ⟨gp g,0,U⟩) else af U
theorem q7 (g:Int) (H:bB aq S b gp ai h w) (c:h.gs.length=32):Calls au 66 #[af (R ⟨b,0,U⟩),I J g] w λe w'=>e=aK (h.mO gp g)∧w'=w:=by
 by_cases a:g=0
 ·have e:h.mO gp g=af U:=by unfold ad.mO ad.linked;rw[aj a];rfl
  rw[e];subst a;go_enter func66,ntmps66;go_wp2;go_ret;exact⟨rfl,rfl⟩
 ·have e:h.mO gp g=gl h gp g:=by unfold ad.mO ad.linked gl;rw[z0 a]
  rw[e];have d:=C (oF g H c);go_enter func66,ntmps66;go_wp2_with fail;refine d.mono ?_;rintro e w' ⟨rfl,rfl⟩;go_wp2;go_ret;exact⟨rfl,rfl⟩
end
theorem s8 (g:Int) (h0:0<=g) (a:g<1000000) (w:ab):Calls au 135 #[I J g] w λe w'=>e=aK (I J (2*g+1))∧w'=w:=by go_enter func135,ntmps135;go_wp2;go_ret;refine⟨?_,rfl⟩;go_num
theorem oG (n:Int) (w:ab):Calls au 148 #[I J n] w λe w'=>e=aK (aE (gW n))∧w'=w:=by
 unfold gW;go_enter func148,ntmps148;go_wp2;all_goals go_ret
 all_goals(refine⟨?_,rfl⟩;simp_all;try omega)
section
variable {aq w w':ab} {S:Nat->Prop} {b:Nat} {h:ad} {gp ai:Int->Nat} {g:Int} {G:aL}
theorem bB.AR (a:aI) (H:bB aq S b gp ai h w) (c:h.at g=R G) (d:G.q.Ok):Calls au 192 #[af (R ⟨ai g,0,U⟩),bm #[I J a.id,I ah (a.wt:Int),I J a.v,I ah (a.rem:Int)]] w λe w'=>e=aK (I J (G.q.dI a))∧bB aq S b gp ai (h.set g (R {G with q:=G.q.put a})) w':=by obtain⟨T,f,_,i⟩:=H.q c;exact(Iu T (ai g) G.q a w f d).mono λe w' r=>⟨r.1,i w' _ r.2.1 r.2.2⟩
theorem bB.AS (k:Int) (H:bB aq S b gp ai h w) (a:h.at g=R G) (c:G.q.Ok):Calls au 193 #[af (R ⟨ai g,0,U⟩),I J k] w λe w'=>e=aK (bD #[bm (dn (G.q.er k)),I J (G.q.e5 k)])∧bB aq S b gp ai (h.set g (R {G with q:=G.q.drop k})) w':=by obtain⟨T,d,_,f⟩:=H.q a;exact(Iy T (ai g) G.q k w d c).mono λe w' r=>⟨r.1,f w' _ (r.2.1.mono λ_ _ q=>.inl q) r.2.2⟩
theorem bB.AT (k:Int) (n:Nat) (H:bB aq S b gp ai h w) (a:h.at g=R G) (c:G.q.Ok):Calls au 149 #[af (R ⟨ai g,0,U⟩),I J k,I ah (n:Int)] w λe w'=>e=aK (I J (G.q.fP k n))∧bB aq S b gp ai (h.set g (R {G with q:=G.q.bV k n})) w':=by obtain⟨T,d,_,f⟩:=H.q a;exact(IB T (ai g) G.q k n w d c).mono λe w' r=>⟨r.1,f w' _ (r.2.1.mono λ_ _ q=>.inl q) r.2.2⟩
theorem bB.IW (a:Int) (H:bB aq S b gp ai h w) (c:h.at g=R G) (d:G.q.Ok):Calls au 154 #[af (R ⟨ai g,0,U⟩),I J a] w λe w'=>e=aK (I J (G.q.yield a).cur)∧bB aq S b gp ai (h.set g (R {G with q:=G.q.yield a})) w':=by obtain⟨T,f,_,i⟩:=H.q c;exact(II T (ai g) G.q a w f d).mono λe w' r=>⟨r.1,i w' _ (r.2.1.mono λ_ _ q=>.inl q) r.2.2⟩
theorem bB.ra (H:bB aq S b gp ai h w) (a:h.at g=R G) (c:G.q.Ok):Calls au 72 #[af (R ⟨ai g,0,U⟩)] w (AQ G.q.es w):=by obtain⟨T,d,_,e⟩:=H.q a;exact IV T (ai g) G.q w d c
theorem bB.s_ (H:bB aq S b gp ai h w) (a:h.at g=R G):Calls au 132 #[af (R ⟨ai g,0,U⟩)] w λe w'=>e=aK (I J G.q.mn)∧w'=w:=by obtain⟨T,c,_,d⟩:=H.q a;exact ID T (ai g) G.q w c
end
variable {B:Nat} {W W':ab} {ar tmps:Array Value} {ag:List (Int×Int)} {fn:Func} {P:List (List Nat)} {V:List (Int×Int)->ab->Prop} {L:List ByteArray}
section
open Go.Shelf
attribute [local go_sem] Oper.semAt_some
def b_ (b:Nat) (gp ai:Int->Nat) (bJ X:Nat->Prop) (bo:ab) (h:ad) (W:ab):Prop:=Mod X bo W∧∃a,ms W (λk=>bJ k∨bo.heap.size+2<=k) b h gp ai a
section
variable {b:Nat} {gp ai:Int->Nat} {bJ X:Nat->Prop} {bo W W':ab} {h:ad}
theorem b_.stay (H:b_ b gp ai bJ X bo h W) (d:∀k,bJ k->¬Z k) (f:∀k,bo.heap.size+2<=k->¬Z k) (g:∀k,k<bo.heap.size->Z k->X k) (c:Mod Z W W'):b_ b gp ai bJ X bo h W':=by
 obtain⟨i,j,l⟩:=H;refine⟨i.trans c g,j,l.frame c (λk m e=>?_)⟩;rcases m with a|a;·exact d k a e
 ·exact f k a e
theorem b_.IX (H:b_ b gp ai bJ X bo h W) {g:Int} (a:h.at g=R G):∃T,ev W T (ai g) G.q:=by obtain⟨c,d,H⟩:=H;exact⟨_,H.q g G a⟩
theorem b_.cs (H:b_ b gp ai bJ X bo h W):ak W b (eE h gp) 162:=by obtain⟨c,d,a⟩:=H;exact a.cs
theorem b_.cw (H:b_ b gp ai bJ X bo h W) {g:Int} (a:h.at g=R G):ak W (gp g) (im G (ai g)) 132:=by obtain⟨d,e,c⟩:=H;exact(c.g g G a).1
theorem b_.ty (H:b_ b gp ai bJ X bo h W) {g:Int} (a:h.at g=R G) (c:h.gs.length=32):∃n:Nat,g=n∧n<32∧W.cell? ⟨b,2+n,U⟩=R (af (R ⟨gp g,0,U⟩)):=by obtain⟨d,e,_⟩:=ad.dp a;refine⟨g.toNat,by omega,by omega,?_⟩;have:=H.cs.cell (2+g.toNat) (q5 h gp (by omega));rw[show((g.toNat:Nat):Int)=g by omega,jY a] at this;exact this
theorem b_.q (H:b_ b gp ai bJ X bo h W) (l:∀k,bJ k->X k) (e:∀k,bJ k->k<bo.heap.size) (p:bo.heap.size+2<=W.heap.size) {g:Int} {G:aL} (f:h.at g=R G):∃T,ev W T (ai g) G.q∧(∀k,T k->bJ k∨bo.heap.size+2<=k)∧∀w' c,ev w' (c6 T W) (ai g) c->Mod T W w'->b_ b gp ai bJ X bo (h.set g (R {G with q:=c})) w'∧q6 bo.heap.size W w':=by
 obtain⟨m,r,H⟩:=H;refine⟨_,H.q g G f,λk j=>j.1,λw' c n a=>?_⟩;have o:=(H.queue f n a).mono (T:=λk=>bJ k∨bo.heap.size+2<=k) (λk j d=>by
  rcases d with q|q;·exact q
  ·exact .inr (by omega))
 refine⟨⟨?_,_,o⟩,a.block _ (by omega) (λq=>?_),a.block _ (by omega) (λq=>?_)⟩;·exact m.trans a (λi s d=>by
  rcases d.1 with q|q;·exact l i q
  ·omega)
 ·rcases q.1 with q|q;·have:=e _ q;omega
  ·omega
 ·rcases q.1 with q|q;·have:=e _ q;omega
  ·omega
end
def kN (bs:ad->Int->ad):Nat->ad->Int->ad×Int
 |0,h,_=>(h,-1)
 |k+1,h,g=>
  match h.at g with
  |none=>(h,-1)
  |some x=>if x.q.cur<0∨x.q.cur%2=0 then(bs h g,x.q.cur) else kN bs k (bs h g) (x.q.cur/2)
def fM (n:Int):Bool:=decide (n<0)||decide (n%2=0)
def hE (ag:List (Int×Int)):Bool:=match ag.getLast? with|none=>false|some x=>fM x.2
def kn (ag:List (Int×Int)):Int:=match ag.getLast? with|none=>0|some x=>x.2/2
theorem mP (ag:List (Int×Int)) (x:Int×Int):hE (ag++[x])=fM x.2:=by unfold hE;rw[nQ]
theorem pN (ag:List (Int×Int)) (x:Int×Int):kn (ag++[x])=x.2/2:=by unfold kn;rw[nQ]
def lx (ai:Int->Nat) (x:Int×Int):Array Value:=#[af (R ⟨ai x.1,0,U⟩),I J x.2]
structure wl (b:Nat) (gp ai:Int->Nat) (bJ X:Nat->Prop) (bo:ab) (a7:eW) (bs:ad->Int->ad) (Q:ad->Int->Nat->Prop) (res:ad×Int) (ao:ad) (g1:Int) (k:Nat) (G:aL) (W:ab):Prop where
 aP:b_ b gp ai bJ X bo ao W
 ok:ao.Ok
 a7:ao.a7=a7
 at_:ao.at g1=R G
 deep:9<=G.deep+k
 res:kN bs k ao g1=res
 q:Q ao g1 k
def ko (b:Nat) (gp ai:Int->Nat) (bJ X:Nat->Prop) (bo:ab) (c:eW) (bs:ad->Int->ad) (d:ad->Int->Nat->Prop) (a:ad×Int) (V:List (Int×Int)->ab->Prop) (ag:List (Int×Int)) (W:ab):Prop:=V ag W∧((hE ag=true∧b_ b gp ai bJ X bo a.1 W∧(∃x∈ag.getLast?,x.2=a.2))∨(hE ag=false∧∃e k G,wl b gp ai bJ X bo c bs d a e (kn ag) k G W))
def oJ (b:Nat) (gp ai:Int->Nat) (bJ X:Nat->Prop) (bo:ab) (a:eW) (bs:ad->Int->ad) (c:ad->Int->Nat->Prop) (d:ad×Int) (V:List (Int×Int)->ab->Prop) (ag:List (Int×Int)) (x:Int×Int) (W:ab):Prop:=V ag W∧x.1=kn ag∧hE ag=false∧∃e k G,wl b gp ai bJ X bo a bs c d e x.1 k G W∧G.q.cur=x.2
theorem wl.next {b:Nat} {gp ai:Int->Nat} {bJ X:Nat->Prop} {bo:ab} {f:eW} {bs:ad->Int->ad} {t:ad->Int->Nat->Prop} {u:ad×Int} {d:ad} {g1:Int} {k:Nat} {W:ab} (h:wl b gp ai bJ X bo f bs t u d g1 k G W):f g1=R (G.up,G.deep)∧0<=G.deep∧G.deep<=8∧G.q.cur<128∧(fM G.q.cur=false->0<=G.q.cur∧G.q.cur%2=1∧∃p,f (G.q.cur/2)=R p∧p.2=G.deep+1):=by
 have n:=h.ok.g.deep _ _ h.at_;have o:G.q.cur≠-1->∃e∈G.q.es,e.id=G.q.cur:=λj=>(h.ok.g.q _ _ h.at_).cur.resolve_left j;refine⟨by rw[<-h.a7];exact ad.eh h.at_,n.1,n.2,?_,λr=>?_⟩
 ·by_cases j:G.q.cur=-1;·omega
  ·obtain⟨e,l,v⟩:=o j;rcases h.ok.g.ids _ _ h.at_ e l with⟨i,d,a,m⟩|⟨c,ar,d,a,_⟩;·omega
   ·have:=h.ok.g.lo _ _ a;omega
 ·unfold fM at r;simp only[ue,decide_eq_false_iff_not] at r;obtain⟨e,l,v⟩:=o (by omega);rcases h.ok.g.ids _ _ h.at_ e l with⟨i,d,a,m⟩|⟨c,ar,d,a,m,w,_⟩;·omega
  ·refine⟨by omega,by omega,(ar.up,ar.deep),by rw[show G.q.cur/2=c by omega,<-h.a7];exact ad.eh a,?_⟩;obtain⟨y,s,x⟩:=h.ok.g.up _ _ a m;rw[w,h.at_] at s;cases s;exact x
theorem wC (n:Nat) (av:3<=n) (b:Nat) (gp ai:Int->Nat) (bJ X:Nat->Prop) (bo:ab) (f:eW) (bs:ad->Int->ad) (r:ad->Int->Nat->Prop) (s:ad×Int) (V:List (Int×Int)->ab->Prop) (l Q S:Nat) (h:ab->Prop) (B:ab) (aM:∀k,bJ k->k<bo.heap.size) (Y:∀ag W,V ag W->W.cell? ⟨Q,0,U⟩=R (af (R ⟨b,0,U⟩))∧W.cell? ⟨S,0,U⟩=R (.func (.func 79) #[] #[])) (h0:ko b gp ai bJ X bo f bs r s V [] B) (Z:h B) (aj:∀A,h A->bo.heap.size+2<=A.heap.size) (aa:∀ao x W,oJ b gp ai bJ X bo f bs r s V ao x W->h W->YieldAt Fence.wide (n-1) au l (lx ai x) W λe W'=>e=aK (aE true)∧ko b gp ai bJ X bo f bs r s V (ao++[x]) W'∧h W'):CallsIn Fence.wide n au 133 #[.func (.yield l) #[] #[],af (R ⟨Q,0,U⟩),af (R ⟨S,0,U⟩)] B λe W'=>(∃v,e=aK v)∧∃ag,hE ag=true∧ko b gp ai bJ X bo f bs r s V ag W'∧h W':=by
 have ap:=C Y;have aO:=C aa;have ah:=C h0;have aQ:=C Z;have aq:1<=n:=by omega
 have ba:Fence.wide.fn 79:=trivial;clear Y aa h0 Z aj aM;refine callsIn_of_wp func133 rfl trivial ?_ rfl;simp only[ntmps133,jE,dY,hJ,jH,jG,jB,jA,jF,jC,iU,gQ];gi_wp2;gi_loopw [4] (λD wr=>∃ag,hE ag=false∧D=I J (kn ag)∧ko b gp ai bJ X bo f bs r s V ag wr∧h wr) (λD _=>(9-(match f (intOf D) with|none=>0|some p=>p.2)).toNat);case atStart=>exact⟨[],rfl,rfl,ah.out,aQ.out⟩
 case round=>
  obtain⟨ag,E,rfl,aS,ac⟩:=hrel;obtain⟨F,aU⟩:=aS;obtain⟨bb,aw⟩:=ap.out _ _ F;rcases aU with⟨ay,_⟩|⟨_,H,k,G,a⟩;·rw[E] at ay;cases ay
  obtain⟨m,aB,bc,c⟩:=a.aP.ty a.at_ a.ok.len;have aT:=(a.aP.cw a.at_).cell 2 (v:=af (R ⟨ai (kn ag),0,U⟩)) rfl;obtain⟨T,az⟩:=a.aP.IX a.at_;have w:=C (callsIn_wide (n:=n-1).2 (IC T (ai (kn ag)) G.q wr az));obtain⟨fn,tmps,bf,bg,K,L⟩:=aO.out ag (kn ag,G.q.cur) wr ⟨F,rfl,E,H,k,G,a,rfl⟩ ac;simp only[lx] at K;have t:=C a.next;obtain⟨g,M⟩:=aX (kn ag);have an:=C M;rw[M] at w t aB c aT K L⊢;have y:=C L;subst aB;have ax:(0:Int)<=(m:Int):=by omega
  have bk:(m:Int)<32:=by omega
  have bl:(m:Int).toNat=m:=by omega
  clear a F az E ac L M;generalize bn:G.q.cur=u at w t K y;have aA:=t.out.2.2.2.1;cases i:fM u with
  |true=>
   have N:=C i;have stop:∀d:ab,ko b gp ai bJ X bo f bs r s V (ag++[((m:Int),u)]) d->h d->∃ag,hE ag=true∧ko b gp ai bJ X bo f bs r s V ag d∧h d:=λd H O=>⟨_,by rw[mP];exact N.out,H,O⟩;have aC:=C stop;clear stop;by_cases bp:u<0;·clear i;gi_wp2_with (gi_at_call 79;refine w.mono ?_;rintro e aF ⟨rfl,rfl⟩);refine y.mono ?_;rintro e d ⟨rfl,j,o⟩;have P:=C (aC.out d j o);clear j o;gi_wp2;(try simp only[Exit.inBlock,Exit.then]);refine bodyPost_ret (results_none rfl _ _ _) rfl ?_;exact⟨⟨_,rfl⟩,P.out⟩
   ·have z:0<=u:=(by omega);have aV:u.tmod 2=0:=(by rw[rY z];unfold fM at i;simp only[nW,decide_eq_true_eq] at i;omega);clear i;gi_wp2_with (gi_at_call 79;refine w.mono ?_;rintro e aF ⟨rfl,rfl⟩);refine y.mono ?_;rintro e d ⟨rfl,j,o⟩;have P:=C (aC.out d j o);clear j o;gi_wp2;(try simp only[Exit.inBlock,Exit.then]);refine bodyPost_ret (results_none rfl _ _ _) rfl ?_;exact⟨⟨_,rfl⟩,P.out⟩
  |false=>
   obtain⟨z,aZ,ar,ae,am⟩:=t.out.2.2.2.2 i;have aV:u.tmod 2=1:=(by rw[rY z];exact aZ);have bq:u.tdiv 2=u/2:=Int.tdiv_eq_ediv_of_nonneg z;have br:IntKind.i64.wrap (u/2)=u/2:=IntWalk.i64_in _ (by omega);have ak:=C (bx ae am);have N:=C i;clear ae am i;gi_wp2_with (gi_at_call 79;refine w.mono ?_;rintro e aF ⟨rfl,rfl⟩);refine y.mono ?_;rintro e d ⟨rfl,j,o⟩;have a6:=C j;have a8:=C o;clear j o;gi_wp2;go_roundw;case rel=>exact⟨ag++[((m:Int),u)],by rw[mP];exact N.out,by rw[pN],a6.out,a8.out⟩
   case measure=>have O:=t.out.1;have a0:=t.out.2.2.1;have bw:=t.out.2.1;have a_:=ak.out;simp only[intOf];rw[O,a_.1];simp only;omega
end
variable {al:Nat->Prop}
section
open Go.Shelf
attribute [local go_sem] Oper.semAt_some
def hV (ag:List (Int×Int)):Int:=match ag.getLast? with|none=>-1|some x=>x.2
theorem wD (ag:List (Int×Int)) (x:Int×Int):hV (ag++[x])=x.2:=by unfold hV;rw[nQ]
theorem oK {P:Program} {f:FuncId} {args:Array Value} {al:Ending->ab->Prop} (h:Calls P f args w al):CallsIn Fence.wide n P f args w al:=callsIn_wide.2 h
theorem AU (ai:Int->Nat) (m n:Nat) (a:ab) (c:List (Int×Int)->ab->Prop) (q:List (Int×Int)->(Int×Int)->ab->Prop) (aC:m<a.heap.size) (aF:n<a.heap.size) (M:∀ag A d,c ag A->Mod (λk=>k=a.heap.size∨k=a.heap.size+1∨k=a.heap.size+2) A d->c ag d) (N:∀ag x A d,q ag x A->Mod (λk=>k=a.heap.size∨k=a.heap.size+1∨k=a.heap.size+2) A d->q ag x d) (O:∀ag A,c ag A->hV ag<9223372036854775808) (P:∀ag x A,q ag x A->c (ag++[x]) A) (h0:c [] (a.alloc (av #[I J (-1)] 3))) (Q:∀(V:List (Int×Int)->ab->Prop) (l:Nat) (i:ab->Prop) (o:ab),(∀ag W W',V ag W->W'.heap[a.heap.size]?=W.heap[a.heap.size]?->V ag W')->(∀A d,i A->q6 (a.heap.size+1) A d->i d)->(∀A,i A->a.heap.size+3<=A.heap.size)->(V [] o∧c [] o)->i o->(∀p x W,V p W∧q p x W->i W->YieldAt Fence.wide 7 au l (lx ai x) W λe W'=>e=aK (aE true)∧(V (p++[x]) W'∧c (p++[x]) W')∧i W')->CallsIn Fence.wide 8 au 133 #[.func (.yield l) #[] #[],af (R ⟨m,0,U⟩),af (R ⟨n,0,U⟩)] o λe W'=>(∃v,e=aK v)∧∃ag,hE ag=true∧(V ag W'∧c ag W')∧i W'):CallsIn Fence.wide 9 au 77 #[.func (.func 133) #[] #[af (R ⟨m,0,U⟩),af (R ⟨n,0,U⟩)]] a λe W'=>∃ag,hE ag=true∧e=aK (I J (oc (hV ag)))∧c ag W':=by
 have w:=C M;have y:=C N;have S:=C P;have T:=C O;have X:=C h0;have Y:=C Q;refine callsIn_of_wp_marks func77 rfl trivial ?_ rfl;simp only[ntmps77,jE,dY,hJ,jH,jG,jB,jA,jF,jC,iU,gQ];gi_wp2;have r:(a.alloc (av #[I J (-1)] 3)).heap.size=a.heap.size+1:=by simp
 have Z:=ak.new a #[I J (-1)] 3;refine wA rfl (by omega) (gf:=133) (lb:=#[af (R ⟨m,0,U⟩),af (R ⟨n,0,U⟩)]) rfl trivial (enters_of func133 (by kernel_rfl) rfl) (encs:=lx ai) (λ_=>rfl) (λag W=>ak W a.heap.size #[I J (hV ag)] 3∧c ag W) (λag x W=>ak W a.heap.size #[I J (hV ag)] 3∧q ag x W) (λag=>hE ag=true) ?hI ?hI' ⟨Z,X.out⟩ ?hiter (λx=>{tmps:=#[.func (.func 133) #[] #[af (R ⟨m,0,U⟩),af (R ⟨n,0,U⟩)],undef,I J 0,af (R ⟨a.heap.size,0,U⟩),undef,I J x.2,.func (.func 133) #[] #[af (R ⟨m,0,U⟩),af (R ⟨n,0,U⟩)],af (R ⟨ai x.1,0,U⟩),I J x.2,undef,undef,undef,undef,undef],defers:=[]}) ?assign ?body ?done;case hI=>rintro ag A d ⟨f,h⟩ b;rw[r] at b;exact⟨f.mod b (λe=>by omega),w.out _ _ _ h (b.mono (λk _ e=>by omega))⟩
 case hI'=>rintro ag x A d ⟨f,h⟩ b;rw[r] at b;exact⟨f.mod b (λe=>by omega),y.out _ _ _ _ h (b.mono (λk _ e=>by omega))⟩
 case hiter=>intro l B o z D E aa ao ac;rw[r] at z D;exact Y.out (λag W=>ak W a.heap.size #[I J (hV ag)] 3) l B o (λag W W' ay e=>e.trans ay) z D aa ao ac
 case assign=>intro l x W ae s;simp only[lx];gi_wp2;exact s
 case body=>rintro l p ⟨g,x⟩ W ⟨f,h⟩ t;rw[r] at t;have F:=f.cell 0 (v:=I J (hV p)) rfl;have am:=f.free 0;have ad:=C f;have u:=C h;clear f h;gi_wp2;have b:=Mod.one W a.heap.size 0 (I J x);refine⟨⟨b.block _ (by omega) (by omega),b.block _ (by omega) (by omega)⟩,?_,S.out _ _ _ (y.out _ _ _ _ u.out (b.mono (λk _ e=>.inl e)))⟩;rw[wD];exact ad.out.set 0 (I J x)
 case done=>
  rintro ag W G ⟨f,h⟩ s;have F:=f.cell 0 (v:=I J (hV ag)) rfl;have E:=T.out _ _ h;have u:=C h;obtain⟨j,t⟩:∃j,hV ag=j:=⟨_,rfl⟩;have H:=C t;rw[t] at F E;rw[r] at s⊢;have K:=C s;have L:=C (w.out _ _ (W.putObj (a.heap.size+1) (.deferred U)) u.out ⟨rfl,rfl,rfl,by simp,λk aM aB=>p5 (λe=>aB (.inr (.inl e)))⟩);by_cases az:j<0;·gi_wp2;refine⟨by simp,.inl ⟨_,_,rfl,run_takeDeferred K.out,?_⟩⟩;refine⟨_,results_tmp rfl _ _ _,ag,G,?_,L.out⟩;rw[H.out];unfold oc;rw[aj az];rfl
  ·have ap:j.tdiv 2=j/2:=Int.tdiv_eq_ediv_of_nonneg (by omega);have aO:IntKind.i64.wrap (j/2)=j/2:=IntWalk.i64_in _ (by omega);gi_wp2;refine⟨by simp,.inl ⟨_,_,rfl,run_takeDeferred K.out,?_⟩⟩;refine⟨_,results_tmp rfl _ _ _,ag,G,?_,L.out⟩;rw[H.out];unfold oc;rw[z0 (by omega)];rfl
end
variable {cap:Nat} {zs:List Int}
section
variable {aq:ab} {S:Nat->Prop} {b:Nat} {gp ai:Int->Nat}
def mQ (aq:ab) (S:Nat->Prop) (b:Nat) (gp ai:Int->Nat) (h:ad) (e:Ending) (w':ab):Prop:=e=aK (bD #[])∧bB aq S b gp ai h w'
theorem ad.IY (h:ad) {g u:Int} (b:0<=g) (c:0<=u) (d:u≠g) (A a B:Option aL):((h.set g A).set u B).set g a=(h.set g a).set u B:=by unfold ad.set;dsimp only;congr 1;rw[List.set_comm _ _ (by omega),List.set_set,List.set_comm _ _ (by omega)]
theorem Own.mR {α:Type} {E:cm α} {T:Nat} {zs:List α} (h:Own E W B T v n zs):∃a cap,v=aA a n cap:=by obtain⟨_,a,cap,b,_⟩:=h.rd;exact⟨a,cap,b⟩
theorem IZ (w:ab) (h:ad) (g:Int) (G:aL) (H:bB aq S b gp ai h w) (d:h.gs.length=32) (a:h.at g=R G) (e:G.up=-1):Calls au 143 #[af (R ⟨b,0,U⟩),I J g] w (mQ aq S b gp ai h):=by have f:=C H;obtain⟨m,rfl,j,c⟩:=H.ty a d;have i:=(H.cw a).cell 0 (v:=I J G.up) rfl;rw[e] at i;clear H d a e;go_enter func143,ntmps143;go_wp2;go_end0;exact⟨rfl,f⟩
theorem I0 (w:ab) (h Z:ad) (g:Int) (G d:aL) (H:bB aq S b gp ai h w) (x:h.gs.length=32) (hk:c_ h.at g) (n:h.at g=R G) (aU:g≠0) (y:h.at G.up=R d) (o:G.fQ=true) (aP:G.on=false) (W:∀w',bB aq S b gp ai ((h.set g (R {G with own:={G.own with v:=h7 G.own.v d.q.mn h.b4},on:=true})).set G.up (R {d with q:=d.q.put {G.own with v:=h7 G.own.v d.q.mn h.b4}})) w'->Calls au 143 #[af (R ⟨b,0,U⟩),I J G.up] w' (mQ aq S b gp ai Z)):Calls au 143 #[af (R ⟨b,0,U⟩),I J g] w (mQ aq S b gp ai Z):=by
 have aT:=C H;have a4:=C x;have j:=C n;have z:=C y;have aV:=C hk;have L:=C W;have A:=hk.mw n aU;have M:G.stopped=false∧G.q.es≠[]:=by
  unfold aL.fQ at o;cases he:G.q.es with
  |nil=>rw[he] at o;simp at o
  |cons a l=>rw[he] at o;simp at o;exact⟨o,by simp⟩
 obtain⟨m,aZ,a5,c⟩:=H.ty n x;obtain⟨s,X,aK,ak⟩:=H.ty y x;have t:=H.cw n;have a6:=t.cell 0 (v:=I J G.up) rfl;have bC:=t.cell 2 (v:=af (R ⟨ai g,0,U⟩)) rfl;have a8:=t.cell 8 (v:=aE G.stopped) rfl;have u2:=(H.cw y).cell 2 (v:=af (R ⟨ai G.up,0,U⟩)) rfl;rw[M.1] at a8;have Y:=C (H.drew.ra n (hk.q g G n));have aa:0<G.q.es.length:=by
  cases he:G.q.es with
  |nil=>exact absurd he M.2
  |cons a l=>simp
 have a_:G.up≠-1:=by omega
 generalize ao:G.up=up at a6 z A ak X u2 L a_;generalize ac:h7 G.own.v d.q.mn h.b4=i at L;have av:=C ac;have ay:=C ao;subst aZ X;generalize ba:G.q.es=es at aa Y;obtain⟨k,aB⟩:∃k:Nat,es.length=k+1:=⟨es.length-1,by omega⟩;have ag:=C aB;have aR:=t.cell 7 (v:=aE G.on) rfl;clear H x hk n y o W t M ao ac ba aa aB;go_enter func143,ntmps143;go_wp2_with fail;go_region;go_wp2_with fail;refine Y.mono ?_;rintro e a9 ⟨aD,rfl,az,aC⟩;obtain⟨bG,bH,rfl⟩:=az.mR;have u:=C (aT.drew.below aC);rw[ag.out];clear az aC;have aF:=(u.cw j).cell 7 (v:=aE G.on) rfl;have bb:=(u.cw j).cell 5 (v:=I J G.own.v) rfl;have aw:=u.cs.cell 0 (wx h gp);rw[aP] at aF;go_wp2_with fail;go_region_with (first|(go_at_call 132;refine(u.drew.s_ z).mono ?_;rintro e bd ⟨rfl,rfl⟩)|(go_at_call 146;refine(Ac G.own.v d.q.mn h.b4 _).mono ?_;rintro e ae ⟨rfl,am⟩;rw[av.out];have B:=C (u.drew.below am);have bc:=(B.cw j).cell 5 (v:=I J G.own.v) rfl;have bf:=(B.cw j).free 5;clear am bb aF aw));all_goals
  go_upto_region 8 with fail;generalize aM:ae.setCell ⟨gp m,5,U⟩ (I J i)=bg;obtain⟨f,D⟩:=aX ({G with own:={G.own with v:=i}}:aL);have E:bB aq S b gp ai (h.set m (R f)) bg:=by rw[<-D];exact aM▸B.out.cells j ((B.cw j).set 5 (I J i)) (Mod.one ae (gp m) 5 _) rfl
  have N:(h.set m (R f)).at m=R f:=by rw[ad.dq j.out];exact eV _ _ _
  have O:(h.set m (R f)).at s=R d:=by rw[ad.dq j.out];exact(gi _ A.1).trans z
  have p:=E.cw N;rw[<-D] at p;have an:=p.cell 3 (v:=I J G.own.id) rfl;have ax:=p.cell 4 (v:=I ah G.own.wt) rfl;have bk:=p.cell 5 (v:=I J i) rfl;have bl:=p.cell 6 (v:=I ah G.own.rem) rfl;have be:=C E;have bn:=C N;have aA:=C O;have F:=C D;have bp:=C (E.AR {G.own with v:=i} O (aV.q _ _ z));clear aM E N O p D bc bf;go_wp2_with fail;refine bp.mono ?_;rintro e aj ⟨rfl,P⟩;have Q:((h.set m (R f)).set s (R {d with q:=d.q.put {G.own with v:=i}})).at m=R f:=by rw[ad.dq aA.out];exact(gi _ (Ne.symm A.1)).trans bn
  have K:=P.cw Q;rw[<-F.out] at K;have bq:=K.cell 7 (v:=aE G.on) rfl;have br:=K.free 7;have ap:=C P;have T:=C Q;clear P Q K an ax bk bl;go_upto_region 10 with fail;generalize V:aj.setCell ⟨gp m,7,U⟩ (aE true)=a0;have r:=ap.cells (G':={f with on:=true}) T (by have:=(ap.cw T).set 7 (aE true);rw[V] at this;rw[<-F.out] at this⊢;exact this) (V▸Mod.one aj (gp m) 7 _) rfl;have aO:(((h.set m (R f)).set s (R {d with q:=d.q.put {G.own with v:=i}})).set m (R {f with on:=true})).at m=R {f with on:=true}:=by rw[ad.dq T.out];exact eV _ _ _
  have bw:=(r.cw aO).cell 0 (v:=I J f.up) rfl;rw[show f.up=(s:Int) by rw[<-F.out];exact ay.out] at bw;rw[ad.IY h (by omega) (by omega) A.1] at r;rw[<-F.out] at r;have aQ:({{G with own:={G.own with v:=i}} with on:=true}:aL)=⟨(s:Int),G.deep,G.q,{G.own with v:=i},true,G.stopped⟩:=by rw[<-ay.out]
  rw[aQ] at r;have a2:=C (L a0 r);clear V r aO aQ bq br;go_wp2_with fail;refine a2.mono ?_;rintro e bK ⟨rfl,aS⟩;have a3:=C aS;clear aS;go_wp2_with fail;go_end0;exact⟨rfl,a3⟩
theorem ad.AV (h:ad) {g u:Int} (a:0<=g) (b:0<=u) (c:u≠g) (A B:Option aL):(h.set u B).set g A=(h.set g A).set u B:=by unfold ad.set;dsimp only;congr 1;rw[List.set_comm _ _ (by omega)]
theorem I1 (w:ab) (h:ad) (g:Int) (G K:aL) (H:bB aq S b gp ai h w) (p:h.gs.length=32) (hk:c_ h.at g) (a:h.at g=R G) (L:g≠0) (r:h.at G.up=R K) (z:G.fQ=G.on):Calls au 143 #[af (R ⟨b,0,U⟩),I J g] w (mQ aq S b gp ai h):=by
 have s:=C H;have M:=hk.mw a L;obtain⟨m,N,ao,c⟩:=H.ty a p;obtain⟨ac,A,ay,O⟩:=H.ty r p;have f:=H.cw a;have P:=f.cell 0 (v:=I J G.up) rfl;have aB:=f.cell 2 (v:=af (R ⟨ai g,0,U⟩)) rfl;have Q:=f.cell 7 (v:=aE G.on) rfl;have T:=f.cell 8 (v:=aE G.stopped) rfl;have u2:=(H.cw r).cell 2 (v:=af (R ⟨ai G.up,0,U⟩)) rfl;have t:=C (H.drew.ra a (hk.q g G a));have V:G.up≠-1:=by omega
 generalize W:G.up=up at P O A u2 V;have B:=C a;generalize D:G.q.es=es at t;obtain⟨E,u⟩:=aX G.stopped;obtain⟨n,o⟩:=aX G.on;have d:n=(!E&&!es.isEmpty):=by rw[<-o,<-z,<-u,<-D];rfl
 rw[u] at T;rw[o] at Q;have F:=C o;subst N A;clear H p hk a r z f W D u M o;cases E with
 |true=>
  have:n=false:=by rw[d];rfl
  subst this;clear d;go_enter func143,ntmps143;go_wp2_with fail;go_region;go_wp2_with fail;go_end0;exact⟨rfl,s.drew⟩
 |false=>
  cases es with
  |nil=>have:n=false:=(by rw[d];rfl);subst this;clear d;go_enter func143,ntmps143;go_wp2_with fail;go_region;go_wp2_with fail;refine t.mono ?_;rintro e X ⟨Y,rfl,i,j⟩;obtain⟨Z,aa,rfl⟩:=i.mR;have k:=C (s.drew.below j);clear i j;have y:=(k.cw B).cell 7 (v:=aE G.on) rfl;rw[F.out] at y;rw[hJ];go_wp2_with fail;go_end0;exact⟨rfl,k⟩
  |cons x l=>have:n=true:=(by rw[d];rfl);subst this;clear d;go_enter func143,ntmps143;go_wp2_with fail;go_region;go_wp2_with fail;refine t.mono ?_;rintro e X ⟨Y,rfl,i,j⟩;obtain⟨Z,aa,rfl⟩:=i.mR;have k:=C (s.drew.below j);clear i j;have y:=(k.cw B).cell 7 (v:=aE G.on) rfl;rw[F.out] at y;rw[dY];go_wp2_with fail;go_end0;exact⟨rfl,k⟩
end
section
variable {aq:ab} {S:Nat->Prop} {b:Nat} {gp ai:Int->Nat}
theorem ad.set_set (h:ad) (g:Int) (A B:Option aL):(h.set g A).set g B=h.set g B:=by unfold ad.set;simp
theorem I2 (w:ab) (h Z:ad) (g:Int) (G f:aL) (H:bB aq S b gp ai h w) (aa:h.gs.length=32) (hk:c_ h.at g) (u:h.at g=R G) (bl:g≠0) (W:h.at G.up=R f) (aZ:G.fQ=false) (a6:G.on=true) (a8:∀w',bB aq S b gp ai ((h.set g (R {G with own:=f.q.er (2*g+1),on:=false})).set G.up (R {f with q:=f.q.drop (2*g+1)})) w'->Calls au 143 #[af (R ⟨b,0,U⟩),I J G.up] w' (mQ aq S b gp ai Z)):Calls au 143 #[af (R ⟨b,0,U⟩),I J g] w (mQ aq S b gp ai Z):=by
 have a_:=C H;have ao:=C u;have D:=C W;have bn:=C hk;have X:=C a8;have E:=hk.mw u bl;obtain⟨m,aA,aR,c⟩:=H.ty u aa;obtain⟨i,av,a9,bp⟩:=H.ty W aa;have F:=H.cw u;have bq:=F.cell 0 (v:=I J G.up) rfl;have aD:=F.cell 2 (v:=af (R ⟨ai g,0,U⟩)) rfl;have br:=F.cell 7 (v:=aE G.on) rfl;have a0:=F.cell 8 (v:=aE G.stopped) rfl;have u2:=(H.cw W).cell 2 (v:=af (R ⟨ai G.up,0,U⟩)) rfl;rw[a6] at br;have ba:=C (H.drew.ra u (hk.q g G u));have bw:G.up≠-1:=by omega
 generalize ag:G.up=up at bq D E bp av u2 X bw;have r:=C ag;obtain⟨a,ac⟩:=aX (f.q.er (2*g+1));obtain⟨j,ay⟩:=aX (f.q.drop (2*g+1));rw[ac,ay] at X;have bb:=C (bx ac ay);subst aA av;generalize aw:G.q.es=es at ba;obtain⟨bc,aB⟩:=aX G.stopped;have az:false=(!bc&&!es.isEmpty):=by rw[<-aZ,<-aB,<-aw];rfl
 rw[aB] at a0;clear H aa hk u W aZ a8 F ag aw aB ac ay;have bf:∀(Y:ab),bB aq S b gp ai h Y->Calls au 193 #[af (R ⟨ai i,0,U⟩),I J (2*(m:Int)+1)] Y λe w'=>e=aK (bD #[bm (dn a),I J (f.q.e5 (2*(m:Int)+1))])∧bB aq S b gp ai (h.set i (R {f with q:=j})) w':=by intro Y a2;have:=a2.AS (2*(m:Int)+1) D (bn.q _ _ D);rw[bb.out.1,bb.out.2] at this;exact this
 have bg:=C bf;clear bf;cases bc with
 |true=>
  clear az;go_enter func143,ntmps143;go_wp2_with fail;go_region;go_wp2_with fail;refine(s8 m (by omega) (by omega) _).mono ?_;rintro e a3 ⟨rfl,rfl⟩;go_wp2_with fail;refine(bg _ a_.drew).mono ?_;rintro e y ⟨rfl,z⟩;have A:(h.set i (R {f with q:=j})).at m=R G:=by rw[ad.dq D.out];exact(gi _ (Ne.symm E.1)).trans ao
  have d:=z.cw A;have aC:=d.cell 3 (v:=I J G.own.id) rfl;have aF:=d.cell 4 (v:=I ah G.own.wt) rfl;have ae:=d.cell 5 (v:=I J G.own.v) rfl;have am:=d.cell 6 (v:=I ah G.own.rem) rfl;have aM:=d.free 3;have aj:=d.free 4;have ap:=d.free 5;have aO:=d.free 6;have K:=C z;have B:=C A;clear z A d;unfold dn;go_upto_region 9 with fail;generalize s:(((y.setCell ⟨gp m,3,U⟩ (I J a.id)).setCell ⟨gp m,4,U⟩ (I ah (a.wt:Int))).setCell ⟨gp m,5,U⟩ (I J a.v)).setCell ⟨gp m,6,U⟩ (I ah (a.rem:Int))=n;have L:Mod (λk=>k=gp m) y n:=s▸(((Mod.one y (gp m) 3 _).setCell rfl _).setCell rfl _).setCell rfl _;have o:ak n (gp m) (im {G with own:=a} (ai m)) 132:=s▸((((K.cw B).set 3 (I J a.id)).set 4 (I ah (a.wt:Int))).set 5 (I J a.v)).set 6 (I ah (a.rem:Int));have M:=K.cells (G':={G with own:=a}) B o L rfl;have N:((h.set i (R {f with q:=j})).set m (R {G with own:=a})).at m=R {G with own:=a}:=by rw[ad.dq B.out];exact eV _ _ _
  have aQ:=o.cell 7 (v:=aE G.on) rfl;have aS:=o.free 7;have aU:=C M;have O:=C N;clear s L M N aC aF ae am aM aj ap aO;go_upto_region 10 with fail;generalize t:n.setCell ⟨gp m,7,U⟩ (aE false)=P;have p:=aU.cells (G':={G with own:=a,on:=false}) O (by have:=o.set 7 (aE false);rw[t] at this;exact this) (t▸Mod.one n (gp m) 7 _) rfl;have Q:(((h.set i (R {f with q:=j})).set m (R {G with own:=a})).set m (R {G with own:=a,on:=false})).at m=R {G with own:=a,on:=false}:=by rw[ad.dq O.out];exact eV _ _ _
  have aP:=(p.cw Q).cell 0 (v:=I J G.up) rfl;rw[r.out] at aP;have T:(((h.set i (R {f with q:=j})).set m (R {G with own:=a})).set m (R {G with own:=a,on:=false}))=(h.set m (R ⟨(i:Int),G.deep,G.q,a,false,G.stopped⟩)).set i (R {f with q:=j}):=by rw[<-r.out,ad.set_set,ad.AV h (by omega) (by rw[r.out];omega) (by rw[r.out];exact E.1)]
  rw[T] at p;have aT:=C (X P p);clear t p Q T aQ aS;go_wp2_with fail;refine aT.mono ?_;rintro e a4 ⟨rfl,V⟩;have aV:=C V;clear V;go_wp2_with fail;go_end0;exact⟨rfl,aV⟩
 |false=>
  cases es with
  |cons x l=>cases az
  |nil=>clear az;go_enter func143,ntmps143;go_wp2_with fail;go_region;go_wp2_with fail;refine ba.mono ?_;rintro e Y ⟨bG,rfl,an,ax⟩;obtain⟨bH,bd,rfl⟩:=an.mR;have bk:=C (a_.drew.below ax);clear an ax;have a5:=(bk.cw ao).cell 7 (v:=aE G.on) rfl;rw[a6] at a5;rw[hJ];go_wp2_with fail;refine(s8 m (by omega) (by omega) _).mono ?_;rintro e a3 ⟨rfl,rfl⟩;go_wp2_with fail;refine(bg _ bk).mono ?_;rintro e y ⟨rfl,z⟩;have A:(h.set i (R {f with q:=j})).at m=R G:=(by rw[ad.dq D.out];exact(gi _ (Ne.symm E.1)).trans ao);have d:=z.cw A;have aC:=d.cell 3 (v:=I J G.own.id) rfl;have aF:=d.cell 4 (v:=I ah G.own.wt) rfl;have ae:=d.cell 5 (v:=I J G.own.v) rfl;have am:=d.cell 6 (v:=I ah G.own.rem) rfl;have aM:=d.free 3;have aj:=d.free 4;have ap:=d.free 5;have aO:=d.free 6;have K:=C z;have B:=C A;clear z A d;unfold dn;go_upto_region 9 with fail;obtain⟨n,s⟩:∃n,(((y.setCell ⟨gp m,3,U⟩ (I J a.id)).setCell ⟨gp m,4,U⟩ (I ah (a.wt:Int))).setCell ⟨gp m,5,U⟩ (I J a.v)).setCell ⟨gp m,6,U⟩ (I ah (a.rem:Int))=n:=⟨_,rfl⟩;rw[s];have L:Mod (λk=>k=gp m) y n:=s▸(((Mod.one y (gp m) 3 _).setCell rfl _).setCell rfl _).setCell rfl _;have o:ak n (gp m) (im {G with own:=a} (ai m)) 132:=s▸((((K.cw B).set 3 (I J a.id)).set 4 (I ah (a.wt:Int))).set 5 (I J a.v)).set 6 (I ah (a.rem:Int));have M:=K.cells (G':={G with own:=a}) B o L rfl;have N:((h.set i (R {f with q:=j})).set m (R {G with own:=a})).at m=R {G with own:=a}:=(by rw[ad.dq B.out];exact eV _ _ _);have aQ:=o.cell 7 (v:=aE G.on) rfl;have aS:=o.free 7;have aU:=C M;have O:=C N;have bC:=C o;clear s L o M N aC aF ae am aM aj ap aO;go_upto_region 10 with fail;obtain⟨P,t⟩:∃P,n.setCell ⟨gp m,7,U⟩ (aE false)=P:=⟨_,rfl⟩;rw[t];have p:=aU.cells (G':={G with own:=a,on:=false}) O (by have:=bC.set 7 (aE false);rw[t] at this;exact this) (t▸Mod.one n (gp m) 7 _) rfl;have Q:(((h.set i (R {f with q:=j})).set m (R {G with own:=a})).set m (R {G with own:=a,on:=false})).at m=R {G with own:=a,on:=false}:=(by rw[ad.dq O.out];exact eV _ _ _);have aP:=(p.cw Q).cell 0 (v:=I J G.up) rfl;rw[r.out] at aP;have T:(((h.set i (R {f with q:=j})).set m (R {G with own:=a})).set m (R {G with own:=a,on:=false}))=(h.set m (R ⟨(i:Int),G.deep,G.q,a,false,G.stopped⟩)).set i (R {f with q:=j}):=(by rw[<-r.out,ad.set_set,ad.AV h (by omega) (by rw[r.out];omega) (by rw[r.out];exact E.1)]);rw[T] at p;have aT:=C (X P p);clear t p Q T aQ aS;go_wp2_with fail;refine aT.mono ?_;rintro e a4 ⟨rfl,V⟩;have aV:=C V;clear V;go_wp2_with fail;go_end0;exact⟨rfl,aV⟩
theorem I3 (n:Nat):∀(w:ab) (a:ad) (g:Int) (G:aL),bB aq S b gp ai a w->a.gs.length=32->a.at g=R G->G.deep<n->c_ a.at g->Calls au 143 #[af (R ⟨b,0,U⟩),I J g] w (mQ aq S b gp ai (a.settle n g)):=by
 induction n with
 |zero=>intro w a g G _ _ c A f;have:=(f.deep g G c).1;omega
 |succ n B=>
  intro w a g G r m c A f;by_cases h:g=0;·have e:a.settle (n+1) g=a:=(by unfold ad.settle;rw[c];dsimp only;rw[aj ((f.np c).2 h)]);rw[e];exact IZ w a g G r m c ((f.np c).2 h)
  ·obtain⟨d,j,F⟩:=f.up g G c h;have C:=(f.mw c h).1;have D:a.settle (n+1) g=if G.fQ=G.on then a else if G.fQ=true then ad.settle n ((a.set g (R {G with own:={G.own with v:=h7 G.own.v d.q.mn a.b4},on:=true})).set G.up (R {d with q:=d.q.put {G.own with v:=h7 G.own.v d.q.mn a.b4}})) G.up else ad.settle n ((a.set g (R {G with own:=d.q.er (2*g+1),on:=false})).set G.up (R {d with q:=d.q.drop (2*g+1)})) G.up:=by
    conv=>lhs;unfold ad.settle
    rw[c];dsimp only;rw[z0 (λe=>h ((f.np c).1 e)),j]
   have u:∀(y:aL) (k:aD) (w':ab),c_ (cP (cP a.at g (R y)) G.up (R {d with q:=k})) G.up->bB aq S b gp ai ((a.set g (R y)).set G.up (R {d with q:=k})) w'->Calls au 143 #[af (R ⟨b,0,U⟩),I J G.up] w' (mQ aq S b gp ai (((a.set g (R y)).set G.up (R {d with q:=k})).settle n G.up)):=by
    intro y k w' o i;have z:=ad.dq (x:=R y) c;have E:(a.set g (R y)).at G.up=R d:=(by rw[z];exact(gi _ C).trans j);have s:=ad.dq (x:=R {d with q:=k}) E;rw[z] at s;refine B w' _ _ {d with q:=k} i (by rw[ad.md,ad.md];exact m) ?_ ?_ (by rw[s];exact o);·rw[s];exact eV _ _ _
    ·show d.deep<n;omega
   rw[D];by_cases i:G.fQ=G.on;·rw[aj i];exact I1 w a g G d r m f c h j i
   ·rw[z0 i];by_cases l:G.fQ=true
    ·rw[aj l];have p:G.on=false:=by cases o:G.on with
      |false=>rfl
      |true=>rw[o] at i;exact absurd l i
     exact I0 w a _ g G d r m f c h j l p (λw'=>u _ _ w' (f.uU c h j p l ((f.own g G c h).uW _)))
    ·rw[z0 l];have t:G.fQ=false:=(by simpa using l);have p:G.on=true:=by cases o:G.on with
      |true=>rfl
      |false=>rw[o,t] at i;exact absurd rfl i
     exact I2 w a _ g G d r m f c h j t p (λw'=>u _ _ w' (f.uV c h j p t))
end
def dA (S:Nat->Prop) (b:Nat) (r:Value) (h':ad) (w:ab) (e:Ending) (w':ab):Prop:=e=aK r∧cQ w' (c6 S w) b h'∧Mod S w w'
theorem bB.hp {h:ad} (H:bB w S b gp ai h w') (r:Value):dA S b r h w (aK r) w':=⟨rfl,H.done⟩
theorem ad.AW {h:ad} {g:Int} {x:aL} (a:h.at g=R x):h.set g (R x)=h:=by
 obtain⟨e,f,b⟩:=ad.dp a;obtain⟨c,d⟩:=bE.1 b;unfold ad.set;have:h.gs.set g.toNat (R x)=h.gs:=by rw[<-d];exact List.set_getElem_self c
 rw[this]
theorem ad.Ok.I4 {h:ad} (hk:h.Ok) {g:Int} {x:aL} (b:h.at g=R x) (f:gW e.id=true) (d:x.q.dI {e with id:=e.id*2}=0):c_ (h.set g (R {x with q:=x.q.put {e with id:=e.id*2}})).at g:=by
 rw[ad.dq b];refine hk.g.queue b ((hk.g.q g x b).put _) ?_ ?_ (.inl rfl) (.inl rfl)
 ·intro c a;rcases(aD.lS d).1 a with rfl|a;·exact .inl (uX f)
  ·exact .inr ⟨c,a,rfl⟩
 ·intro c a _;exact dG.2 ⟨c,(aD.lS d).2 (.inr a),rfl⟩
theorem ad.Ok.I5 {h:ad} (hk:h.Ok) {g:Int} {x:aL} (a:h.at g=R x) (task:Int):c_ (h.set g (R {x with q:=x.q.drop (2*task)})).at g:=by
 rw[ad.dq a];refine hk.g.queue a ((hk.g.q g x a).drop _) ?_ ?_ (.inl rfl) (.inl rfl);·intro b c;exact .inr ⟨b,(aD.mx.1 c).1,rfl⟩
 ·intro b c d;exact dG.2 ⟨b,aD.mx.2 ⟨c,by omega⟩,rfl⟩
theorem wE {a:ab} {h:ad} {g:Int} (H:bB a S b gp ai h w) (d:h.gs.length=32) (c:h.at g=R G) (hk:c_ h.at g):Calls au 143 #[af (R ⟨b,0,U⟩),I J g] w (mQ a S b gp ai (h.settle 10 g)):=I3 10 w h g G H d c (by have:=(hk.deep g G c).2;omega) hk
theorem I6 (S:Nat->Prop) (b:Nat) (h:ad) (g:Int) (a:aI) (w:ab) (H:cQ w S b h) (hk:h.Ok):Calls au 147 #[af (R ⟨b,0,U⟩),I J g,bm #[I J a.id,I ah (a.wt:Int),I J a.v,I ah (a.rem:Int)]] w (dA S b (I J (h.dI g a)) (h.put g a) w):=by
 obtain⟨gp,ai,H⟩:=H.start;obtain⟨V,m⟩:=aX (w.alloc (av #[I J a.id,I ah (a.wt:Int),I J a.v,I ah (a.rem:Int)] 79));have z:Below w.heap.size w V:=m▸bz _ _;have u:ak V w.heap.size (dn a) 79:=m▸ak.new w _ _;have n:=H.below z;have o:=C (oF g n hk.len);have Y:=C H;have Z:=u.cell 0 (v:=I J a.id) rfl;have aa:=u.free 0;have K:=C n;have A:=C m;cases f:h.at g with
 |none=>
  have d:h.dI g a=1:=by unfold ad.dI;rw[f]
  have j:h.put g a=h:=by unfold ad.put;rw[z0 (by rw[d];decide)]
  rw[wd f] at o;rw[d,j];clear H m n f d j;go_enter func147,ntmps147;go_upto_region 1 with fail;rw[A.out];go_wp2_with fail;refine o.mono ?_;rintro e p ⟨rfl,rfl⟩;go_wp2_with fail;go_ret;exact K.hp _
 |some x=>
  rw[jY f] at o;have s:=C f;cases k:gW a.id with
  |false=>have d:h.dI g a=1:=(by unfold ad.dI;rw[f];dsimp only;rw[aj k]);have j:h.put g a=h:=(by unfold ad.put;rw[z0 (by rw[d];decide)]);have B:=C k;rw[d,j];clear H hk m z u n f d j k;go_enter func147,ntmps147;go_upto_region 1 with fail;rw[A.out];go_wp2_with fail;refine o.mono ?_;rintro e p ⟨rfl,rfl⟩;go_wp2_with fail;refine(oG a.id _).mono ?_;rintro e p ⟨rfl,rfl⟩;rw[B.out];go_wp2_with fail;go_ret;exact K.hp _
  |true=>have aF:0<=a.id∧a.id<64:=(by unfold gW at k;simpa using k);obtain⟨c,y⟩:=aX ({a with id:=a.id*2}:aI);have d:h.dI g a=x.q.dI c:=(by unfold ad.dI;rw[f];dsimp only;rw[z0 (by rw[k];decide),y]);have j:h.put g a=if x.q.dI c=0 then(h.set g (R {x with q:=x.q.put c})).settle 10 g else h:=(by unfold ad.put;rw[d,f];dsimp only;rw[y]);have L:x.q.dI c=0->c_ (h.set g (R {x with q:=x.q.put c})).at g:=(by rw[<-y];exact hk.I4 f k);have B:=C k;have M:=C L;have D:=C j;obtain⟨r,i⟩:=aX (h.put g a);obtain⟨ao,l⟩:=aX (x.q.dI c);rw[i,l] at D;rw[l] at M;rw[d,i,l];have N:=C l;have ac:=(n.cw f).cell 2 (v:=af (R ⟨ai g,0,U⟩)) rfl;have ay:=C y;clear H n d j k L i l m;go_enter func147,ntmps147;go_upto_region 1 with fail;rw[A.out];go_wp2_with fail;refine o.mono ?_;rintro e p ⟨rfl,rfl⟩;go_wp2_with fail;refine(oG a.id _).mono ?_;rintro e p ⟨rfl,rfl⟩;rw[B.out];go_upto_region 5 with fail;generalize E:p.setCell ⟨w.heap.size,0,U⟩ (I J (a.id*2))=O;have P:Below w.heap.size w O:=E▸((zF9 z).fw (b:=w.heap.size) zK9 _).toBelow;have t:ak O w.heap.size (dn c) 79:=(by have:=u.set 0 (I J (a.id*2));rw[E] at this;rw[<-ay.out];exact this);have F:=Y.below P;have ac:=(F.cw s).cell 2 (v:=af (R ⟨ai g,0,U⟩)) rfl;have Z:=t.cell 0 (v:=I J c.id) rfl;have d:=t.cell 1 (v:=I ah c.wt) rfl;have j:=t.cell 2 (v:=I J c.v) rfl;have ae:=t.cell 3 (v:=I ah c.rem) rfl;have dA:=C (F.drew.AR c s (hk.g.q g x s));rw[N.out] at dA;clear E P t F aa;go_region_with (first|(go_at_call 192;refine dA.mono ?_;rintro e am ⟨rfl,Q⟩;have T:=C Q;clear Q));all_goals
   by_cases l:ao=0;·subst l;have i:r=_:=D;rw[aj rfl] at i;have G:=C i;have aB:=C (wE T (by rw[ad.md];exact hk.len) (by rw[ad.dq s.out];exact eV _ _ _) (M rfl));clear i;go_wp2_with fail;refine aB.mono ?_;rintro e aM ⟨rfl,W⟩;have az:=C W;clear W;go_wp2_with fail;go_ret;rw[G.out];exact az.hp _
   ·have i:r=_:=D;rw[z0 l] at i;have G:=C i;clear i;go_wp2_with fail;go_ret;rw[G.out];have aC:x.q.put c=x.q:=(by unfold aD.put;rw[z0 (by rw[N.out];exact l)]);have X:=T.out;rw[aC,show({x with q:=x.q}:aL)=x from rfl,ad.AW s.out] at X;exact X.hp _
theorem cQ.trim {h:ad} (H:cQ w S b h):cQ w (λk=>S k∧k<w.heap.size) b h:=H.mono λk a c=>⟨c,a⟩
theorem bB.I7 {h:ad} {V:ab} (H:bB V (λk=>S k∧k<w.heap.size) b gp ai h W) (c:Below w.heap.size w V) (r:Value):dA S b r h w (aK r) W:=by obtain⟨d,e⟩:=H.done;exact⟨rfl,d.mono (λk _ f=>f.elim (λa=>.inl a.1) (λa=>.inr (cJ c.size a))),(Mod.below (S:=S) c).trans e (λi _ a=>a.1)⟩
theorem dA.ta {a:Nat->Prop} {h:ad} {c:ab} (H:cQ W a b h) (f:∀k,a k->k≠n) (g:∀k,a k->c6 S w k) (l:w.heap.size<=n) (j:Mod S w W) (d:Mod (λk=>k=n) W c):cQ c (c6 S w) b h∧Mod S w c:=⟨(H.frame d f).mono (λk _=>g k),j.trans d (λi m e=>by omega)⟩
theorem tb (w:ab) (n:Nat) (a b c d:Value):Mod (λk=>k=n) w ((((w.setCell ⟨n,0,U⟩ a).setCell ⟨n,1,U⟩ b).setCell ⟨n,2,U⟩ c).setCell ⟨n,3,U⟩ d):=(((Mod.one w n 0 a).setCell rfl b).setCell rfl c).setCell rfl d
theorem I8 (S:Nat->Prop) (b:Nat) (h:ad) (g task:Int) (w:ab) (H:cQ w S b h) (hk:h.Ok):Calls au 152 #[af (R ⟨b,0,U⟩),I J g,I J task] w (dA S b (bD #[bm (dn (h.er g task)),I J (h.e5 g task)]) (h.drop g task) w):=by
 obtain⟨V,aB⟩:=aX (w.alloc (av #[I J 0,I ah 0,I J 0,I ah 0] 79));have z:Below w.heap.size w V:=aB▸bz _ _;have a:ak V w.heap.size (dn la) 79:=aB▸ak.new w _ _;obtain⟨gp,ai,H⟩:=(H.trim.next z).start;have az:=C aB;clear aB;have ap:∀k,(λk=>S k∧k<w.heap.size) k->k≠w.heap.size:=λk hk e=>by have:=hk.2;omega
 have aO:∀k,c6 (λk=>S k∧k<w.heap.size) V k->k≠w.heap.size:=λk hk e=>by
  have:=a.lt;rcases hk with q|q;·have:=q.2;omega
  ·omega
 have aQ:∀k,c6 (λk=>S k∧k<w.heap.size) V k->c6 S w k:=λk hk=>hk.elim (λq=>.inl q.1) (λq=>.inr (cJ z.size q));have aS:=C ap;have M:=C aO;have aC:=C aQ;clear ap aO aQ;have G:=C (oF g H hk.len);have aU:=C H;have A:h.e5 g task≠0->h.er g task=la∧h.drop g task=h:=λe=>⟨by unfold ad.er;rw[if_neg e],by unfold ad.drop;rw[if_neg e]⟩;cases c:h.at g with
 |none=>
  have f:h.e5 g task=1:=by unfold ad.e5;rw[c]
  obtain⟨l,m⟩:=A (by rw[f];decide);rw[wd c] at G;rw[f,l,m];clear H hk c f l m A;have N:=a.cell 0 (v:=I J 0) rfl;have O:=a.cell 1 (v:=I ah 0) rfl;have P:=a.cell 2 (v:=I J 0) rfl;have Q:=a.cell 3 (v:=I ah 0) rfl;have W:=a.free 0;have X:=a.free 1;have Y:=a.free 2;have Z:=a.free 3;go_enter func152,ntmps152;go_upto_region 1 with fail;rw[az.out];go_wp2_with fail;refine G.mono ?_;rintro e K ⟨rfl,rfl⟩;go_wp2_with fail;have r:=aU.out.done;obtain⟨B,D⟩:=dA.ta r.1 M aC zK9 ((Mod.below (S:=S) z).trans r.2 (λi _ q=>q.1)) (tb _ w.heap.size (I J 0) (I ah 0) (I J 0) (I ah 0));exact bodyPost_ret (oH (g:=w.heap.size) (T:=79) rfl rfl rfl ((((a.set 0 (I J 0)).set 1 (I ah 0)).set 2 (I J 0)).set 3 (I ah 0))) rfl ⟨rfl,B,D⟩
 |some x=>
  rw[jY c] at G;cases s:gW task with
  |false=>have f:h.e5 g task=1:=(by unfold ad.e5;rw[c];dsimp only;rw[if_pos s]);obtain⟨l,m⟩:=A (by rw[f];decide);have aF:=C s;rw[f,l,m];clear H hk c f l m A s;have N:=a.cell 0 (v:=I J 0) rfl;have O:=a.cell 1 (v:=I ah 0) rfl;have P:=a.cell 2 (v:=I J 0) rfl;have Q:=a.cell 3 (v:=I ah 0) rfl;have W:=a.free 0;have X:=a.free 1;have Y:=a.free 2;have Z:=a.free 3;go_enter func152,ntmps152;go_upto_region 1 with fail;rw[az.out];go_wp2_with fail;refine G.mono ?_;rintro e K ⟨rfl,rfl⟩;go_wp2_with fail;refine(oG task _).mono ?_;rintro e K ⟨rfl,rfl⟩;rw[aF.out];go_wp2_with fail;have r:=aU.out.done;obtain⟨B,D⟩:=dA.ta r.1 M aC zK9 ((Mod.below (S:=S) z).trans r.2 (λi _ q=>q.1)) (tb _ w.heap.size (I J 0) (I ah 0) (I J 0) (I ah 0));exact bodyPost_ret (oH (g:=w.heap.size) (T:=79) rfl rfl rfl ((((a.set 0 (I J 0)).set 1 (I ah 0)).set 2 (I J 0)).set 3 (I ah 0))) rfl ⟨rfl,B,D⟩
  |true=>
   have bp:0<=task∧task<64:=(by unfold gW at s;simpa using s);have f:h.e5 g task=x.q.e5 (2*task):=(by unfold ad.e5;rw[c];dsimp only;rw[if_neg (by rw[s];decide)]);have aF:=C s;have L:=C (H.AS (2*task) c (hk.g.q g x c));have bq:=(H.cw c).cell 2 (v:=af (R ⟨ai g,0,U⟩)) rfl;cases aa:cK (2*task) x.q.es with
   |false=>
    have E:x.q.e5 (2*task)=12:=(by unfold aD.e5;rw[aa];rfl);rw[E] at f;obtain⟨l,m⟩:=A (by rw[f];decide);have aP:x.q.drop (2*task)=x.q:=(by unfold aD.drop;rw[aa];rfl);rw[E,aP,show({x with q:=x.q}:aL)=x from rfl,ad.AW c] at L;generalize ao:x.q.er (2*task)=d at L;rw[f,l,m];clear H hk c f l m A s aa E aP ao;go_enter func152,ntmps152;go_upto_region 1 with fail;rw[az.out];go_wp2_with fail;refine G.mono ?_;rintro e K ⟨rfl,rfl⟩;go_wp2_with fail;refine(oG task _).mono ?_;rintro e K ⟨rfl,rfl⟩;rw[aF.out];go_wp2_with fail;refine L.mono ?_;rintro e t ⟨rfl,F⟩;have o:=C ((a.mod F.1 (λq=>aS _ q rfl)).alloc (av (dn d) 79));have ba:=C (F.below (bz t (av (dn d) 79)));clear F;have N:=o.cell 0 (v:=I J 0) rfl;have O:=o.cell 1 (v:=I ah 0) rfl;have P:=o.cell 2 (v:=I J 0) rfl;have Q:=o.cell 3 (v:=I ah 0) rfl;have W:=o.free 0;have X:=o.free 1;have Y:=o.free 2;have Z:=o.free 3;unfold dn;obtain⟨p,j⟩:=aX (t.alloc (av #[I J d.id,I ah (d.wt:Int),I J d.v,I ah (d.rem:Int)] 79));go_upto_region 5 with fail;try rw[j]
    have br:p.cell? ⟨w.heap.size,0,U⟩=_:=j▸N;have aE:p.cell? ⟨w.heap.size,1,U⟩=_:=j▸O;have a0:p.cell? ⟨w.heap.size,2,U⟩=_:=j▸P;have bw:p.cell? ⟨w.heap.size,3,U⟩=_:=j▸Q;have a2:p.frozen? ⟨w.heap.size,0,U⟩=false:=j▸W;have a3:p.frozen? ⟨w.heap.size,1,U⟩=false:=j▸X;have a4:p.frozen? ⟨w.heap.size,2,U⟩=false:=j▸Y;have a5:p.frozen? ⟨w.heap.size,3,U⟩=false:=j▸Z;have ag:=C j;clear N O P Q W X Y Z j;go_wp2_with fail;have r:=ba.out.done;have aM:=o.out;unfold dn at r aM;rw[ag.out] at r aM;obtain⟨B,D⟩:=dA.ta r.1 M aC zK9 ((Mod.below (S:=S) z).trans r.2 (λi _ q=>q.1)) (tb _ w.heap.size (I J 0) (I ah 0) (I J 0) (I ah 0));exact bodyPost_ret (oH (g:=w.heap.size) (T:=79) rfl rfl rfl ((((aM.set 0 (I J 0)).set 1 (I ah 0)).set 2 (I J 0)).set 3 (I ah 0))) rfl ⟨rfl,B,D⟩
   |true=>
    have E:x.q.e5 (2*task)=0:=(by unfold aD.e5;rw[aa];rfl);rw[E] at f;have l:h.er g task={x.q.er (2*task) with id:=task}:=(by unfold ad.er;rw[if_pos f,c]);have m:h.drop g task=(h.set g (R {x with q:=x.q.drop (2*task)})).settle 10 g:=(by unfold ad.drop;rw[if_pos f,c]);have aj:=hk.I5 c task;rw[E] at L;obtain⟨d,ao⟩:=aX (x.q.er (2*task));obtain⟨aT,ac⟩:=aX (h.set g (R {x with q:=x.q.drop (2*task)}));have aV:aT.at g=R {x with q:=x.q.drop (2*task)}:=(by rw[<-ac,ad.dq c];exact eV _ _ _);have aZ:aT.gs.length=32:=(by rw[<-ac,ad.md];exact hk.len);rw[ao,ac] at L;rw[ao] at l;rw[ac] at m aj;rw[f,l,m];have bb:=C aV;have aw:=C aZ;have bc:=C aj;clear H hk c f l m A s aa E ao ac aV aZ aj;go_enter func152,ntmps152;go_upto_region 1 with fail;rw[az.out];go_wp2_with fail;refine G.mono ?_;rintro e K ⟨rfl,rfl⟩;go_wp2_with fail;refine(oG task _).mono ?_;rintro e K ⟨rfl,rfl⟩;rw[aF.out];go_wp2_with fail;refine L.mono ?_;rintro e t ⟨rfl,F⟩;have o:=C (a.mod F.1 (λq=>aS _ q rfl));obtain⟨a6,a8⟩:=F.done;have bf:=C ((Mod.below (S:=S) z).trans a8 (λi _ q=>q.1));have bg:=C a6.trim;clear F a6 a8;unfold dn;go_upto_region 8 with fail;generalize j:t.alloc (av #[I J task,I ah (d.wt:Int),I J d.v,I ah (d.rem:Int)] 79)=p;have ay:Below t.heap.size t p:=j▸bz _ _;have an:ak p t.heap.size (dn {d with id:=task}) 79:=j▸ak.new t _ _;have ax:=o.next ay;obtain⟨aK,bC,a_⟩:=(bg.next ay).start;have bk:=C (bf.ju ay);have bl:=C (wE a_ aw bb bc);clear j a_;go_wp2_with fail;refine bl.mono ?_;rintro e aR ⟨rfl,ae⟩;have a9:w.heap.size<t.heap.size:=o.lt;have am:=C (an.mod ae.1 (λq=>by have:=q.2;omega));have u:=C (ax.mod ae.1 (λq=>M _ q.1 rfl));obtain⟨bn,aq⟩:=ae.done;have aA:=C (bk.trans aq (λi bG q=>by
     rcases q.1 with y|y;·exact y.1
     ·have:=z.size;have:=a.lt;omega))
    clear ae aq;have bH:=am.cell 0 (v:=I J task) rfl;have bd:=am.cell 1 (v:=I ah d.wt) rfl;have be:=am.cell 2 (v:=I J d.v) rfl;have bK:=am.cell 3 (v:=I ah d.rem) rfl;have N:=u.cell 0 (v:=I J 0) rfl;have O:=u.cell 1 (v:=I ah 0) rfl;have P:=u.cell 2 (v:=I J 0) rfl;have Q:=u.cell 3 (v:=I ah 0) rfl;have W:=u.free 0;have X:=u.free 1;have Y:=u.free 2;have Z:=u.free 3;go_wp2_with fail
    obtain⟨B,D⟩:=dA.ta bn (n:=w.heap.size) (λk hk=>by
     rcases hk with q|q;·exact M _ q.1
     ·have:=ay.size;omega) (λk hk=>by
     rcases hk with q|q;·exact aC _ q.1
     ·have:=ay.size;exact .inr (by omega)) zK9 aA (tb _ w.heap.size (I J task) (I ah (d.wt:Int)) (I J d.v) (I ah (d.rem:Int)))
    exact bodyPost_ret (oH (g:=w.heap.size) (T:=79) rfl rfl rfl ((((u.set 0 (I J task)).set 1 (I ah (d.wt:Int))).set 2 (I J d.v)).set 3 (I ah (d.rem:Int)))) rfl ⟨rfl,B,D⟩
section
open Go.Shelf
attribute [local go_sem] Oper.semAt_some
theorem AX (k:Nat):∀(a:ad) (g:Int),kN (λa _=>a) k a g=(a,(a.cF k g).2):=by
 induction k with
 |zero=>intro a g;rfl
 |succ k b=>
  intro a g;unfold kN ad.cF;cases a.at g with
  |none=>rfl
  |some x=>
   dsimp only;split;·rfl
   ·rw[b]
theorem tc (n:Nat) (b f:Nat) (cap:Array Value) (w:ab):CallsIn Fence.wide n au 78 #[af (R ⟨b,0,U⟩),.func (.func f) #[] cap] w λe w'=>e=aK (.func (.func 133) #[] #[af (R ⟨w.heap.size,0,U⟩),af (R ⟨w.heap.size+1,0,U⟩)])∧w'=(w.alloc (av #[af (R ⟨b,0,U⟩)] 90)).alloc (av #[.func (.func f) #[] cap] 148):=by refine callsIn_of_wp func78 rfl trivial ?_ rfl;simp[ntmps78];gi_wp2;go_ret;exact⟨rfl,rfl⟩
section
variable {b:Nat} {gp ai:Int->Nat} {bJ X:Nat->Prop} {bo W W':ab} {a7:eW} {bs:ad->Int->ad} {Q:ad->Int->Nat->Prop} {res:ad×Int} {ao:ad} {g1:Int} {k:Nat} {G:aL}
theorem wl.stay (h:wl b gp ai bJ X bo a7 bs Q res ao g1 k G W) {Z:Nat->Prop} (a:∀k,bJ k->¬Z k) (c:∀k,bo.heap.size+2<=k->¬Z k) (d:∀k,k<bo.heap.size->Z k->X k) (e:Mod Z W W'):wl b gp ai bJ X bo a7 bs Q res ao g1 k G W':=⟨h.aP.stay a c d e,h.ok,h.a7,h.at_,h.deep,h.res,h.q⟩
theorem ko.stay {V:List (Int×Int)->ab->Prop} {ag:List (Int×Int)} (h:ko b gp ai bJ X bo a7 bs Q res V ag W) {Z:Nat->Prop} (d:∀k,bJ k->¬Z k) (e:∀k,bo.heap.size+2<=k->¬Z k) (f:∀k,k<bo.heap.size->Z k->X k) (g:Mod Z W W') (i:V ag W->V ag W'):ko b gp ai bJ X bo a7 bs Q res V ag W':=by
 obtain⟨j,l⟩:=h;refine⟨i j,?_⟩;rcases l with⟨ao,a,c⟩|⟨ao,a,k,G,c⟩;·exact .inl ⟨ao,a.stay d e f g,c⟩
 ·exact .inr ⟨ao,a,k,G,c.stay d e f g⟩
theorem oJ.stay {V:List (Int×Int)->ab->Prop} {ag:List (Int×Int)} {x:Int×Int} (h:oJ b gp ai bJ X bo a7 bs Q res V ag x W) {Z:Nat->Prop} (a:∀k,bJ k->¬Z k) (c:∀k,bo.heap.size+2<=k->¬Z k) (d:∀k,k<bo.heap.size->Z k->X k) (e:Mod Z W W') (f:V ag W->V ag W'):oJ b gp ai bJ X bo a7 bs Q res V ag x W':=by obtain⟨g,i,j,l,k,G,m,n⟩:=h;exact⟨f g,i,j,l,k,G,m.stay a c d e,n⟩
theorem wl.step (h:wl b gp ai bJ X bo a7 bs Q res ao g1 k G W) {e:ad} (m:bs ao g1=e) (i:b_ b gp ai bJ X bo e W') (n:e.Ok) (j:e.a7=a7) (o:∀a,k=a+1->fM G.q.cur=false->Q e (G.q.cur/2) a):(fM G.q.cur=true∧b_ b gp ai bJ X bo res.1 W'∧G.q.cur=res.2)∨(fM G.q.cur=false∧∃a r,wl b gp ai bJ X bo a7 bs Q res e (G.q.cur/2) a r W'):=by
 have v:=h.ok.g.deep _ _ h.at_;have w:=h.deep;obtain⟨a,rfl⟩:∃a,k=a+1:=⟨k-1,by omega⟩;have d:=h.res;unfold kN at d;rw[h.at_] at d;dsimp only at d;rw[m] at d;cases c:fM G.q.cur with
 |true=>unfold fM at c;simp only[nW,decide_eq_true_eq] at c;rw[aj c] at d;rw[<-d];exact .inl ⟨rfl,i,rfl⟩
 |false=>obtain⟨_,_,p,l,s⟩:=h.next.2.2.2.2 c;have t:=c;unfold fM at c;simp only[ue,decide_eq_false_iff_not] at c;rw[z0 (by rintro(f|f);exact c.1 f;exact c.2 f)] at d;rw[<-j] at l;obtain⟨ar,u,rfl⟩:=ad.mB l;refine .inr ⟨rfl,a,ar,i,n,j,u,?_,d,o a rfl t⟩;dsimp only at s;omega
end
theorem j0 {W:ab} {b:Nat} (h:W.cell? ⟨b,o,U⟩=R v):b<W.heap.size:=by
 rcases nd b W.heap.size with q|q;·exact q
 ·unfold World.cell? at h;simp[Array.getElem?_eq_none q] at h
theorem AY {n:Int} (h:∃x∈ag.getLast?,x.2=n):hV ag=n:=by obtain⟨x,a,e⟩:=h;unfold hV;rw[a];exact e
theorem wF (S:Nat->Prop) (b:Nat) (h:ad) (w:ab) (H:cQ w S b h) (hk:h.Ok):Calls au 38 #[af (R ⟨b,0,U⟩)] w λe w'=>e=aK (I J h.running)∧Below w.heap.size w w':=by
 have aC:=C H.trim;clear H;refine callsIn_wide (n:=10).1 ?_;refine callsIn_of_wp func38 rfl trivial ?_ rfl;simp[ntmps38];have bb:Fence.wide.fn 78:=trivial;have aw:Fence.wide.fn 77:=trivial;gi_wp2_with (gi_at_call 78;refine(tc _ b _ _ w).mono ?_;rintro e d ⟨rfl,m⟩;have aF:=C m;clear m);have m:=aF.out;have z:Below w.heap.size w d:=m▸((Below.refl _ _).alloc zK9 _).alloc (by simp) _;have N:d.heap.size=w.heap.size+2:=by rw[m];simp
 have O:d.cell? ⟨w.heap.size,0,U⟩=R (af (R ⟨b,0,U⟩)):=by rw[m];exact fo _ (by simp) (dE.trans rfl)
 have P:d.cell? ⟨w.heap.size+1,0,U⟩=R (.func (.func 79) #[] #[]):=by rw[m];have:=(ak.new (w.alloc (av #[af (R ⟨b,0,U⟩)] 90)) #[.func (.func 79) #[] #[]] 148).cell 0 rfl;rw[show(w.alloc (av #[af (R ⟨b,0,U⟩)] 90)).heap.size=w.heap.size+1 by simp] at this;exact this
 have j:=C N;have Q:=C (bx O P);clear m N O P;obtain⟨gp,ai,ae,T⟩:=aC;have am:=C T;clear T;obtain⟨bo,t⟩:=aX (d.alloc (av #[I J (-1)] 3));have X:bo.heap.size=w.heap.size+3:=by rw[<-t];simp;have:=j.out;omega
 have Y:Below w.heap.size w bo:=by rw[<-t];exact z.alloc z.size _
 have Z:∀x o v,x<d.heap.size->d.cell? ⟨x,o,U⟩=R v->bo.cell? ⟨x,o,U⟩=R v:=λx o v aM D=>by rw[<-t];exact fo _ aM D
 have p:=C (bx X (bx Y Z));have aj:=C t;clear t X Y Z;have aa:ko b gp ai (λk=>S k∧k<w.heap.size) (λk=>k=d.heap.size) bo h.a7 (λh _=>h) (λ_ _ _=>True) (h,(h.cF 10 0).2) (λag W=>(W.cell? ⟨w.heap.size,0,U⟩=R (af (R ⟨b,0,U⟩))∧W.cell? ⟨w.heap.size+1,0,U⟩=R (.func (.func 79) #[] #[]))∧hV ag<128) [] bo:=by obtain⟨r,ap,bc,bf⟩:=hk.g.root;refine⟨⟨⟨p.2.2 _ _ _ (by have:=j.out;omega) Q.1,p.2.2 _ _ _ (by have:=j.out;omega) Q.2⟩,by decide⟩,.inr ⟨rfl,h,10,r,?_⟩⟩;refine⟨⟨Mod.refl _ _,ae,?_⟩,hk,rfl,ap,by omega,AX 10 h 0,trivial⟩;exact(am.frame (zF9 p.2.1) (λ_ _=>id)).mono (λk _ a=>.inl a)
 have aO:=C aa;clear aa
 have ah:=C (AU ai w.heap.size (w.heap.size+1) d (ko b gp ai (λk=>S k∧k<w.heap.size) (λk=>k=d.heap.size) bo h.a7 (λh _=>h) (λ_ _ _=>True) (h,(h.cF 10 0).2) (λag W=>(W.cell? ⟨w.heap.size,0,U⟩=R (af (R ⟨b,0,U⟩))∧W.cell? ⟨w.heap.size+1,0,U⟩=R (.func (.func 79) #[] #[]))∧hV ag<128)) (oJ b gp ai (λk=>S k∧k<w.heap.size) (λk=>k=d.heap.size) bo h.a7 (λh _=>h) (λ_ _ _=>True) (h,(h.cF 10 0).2) (λag W=>(W.cell? ⟨w.heap.size,0,U⟩=R (af (R ⟨b,0,U⟩))∧W.cell? ⟨w.heap.size+1,0,U⟩=R (.func (.func 79) #[] #[]))∧hV ag<128)) (by have:=j.out;omega) (by have:=j.out;omega) (λag A aQ f q=>by
  have u:=j.out;have B:=p.1;refine f.stay (λk a e=>by have:=a.2;omega) (λk a e=>by omega) (λk a e=>by omega) q (λc=>⟨⟨?_,?_⟩,c.2⟩);·exact q.cell c.1.1 (j0 c.1.1) (by omega)
  ·exact q.cell c.1.2 (j0 c.1.2) (by omega)) (λag x A aQ f q=>by
  have u:=j.out;have B:=p.1;refine f.stay (λk a e=>by have:=a.2;omega) (λk a e=>by omega) (λk a e=>by omega) q (λc=>⟨⟨?_,?_⟩,c.2⟩);·exact q.cell c.1.1 (j0 c.1.1) (by omega)
  ·exact q.cell c.1.2 (j0 c.1.2) (by omega)) (λag A f=>by have:=f.1.2;omega) (λag x A f=>by
  obtain⟨c,_,_,ao,k,G,y,D⟩:=f;have ac:=y.step rfl y.aP y.ok y.a7 (λ_ _ _=>trivial);have ay:=y.next.2.2.2.1;rw[D] at ac ay;refine⟨⟨c.1,by rw[wD];exact ay⟩,?_⟩;rw[mP,pN];rcases ac with⟨E,F,aS⟩|⟨E,aU,aT,F⟩;·exact .inl ⟨E,F,x,by rw[nQ];rfl,aS⟩
  ·exact .inr ⟨E,ao,aU,aT,F⟩) (by rw[aj.out];exact aO) (λV l aV aZ bg an z f a6 a8=>by
  have u:=j.out;have B:=p.1;refine(wC 8 (by omega) b gp ai (λk=>S k∧k<w.heap.size) (λk=>k=d.heap.size) bo h.a7 (λh _=>h) (λ_ _ _=>True) (h,(h.cF 10 0).2) (λag W=>V ag W∧((W.cell? ⟨w.heap.size,0,U⟩=R (af (R ⟨b,0,U⟩))∧W.cell? ⟨w.heap.size+1,0,U⟩=R (.func (.func 79) #[] #[]))∧hV ag<128)) l w.heap.size (w.heap.size+1) aV aZ (λk a=>by have:=a.2;omega) (λag W c=>c.2.1) ⟨⟨f.1,f.2.1⟩,f.2.2⟩ a6 (λA a_=>by have:=z A a_;omega) ?_).mono ?_;·intro aq x W K L;exact(a8 aq x W ⟨K.1.1,K.1.2,K.2⟩ L).mono (λe w' a=>⟨a.1,⟨⟨a.2.1.1,a.2.1.2.1⟩,a.2.1.2.2⟩,a.2.2⟩)
  ·rintro e W' ⟨c,ag,M,s,L⟩;exact⟨c,ag,M,⟨s.1.1,s.1.2,s.2⟩,L⟩))
 refine ah.mono ?_;rintro e ba ⟨ag,M,rfl,s⟩;have aB:hV ag=(h.cF 10 0).2∧Mod (λk=>k=d.heap.size) bo ba:=by
  rcases s.2 with⟨_,u,B⟩|⟨ao,_⟩;·exact⟨AY B,u.1⟩
  ·rw[M] at ao;cases ao
 have az:=C aB;clear aB s;gi_wp2;go_ret;refine⟨?_,?_⟩;·rw[az.out.1];rfl
 ·have u:=j.out;exact((zF9 p.2.1).trans az.2 (λi f e=>by omega)).toBelow
end
theorem Ja (S:Nat->Prop) (b:Nat) (h:ad) (g task:Int) (n:Nat) (w:ab) (H:cQ w S b h) (hk:h.Ok):Calls au 101 #[af (R ⟨b,0,U⟩),I J g,I J task,I ah (n:Int)] w (dA S b (I J (h.e7 g task n)) (h.nice g task n) w):=by
 obtain⟨gp,ai,H⟩:=H.start;have i:=C (oF g H hk.len);have l:=C H;cases a:h.at g with
 |none=>
  have d:h.e7 g task n=1:=by unfold ad.e7;rw[a]
  have f:h.nice g task n=h:=by unfold ad.nice;rw[a]
  rw[wd a] at i;rw[d,f];go_enter func101,ntmps101;go_wp2_with fail;apply i.mono;rintro e j ⟨rfl,rfl⟩;go_wp2_with fail;go_ret;exact l.hp _
 |some x=>
  rw[jY a] at i;cases c:gW task with
  |false=>have d:h.e7 g task n=1:=(by unfold ad.e7;rw[a];dsimp only;rw[aj c]);have f:h.nice g task n=h:=(by unfold ad.nice;rw[a];dsimp only;rw[aj c]);have k:=C c;rw[d,f];clear H hk a d f c;go_enter func101,ntmps101;go_wp2_with fail;refine i.mono ?_;rintro e j ⟨rfl,rfl⟩;go_wp2_with fail;refine(oG task _).mono ?_;rintro e j ⟨rfl,rfl⟩;rw[k.out];go_wp2_with fail;go_ret;exact l.hp _
  |true=>have r:0<=task∧task<64:=(by unfold gW at c;simpa using c);have d:h.e7 g task n=x.q.fP (2*task) n:=(by unfold ad.e7;rw[a];dsimp only;rw[z0 (by rw[c];decide)]);have f:h.nice g task n=h.set g (R {x with q:=x.q.bV (2*task) n}):=(by unfold ad.nice;rw[a];dsimp only;rw[z0 (by rw[c];decide)]);have k:=C c;have o:=C (H.AT (2*task) n a (hk.g.q g x a));have s:=(H.cw a).cell 2 (v:=af (R ⟨ai g,0,U⟩)) rfl;rw[d,f];clear H hk a d f c;go_enter func101,ntmps101;go_wp2_with fail;refine i.mono ?_;rintro e j ⟨rfl,rfl⟩;go_wp2_with fail;refine(oG task _).mono ?_;rintro e j ⟨rfl,rfl⟩;rw[k.out];go_wp2_with fail;refine o.mono ?_;rintro e t ⟨rfl,m⟩;have p:=C m;clear m;go_wp2_with fail;go_ret;exact p.hp _
theorem ri {h:ad} {g:Int} (e:h.linked g=U):h.mO gp g=af U:=by unfold ad.mO;rw[e];rfl
theorem rj {h:ad} {g:Int} (e:h.linked g=R G):h.mO gp g=af (R ⟨gp g,0,U⟩):=by unfold ad.mO;rw[e];rfl
theorem wG (S:Nat->Prop) (b:Nat) (h:ad) (g:Int) (is:Bool) (w:ab) (H:cQ w S b h) (hk:h.Ok):Calls au 94 #[af (R ⟨b,0,U⟩),I J g,aE is] w (dA S b (I J (if(h.linked g).isSome then 0 else 1)) (h.stop g is) w):=by
 obtain⟨gp,ai,H⟩:=H.start;have d:=C (q7 g H hk.len);have f:=C H;cases c:h.linked g with
 |none=>
  have i:h.stop g is=h:=by unfold ad.stop;rw[c]
  rw[ri c] at d;rw[i];go_enter func94,ntmps94;go_wp2_with fail;apply d.mono;rintro e l ⟨rfl,rfl⟩;go_wp2_with fail;go_ret;exact f.hp _
 |some x=>
  rw[rj c] at d;obtain⟨k,a⟩:=ke c;have i:h.stop g is=(h.set g (R {x with stopped:=is})).settle 10 g:=by unfold ad.stop;rw[c]
  have m:c_ (h.set g (R {x with stopped:=is})).at g:=by rw[ad.dq a];exact hk.g.other (own':=x.own) a (λk=>hk.g.own g x a k) (.inl rfl) (.inl rfl)
  have t:=(H.cw a).cell 8 (v:=aE x.stopped) rfl;have u:=(H.cw a).free 8;have j:=C a;have n:=C m;have o:=C hk.len;rw[i];go_enter func94,ntmps94;go_wp2_with fail;apply d.mono;rintro e l ⟨rfl,rfl⟩;go_upto_region 5 with fail;have p:=f.cells (G':={x with stopped:=is}) j ((f.cw j).set 8 (aE is)) (Mod.one _ (gp g) 8 _) rfl;have q:=C (wE p (by rw[ad.md];exact o) (by rw[ad.dq j.out];exact eV _ _ _) n);go_wp2_with fail;apply q.mono;rintro e y ⟨rfl,r⟩;have s:=C r;go_wp2_with fail;go_ret;exact s.hp _
theorem wH (S:Nat->Prop) (b:Nat) (h:ad) (g:Int) (w:ab) (H:cQ w S b h) (hk:h.Ok):Calls au 76 #[af (R ⟨b,0,U⟩),I J g] w λe w'=>e=aK (I J (h.minOf g))∧w'=w:=by
 obtain⟨gp,ai,H⟩:=H.start;have c:=C (oF g H hk.len);cases a:h.at g with
 |none=>
  have d:h.minOf g=0:=by unfold ad.minOf;rw[a]
  rw[wd a] at c;rw[d];go_enter func76,ntmps76;go_wp2_with fail;apply c.mono;rintro e f ⟨rfl,rfl⟩;go_wp2_with fail;go_ret;exact⟨rfl,rfl⟩
 |some x=>
  have d:h.minOf g=x.q.mn:=by unfold ad.minOf;rw[a]
  rw[jY a] at c;have i:=C (H.s_ a);have j:=(H.cw a).cell 2 (v:=af (R ⟨ai g,0,U⟩)) rfl;rw[d];go_enter func76,ntmps76;go_wp2_with fail;apply c.mono;rintro e f ⟨rfl,rfl⟩;go_wp2_with fail;apply i.mono;rintro e f ⟨rfl,rfl⟩;go_wp2_with fail;go_ret;exact⟨rfl,rfl⟩
def ad.nB (h:ad) (g:Int):Bool:=match h.linked g with|none=>false|some x=>x.stopped
theorem A3 (S:Nat->Prop) (b:Nat) (h:ad) (g:Int) (w:ab) (H:cQ w S b h) (hk:h.Ok):Calls au 28 #[af (R ⟨b,0,U⟩),I J g] w λe w'=>e=aK (aE (h.nB g))∧w'=w:=by
 obtain⟨gp,ai,H⟩:=H.start;have c:=C (q7 g H hk.len);cases a:h.linked g with
 |none=>
  have d:h.nB g=false:=by unfold ad.nB;rw[a]
  rw[ri a] at c;rw[d];go_enter func28,ntmps28;go_wp2_with fail;apply c.mono;rintro e f ⟨rfl,rfl⟩;go_wp2_with fail;go_ret;exact⟨rfl,rfl⟩
 |some x=>
  obtain⟨j,i⟩:=ke a;have d:h.nB g=x.stopped:=by unfold ad.nB;rw[a]
  rw[rj a] at c;have k:=(H.cw i).cell 8 (v:=aE x.stopped) rfl;rw[d];go_enter func28,ntmps28;go_wp2_with fail;apply c.mono;rintro e f ⟨rfl,rfl⟩;go_wp2_with fail;go_ret;exact⟨rfl,rfl⟩
theorem J1 (S:Nat->Prop) (b:Nat) (h:ad) (g:Int) (n:Nat) (w:ab) (H:cQ w S b h) (hk:h.Ok):Calls au 116 #[af (R ⟨b,0,U⟩),I J g,I ah (n:Int)] w (dA S b (I J (h.fP g n)) (h.bV g n) w):=by
 obtain⟨gp,ai,H⟩:=H.start;have s:=C (q7 g H hk.len);have E:=C H;cases a:h.linked g with
 |none=>
  have f:h.fP g n=1:=by unfold ad.fP;rw[a]
  have i:h.bV g n=h:=by unfold ad.bV;rw[a]
  rw[ri a] at s;rw[f,i];clear H hk a f i;go_enter func116,ntmps116;go_wp2_with fail;refine s.mono ?_;rintro e F ⟨rfl,rfl⟩;go_wp2_with fail;go_ret;exact E.hp _
 |some x=>
  rw[rj a] at s;obtain⟨N,k⟩:=ke a;by_cases t:n<2∨262144<n
  ·have f:h.fP g n=4:=(by unfold ad.fP;rw[a];dsimp only;rw[aj t]);have i:h.bV g n=h:=(by unfold ad.bV;rw[a];dsimp only;rw[aj t]);rw[f,i];clear H hk a f i k;by_cases am:n<2;·have aM:(n:Int)<2:=(by omega);go_enter func116,ntmps116;go_wp2_with fail;refine s.mono ?_;rintro e F ⟨rfl,rfl⟩;go_wp2_with fail;go_ret;exact E.hp _
   ·have aM:¬(n:Int)<2:=(by omega);have a_:(262144:Int)<(n:Int):=(by omega);go_enter func116,ntmps116;go_wp2_with fail;refine s.mono ?_;rintro e F ⟨rfl,rfl⟩;go_wp2_with fail;go_ret;exact E.hp _
  ·have am:¬(n:Int)<2:=(by omega);have av:¬(262144:Int)<(n:Int):=(by omega);have A:=C k;have u:=H.cw k;have X:=u.cell 7 (v:=aE x.on) rfl;cases p:x.on with
   |true=>rw[p] at X;obtain⟨d,l,aq⟩:=hk.g.up g x k N;have Y:=(hk.g.mw k N).1;obtain⟨m,ap,ba,c⟩:=H.ty k hk.len;obtain⟨j,Z,aO,aQ⟩:=H.ty l hk.len;have f:h.fP g n=d.q.fP (2*g+1) n:=(by unfold ad.fP;rw[a];dsimp only;rw[z0 t,aj p,l]);have i:h.bV g n=h.set x.up (R {d with q:=d.q.bV (2*g+1) n}):=(by unfold ad.bV;rw[a];dsimp only;rw[z0 t,aj p,l]);have aS:=u.cell 0 (v:=I J x.up) rfl;have u2:=(H.cw l).cell 2 (v:=af (R ⟨ai x.up,0,U⟩)) rfl;have G:=C ((H.drewN 1).AT (2*g+1) n l (hk.g.q _ d l));have K:(h.set x.up (R {d with q:=d.q.bV (2*g+1) n})).at x.up=R {d with q:=d.q.bV (2*g+1) n}:=(by rw[ad.dq l];exact eV _ _ _);have O:(h.set x.up (R {d with q:=d.q.bV (2*g+1) n})).at g=R x:=(by rw[ad.dq l];exact(gi _ (Ne.symm Y)).trans k);rw[f,i];obtain⟨P,Q⟩:∃P,h.set x.up (R {d with q:=d.q.bV (2*g+1) n})=P:=⟨_,rfl⟩;have aa:P.gs.length=32:=(by rw[<-Q,ad.md];exact hk.len);rw[Q] at K O G⊢;obtain⟨ao,T⟩:∃ao,x.up=ao:=⟨_,rfl⟩;rw[T] at l Z aQ aS u2 G K Y;have aU:=C T;have ac:=C K;have aP:=C O;have ag:=C aa;obtain⟨o,y⟩:∃o,d.q.fP (2*g+1) n=o:=⟨_,rfl⟩;rw[y] at G⊢;subst ap Z;have bb:(0:Int)<=(j:Int):=(by omega);have aw:(j:Int)<32:=(by omega);have bc:(j:Int).toNat=j:=(by omega);clear H hk a f i k l u K O Q aa y T p;go_enter func116,ntmps116;go_wp2_with fail;refine s.mono ?_;rintro e F ⟨rfl,rfl⟩;go_wp2_with fail;go_region_held3 (λW'=>W'.cell? ⟨gp m,0,U⟩=R (I J j)∧W'.cell? ⟨b,2+j,U⟩=R (af (R ⟨gp j,0,U⟩))∧W'.cell? ⟨gp j,2,U⟩=R (af (R ⟨ai j,0,U⟩))) ((refine⟨?_,?_,?_⟩)<;>(repeat(first|assumption|(with_reducible refine b7 ?_)))) (first|(go_at_call 135;refine(s8 m (by omega) (by omega) _).mono ?_;rintro e bf ⟨rfl,rfl⟩)|(go_at_call 149;refine G.mono ?_;rintro e bg ⟨rfl,B⟩;have z:=C B;have aT:=(B.cw aP).cell 0 (v:=I J x.up) rfl;rw[aU.out] at aT;have aV:=B.ptr (n:=j) aO;rw[jY ac.out] at aV;have an:=(B.cw ac).cell 2 (v:=af (R ⟨ai j,0,U⟩)) rfl;clear B));all_goals go_wp2_with fail;go_ret;exact z.hp _
   |false=>rw[p] at X;have f:h.fP g n=0:=(by unfold ad.fP;rw[a];dsimp only;rw[z0 t,p];rfl);have i:h.bV g n=h.set g (R {x with own:=x.own.bV n}):=(by unfold ad.bV;rw[a];dsimp only;rw[z0 t,p];rfl);have L:=hk.g.own g x k N;have ax:=u.cell 4 (v:=I ah x.own.wt) rfl;have bk:=u.cell 6 (v:=I ah x.own.rem) rfl;have ay:=C (oA x.own.rem n x.own.wt (by have:=L.2;omega) (by omega) (by have bl:x.own.rem*n<=262144*262144:=qc (by have:=L.2;omega) (by omega);omega) (by have:=L.2;omega));obtain⟨o,y⟩:∃o,x.own.rem*n/x.own.wt=o:=⟨_,rfl⟩;obtain⟨r,aB⟩:∃r,x.own.rem*n%x.own.wt=r:=⟨_,rfl⟩;rw[y,aB] at ay;have aZ:=C y;rw[f,i];clear H hk a f i k u L y aB p;go_enter func116,ntmps116;go_wp2_with fail;refine s.mono ?_;rintro e F ⟨rfl,rfl⟩;go_wp2_with fail;go_region_with (first|(go_at_call 102;refine(ay _).mono ?_;rintro e ak ⟨rfl,az⟩;have z:=C (E.drew.below az);have a6:=(z.cw A).cell 6 (v:=I ah x.own.rem) rfl;have a8:=(z.cw A).free 6;clear az));all_goals go_upto_region 9 with fail;have D:=z.cells (G':={x with own:={x.own with rem:=o}}) A ((z.cw A).set 6 (I ah (o:Int))) (Mod.one _ (gp g) 6 _) rfl;obtain⟨V,W⟩:∃V,ak.setCell ⟨gp g,6,U⟩ (I ah (o:Int))=V:=⟨_,rfl⟩;rw[W] at D;rw[W];have M:(h.set g (R {x with own:={x.own with rem:=o}})).at g=R {x with own:={x.own with rem:=o}}:=(by rw[ad.dq A.out];exact eV _ _ _);have bn:=(D.cw M).cell 4 (v:=I ah x.own.wt) rfl;have aA:=(D.cw M).free 4;have aC:=C D;have aF:=C M;clear W D M a6 a8;go_wp2_with fail;go_ret;have ae:=aC.cells (G':={x with own:=x.own.bV n}) aF (by have:=(aC.cw aF).set 4 (I ah (n:Int));unfold aI.bV;rw[aZ.out];exact this) (Mod.one V (gp g) 4 _) rfl;rw[ad.set_set] at ae;exact ae.hp _
section
open Go.Shelf
attribute [local go_sem] Oper.semAt_some
section
variable {b:Nat} {gp ai:Int->Nat} {bJ X:Nat->Prop} {bo W W':ab} {h:ad}
theorem b_.Kc (H:b_ b gp ai bJ X bo h W) (c:∀k,bJ k->X k) (d:∀k,bJ k->k<bo.heap.size) (f:bo.heap.size+2<=W.heap.size) {g:Int} (i:h.at g=R G) (j:G.q.Ok) (a:Int):Calls au 178 #[af (R ⟨ai g,0,U⟩),I J a] W λe w'=>e=aK (I J (G.q.pick a).cur)∧b_ b gp ai bJ X bo (h.set g (R {G with q:=G.q.pick a})) w'∧Mod (λk=>bJ k∨bo.heap.size+2<=k) W w':=by obtain⟨T,l,m,n⟩:=H.q c d f i;exact(s9 T (ai g) G.q a W l j).mono λe w' r=>⟨r.1,(n w' _ (r.2.1.mono λ_ _ q=>.inl q) r.2.2).1,r.2.2.mono (λk _ q=>m k q)⟩
theorem Kd (H:b_ b gp ai bJ X bo h W) (r:∀k,bJ k->X k) (s:∀k,bJ k->k<bo.heap.size) (t:bo.heap.size+2<=W.heap.size) {g:Int} (c:h.at g=R G) (d:G.q.Ok) (f:Nat) (x:W.cell? ⟨f,0,U⟩=R (af (R ⟨b,0,U⟩))):Calls au 177 #[af (R ⟨ai g,0,U⟩),af (R ⟨f,0,U⟩)] W λe w'=>e=aK (I J (G.q.pick h.bI).cur)∧b_ b gp ai bJ X bo (h.set g (R {G with q:=G.q.pick h.bI})) w'∧Mod (λk=>bJ k∨bo.heap.size+2<=k) W w':=by have v:=H.cs.cell 1 (s5 h gp);have a:=C (H.Kc r s t c d h.bI);obtain⟨i,j⟩:∃i,h.set g (R {G with q:=G.q.pick h.bI})=i:=⟨_,rfl⟩;obtain⟨u,l⟩:∃u,(G.q.pick h.bI).cur=u:=⟨_,rfl⟩;obtain⟨m,n⟩:∃m,h.bI=m:=⟨_,rfl⟩;rw[j,l] at a⊢;rw[n] at a v;clear H c d j l n;go_enter func177,ntmps177;go_wp2_with fail;refine a.mono ?_;rintro e y ⟨rfl,o,p⟩;have w:=C (bx o p);clear o p;go_wp2_with fail;go_ret;exact⟨rfl,w⟩
end
structure nE (b:Nat) (gp ai:Int->Nat) (bJ X:Nat->Prop) (bo:ab) (a7:eW) (res:ad×Int) (ao:ad) (g1:Int) (k:Nat) (G:aL) (W:ab):Prop where
 aP:b_ b gp ai bJ X bo ao W
 ok:ao.Ok
 a7:ao.a7=a7
 at_:ao.at g1=R G
 deep:9<=G.deep+k
 res:ad.gF k ao g1=res
def lA (b:Nat) (gp ai:Int->Nat) (bJ X:Nat->Prop) (bo:ab) (c:eW) (a:ad×Int) (V:List (Int×Int)->ab->Prop) (ag:List (Int×Int)) (W:ab):Prop:=V ag W∧((hE ag=true∧b_ b gp ai bJ X bo a.1 W∧(∃x∈ag.getLast?,x.2=a.2))∨(hE ag=false∧∃d k G,nE b gp ai bJ X bo c a d (kn ag) k G W))
def rB (b:Nat) (gp ai:Int->Nat) (bJ X:Nat->Prop) (bo:ab) (c:eW) (a:ad×Int) (V:List (Int×Int)->ab->Prop) (ag:List (Int×Int)) (x:Int×Int) (W:ab):Prop:=V ag W∧x.2<128∧((fM x.2=true∧b_ b gp ai bJ X bo a.1 W∧x.2=a.2)∨(fM x.2=false∧∃d k G,nE b gp ai bJ X bo c a d (x.2/2) k G W))
theorem nE.step {b:Nat} {gp ai:Int->Nat} {bJ X:Nat->Prop} {bo W W':ab} {j:eW} {n:ad×Int} {a:ad} {g1:Int} {k:Nat} (h:nE b gp ai bJ X bo j n a g1 k G W) (t:b_ b gp ai bJ X bo (a.set g1 (R {G with q:=G.q.pick a.bI})) W'):j g1=R (G.up,G.deep)∧0<=G.deep∧G.deep<=8∧(G.q.pick a.bI).cur<128∧((fM (G.q.pick a.bI).cur=true∧b_ b gp ai bJ X bo n.1 W'∧(G.q.pick a.bI).cur=n.2)∨(fM (G.q.pick a.bI).cur=false∧0<=(G.q.pick a.bI).cur∧(∃p,j ((G.q.pick a.bI).cur/2)=R p∧p.2=G.deep+1)∧∃l m D,nE b gp ai bJ X bo j n l ((G.q.pick a.bI).cur/2) m D W')):=by
 have v:=h.ok.g.deep _ _ h.at_;have O:=h.deep;have w:=(h.ok.g.q _ _ h.at_).pick a.bI;have E:=h.ok.same h.at_ w (λk=>by rw[aD.od]);have x:(a.set g1 (R {G with q:=G.q.pick a.bI})).a7=j:=(ad.jN (y:={G with q:=G.q.pick a.bI}) h.at_ rfl rfl).trans h.a7;have o:(G.q.pick a.bI).cur≠-1->∃e∈G.q.es,e.id=(G.q.pick a.bI).cur:=λr=>by have:=w.cur.resolve_left r;rw[aD.od] at this;exact this
 obtain⟨m,rfl⟩:∃m,k=m+1:=⟨k-1,by omega⟩;have d:=h.res;unfold ad.gF at d;rw[h.at_] at d;dsimp only at d;generalize P:(G.q.pick a.bI).cur=u at d o⊢;refine⟨by rw[<-h.a7];exact ad.eh h.at_,v.1,v.2,?_,?_⟩
 ·by_cases r:u=-1;·omega
  ·obtain⟨e,s,F⟩:=o r;rcases h.ok.g.ids _ _ h.at_ e s with⟨i,a,l,H⟩|⟨c,ar,a,l,_⟩;·omega
   ·have:=h.ok.g.lo _ _ l;omega
 ·cases f:fM u with
  |true=>unfold fM at f;simp only[nW,decide_eq_true_eq] at f;rw[aj f] at d;rw[<-d];exact .inl ⟨rfl,t,rfl⟩
  |false=>
   unfold fM at f;simp only[ue,decide_eq_false_iff_not] at f;rw[z0 (by rintro(q|q);exact f.1 q;exact f.2 q)] at d;obtain⟨e,s,F⟩:=o (by omega);rcases h.ok.g.ids _ _ h.at_ e s with⟨i,a,l,H⟩|⟨c,ar,Q,z,I,J,_⟩;·omega
   ·obtain⟨S,A,K⟩:=h.ok.g.up _ _ z I;rw[J,h.at_] at A;cases A;have L:u/2=c:=(by omega);have B:j c=R (ar.up,ar.deep):=(by rw[<-h.a7];exact ad.eh z);obtain⟨C,M,N⟩:=ad.mB (show(a.set g1 (R {G with q:=G.q.pick a.bI})).a7 c=R (ar.up,ar.deep) by rw[x];exact B);have T:C.deep=ar.deep:=(Prod.mk.inj N).2.symm;rw[L] at d⊢;exact .inr ⟨rfl,by omega,⟨_,B,K⟩,_,m,C,t,E,x,M,by omega,d⟩
theorem Ke (n:Nat) (a3:3<=n) (b:Nat) (gp ai:Int->Nat) (bJ X:Nat->Prop) (bo:ab) (h:eW) (j:ad×Int) (V:List (Int×Int)->ab->Prop) (l P Q z:Nat) (a:ab->Prop) (B:ab) (az:∀k,bJ k->X k) (aC:∀k,bJ k->k<bo.heap.size) (aF:∀ag W,V ag W->W.cell? ⟨P,0,U⟩=R (af (R ⟨b,0,U⟩))∧W.cell? ⟨Q,0,U⟩=R (.func (.func 177) #[] #[af (R ⟨z,0,U⟩)])∧W.cell? ⟨z,0,U⟩=R (af (R ⟨b,0,U⟩))) (ae:∀ag W W',V ag W->Mod (λk=>bJ k∨bo.heap.size+2<=k) W W'->V ag W') (h0:lA b gp ai bJ X bo h j V [] B) (am:a B) (aM:∀A,a A->bo.heap.size+2<=A.heap.size) (aj:∀A S,a A->q6 bo.heap.size A S->a S) (ap:∀T x W,rB b gp ai bJ X bo h j V T x W->a W->YieldAt Fence.wide (n-1) au l (lx ai x) W λe W'=>e=aK (aE true)∧lA b gp ai bJ X bo h j V (T++[x]) W'∧a W'):CallsIn Fence.wide n au 133 #[.func (.yield l) #[] #[],af (R ⟨P,0,U⟩),af (R ⟨Q,0,U⟩)] B λe W'=>(∃v,e=aK v)∧∃ag,hE ag=true∧lA b gp ai bJ X bo h j V ag W'∧a W':=by
 have aO:=C aF;have ah:=C ae;have aQ:=C ap;have aS:=C h0;have aU:=C am;have aT:=C aM;have aV:=C aj;have D:=C (bx az aC);have a4:1<=n:=by omega
 have a5:Fence.wide.fn 177:=trivial;refine callsIn_of_wp func133 rfl trivial ?_ rfl;simp only[ntmps133,jE,dY,hJ,jH,jG,jB,jA,jF,jC,iU,gQ];gi_wp2;gi_loopw [4] (λE wr=>∃ag,hE ag=false∧E=I J (kn ag)∧lA b gp ai bJ X bo h j V ag wr∧a wr) (λE _=>(9-(match h (intOf E) with|none=>0|some p=>p.2)).toNat);case atStart=>exact⟨[],rfl,rfl,aS.out,aU.out⟩
 case round=>
  obtain⟨ag,aZ,rfl,ak,Y⟩:=hrel;obtain⟨Z,a6⟩:=ak;obtain⟨bC,aR,a8⟩:=aO.out _ _ Z;rcases a6 with⟨q,_⟩|⟨_,t,k,G,d⟩;·rw[aZ] at q;cases q
  obtain⟨m,aa,a9,c⟩:=d.aP.ty d.at_ d.ok.len;have a_:=(d.aP.cw d.at_).cell 2 (v:=af (R ⟨ai (kn ag),0,U⟩)) rfl;have av:=aT.out _ Y;have F:=C (oK (n:=n-1) (Kd d.aP D.out.1 D.out.2 av d.at_ (d.ok.g.q _ _ d.at_) z a8));obtain⟨g,ao⟩:=aX (kn ag);have aD:=C ao;have H:=C (λW' aq=>d.step (W':=W') aq);have ba:=C Z;have bb:=C Y;rw[ao] at F H aa c a_⊢;subst aa;have bG:(0:Int)<=(m:Int):=by omega
  have bH:(m:Int)<32:=by omega
  have bd:(m:Int).toNat=m:=by omega
  obtain⟨w,aw⟩:=aX (t.set m (R {G with q:=G.q.pick t.bI}));obtain⟨u,bc⟩:=aX ((G.q.pick t.bI).cur);rw[aw,bc] at F H;gi_wp2_with (gi_at_call 177;refine F.mono ?_;rintro e K ⟨rfl,bf,L⟩);have o:=H.out K bf;have ac:∀k,k=bo.heap.size∨k=bo.heap.size+1->¬(bJ k∨bo.heap.size+2<=k):=λk e q=>by
   rcases q with q|q;·have:=D.out.2 k q;omega
   ·omega
  have bg:=aV.out _ K bb.out ⟨L.block _ (by omega) (ac _ (.inl rfl)),L.block _ (by omega) (ac _ (.inr rfl))⟩;have an:=ah.out _ _ _ ba.out L
  obtain⟨fn,tmps,be,bK,ay,ax⟩:=aQ.out ag ((m:Int),u) K ⟨an,o.2.2.2.1,by
   rcases o.2.2.2.2 with q|q;·exact .inl q
   ·exact .inr ⟨q.1,q.2.2.2⟩⟩ bg
  simp only[lx] at ay;have M:=C ax;have N:=C (bx o.1 (bx o.2.1 o.2.2.1));have bL:=o.2.2.2.1;have bk:=C (show(fM u=true)∨(fM u=false∧0<=u∧∃p,h (u/2)=R p∧p.2=G.deep+1) from by
   rcases o.2.2.2.2 with q|q;·exact .inl q.1
   ·exact .inr ⟨q.1,q.2.1,q.2.2.1⟩)
  rw[ay];rcases bk.out with i|⟨i,y,p,bl,bn⟩
  ·have stop:∀f:ab,lA b gp ai bJ X bo h j V (ag++[((m:Int),u)]) f->a f->∃ag,hE ag=true∧lA b gp ai bJ X bo h j V ag f∧a f:=λf t w=>⟨_,by rw[mP];exact i,t,w⟩;have aB:=C stop;by_cases aN:u<0;·clear i;gi_wp2;refine M.mono ?_;rintro e f ⟨rfl,r,s⟩;have O:=C (aB.out f r s);clear r s;gi_wp2;(try simp only[Exit.inBlock,Exit.then]);refine bodyPost_ret (results_none rfl _ _ _) rfl ?_;exact⟨⟨_,rfl⟩,O.out⟩
   ·have y:0<=u:=(by omega);have aA:u.tmod 2=0:=(by rw[rY y];unfold fM at i;simp only[nW,decide_eq_true_eq] at i;omega);clear i;gi_wp2;refine M.mono ?_;rintro e f ⟨rfl,r,s⟩;have O:=C (aB.out f r s);clear r s;gi_wp2;(try simp only[Exit.inBlock,Exit.then]);refine bodyPost_ret (results_none rfl _ _ _) rfl ?_;exact⟨⟨_,rfl⟩,O.out⟩
  ·have bp:u%2=1:=(by unfold fM at i;simp only[ue,decide_eq_false_iff_not] at i;omega);have aA:u.tmod 2=1:=(by rw[rY y];exact bp);have bi:u.tdiv 2=u/2:=Int.tdiv_eq_ediv_of_nonneg y;have bP:IntKind.i64.wrap (u/2)=u/2:=IntWalk.i64_in _ (by omega);have bq:=C (bx bl bn);have br:=C i;gi_wp2;refine M.mono ?_;rintro e f ⟨rfl,r,s⟩;have a0:=C r;have bw:=C s;gi_wp2;go_roundw;case rel=>exact⟨ag++[((m:Int),u)],by rw[mP];exact br.out,by rw[pN],a0.out,bw.out⟩
   case measure=>have w:=N.out.1;have aY:=N.out.2.2;have bR:=N.out.2.1;have a2:=bq.out;simp only[intOf];rw[w,a2.1];simp only;omega
end
section
open Go.Shelf
attribute [local go_sem] Oper.semAt_some
section
variable {b:Nat} {gp ai:Int->Nat} {bJ X:Nat->Prop} {bo W W':ab} {a7:eW} {res:ad×Int} {ao:ad} {g1:Int} {k:Nat} {G:aL}
theorem nE.stay (h:nE b gp ai bJ X bo a7 res ao g1 k G W) {Z:Nat->Prop} (a:∀k,bJ k->¬Z k) (c:∀k,bo.heap.size+2<=k->¬Z k) (d:∀k,k<bo.heap.size->Z k->X k) (e:Mod Z W W'):nE b gp ai bJ X bo a7 res ao g1 k G W':=⟨h.aP.stay a c d e,h.ok,h.a7,h.at_,h.deep,h.res⟩
theorem lA.stay {V:List (Int×Int)->ab->Prop} {ag:List (Int×Int)} (h:lA b gp ai bJ X bo a7 res V ag W) {Z:Nat->Prop} (d:∀k,bJ k->¬Z k) (e:∀k,bo.heap.size+2<=k->¬Z k) (f:∀k,k<bo.heap.size->Z k->X k) (g:Mod Z W W') (i:V ag W->V ag W'):lA b gp ai bJ X bo a7 res V ag W':=by
 obtain⟨j,l⟩:=h;refine⟨i j,?_⟩;rcases l with⟨ao,a,c⟩|⟨ao,a,k,G,c⟩;·exact .inl ⟨ao,a.stay d e f g,c⟩
 ·exact .inr ⟨ao,a,k,G,c.stay d e f g⟩
theorem rB.stay {V:List (Int×Int)->ab->Prop} {ag:List (Int×Int)} {x:Int×Int} (h:rB b gp ai bJ X bo a7 res V ag x W) {Z:Nat->Prop} (d:∀k,bJ k->¬Z k) (e:∀k,bo.heap.size+2<=k->¬Z k) (f:∀k,k<bo.heap.size->Z k->X k) (g:Mod Z W W') (i:V ag W->V ag W'):rB b gp ai bJ X bo a7 res V ag x W':=by
 obtain⟨j,l,m⟩:=h;refine⟨i j,l,?_⟩;rcases m with⟨ao,a,c⟩|⟨ao,a,k,G,c⟩;·exact .inl ⟨ao,a.stay d e f g,c⟩
 ·exact .inr ⟨ao,a,k,G,c.stay d e f g⟩
end
def nF (w:ab) (b:Nat) (ag:List (Int×Int)) (W:ab):Prop:=(W.cell? ⟨w.heap.size+1,0,U⟩=R (af (R ⟨b,0,U⟩))∧W.cell? ⟨w.heap.size+2,0,U⟩=R (.func (.func 177) #[] #[af (R ⟨w.heap.size,0,U⟩)])∧W.cell? ⟨w.heap.size,0,U⟩=R (af (R ⟨b,0,U⟩)))∧hV ag<128
theorem nF.mod {b:Nat} {W W':ab} (h:nF w b ag W) (a:Mod Z W W') (c:∀k,w.heap.size<=k->k<=w.heap.size+2->¬Z k):nF w b ag W':=⟨⟨a.cell h.1.1 (j0 h.1.1) (c _ (by omega) (by omega)),a.cell h.1.2.1 (j0 h.1.2.1) (c _ (by omega) (by omega)),a.cell h.1.2.2 (j0 h.1.2.2) (c _ (by omega) (by omega))⟩,h.2⟩
theorem wV (S:Nat->Prop) (b:Nat) (h:ad) (w:ab) (H:cQ w S b h) (hk:h.Ok):Calls au 120 #[af (R ⟨b,0,U⟩)] w (dA S b (I J h.lR) h.pick w):=by
 have am:=C H.trim;clear H;obtain⟨d,y⟩:∃d,w.alloc (av #[af (R ⟨b,0,U⟩)] 90)=d:=⟨_,rfl⟩;have P:d.heap.size=w.heap.size+1:=by rw[<-y];simp
 have Q:Below w.heap.size w d:=y▸bz _ _;have aM:d.cell? ⟨w.heap.size,0,U⟩=R (af (R ⟨b,0,U⟩)):=y▸dE.trans rfl;have aj:=C y;have o:=C (bx P (bx Q aM));clear y P Q;refine callsIn_wide (n:=10).1 ?_;refine callsIn_of_wp func120 rfl trivial ?_ rfl;simp only[ntmps120,jE,dY,hJ,jH,jG,jB,jA,jF,jC,iU,gQ];have an:Fence.wide.fn 78:=trivial;have ax:Fence.wide.fn 77:=trivial;gi_wp2_with (gi_at_call 78;rw[aj.out];refine(tc _ b _ _ d).mono ?_;rintro e f ⟨rfl,T⟩;have B:=C T;clear T);have X:f.heap.size=w.heap.size+3:=by rw[B.out];simp;have:=o.out.1;omega
 have s:Below w.heap.size w f:=by rw[B.out];exact(o.out.2.1.alloc o.out.2.1.size _).alloc (by have:=o.out.2.1.size;simp;omega) _
 have Y:nF w b [] f:=by have ao:=o.out.1;have Z:=(ak.new d #[af (R ⟨b,0,U⟩)] 90);have aa:=(ak.new (d.alloc (av #[af (R ⟨b,0,U⟩)] 90)) #[.func (.func 177) #[] #[af (R ⟨w.heap.size,0,U⟩)]] 148);rw[show(d.alloc (av #[af (R ⟨b,0,U⟩)] 90)).heap.size=w.heap.size+2 by simp;omega] at aa;rw[ao] at Z;rw[B.out];exact⟨⟨(Z.alloc _).cell 0 rfl,aa.cell 0 rfl,fo _ (by simp;omega) (fo _ (by omega) o.out.2.2)⟩,by decide⟩
 have p:=C X;have ap:=C Y;clear X Y;obtain⟨gp,ai,aO,ac⟩:=am.out;have ah:=C ac;clear ac;obtain⟨bo,z⟩:∃bo,f.alloc (av #[I J (-1)] 3)=bo:=⟨_,rfl⟩;have ay:bo.heap.size=w.heap.size+4:=by rw[<-z];simp;have:=p.out;omega
 have D:Below f.heap.size f bo:=z▸bz _ _;have aB:Below w.heap.size w bo:=s.trans (D.mono s.size);have q:=C (bx ay (bx aB D));have aQ:=C z;clear z ay aB D;have az:lA b gp ai (λk=>S k∧k<w.heap.size) (λk=>(S k∧k<w.heap.size)∨k=f.heap.size) bo h.a7 (ad.gF 10 h 0) (nF w b) [] bo:=by obtain⟨r,E,bk,bl⟩:=hk.g.root;refine⟨ap.out.mod (Mod.below (S:=λ_=>False) q.out.2.2) (λ_ _ _=>id),.inr ⟨rfl,h,10,r,⟨⟨Mod.refl _ _,aO,?_⟩,hk,rfl,E,by omega,rfl⟩⟩⟩;exact(ah.out.frame (Mod.below (S:=λ_=>False) q.out.2.1) (λ_ _=>id)).mono (λk _ a=>.inl a)
 have aS:=C az;clear az
 have aU:=C (AU ai d.heap.size (d.heap.size+1) f (lA b gp ai (λk=>S k∧k<w.heap.size) (λk=>(S k∧k<w.heap.size)∨k=f.heap.size) bo h.a7 (ad.gF 10 h 0) (nF w b)) (rB b gp ai (λk=>S k∧k<w.heap.size) (λk=>(S k∧k<w.heap.size)∨k=f.heap.size) bo h.a7 (ad.gF 10 h 0) (nF w b)) (by have:=p.out;have:=o.out.1;omega) (by have:=p.out;have:=o.out.1;omega) (λag A F j m=>by have t:=p.out;have u:=q.out.1;exact j.stay (λk a e=>by have:=a.2;omega) (λk a e=>by omega) (λk a e=>.inr (by omega)) m (λc=>c.mod m (λk _ _ e=>by omega))) (λag x A F j m=>by have t:=p.out;have u:=q.out.1;exact j.stay (λk a e=>by have:=a.2;omega) (λk a e=>by omega) (λk a e=>.inr (by omega)) m (λc=>c.mod m (λk _ _ e=>by omega))) (λag A j=>by have:=j.1.2;omega) (λag x A j=>by
  obtain⟨c,aP,E⟩:=j;refine⟨⟨c.1,by rw[wD];exact aP⟩,?_⟩;rw[mP,pN];rcases E with⟨G,K,aT⟩|⟨G,K⟩;·exact .inl ⟨G,K,x,by rw[nQ];rfl,aT⟩
  ·exact .inr ⟨G,K⟩) (by rw[aQ.out];exact aS.out) (λV l aV aZ a6 a8 s j aC a_=>by
  have t:=p.out;have u:=q.out.1;have aq:=o.out.1;refine(Ke 8 (by omega) b gp ai (λk=>S k∧k<w.heap.size) (λk=>(S k∧k<w.heap.size)∨k=f.heap.size) bo h.a7 (ad.gF 10 h 0) (λag W=>W.heap.size≥f.heap.size+1∧V ag W∧nF w b ag W) l d.heap.size (d.heap.size+1) w.heap.size aV aZ (λk a=>.inl a) (λk a=>by have:=a.2;omega) (λag W c=>by rw[aq];exact c.2.2.1) (λag W W' c m=>⟨cJ c.1 m.size,a6 ag W W' c.2.1 (m.block _ (by have:=c.1;omega) (λe=>by rcases e with e|e;have:=e.2;omega;omega)),c.2.2.mod m (λk bn aA e=>by rcases e with e|e;have:=e.2;omega;omega)⟩) ⟨⟨by have:=s _ aC;omega,j.1,j.2.1⟩,j.2.2⟩ aC (λA L=>by have:=s A L;omega) (λA F L aF=>a8 A F L (by rw[u] at aF;rw[t];exact aF)) ?_).mono ?_;·intro ba x W M N;exact(a_ ba x W ⟨M.1.2.1,M.1.2.2,M.2⟩ N).mono (λe w' a=>⟨a.1,⟨⟨by have:=s _ a.2.2;omega,a.2.1.1,a.2.1.2.1⟩,a.2.1.2.2⟩,a.2.2⟩)
  ·rintro e W' ⟨c,ag,O,v,N⟩;exact⟨c,ag,O,⟨v.1.2.1,v.1.2.2,v.2⟩,N⟩))
 refine aU.out.mono ?_;rintro e bb ⟨ag,O,rfl,v⟩;have ae:hV ag=(ad.gF 10 h 0).2∧b_ b gp ai (λk=>S k∧k<w.heap.size) (λk=>(S k∧k<w.heap.size)∨k=f.heap.size) bo (ad.gF 10 h 0).1 bb:=by
  rcases v.2 with⟨_,t,u⟩|⟨ao,_⟩;·exact⟨AY u,t⟩
  ·rw[O] at ao;cases ao
 have aw:=C ae;clear ae v;gi_wp2;go_ret;obtain⟨bc,m,bf,bg⟩:=aw.out;have t:=p.out;have u:=q.out.1;refine⟨by rw[bc];rfl,⟨gp,ai,bf,bg.mono (λk _ a=>?_)⟩,(Mod.below (S:=S) q.out.2.1).trans m (λi j e=>?_)⟩
 ·rcases a with a|a;·exact .inl a.1
  ·exact .inr (by omega)
 ·rcases e with e|e;·exact e.1
  ·omega
end
section
open Go.Shelf
attribute [local go_sem] Oper.semAt_some
theorem BH {h:ad}:∀(k:Nat) (g a:Int),(h.cF k g).1.getLast?=R a->∃G,h.at a=R G
 |0,g,a,e=>by simp[ad.cF] at e
 |k+1,g,a,e=>by
  unfold ad.cF at e;cases b:h.at g with
  |none=>rw[b] at e;simp at e
  |some x=>
   rw[b] at e;dsimp only at e;split at e;·simp at e;exact⟨x,by rw[<-e];exact b⟩
   ·rw[List.getLast?_cons] at e;cases aP:(h.cF k (x.q.cur/2)).1.getLast? with
    |none=>rw[aP] at e;simp at e;exact⟨x,by rw[<-e];exact b⟩
    |some y=>rw[aP] at e;simp at e;subst e;exact BH k _ _ aP
def oU (ai:Int->Nat) (ag:List (Int×Int)):Value:=match ag.getLast? with|none=>af U|some x=>af (R ⟨ai x.1,0,U⟩)
theorem Kt (ai:Int->Nat) (ag:List (Int×Int)) (x:Int×Int):oU ai (ag++[x])=af (R ⟨ai x.1,0,U⟩):=by unfold oU;rw[nQ]
def oV (n:Nat) (b:Nat) (h:ad) (ai:Int->Nat) (ag:List (Int×Int)) (W:ab):Prop:=(W.cell? ⟨n+1,0,U⟩=R (af (R ⟨b,0,U⟩))∧W.cell? ⟨n+2,0,U⟩=R (.func (.func 79) #[] #[]))∧ak W n #[oU ai ag] 130∧(hE ag=true->(h.cF 10 0).1.getLast?=ag.getLast?.map (·.1))
theorem oV.mod {n b:Nat} {h:ad} {ai:Int->Nat} {ag:List (Int×Int)} {W W':ab} {Z:Nat->Prop} (hv:oV n b h ai ag W) (a:Mod Z W W') (h0:¬Z n) (c:¬Z (n+1)) (d:¬Z (n+2)):oV n b h ai ag W':=⟨⟨a.cell hv.1.1 (j0 hv.1.1) c,a.cell hv.1.2 (j0 hv.1.2) d⟩,hv.2.1.mod a h0,hv.2.2⟩
def mi (h:ad) (a:ad) (g1:Int) (k:Nat):Prop:=a=h∧(h.cF k g1).1.getLast?=(h.cF 10 0).1.getLast?∧((h.cF k g1).1=[]->False)
theorem Ku {c:Fence} {P:Program} {al:Ending->ab->Prop} {s:Code} {d:Act->ab->Prop} {a:Act} (h:s.wpIn c n P (Exit.then d (bodyPost P fn (λ_ _=>False))) a w):s.wpIn c n P (Exit.then d (bodyPostM c n P fn al)) a w:=by
 refine wpIn_mono h ?_;intro e g w' b;cases e with
 |normal=>exact b
 |exit id=>exact b.elim
 |goto l=>exact b.elim
 |ret=>obtain⟨_,_,_,f⟩:=b;exact f.elim
 |panic i=>exact b.2.elim
 |outgrown=>exact b.elim
theorem BI {h:ad} {k:Nat} {g:Int} (b:h.at g=R G) (hk:1<=k):(h.cF k g).1≠[]:=by obtain⟨a,rfl⟩:∃a,k=a+1:=⟨k-1,by omega⟩;unfold ad.cF;rw[b];dsimp only;split<;>simp
theorem mi.fin {e f:Nat->Prop} {i:ab} {h j:ad} {l:ad×Int} {g1:Int} {k:Nat} (a:wl b gp ai e f i h.a7 (λh _=>h) (mi h) l j g1 k G W) (c:fM G.q.cur=true):(h.cF 10 0).1.getLast?=R g1:=by obtain⟨rfl,m,_⟩:=a.q;have n:=a.deep;have o:=a.ok.g.deep _ _ a.at_;obtain⟨d,rfl⟩:∃d,k=d+1:=⟨k-1,by omega⟩;rw[<-m];unfold ad.cF;rw[a.at_];dsimp only;unfold fM at c;simp only[nW,decide_eq_true_eq] at c;rw[aj c];rfl
theorem mi.next {b:Nat} {gp ai:Int->Nat} {l m:Nat->Prop} {n W:ab} {h e:ad} {o:ad×Int} {g1:Int} {k:Nat} {G:aL} (a:wl b gp ai l m n h.a7 (λh _=>h) (mi h) o e g1 k G W) (d:Nat) (r:k=d+1) (c:fM G.q.cur=false):mi h e (G.q.cur/2) d:=by
 obtain⟨_,_,p,s,t⟩:=a.next.2.2.2.2 c;obtain⟨u,v,_⟩:=a.q;subst u;subst r;have w:=a.deep;obtain⟨ar,i,rfl⟩:=ad.mB s;have x:=a.ok.g.deep _ _ i;dsimp only at t;have j:=BI (k:=d) i (by omega);refine⟨rfl,?_,j⟩;rw[<-v];unfold fM at c;simp only[ue,decide_eq_false_iff_not] at c;conv=>rhs;unfold ad.cF
 rw[a.at_];dsimp only;rw[z0 (by rintro(f|f);exact c.1 f;exact c.2 f)];dsimp only;rw[List.getLast?_cons];cases aP:(e.cF d (G.q.cur/2)).1.getLast? with
 |none=>exact absurd (List.getLast?_eq_none_iff.1 aP) j
 |some y=>rfl
theorem BJ (S:Nat->Prop) (b:Nat) (h:ad) (w:ab) (H:cQ w S b h) (hk:h.Ok):Calls au 106 #[af (R ⟨b,0,U⟩)] w (dA S b (I J h.yielded) h.yield w):=by
 have bd:=C H.trim;have ao:=C (oK (n:=9) (wF S b h w H hk));obtain⟨r,z⟩:∃r,h.running=r:=⟨_,rfl⟩;rw[z] at ao;by_cases N:r=-1
 ·have s:h.yielded=h.lR:=by unfold ad.yielded;rw[z,aj N]
  have t:h.yield=h.pick:=by unfold ad.yield;rw[z,aj N]
  rw[s,t];have be:=C (λa (a_:Below w.heap.size w a)=>oK (n:=9) (wV S b h a (H.next a_) hk));clear H s t z;subst N;refine callsIn_wide (n:=10).1 ?_;refine callsIn_of_wp_marks func106 rfl trivial ?_ rfl;simp only[ntmps106,jE,dY,hJ,jH,jG,jB,jA,jF,jC,iU,gQ];have bK:Fence.wide.fn 38:=trivial;have bL:Fence.wide.fn 120:=trivial;gi_wp2_with (gi_at_call 38;refine ao.out.mono ?_;rintro e a ⟨rfl,O⟩;have y:=C O;clear O);refine(be.out a y.out).mono ?_;rintro e c ⟨rfl,aq,d⟩;have ba:=C (bx aq d);clear aq d;gi_wp2;exact⟨_,results_tmp rfl _ _ _,rfl,ba.out.1.mono (λk _ q=>q.elim .inl (λq=>.inr (cJ y.out.size q))),(Mod.below (S:=S) y.out).trans ba.out.2 (λ_ _ q=>q)⟩
 ·obtain⟨ac,ay⟩:∃ac,h.yielded=ac:=⟨_,rfl⟩;obtain⟨aB,az⟩:∃aB,h.yield=aB:=⟨_,rfl⟩;have bb:∀g x,(h.cF 10 0).1.getLast?=R g->h.at g=R x->ac=(h.set g (R {x with q:=x.q.yield h.bI})).lR∧aB=(h.set g (R {x with q:=x.q.yield h.bI})).pick:=by intro g x s t;rw[<-ay,<-az];unfold ad.yielded ad.yield;rw[z,z0 N,z0 N,s];dsimp only;rw[t];exact⟨rfl,rfl⟩
  rw[ay,az];have aN:=C bb;clear H bb z ay az;refine callsIn_wide (n:=10).1 ?_;refine callsIn_of_wp_marks func106 rfl trivial ?_ rfl;simp only[ntmps106,jE,dY,hJ,jH,jG,jB,jA,jF,jC,iU,gQ];have bK:Fence.wide.fn 38:=trivial;have ar:Fence.wide.fn 78:=trivial;have bL:Fence.wide.fn 120:=trivial;have bj:Fence.wide.fn 154:=trivial;gi_wp2_with (gi_at_call 38;refine ao.out.mono ?_;rintro e a ⟨rfl,O⟩;have y:=C O;clear O);obtain⟨f,P⟩:∃f,a.alloc (av #[af U] 130)=f:=⟨_,rfl⟩;rw[P];have aC:f.heap.size=a.heap.size+1:=by rw[<-P];simp
  have aw:Below a.heap.size a f:=P▸bz _ _;have bc:ak f a.heap.size #[af U] 130:=P▸ak.new a _ _;clear P;refine(tc 9 b _ _ f).mono ?_;rintro e c ⟨rfl,X⟩;have bf:c.heap.size=a.heap.size+3:=by rw[X];simp;omega
  have bi:Below a.heap.size a c:=by rw[X];exact(aw.alloc (by omega) _).alloc (by simp;omega) _
  have bg:∀ai,oV a.heap.size b h ai [] c:=by intro ai;have s:=(ak.new f #[af (R ⟨b,0,U⟩)] 90);have t:=(ak.new (f.alloc (av #[af (R ⟨b,0,U⟩)] 90)) #[.func (.func 79) #[] #[]] 148);rw[show(f.alloc (av #[af (R ⟨b,0,U⟩)] 90)).heap.size=a.heap.size+2 by simp;omega] at t;rw[aC] at s;rw[X];exact⟨⟨(s.alloc _).cell 0 rfl,t.cell 0 rfl⟩,(bc.alloc _).alloc _,λq=>by cases q⟩
  have D:=C bf;have bP:=C bg;have aY:=C aC;clear X bf bg aw bc aC;gi_wp2;obtain⟨gp,ai,bR,an⟩:=bd.out;have bU:=C an;clear an;have ax:=C (y.out.trans (bi.mono y.out.size));have E:=C y.out.size;refine wA rfl (by omega) (gf:=133) (lb:=#[af (R ⟨f.heap.size,0,U⟩),af (R ⟨f.heap.size+1,0,U⟩)]) rfl trivial (enters_of func133 (by kernel_rfl) rfl) (encs:=lx ai) (λ_=>rfl) (ko b gp ai (λk=>S k∧k<w.heap.size) (λk=>k=a.heap.size) c h.a7 (λh _=>h) (mi h) (h,(h.cF 10 0).2) (oV a.heap.size b h ai)) (oJ b gp ai (λk=>S k∧k<w.heap.size) (λk=>k=a.heap.size) c h.a7 (λh _=>h) (mi h) (h,(h.cF 10 0).2) (oV a.heap.size b h ai)) (λag=>hE ag=true) ?hI ?hI' ?h0 ?hiter (λx=>{tmps:=#[af (R ⟨b,0,U⟩),undef,I J 0,af (R ⟨a.heap.size,0,U⟩),af (R ⟨ai x.1,0,U⟩),af (R ⟨b,0,U⟩),I J r,aE true,af (R ⟨b,0,U⟩),.func (.func 133) #[] #[af (R ⟨f.heap.size,0,U⟩),af (R ⟨f.heap.size+1,0,U⟩)],af (R ⟨ai x.1,0,U⟩),I J x.2,undef,undef,undef,undef,undef,undef,undef,undef,undef],defers:=[]}) ?assign ?body ?done;case hI=>intro ag A bY j d;have F:=E.out;have p:=D.out;exact j.stay (λk q e=>by have:=q.2;omega) (λk q e=>by omega) (λk q e=>by omega) d (λm=>m.mod d (by omega) (by omega) (by omega))
  case hI'=>intro ag x A bY j d;have F:=E.out;have p:=D.out;exact j.stay (λk q e=>by have:=q.2;omega) (λk q e=>by omega) (λk q e=>by omega) d (λm=>m.mod d (by omega) (by omega) (by omega))
  case h0=>obtain⟨al,bk,cO,cS⟩:=hk.g.root;refine⟨bP.out ai,.inr ⟨rfl,h,10,al,⟨⟨Mod.refl _ _,bR,?_⟩,hk,rfl,bk,by omega,AX 10 h 0,rfl,rfl,BI bk (by omega)⟩⟩⟩;exact(bU.out.frame (Mod.below (S:=λ_=>False) ax.out) (λ_ _=>id)).mono (λk _ q=>.inl q)
  case hiter=>intro l B bZ cT b2 a_ bQ bs b9;have F:=E.out;have p:=D.out;have a1:=aY.out;exact wC 9 (by omega) b gp ai (λk=>S k∧k<w.heap.size) (λk=>k=a.heap.size) c h.a7 (λh _=>h) (mi h) (h,(h.cF 10 0).2) (oV a.heap.size b h ai) l f.heap.size (f.heap.size+1) B bZ (λk q=>by have:=q.2;omega) (λag W m=>by rw[a1];exact m.1) bQ bs b2 b9
  case assign=>intro l x W cU Y;simp only[lx];gi_wp2;exact Y
  case body=>
   rintro l bv ⟨g,x⟩ W ⟨m,cb,cf,F,k,G,o,bl⟩ cg;clear cb cf;have aI:=m.2.1.cell 0 (v:=oU ai bv) rfl;have cR:=m.2.1.free 0;have ch:=C o;have Q:=C m;have bn:=C bl;clear m o bl;gi_wp2;have c7:=E.out;have p:=D.out;have bh:=cg;have d:=Mod.one W a.heap.size 0 (af (R ⟨ai g,0,U⟩));have o:=ch.out.stay (W':=W.setCell ⟨a.heap.size,0,U⟩ (af (R ⟨ai g,0,U⟩))) (Z:=λk=>k=a.heap.size) (λk q e=>by have:=q.2;omega) (λk q e=>by omega) (λk q e=>e) d;refine⟨⟨d.block _ (by omega) (by omega),d.block _ (by omega) (by omega)⟩,⟨⟨d.cell Q.out.1.1 (j0 Q.out.1.1) (by omega),d.cell Q.out.1.2 (j0 Q.out.1.2) (by omega)⟩,?_,?_⟩,?_⟩;·rw[Kt];exact Q.out.2.1.set 0 _
   ·intro aa;rw[mP] at aa;have aF:G.q.cur=x:=bn.out;dsimp only at aa;rw[<-aF] at aa;rw[nQ];exact mi.fin o aa
   ·have aA:=o.step rfl o.aP o.ok o.a7 (mi.next o);rw[mP,pN];have aF:G.q.cur=x:=bn.out;rw[aF] at aA;rcases aA with⟨ae,am,cj⟩|⟨ae,cn,b5,am⟩;·exact .inl ⟨ae,am,(g,x),by rw[nQ];rfl,cj⟩
    ·exact .inr ⟨ae,_,cn,b5,am⟩
  case done=>
   rintro ag W K j Y;have cp:b_ b gp ai (λk=>S k∧k<w.heap.size) (λk=>k=a.heap.size) c h W:=by
    rcases j.2 with⟨_,L,p⟩|⟨F,_⟩;·exact L
    ·rw[K] at F;cases F
   obtain⟨g,u,aM⟩:∃g u,ag.getLast?=R (g,u):=by
    unfold hE at K;cases aP:ag.getLast? with
    |none=>rw[aP] at K;cases K
    |some x=>exact⟨x.1,x.2,rfl⟩
   have ap:(h.cF 10 0).1.getLast?=R g:=(by rw[j.1.2.2 K,aM];rfl);obtain⟨G,M⟩:=BH _ _ _ ap;have bX:=j.1.2.1.cell 0 (v:=oU ai ag) rfl;rw[show oU ai ag=af (R ⟨ai g,0,U⟩) by unfold oU;rw[aM]] at bX;obtain⟨d,cr,bp⟩:=cp;have aO:bB W (λk=>(S k∧k<w.heap.size)∨c.heap.size+2<=k) b gp ai h W:=⟨Mod.refl _ _,cr,bp.mono (λk _ q=>.inl q)⟩;have cu:=aO.cs.cell 1 (s5 h gp);have ah:=C (aN.out g G ap M);have aQ:=C (oK (n:=9) (aO.drew.IW h.bI M (hk.g.q g G M)));have bq:=hk.same M ((hk.g.q g G M).yield h.bI) (λk=>by rw[aD.qu]);obtain⟨L,br⟩:∃L,h.set g (R {G with q:=G.q.yield h.bI})=L:=⟨_,rfl⟩;rw[br] at ah aQ bq;have aS:=C Y;obtain⟨a0,bw⟩:∃a0,h.bI=a0:=⟨_,rfl⟩;rw[bw] at aQ cu;clear j K aM ap M bp aO br Y bw;have dc:prog.follows .mixedOrders=true:=(by kernel_rfl);gi_wp2;refine Ku ?_;gi_region_with_o (gi_at_call 154;refine aQ.out.mono ?_;rintro e aU ⟨rfl,a2⟩;have cy:=C a2;clear a2);all_goals
    obtain⟨a3,aT⟩:=cy.out.done;have p:=D.out;have aV:=E.out;have T:=iQ.1 aS.out
    have a4:aU.heap[c.heap.size]?=R (.deferred (R [])):=(aT.block _ T.1 (λe=>by
     rcases e with e|e;·have:=e.2;omega
     ·omega)).trans aS.out
    have cE:=C (oK (n:=9) (wV _ b L aU a3 bq));have a5:=C a4;clear a3 a4 T p aV;gi_wp2;refine cE.out.mono ?_;rintro e V ⟨rfl,aK,aZ⟩;have p:=D.out;have aV:=E.out;have T:=(iQ.1 a5.out).1;have bm:=(iQ.1 aS.out).1;have a6:¬c6 (c6 (λk=>(S k∧k<w.heap.size)∨c.heap.size+2<=k) W) aU c.heap.size:=λe=>by
     rcases e with(e|e)|e
     ·rcases e with e|e;·have:=e.2;omega
      ·omega
     ·omega
     ·omega
    have bC:¬c6 (λk=>(S k∧k<w.heap.size)∨c.heap.size+2<=k) W c.heap.size:=λe=>a6 (.inl e);have aR:V.heap[c.heap.size]?=R (.deferred (R [])):=(aZ.block _ T bC).trans a5.out;have b8:=C aR;have a8:Mod (λk=>k=c.heap.size) V (V.putObj c.heap.size (.deferred U)):=⟨rfl,rfl,rfl,by simp,λk hk cq=>p5 cq⟩;have a9:=aK.frame a8 (λk q e=>a6 (e▸q));have bG:Mod S w (V.putObj c.heap.size (.deferred U)):=by
     refine((((Mod.below (S:=S) ax.out).trans d (λi j e=>by omega)).trans aT (λi j e=>?_)).trans aZ (λi j e=>?_)).trans a8 (λi j e=>by omega)
     ·rcases e with e|e;·exact e.1
      ·omega
     ·rcases e with e|e
      ·rcases e with e|e;·exact e.1
       ·omega
      ·omega
    have bH:cQ (V.putObj c.heap.size (.deferred U)) (c6 S w) b L.pick:=a9.mono (λk _ q=>by
     rcases q with(q|q)|q
     ·rcases q with q|q;·exact .inl q.1
      ·exact .inr (by omega)
     ·exact .inr (by omega)
     ·have:=aT.size;exact .inr (by omega))
    have cH:=C (bx bH bG);clear p aV T bm a6 bC aR a8 a9 bG bH aK aZ;gi_wp2;refine⟨by simp,.inl ⟨_,_,rfl,run_takeDeferred b8.out,?_⟩⟩;refine⟨_,results_tmp rfl _ _ _,?_⟩;rw[ah.out.1,ah.out.2];exact⟨rfl,cH.out⟩
end
theorem Cs {h h':ad} {gp gp':Int->Nat} (j:g<32) (l:h'.b4=h.b4) (m:h'.bI=h.bI) (e:∀k:Nat,k<32->k≠g->gl h' gp' k=gl h gp k):eE h' gp'=(eE h gp).setIfInBounds (2+g) (gl h' gp' g):=by
 apply Array.ext;·simp[wz]
 ·intro i d q;rw[wz] at d;have f:∀(a:ad) (p:Int->Nat),∀b,(eE a p)[i]'b=((eE a p)[i]?).getD undef:=λa p b=>by rw[Array.getElem?_eq_getElem b];rfl
  rw[f h' gp'];rw[Array.getElem_setIfInBounds (by rw[wz];exact d)];by_cases c:2+g=i;·rw[aj c,<-c,q5 h' gp' j];rfl
  ·rw[z0 c,f h gp];by_cases n:i=0;·subst n;rw[wx,wx,l]
   ·by_cases o:i=1;·subst o;rw[s5,s5,m]
    ·obtain⟨k,rfl⟩:∃k,i=2+k:=⟨i-2,by omega⟩;rw[q5 h' gp' (by omega),q5 h gp (by omega),e k (by omega) (by omega)]
section
variable {w W:ab} {S:Nat->Prop} {b:Nat} {h:ad} {gp ai:Int->Nat} {tag:Nat->Int}
theorem ad.Ct {h:ad} (a:h.gs.length=32) (b:g<32) (x:Option aL):(h.set g x).at=cP h.at g x:=by funext k;rw[ad.qs (by omega) (by rw[a];omega)];rfl
theorem ms.add (H:ms w S b h gp ai tag) (x:h.gs.length=32) (r:g<32) (C:h.at g=U) (s:Below w.heap.size w W) {qb:Nat} (y:w.heap.size<=p) (z:ak W p (im G qb) 132) (A:ev W (λk=>w.heap.size<=k∧k≠p) qb G.q):ms (W.setCell ⟨b,2+g,U⟩ (af (R ⟨p,0,U⟩))) (c6 S w) b (h.set g (R G)) (λk=>if k=g then p else gp k) (λk=>if k=g then qb else ai k) (λk=>if k<w.heap.size then tag k else if k=p then-2-(g:Int) else g):=by
 have j:=ad.Ct x r (R G);have B:=H.cs.lt;have t:Mod (λk=>k=b) w (W.setCell ⟨b,2+g,U⟩ (af (R ⟨p,0,U⟩))):=(Mod.below (S:=λk=>k=b) s).setCell (show b=b from rfl) _;have u:Mod (λk=>k=b) W (W.setCell ⟨b,2+g,U⟩ (af (R ⟨p,0,U⟩))):=Mod.one _ _ _ _;refine⟨?_,⟨.inl H.b.1,by rw[aj B];exact H.b.2⟩,?_,?_⟩
 ·rw[Cs (h:=h) (h':=h.set g (R G)) (gp:=gp) (gp':=λk=>if k=g then p else gp k) r rfl rfl (λk d D=>?_)];·rw[show gl (h.set g (R G)) (λk=>if k=g then p else gp k) g=af (R ⟨p,0,U⟩) by unfold gl;rw[j,eV];simp];exact(H.cs.next s).set (2+g) _
  ·have v:(k:Int)≠g:=(by omega);unfold gl;rw[j,gi _ v];simp only[z0 v]
 ·intro k l d;rw[j] at d;rcases ht d with⟨rfl,e⟩|⟨n,e⟩;·cases e;rw[aj rfl,aj rfl];refine⟨z.mod u (λe=>by omega),.inr y,?_⟩;rw[z0 (by omega),aj rfl]
  ·rw[z0 n,z0 n];have f:=H.g k l e;refine⟨f.1.mod t (λm=>by have o:=f.2.2;rw[m,H.b.2] at o;have:=(ad.dp e).1;omega),.inl f.2.1,?_⟩;rw[aj f.1.lt];exact f.2.2
 ·intro k l d;rw[j] at d;rcases ht d with⟨rfl,e⟩|⟨n,e⟩;·cases e;rw[aj rfl];refine(A.frame u (λi c e=>by have:=c.1;omega)).mono (λi c a=>⟨.inr a.1,?_⟩);rw[z0 (by have:=a.1;omega),z0 a.2]
  ·rw[z0 n];refine(((H.q k l e).mono (T:=λi=>(S i∧tag i=k)∧i<w.heap.size) (λi c a=>⟨a,c⟩)).frame t (λi c m=>by have o:=c.1.2;rw[m,H.b.2] at o;have:=(ad.dp e).1;omega)).mono (λi c a=>⟨.inl a.1.1,?_⟩);rw[aj a.2];exact a.1.2
theorem ms.take (H:ms w S b h gp ai tag) (p:h.gs.length=32) (n:g<32):ms (w.setCell ⟨b,2+g,U⟩ (af U)) S b (h.set g U) gp ai tag:=by
 have f:=ad.Ct p n U;have o:Mod (λk=>k=b) w (w.setCell ⟨b,2+g,U⟩ (af U)):=Mod.one _ _ _ _;have d:∀k a,(h.set g U).at k=R a->h.at k=R a:=λk a c=>by
  rw[f] at c;rcases ht c with⟨_,e⟩|⟨_,e⟩;·cases e
  ·exact e
 refine⟨?_,H.b,?_,?_⟩
 ·rw[Cs (h:=h) (h':=h.set g U) (gp:=gp) (gp':=gp) n rfl rfl (λk c s=>?_)];·rw[show gl (h.set g U) gp g=af U by unfold gl;rw[f,eV];rfl];exact H.cs.set (2+g) _
  ·unfold gl;rw[f,gi _ (by omega)]
 ·intro k a c;have j:=H.g k a (d k a c);exact⟨j.1.mod o (λl=>by have m:=j.2.2;rw[l,H.b.2] at m;have:=(ad.dp (d k a c)).1;omega),j.2⟩
 ·intro k a c;exact(H.q k a (d k a c)).frame o (λi r l=>by have m:=r.2;rw[l,H.b.2] at m;have:=(ad.dp (d k a c)).1;omega)
end
theorem L2 (S:Nat->Prop) (b:Nat) (h:ad) (g parent:Int) (w:ab) (E:cQ w S b h) (hk:h.Ok):Calls au 87 #[af (R ⟨b,0,U⟩),I J g,I J parent] w (dA S b (I J (h.gw g parent)) (h.link g parent) w):=by
 obtain⟨gp,ai,l⟩:=E.start;obtain⟨ac,ay,tag,q⟩:=E;have m:=C (oF parent l hk.len);have r:=C l;have d:h.gw g parent≠0->h.link g parent=h:=λe=>by unfold ad.link;rw[z0 e]
 cases hp:h.at parent with
 |none=>
  have a:h.gw g parent=1:=by unfold ad.gw;rw[hp]
  rw[wd hp] at m;rw[d (by rw[a];decide),a];clear l hk hp a d q;by_cases F:g<1;·go_enter func87,ntmps87;go_wp2_with fail;refine m.mono ?_;rintro e j ⟨rfl,rfl⟩;go_wp2_with fail;go_ret;exact r.hp _
  ·by_cases H:32<=g;all_goals go_enter func87,ntmps87;go_wp2_with fail;refine m.mono ?_;rintro e j ⟨rfl,rfl⟩;go_wp2_with fail;go_ret;exact r.hp _
 |some up=>
  rw[jY hp] at m;by_cases F:g<1;·have a:h.gw g parent=1:=(by unfold ad.gw;rw[hp];dsimp only;rw[aj (.inl F)]);rw[d (by rw[a];decide),a];clear l hk hp a d q;go_enter func87,ntmps87;go_wp2_with fail;refine m.mono ?_;rintro e j ⟨rfl,rfl⟩;go_wp2_with fail;go_ret;exact r.hp _
  by_cases H:32<=g;·have a:h.gw g parent=1:=(by unfold ad.gw;rw[hp];dsimp only;rw[aj (.inr H)]);rw[d (by rw[a];decide),a];clear l hk hp a d q;go_enter func87,ntmps87;go_wp2_with fail;refine m.mono ?_;rintro e j ⟨rfl,rfl⟩;go_wp2_with fail;go_ret;exact r.hp _
  obtain⟨n,rfl⟩:∃n:Nat,g=n:=⟨g.toNat,by omega⟩;have z:n<32:=by omega
  have c:=l.ptr z;cases o:h.at n with
  |some G=>have a:h.gw n parent=6:=(by unfold ad.gw;rw[hp];dsimp only;rw[z0 (by omega),o];rfl);rw[d (by rw[a];decide),a];rw[jY o] at c;clear l hk hp a d q o;go_enter func87,ntmps87;go_wp2_with fail;refine m.mono ?_;rintro e j ⟨rfl,rfl⟩;go_wp2_with fail;go_ret;exact r.hp _
  |none=>
   rw[wd o] at c;have K:=(l.cw hp).cell 1 (v:=I J up.deep) rfl;by_cases t:up.deep=8;·have a:h.gw n parent=5:=(by unfold ad.gw;rw[hp];dsimp only;rw[z0 (by omega),o,z0 (by simp),aj t]);rw[d (by rw[a];decide),a];rw[t] at K;clear l hk hp a d q o t;go_enter func87,ntmps87;go_wp2_with fail;refine m.mono ?_;rintro e j ⟨rfl,rfl⟩;go_wp2_with fail;go_ret;exact r.hp _
   ·have a:h.gw n parent=0:=(by unfold ad.gw;rw[hp];dsimp only;rw[z0 (by omega),o,z0 (by simp),z0 t]);have L:h.link n parent=h.set n (R (jL n parent (up.deep+1))):=(by unfold ad.link;rw[aj a,hp]);have aB:=hk.g.deep _ _ hp;have Q:=C hp;have M:=C o;have V:=C hk.len;have A:=C q;rw[a,L];clear l hk hp a L d q o;go_enter func87,ntmps87;go_wp2_with fail;refine m.mono ?_;rintro e j ⟨rfl,rfl⟩;go_wp2_with fail;have az:(0:Int)<=(n:Int):=(by omega);have aC:(n:Int).toNat=n:=(by omega);have W:=A.out.cs.lt;have aF:IntKind.i64.wrap (up.deep+1)=up.deep+1:=IntWalk.i64_in _ (by omega);clear c;go_region_with (first|(go_at_call 82;refine(Ap _).mono ?_;rintro e u ⟨qb,rfl,N,y⟩;have B:=C (r.drew.below y);have X:=C N;have D:=C y;have O:b<u.heap.size:=dm W y.size;have K:=(B.cw Q.out).cell 1 (v:=I J up.deep) rfl;have c:=B.ptr z;rw[wd M.out] at c;have f:=B.cs.free (2+n);have ae:=fo (av (im (jL n parent (up.deep+1)) qb) 132) O c;clear N y)|(go_at_call 135;refine(s8 n (by omega) (by omega) _).mono ?_;rintro e s ⟨rfl,rfl⟩));all_goals go_wp2_with fail;go_ret;obtain⟨u,Y⟩:∃u,s=u:=⟨_,rfl⟩;subst Y;have Z:Below j.heap.size j (s.alloc (av (im (jL n parent (up.deep+1)) qb) 132)):=((Mod.below (S:=λ_=>False) (x:=j.drew) D.out).jf.alloc _).toBelow;have P:=ms.add A.out V.out z M.out Z (p:=s.heap.size) (qb:=qb) (G:=jL n parent (up.deep+1)) D.out.size (ak.new _ _ _) ((X.out.mono (T:=λk=>j.heap.size<=k∧k≠s.heap.size) (λk hk aa=>⟨aa,by omega⟩)).next (bz _ _));rw[World.setCell_alloc_past _ _ _ _ O] at P;refine⟨rfl,⟨_,_,_,P⟩,?_⟩;have ao:=((Mod.below (S:=S) (x:=j.drew) D.out).jf.setCell (i:=2+n) A.b.1 (af (R ⟨s.heap.size,0,U⟩))).alloc (av (im (jL n parent (up.deep+1)) qb) 132);exact ao
def oY (h:ad) (gp:Int->Nat):List Value:=(gh 32).map λi:Nat=>gl h gp i
theorem xl (h:ad) (gp:Int->Nat):(oY h gp).length=32:=by simp[oY]
theorem xm (h:ad) (gp:Int->Nat) (a:i<32):(oY h gp)[i]?=R (gl h gp i):=by simp[oY,a]
theorem bB.range {d:ab} {h:ad} (H:bB d S b gp ai h w):w.rangeAt b 2 (oY h gp):=λj v a=>by have c:=(bE.1 a).1;rw[xl] at c;rw[xm h gp c] at a;rw[<-Option.some.inj a];exact H.ptr c
theorem ad.Cu {h:ad} (j:h.gs.length=32) (g:Int):h.gs.any (λy=>match y with|none=>false|some y=>decide (y.up=g))=true↔∃(k:Nat) (a:aL),k<32∧h.at k=R a∧a.up=g:=by
 rw[nS];constructor;·rintro⟨y,b,e⟩;cases y with
  |none=>simp at e
  |some a=>obtain⟨i,c,d⟩:=uc.1 b;refine⟨i,a,by omega,?_,by simpa using e⟩;unfold ad.at;rw[z0 (by omega),dD];simp[c,d]
 ·rintro⟨k,a,l,f,e⟩;exact⟨R a,ea (ad.dp f).2.2,by simpa using e⟩
theorem cQ.take {w:ab} {S:Nat->Prop} {b:Nat} {h:ad} (H:cQ w S b h) (a:h.gs.length=32) {g:Nat} (c:g<32):cQ (w.setCell ⟨b,2+g,U⟩ (af U)) S b (h.set g U):=by obtain⟨gp,ai,d,H⟩:=H;exact⟨gp,ai,d,H.take a c⟩
theorem L3 (S:Nat->Prop) (b:Nat) (h:ad) (g:Int) (w:ab) (P:cQ w S b h) (hk:h.Ok):Calls au 89 #[af (R ⟨b,0,U⟩),I J g] w (dA S b (I J (h.iZ g)) (h.unlink g) w):=by
 obtain⟨gp,ai,f⟩:=P.start;have E:=C (q7 g f hk.len);have F:=C f;have G:h.iZ g≠0->h.unlink g=h:=λe=>by unfold ad.unlink;rw[z0 e]
 cases o:h.linked g with
 |none=>
  have t:h.iZ g=1:=by unfold ad.iZ;rw[o]
  rw[ri o] at E;rw[G (by rw[t];decide),t];clear f hk o t G;go_enter func89,ntmps89;go_wp2_with fail;refine E.mono ?_;rintro e H ⟨rfl,rfl⟩;go_wp2_with fail;go_ret;exact F.hp _
 |some x=>
  rw[rj o] at E;obtain⟨a_,j⟩:=ke o;have t:h.iZ g=if h.gs.any (λy=>match y with|none=>false|some y=>decide (y.up=g)) then 6 else if x.q.es.isEmpty then 0 else 6:=by unfold ad.iZ;rw[o];rfl
  have az:=C t;have aQ:=C j;have Q:=C hk.len;have aC:=C G;have aF:=C f.range;have aS:=C (λw' (aU:Below w.heap.size w w')=>(f.below aU).ra j (hk.g.q g x j));obtain⟨r,T⟩:=aX (h.iZ g);obtain⟨V,W⟩:=aX (h.unlink g);have m:=C (bx T W);rw[T,W];have av:=(ad.dp j).1;have aP:=(ad.dp j).2.1;rw[hk.len] at aP;obtain⟨n,rfl⟩:∃n:Nat,g=n:=⟨g.toNat,by omega⟩;have X:n<32:=by omega
  have c:=f.ptr X;rw[jY j] at c;have aq:=(f.cw j).cell 2 (v:=af (R ⟨ai n,0,U⟩)) rfl;have Y:=C (xl h gp);have ae:=C (λi (am:i<32)=>xm h gp am);generalize aT:oY h gp=L at aF Y ae;clear f hk o t j G T W aT;go_enter func89,ntmps89;go_wp2_with fail;refine E.mono ?_;rintro e H ⟨rfl,rfl⟩;go_wp2_with ((refine wpList_load_mid rfl _ _ rfl b 2 rfl L _ aF underlying160 rfl (by rw[Y.out];kernel_rfl) ?_));go_loop [17] (λZ=>∃i:Nat,i<=32∧Z=I J (i:Int)∧∀(k:Nat) (a:aL),k<i->h.at k=R a->a.up≠n) (λZ=>32-(intOf Z).toNat);case atStart=>exact⟨0,by omega,rfl,λk a hk=>by omega⟩
  case round=>
   obtain⟨i,am,rfl,aM⟩:=hrel;have aa:=C aM;clear aM;by_cases K:i<32;·have ba:(i:Int)<32:=(by omega);have u:=ae i K;have ag:=Y.out;have bb:(0:Int)<=(i:Int):=(by omega);have aw:(i:Int).toNat=i:=(by omega);cases p:h.at i with
    |none=>
     rw[wd p] at u;have aV:=tD L i _ K u H;have M:=C p;clear p u;go_wp2_with fail;go_round;case rel=>
      refine⟨i+1,by omega,by go_num,λk a hk d=>?_⟩;by_cases e:k=i;·subst e;rw[M.out] at d;cases d
      ·exact aa k a (by omega) d
     case measure=>simp[intOf];omega
    |some a=>
     rw[jY p] at u;have aV:=tD L i _ K u H;have aZ:=(F.cw p).cell 0 (v:=I J a.up) rfl;have M:=C p;clear p u;by_cases N:a.up=n;·have z:=(ad.Cu Q n).2 ⟨i,a,K,M,N⟩;have s:r=6:=(by rw[<-m.out.1,az.out,aj z]);have A:V=h:=(by rw[<-m.out.2];exact aC (by rw[m.out.1,s];decide));rw[N] at aZ;have B:=C (bx s A);clear z s A N;go_wp2_with fail;go_ret;rw[B.out.1,B.out.2];exact F.hp _
     ·go_wp2_with fail;go_round;case rel=>
       refine⟨i+1,by omega,by go_num,λk ak hk d=>?_⟩;by_cases e:k=i;·subst e;rw[M.out] at d;cases d;exact N
       ·exact aa k ak (by omega) d
      case measure=>simp[intOf];omega
   ·obtain rfl:i=32:=by omega
    have z:¬h.gs.any (λy=>match y with|none=>false|some y=>decide (y.up=(n:Int)))=true:=λao=>by obtain⟨k,a,hk,d,e⟩:=(ad.Cu Q n).1 ao;exact aa k a hk d e
    have ap:r=if x.q.es.isEmpty then 0 else 6:=(by rw[<-m.out.1,az.out,z0 z]);have B:=C ap;clear z ap;go_wp2_with fail;refine(aS H (Below.refl _ _)).mono ?_;rintro e bc ⟨bf,rfl,aO,ac⟩;obtain⟨bg,an,rfl⟩:=aO.mR;have ay:=C (F.below ac);clear aO;cases O:x.q.es with
    |nil=>have aB:r=0:=(by rw[B.out,O];rfl);have ah:V=h.set n U:=(by rw[<-m.out.2];unfold ad.unlink;rw[aj (by rw[m.out.1,aB])]);have a6:=ay.ptr X;rw[jY aQ.out] at a6;have ax:=ay.cs.free (2+n);have D:=C (bx aB ah);clear aB ah O;rw[hJ];go_wp2_with fail;go_ret;rw[D.out.1,D.out.2];have a8:=(P.next ac).take Q X;exact⟨rfl,a8.mono (λk _ ao=>.inl ao),(Mod.below (S:=S) ac).setCell P.own.1 _⟩
    |cons y l=>have s:r=6:=(by rw[B.out,O];rfl);have A:V=h:=(by rw[<-m.out.2];exact aC (by rw[m.out.1,s];decide));have D:=C (bx s A);clear s A O;rw[dY];go_wp2_with fail;go_ret;rw[D.out.1,D.out.2];exact ay.hp _
section
variable {aq w w':ab} {S:Nat->Prop} {b:Nat} {h:ad} {gp ai:Int->Nat}
theorem Cv (g top:Int) {s:Int} (H:bB aq S b gp ai h w) (t:h.gs.length=32) (hk:c_ h.at s) (u:h.at g=R G):Calls au 140 #[af (R ⟨b,0,U⟩),I J g,I J top] w λe w'=>e=aK (aE (h.di g top))∧w'=w:=by
 generalize x:h.di g top=r;have l:=C H;have y:=C t;have i:=C hk;have o:=C u;have z:=C x;go_enter func140,ntmps140;go_wp2_with fail;go_loopg [1] 10 (λA v wr=>∃(n:Nat) (k:Int),A=n∧v=I J k∧(k=-1∨∃f,h.at k=R f∧f.deep<n)∧h.under n k top=r∧w=wr);case atStart=>exact⟨10,g,rfl,rfl,.inr ⟨G,o,by have:=(i.deep g G o).2;omega⟩,z,rfl⟩
 case round=>
  obtain⟨n,k,B,rfl,D,a,rfl⟩:=hrel;have E:=C B;rcases D with rfl|⟨f,d,p⟩
  ·have F:r=false:=by
    rw[<-a];cases n with
    |zero=>rfl
    |succ n=>unfold ad.under;rw[aj rfl]
   subst F;go_wp2;go_ret;exact⟨rfl,rfl⟩
  ·have K:=(i.deep k f d).1;cases n with
   |zero=>omega
   |succ n=>
    have O:=(ad.dp d).1;unfold ad.under at a;rw[z0 (by omega)] at a;by_cases j:k=top;·rw[aj j] at a;subst a j;clear d p K;go_wp2;go_ret;exact⟨rfl,rfl⟩
    ·rw[z0 j,d] at a;dsimp only at a;obtain⟨m,rfl,P,c⟩:=l.ty d y;have Q:=(l.cw d).cell 0 (v:=I J f.up) rfl;have L:=C a;have q:=C d;go_wp2;go_roundg n;case measure=>have:=E.out;omega
     case rel=>
      refine⟨n,f.up,rfl,rfl,?_,L,rfl⟩;by_cases e:(m:Int)=0;·exact .inl ((i.np q).2 e)
      ·obtain⟨M,N,T⟩:=i.out.up _ _ q.out e;have:=p;exact .inr ⟨M,N,by omega⟩
end
def o1 (a b:Int):ad:=⟨a,b,gR 32 U⟩
theorem xH (a b k:Int):(o1 a b).at k=U:=by
 cases e:(o1 a b).at k with
 |none=>rfl
 |some G=>have:=(ad.dp e).2.2;unfold o1 at this;rw[xN] at this;split at this<;>simp at this
theorem xI (a b:Int):eE (o1 a b) (λ_=>0)=(I J a::I J b::gR 32 (af U)).toArray:=by unfold eE;congr 3
theorem Nt (d h:Int) (w:ab):Calls au 44 #[I J d,I J h] w λe w'=>∃b,e=aK (af (R ⟨b,0,U⟩))∧cQ w' (λk=>w.heap.size<=k) b (h0 d h)∧Below w.heap.size w w':=by have A:=C (xI d h);obtain⟨V,n⟩:∃V,w.alloc (av (eE (o1 d h) (λ_=>0)) 162)=V:=⟨_,rfl⟩;have s:Below w.heap.size w V:=n▸bz _ _;have j:ak V w.heap.size (eE (o1 d h) (λ_=>0)) 162:=n▸ak.new w _ _;have t:=C n;have o:=C (show ms V (λk=>k=w.heap.size) w.heap.size (o1 d h) (λ_=>0) (λ_=>0) (λ_=>-1) from⟨j,⟨rfl,rfl⟩,(λg G e=>by rw[xH] at e;cases e),(λg G e=>by rw[xH] at e;cases e)⟩);have B:=C s;have L:=j.cell 2 (v:=af U) (by rw[xI];rfl);have M:=j.free 2;have D:=j.lt;clear n s j;rw[xI] at t;go_enter func44,ntmps44;go_upto_region 2 with fail;have q:=t.out;simp only[gR] at q;rw[q];clear q;go_region_with (first|(go_at_call 82;refine(Ap _).mono ?_;rintro e l ⟨qb,rfl,u,m⟩;have E:=C u;have r:=C m;have y:w.heap.size<l.heap.size:=dm D m.size;have c:=(ak.next (w:=V.drew) o.cs m).cell 2 (v:=af U) (by rw[A.out];rfl);have f:=(ak.next (w:=V.drew) o.cs m).free 2;have N:=fo (av (im kE qb) 132) y c;clear u m));all_goals
 go_wp2_with fail;go_ret;have F:Below V.heap.size V (l.alloc (av (im kE qb) 132)):=((Mod.below (S:=λ_=>False) (x:=V.drew) r.out).jf.alloc _).toBelow;have z:=ms.add o.out rfl (g:=0) (by omega) (xH _ _ _) F (p:=l.heap.size) (qb:=qb) (G:=kE) r.size (ak.new _ _ _) ((E.mono (T:=λk=>V.heap.size<=k∧k≠l.heap.size) (λk O a=>⟨a,by omega⟩)).next (bz _ _));rw[World.setCell_alloc_past _ _ _ _ y] at z;have H:cQ _ _ w.heap.size (h0 d h):=⟨_,_,_,z⟩;refine⟨w.heap.size,rfl,H.mono (λk _ a=>?_),?_⟩
 ·rcases a with a|a;·show w.heap.size<=k;have:k=w.heap.size:=a;omega
  ·show w.heap.size<=k;omega
 ·have K:=(((Mod.below (S:=λ_=>False) B.out).trans (Mod.below (S:=λ_=>False) (x:=V.drew) r.out).jf (λ_ _ a=>a)).fw (b:=w.heap.size) (i:=2) (bM _) (af (R ⟨l.heap.size,0,U⟩))).alloc (av (im kE qb) 132);exact K.toBelow
end Go.Proofs.YtddbkdjcjoofpaaGreatDoor
