import Derived.Test.YtddbkdjcjoofpaaGreatDoorLA
import Derived.Test.YtddbkdjcjoofpaaGreatDoorLD
import Derived.TacticsInMore
import Derived.LoopNIn
import Derived.LoopIn
import Derived.OwnWalkIn
import Derived.IntWalk
import Derived.Shelf.RegionOpen
namespace Go.Proofs.YtddbkdjcjoofpaaGreatDoor
set_option linter.unusedVariables false
set_option linter.unusedSimpArgs false
set_option maxRecDepth 100000
set_option maxHeartbeats 20000000
open _root_.Go.Proofs.Tryz Go.RowKit
open Go renaming World→ab
open _root_.Go.Proofs.Tryz renaming prog→au
open Option renaming none→U,some→R
open _root_.Go.Value renaming int→I,pointer→af,slice→ay,bool→aD,agg→bk,tuple→bC
open _root_.Go.IntKind renaming i64→J,u64→ah
open _root_.Go.Obj renaming cells→av
open _root_.Go.Ending renaming returned→aK
open _root_.Nat renaming le_refl→bK,le_trans→cA,lt_of_lt_of_le→dd,lt_or_ge→nm,mul_le_mul→qx,reduceSub→jM,reduceAdd→jN
open _root_.Array renaming getElem?_eq_some_iff→iZ,replicate_zero→jF,replicate_succ→jG
open _root_.Go renaming World→ab
open _root_.List renaming getElem?_eq_some_iff→bD,length_cons→dX,cons_append→gM,getD_eq_getElem?_getD→dy,getElem?_toArray→fg,mem_of_getElem?→ea,range→gi,replicate→gY,any_eq_true→n_,getElem?_replicate→yw,mem_iff_getElem→u_,getElem?_cons_succ→nh,length_nil→hM,nil_append→jc,append_toArray→jH,size_toArray→jJ,push_toArray→jK,map_congr_left→vc,getLast?_concat→n4
open _root_.Bool renaming or_eq_true→ob,or_eq_false_iff→vb
open _root_.And renaming intro→br
open _root_.Int renaming tmod_eq_emod_of_nonneg→qo
open _root_.Go.World renaming putObj_heap_other→qq
variable {b n g i p j c m o:Nat} {S Z:Nat->Prop} {w w' y A:ab} {v u:Value} {a:Option Addr} {G:aJ} {k x:Key} {f:Int->Option aJ} {l:List Int} {gp ai:Int->Nat} {e:aI} {r:T}
def gq (h:ad) (gp:Int->Nat) (g:Int):Value:=if(h.at g).isSome then af (R ⟨gp g,0,U⟩) else af U
def ek (h:ad) (gp:Int->Nat):Array Value:=(I J h.ch::I J h.bG::((gi 32).map λi:Nat=>gq h gp i)).toArray
def iy (G:aJ) (qb:Nat):Array Value:=#[I J G.up,I J G.deep,af (R ⟨qb,0,U⟩),I J G.own.id,I ah (G.own.wt:Int),I J G.own.v,I ah (G.own.rem:Int),aD G.on,aD G.stopped]
theorem rE (h:ad) (gp:Int->Nat) (a:g<32):(ek h gp)[2+g]?=R (gq h gp g):=by unfold ek;rw[fg,show 2+g=g+1+1 by omega,nh,nh];simp[a]
theorem xf (h:ad) (gp:Int->Nat):(ek h gp)[0]?=R (I J h.ch):=by unfold ek;simp
theorem tj (h:ad) (gp:Int->Nat):(ek h gp)[1]?=R (I J h.bG):=by unfold ek;simp
theorem xg (h:ad) (gp:Int->Nat):(ek h gp).size=34:=by unfold ek;simp
theorem Bo {h h':ad} {gp:Int->Nat} (a:h'.ch=h.ch) (b:h'.bG=h.bG) (e:∀g,(h'.at g).isSome=(h.at g).isSome):ek h' gp=ek h gp:=by unfold ek gq;rw[a,b];congr 3;apply vc;intro i _;rw[e]
structure ms (w:ab) (S:Nat->Prop) (b:Nat) (h:ad) (gp ai:Int->Nat) (tag:Nat->Int):Prop where
 cs:ak w b (ek h gp) 162
 b:S b∧tag b=-1
 g:∀g G,h.at g=R G->ak w (gp g) (iy G (ai g)) 132∧S (gp g)∧tag (gp g)=-2-g
 q:∀g G,h.at g=R G->et w (λk=>S k∧tag k=g) (ai g) G.q
def cO (w:ab) (S:Nat->Prop) (b:Nat) (h:ad):Prop:=∃gp ai tag,ms w S b h gp ai tag
section
variable {w w':ab} {S:Nat->Prop} {b:Nat} {h:ad} {gp ai:Int->Nat} {tag:Nat->Int}
theorem ms.frame {Z:Nat->Prop} (H:ms w S b h gp ai tag) (c:Mod Z w w') (d:∀k,S k->¬Z k):ms w' S b h gp ai tag:=⟨H.cs.mod c (d _ H.b.1),H.b,λg G a=>⟨(H.g g G a).1.mod c (d _ (H.g g G a).2.1),(H.g g G a).2⟩,λg G a=>(H.q g G a).frame c (λk e=>d k e.1)⟩
theorem ms.mono {T:Nat->Prop} (H:ms w S b h gp ai tag) (c:∀k,k<w.heap.size->S k->T k):ms w T b h gp ai tag:=⟨H.cs,⟨c _ H.cs.lt H.b.1,H.b.2⟩,λg G a=>⟨(H.g g G a).1,c _ (H.g g G a).1.lt (H.g g G a).2.1,(H.g g G a).2.2⟩,λg G a=>(H.q g G a).mono (λk e d=>⟨c k e d.1,d.2⟩)⟩
theorem cO.frame {Z:Nat->Prop} (H:cO w S b h) (a:Mod Z w w') (c:∀k,S k->¬Z k):cO w' S b h:=by obtain⟨gp,ai,tag,H⟩:=H;exact⟨gp,ai,tag,H.frame a c⟩
theorem cO.next (H:cO w S b h) (a:Below w.heap.size w w'):cO w' S b h:=H.frame (Mod.below (S:=λ_=>False) a) (λ_ _=>id)
theorem cO.mono {T:Nat->Prop} (H:cO w S b h) (a:∀k,k<w.heap.size->S k->T k):cO w T b h:=by obtain⟨gp,ai,tag,H⟩:=H;exact⟨gp,ai,tag,H.mono a⟩
theorem cO.own (H:cO w S b h):S b∧b<w.heap.size:=by obtain⟨gp,ai,tag,H⟩:=H;exact⟨H.b.1,H.cs.lt⟩
theorem ad.Bp {h:ad} {g:Int} {G':aJ} (a:h.at g=R G) (k:Int):((h.set g (R G')).at k).isSome=(h.at k).isSome:=by
 rw[ad.dm a];unfold cL;split;·rename_i e;rw[e,a];rfl
 ·rfl
theorem ms.queue (H:ms w S b h gp ai tag) {g:Int} (f:h.at g=R G) {p:aC} (x:et w' (cS (λk=>S k∧tag k=g) w) (ai g) p) (r:Mod (λk=>S k∧tag k=g) w w'):ms w' (cS S w) b (h.set g (R {G with q:=p})) gp ai (λk=>if k<w.heap.size then tag k else g):=by
 have z:=(ad.dk f).1;have y:¬(S b∧tag b=g):=λe=>by have:=H.b.2;omega
 refine⟨?_,⟨.inl H.b.1,by rw[aj H.cs.lt];exact H.b.2⟩,?_,?_⟩;·rw[Bo (h:=h) (h':=h.set g (R {G with q:=p})) rfl rfl (λk=>ad.Bp f k)];exact H.cs.mod r y
 ·intro k s j;rw[ad.dm f] at j;have u:∀m,h.at k=R m->S (gp k)∧ak w' (gp k) (iy m (ai k)) 132∧(if gp k<w.heap.size then tag (gp k) else g)=-2-k:=by intro m v;have o:=H.g k m v;have A:=(ad.dk v).1;refine⟨o.2.1,o.1.mod r (λe=>by omega),?_⟩;rw[aj o.1.lt];exact o.2.2
  rcases hy j with⟨rfl,e⟩|⟨_,e⟩;·cases e;obtain⟨a,c,t⟩:=u G f;exact⟨c,.inl a,t⟩
  ·obtain⟨a,c,t⟩:=u s e;exact⟨c,.inl a,t⟩
 ·intro k s j;rw[ad.dm f] at j;rcases hy j with⟨rfl,e⟩|⟨n,e⟩
  ·cases e;refine x.mono (λi l d=>?_);rcases d with d|d
   ·refine⟨.inl d.1,?_⟩;split;·exact d.2
    ·rfl
   ·exact⟨.inr d,by rw[z0 (by omega)]⟩
  ·refine(((H.q k s e).mono (T:=λi=>(S i∧tag i=k)∧i<w.heap.size) (λi l d=>⟨d,l⟩)).frame r (λi l q=>n (l.1.2.symm.trans q.2))).mono (λi l d=>?_);exact⟨.inl d.1.1,by rw[aj d.2];exact d.1.2⟩
theorem ms.cells (H:ms w S b h gp ai tag) {g:Int} {G':aJ} (a:h.at g=R G) (t:ak w' (gp g) (iy G' (ai g)) 132) (f:Mod (λk=>k=gp g) w w') (u:G'.q=G.q):ms w' S b (h.set g (R G')) gp ai tag:=by
 have x:=(ad.dk a).1;have j:=H.g g G a;refine⟨?_,H.b,?_,?_⟩;·rw[Bo (h:=h) (h':=h.set g (R G')) rfl rfl (λk=>ad.Bp a k)];exact H.cs.mod f (λe=>by have:=H.b.2;rw[e] at this;omega)
 ·intro k l c;rw[ad.dm a] at c;rcases hy c with⟨rfl,e⟩|⟨n,e⟩;·cases e;exact⟨t,j.2⟩
  ·have m:=H.g k l e;exact⟨m.1.mod f (λo=>by have p:=m.2.2;rw[o,j.2.2] at p;omega),m.2⟩
 ·intro k l c;rw[ad.dm a] at c;have r:∀d,h.at k=R d->et w' (λi=>S i∧tag i=k) (ai k) d.q:=λd s=>(H.q k d s).frame f (λi v o=>by have p:=v.2;rw[o,j.2.2] at p;have:=(ad.dk s).1;omega);rcases hy c with⟨rfl,e⟩|⟨n,e⟩;·cases e;rw[u];exact r G a
  ·exact r l e
end
def bB (ao:ab) (S:Nat->Prop) (b:Nat) (gp ai:Int->Nat) (h:ad) (w:ab):Prop:=Mod S ao w∧∃tag,ms w (cS S ao) b h gp ai tag
section
variable {ao w w':ab} {S:Nat->Prop} {b:Nat} {h:ad} {gp ai:Int->Nat}
theorem cO.start (H:cO w S b h):∃gp ai,bB w S b gp ai h w:=by obtain⟨gp,ai,tag,H⟩:=H;exact⟨gp,ai,Mod.refl _ _,tag,H.mono (λk _ a=>.inl a)⟩
theorem bB.done (H:bB ao S b gp ai h w):cO w (cS S ao) b h∧Mod S ao w:=by obtain⟨a,tag,H⟩:=H;exact⟨⟨gp,ai,tag,H⟩,a⟩
theorem bB.below (H:bB ao S b gp ai h w) (a:Below w.heap.size w w'):bB ao S b gp ai h w':=by obtain⟨c,tag,H⟩:=H;exact⟨c.hV a,tag,H.frame (Mod.below (S:=λ_=>False) a) (λ_ _=>id)⟩
theorem bB.drew (H:bB ao S b gp ai h w):bB ao S b gp ai h w.drew:=by obtain⟨a,tag,H⟩:=H;exact⟨a.drew,tag,H.frame (Mod.refl (λ_=>False) w).drew (λ_ _=>id)⟩
theorem bB.cs (H:bB ao S b gp ai h w):ak w b (ek h gp) 162:=by obtain⟨a,tag,H⟩:=H;exact H.cs
theorem bB.cp (H:bB ao S b gp ai h w) {g:Int} (a:h.at g=R G):ak w (gp g) (iy G (ai g)) 132:=by obtain⟨c,tag,H⟩:=H;exact(H.g g G a).1
theorem bB.q (H:bB ao S b gp ai h w) {g:Int} {G:aJ} (d:h.at g=R G):∃T,et w T (ai g) G.q∧T=T∧∀w' c,et w' (cS T w) (ai g) c->Mod T w w'->bB ao S b gp ai (h.set g (R {G with q:=c})) w':=by
 obtain⟨f,tag,H⟩:=H;refine⟨_,H.q g G d,rfl,λw' c l j=>?_⟩;have m:=(H.queue d l j).mono (T:=cS S ao) (λk o a=>by
  rcases a with a|a;·exact a
  ·exact .inr (cA f.size a))
 exact⟨f.trans j (λi n a=>a.1.elim id (λe=>absurd n (by omega))),_,m⟩
theorem bB.cells (H:bB ao S b gp ai h w) {g:Int} {G G':aJ} (a:h.at g=R G) (f:ak w' (gp g) (iy G' (ai g)) 132) (c:Mod (λk=>k=gp g) w w') (j:G'.q=G.q):bB ao S b gp ai (h.set g (R G')) w':=by obtain⟨l,tag,H⟩:=H;refine⟨?_,tag,H.cells a f c j⟩;have:=(H.g g G a).2.1;exact l.trans c (λi d e=>by rw[e] at d⊢;exact this.elim id (λm=>absurd d (by omega)))
end
theorem wd {h:ad} {gp:Int->Nat} {g:Int} (e:h.at g=U):gq h gp g=af U:=by unfold gq;rw[e];rfl
theorem j3 {h:ad} {gp:Int->Nat} {g:Int} (e:h.at g=R G):gq h gp g=af (R ⟨gp g,0,U⟩):=by unfold gq;rw[e];rfl
theorem ad.Bs {h:ad} (a:h.gs.length=32) {g:Int} (b:g<0∨32<=g):h.at g=U:=by
 cases e:h.at g with
 |none=>rfl
 |some G=>have:=ad.dk e;omega
section
variable {ao w w':ab} {S:Nat->Prop} {b:Nat} {h:ad} {gp ai:Int->Nat}
theorem bB.ptr (H:bB ao S b gp ai h w) (a:n<32):w.cell? ⟨b,2+n,U⟩=R (gq h gp n):=H.cs.cell (2+n) (rE h gp a)
theorem bB.drewN (H:bB ao S b gp ai h w) (n:Nat):bB ao S b gp ai h (w.drewN n):=by obtain⟨a,c,H⟩:=H;exact⟨a.drewN n,c,H.frame ((Mod.refl (λ_=>False) w).drewN n) (λ_ _=>id)⟩
theorem bB.ty (H:bB ao S b gp ai h w) {g:Int} (a:h.at g=R G) (c:h.gs.length=32):∃n:Nat,g=n∧n<32∧w.cell? ⟨b,2+n,U⟩=R (af (R ⟨gp g,0,U⟩)):=by obtain⟨d,e,_⟩:=ad.dk a;refine⟨g.toNat,by omega,by omega,?_⟩;have:=H.ptr (n:=g.toNat) (by omega);rw[show((g.toNat:Nat):Int)=g by omega,j3 a] at this;exact this
theorem oT (g:Int) (H:bB ao S b gp ai h w) (a:h.gs.length=32):Calls au 71 #[af (R ⟨b,0,U⟩),I J g] w λe w'=>e=aK (gq h gp g)∧w'=w:=by
 by_cases d:g<0;·rw[wd (ad.Bs a (.inl d))];clear H;go_enter func71,ntmps71;go_wp2;go_ret;exact⟨rfl,rfl⟩
 by_cases f:32<=g;·rw[wd (ad.Bs a (.inr f))];clear H;go_enter func71,ntmps71;go_wp2;go_ret;exact⟨rfl,rfl⟩
 obtain⟨n,rfl⟩:∃n:Nat,g=n:=⟨g.toNat,by omega⟩;have i:n<32:=by omega
 have c:=H.ptr i;generalize j:gq h gp n=v at c⊢;go_enter func71,ntmps71;go_wp2;go_ret;exact⟨rfl,rfl⟩
def ad.mS (h:ad) (gp:Int->Nat) (g:Int):Value:=if(h.linked g).isSome then af (R ⟨gp g,0,U⟩) else af U
theorem rG (g:Int) (H:bB ao S b gp ai h w) (c:h.gs.length=32):Calls au 66 #[af (R ⟨b,0,U⟩),I J g] w λe w'=>e=aK (h.mS gp g)∧w'=w:=by
 by_cases a:g=0
 ·have e:h.mS gp g=af U:=by unfold ad.mS ad.linked;rw[aj a];rfl
  rw[e];subst a;go_enter func66,ntmps66;go_wp2;go_ret;exact⟨rfl,rfl⟩
 ·have e:h.mS gp g=gq h gp g:=by unfold ad.mS ad.linked gq;rw[z0 a]
  rw[e];have d:=C (oT g H c);go_enter func66,ntmps66;go_wp2_with fail;refine d.mono ?_;rintro e w' ⟨rfl,rfl⟩;go_wp2;go_ret;exact⟨rfl,rfl⟩
end
theorem tn (g:Int) (h0:0<=g) (a:g<1000000) (w:ab):Calls au 135 #[I J g] w λe w'=>e=aK (I J (2*g+1))∧w'=w:=by go_enter func135,ntmps135;go_wp2;go_ret;refine⟨?_,rfl⟩;go_num
theorem oU (n:Int) (w:ab):Calls au 148 #[I J n] w λe w'=>e=aK (aD (hc n))∧w'=w:=by
 unfold hc;go_enter func148,ntmps148;go_wp2;all_goals go_ret
 all_goals(refine⟨?_,rfl⟩;simp_all;try omega)
section
variable {ao w w':ab} {S:Nat->Prop} {b:Nat} {h:ad} {gp ai:Int->Nat} {g:Int} {G:aJ}
theorem bB.BB (a:aI) (H:bB ao S b gp ai h w) (c:h.at g=R G) (d:G.q.Ok):Calls au 192 #[af (R ⟨ai g,0,U⟩),bk #[I J a.id,I ah (a.wt:Int),I J a.v,I ah (a.rem:Int)]] w λe w'=>e=aK (I J (G.q.dE a))∧bB ao S b gp ai (h.set g (R {G with q:=G.q.put a})) w':=by obtain⟨T,f,_,i⟩:=H.q c;exact(I8 T (ai g) G.q a w f d).mono λe w' r=>⟨r.1,i w' _ r.2.1 r.2.2⟩
theorem bB.BC (k:Int) (H:bB ao S b gp ai h w) (a:h.at g=R G) (c:G.q.Ok):Calls au 193 #[af (R ⟨ai g,0,U⟩),I J k] w λe w'=>e=aK (bC #[bk (dj (G.q.ed k)),I J (G.q.e6 k)])∧bB ao S b gp ai (h.set g (R {G with q:=G.q.drop k})) w':=by obtain⟨T,d,_,f⟩:=H.q a;exact(Jb T (ai g) G.q k w d c).mono λe w' r=>⟨r.1,f w' _ (r.2.1.mono λ_ _ q=>.inl q) r.2.2⟩
theorem bB.BD (k:Int) (n:Nat) (H:bB ao S b gp ai h w) (a:h.at g=R G) (c:G.q.Ok):Calls au 149 #[af (R ⟨ai g,0,U⟩),I J k,I ah (n:Int)] w λe w'=>e=aK (I J (G.q.fL k n))∧bB ao S b gp ai (h.set g (R {G with q:=G.q.bO k n})) w':=by obtain⟨T,d,_,f⟩:=H.q a;exact(Je T (ai g) G.q k n w d c).mono λe w' r=>⟨r.1,f w' _ (r.2.1.mono λ_ _ q=>.inl q) r.2.2⟩
theorem bB.Jx (a:Int) (H:bB ao S b gp ai h w) (c:h.at g=R G) (d:G.q.Ok):Calls au 154 #[af (R ⟨ai g,0,U⟩),I J a] w λe w'=>e=aK (I J (G.q.yield a).cur)∧bB ao S b gp ai (h.set g (R {G with q:=G.q.yield a})) w':=by obtain⟨T,f,_,i⟩:=H.q c;exact(Jl T (ai g) G.q a w f d).mono λe w' r=>⟨r.1,i w' _ (r.2.1.mono λ_ _ q=>.inl q) r.2.2⟩
theorem bB.rK (H:bB ao S b gp ai h w) (a:h.at g=R G) (c:G.q.Ok):Calls au 72 #[af (R ⟨ai g,0,U⟩)] w (BA G.q.es w):=by obtain⟨T,d,_,e⟩:=H.q a;exact Jw T (ai g) G.q w d c
theorem bB.tq (H:bB ao S b gp ai h w) (a:h.at g=R G):Calls au 132 #[af (R ⟨ai g,0,U⟩)] w λe w'=>e=aK (I J G.q.mn)∧w'=w:=by obtain⟨T,c,_,d⟩:=H.q a;exact Jg T (ai g) G.q w c
end
variable {B:Nat} {W W':ab} {ar tmps:Array Value} {ag:List (Int×Int)} {fn:Func} {P:List (List Nat)} {V:List (Int×Int)->ab->Prop} {L:List ByteArray}
section
open Go.Shelf
attribute [local go_sem] Oper.semAt_some
def ca (b:Nat) (gp ai:Int->Nat) (bH X:Nat->Prop) (bn:ab) (h:ad) (W:ab):Prop:=Mod X bn W∧∃a,ms W (λk=>bH k∨bn.heap.size+2<=k) b h gp ai a
section
variable {b:Nat} {gp ai:Int->Nat} {bH X:Nat->Prop} {bn W W':ab} {h:ad}
theorem ca.stay (H:ca b gp ai bH X bn h W) (d:∀k,bH k->¬Z k) (f:∀k,bn.heap.size+2<=k->¬Z k) (g:∀k,k<bn.heap.size->Z k->X k) (c:Mod Z W W'):ca b gp ai bH X bn h W':=by
 obtain⟨i,j,l⟩:=H;refine⟨i.trans c g,j,l.frame c (λk m e=>?_)⟩;rcases m with a|a;·exact d k a e
 ·exact f k a e
theorem ca.Jy (H:ca b gp ai bH X bn h W) {g:Int} (a:h.at g=R G):∃T,et W T (ai g) G.q:=by obtain⟨c,d,H⟩:=H;exact⟨_,H.q g G a⟩
theorem ca.cs (H:ca b gp ai bH X bn h W):ak W b (ek h gp) 162:=by obtain⟨c,d,a⟩:=H;exact a.cs
theorem ca.cp (H:ca b gp ai bH X bn h W) {g:Int} (a:h.at g=R G):ak W (gp g) (iy G (ai g)) 132:=by obtain⟨d,e,c⟩:=H;exact(c.g g G a).1
theorem ca.ty (H:ca b gp ai bH X bn h W) {g:Int} (a:h.at g=R G) (c:h.gs.length=32):∃n:Nat,g=n∧n<32∧W.cell? ⟨b,2+n,U⟩=R (af (R ⟨gp g,0,U⟩)):=by obtain⟨d,e,_⟩:=ad.dk a;refine⟨g.toNat,by omega,by omega,?_⟩;have:=H.cs.cell (2+g.toNat) (rE h gp (by omega));rw[show((g.toNat:Nat):Int)=g by omega,j3 a] at this;exact this
theorem ca.q (H:ca b gp ai bH X bn h W) (l:∀k,bH k->X k) (e:∀k,bH k->k<bn.heap.size) (p:bn.heap.size+2<=W.heap.size) {g:Int} {G:aJ} (f:h.at g=R G):∃T,et W T (ai g) G.q∧(∀k,T k->bH k∨bn.heap.size+2<=k)∧∀w' c,et w' (cS T W) (ai g) c->Mod T W w'->ca b gp ai bH X bn (h.set g (R {G with q:=c})) w'∧rF bn.heap.size W w':=by
 obtain⟨m,r,H⟩:=H;refine⟨_,H.q g G f,λk j=>j.1,λw' c n a=>?_⟩;have o:=(H.queue f n a).mono (T:=λk=>bH k∨bn.heap.size+2<=k) (λk j d=>by
  rcases d with q|q;·exact q
  ·exact .inr (by omega))
 refine⟨⟨?_,_,o⟩,a.block _ (by omega) (λq=>?_),a.block _ (by omega) (λq=>?_)⟩;·exact m.trans a (λi s d=>by
  rcases d.1 with q|q;·exact l i q
  ·omega)
 ·rcases q.1 with q|q;·have:=e _ q;omega
  ·omega
 ·rcases q.1 with q|q;·have:=e _ q;omega
  ·omega
end
def k4 (bs:ad->Int->ad):Nat->ad->Int->ad×Int
 |0,h,_=>(h,-1)
 |k+1,h,g=>
  match h.at g with
  |none=>(h,-1)
  |some x=>if x.q.cur<0∨x.q.cur%2=0 then(bs h g,x.q.cur) else k4 bs k (bs h g) (x.q.cur/2)
def fE (n:Int):Bool:=decide (n<0)||decide (n%2=0)
def hG (ag:List (Int×Int)):Bool:=match ag.getLast? with|none=>false|some x=>fE x.2
def kD (ag:List (Int×Int)):Int:=match ag.getLast? with|none=>0|some x=>x.2/2
theorem mT (ag:List (Int×Int)) (x:Int×Int):hG (ag++[x])=fE x.2:=by unfold hG;rw[n4]
theorem p7 (ag:List (Int×Int)) (x:Int×Int):kD (ag++[x])=x.2/2:=by unfold kD;rw[n4]
def lS (ai:Int->Nat) (x:Int×Int):Array Value:=#[af (R ⟨ai x.1,0,U⟩),I J x.2]
structure wl (b:Nat) (gp ai:Int->Nat) (bH X:Nat->Prop) (bn:ab) (a1:eO) (bs:ad->Int->ad) (Q:ad->Int->Nat->Prop) (res:ad×Int) (aq:ad) (g1:Int) (k:Nat) (G:aJ) (W:ab):Prop where
 aP:ca b gp ai bH X bn aq W
 ok:aq.Ok
 a1:aq.a1=a1
 at_:aq.at g1=R G
 deep:9<=G.deep+k
 res:k4 bs k aq g1=res
 q:Q aq g1 k
def kE (b:Nat) (gp ai:Int->Nat) (bH X:Nat->Prop) (bn:ab) (c:eO) (bs:ad->Int->ad) (d:ad->Int->Nat->Prop) (a:ad×Int) (V:List (Int×Int)->ab->Prop) (ag:List (Int×Int)) (W:ab):Prop:=V ag W∧((hG ag=true∧ca b gp ai bH X bn a.1 W∧(∃x∈ag.getLast?,x.2=a.2))∨(hG ag=false∧∃e k G,wl b gp ai bH X bn c bs d a e (kD ag) k G W))
def oX (b:Nat) (gp ai:Int->Nat) (bH X:Nat->Prop) (bn:ab) (a:eO) (bs:ad->Int->ad) (c:ad->Int->Nat->Prop) (d:ad×Int) (V:List (Int×Int)->ab->Prop) (ag:List (Int×Int)) (x:Int×Int) (W:ab):Prop:=V ag W∧x.1=kD ag∧hG ag=false∧∃e k G,wl b gp ai bH X bn a bs c d e x.1 k G W∧G.q.cur=x.2
theorem wl.next {b:Nat} {gp ai:Int->Nat} {bH X:Nat->Prop} {bn:ab} {f:eO} {bs:ad->Int->ad} {t:ad->Int->Nat->Prop} {u:ad×Int} {d:ad} {g1:Int} {k:Nat} {W:ab} (h:wl b gp ai bH X bn f bs t u d g1 k G W):f g1=R (G.up,G.deep)∧0<=G.deep∧G.deep<=8∧G.q.cur<128∧(fE G.q.cur=false->0<=G.q.cur∧G.q.cur%2=1∧∃p,f (G.q.cur/2)=R p∧p.2=G.deep+1):=by
 have n:=h.ok.g.deep _ _ h.at_;have o:G.q.cur≠-1->∃e∈G.q.es,e.id=G.q.cur:=λj=>(h.ok.g.q _ _ h.at_).cur.resolve_left j;refine⟨by rw[<-h.a1];exact ad.d_ h.at_,n.1,n.2,?_,λr=>?_⟩
 ·by_cases j:G.q.cur=-1;·omega
  ·obtain⟨e,l,v⟩:=o j;rcases h.ok.g.ids _ _ h.at_ e l with⟨i,d,a,m⟩|⟨c,ar,d,a,_⟩;·omega
   ·have:=h.ok.g.lo _ _ a;omega
 ·unfold fE at r;simp only[vb,decide_eq_false_iff_not] at r;obtain⟨e,l,v⟩:=o (by omega);rcases h.ok.g.ids _ _ h.at_ e l with⟨i,d,a,m⟩|⟨c,ar,d,a,m,w,_⟩;·omega
  ·refine⟨by omega,by omega,(ar.up,ar.deep),by rw[show G.q.cur/2=c by omega,<-h.a1];exact ad.d_ a,?_⟩;obtain⟨y,s,x⟩:=h.ok.g.up _ _ a m;rw[w,h.at_] at s;cases s;exact x
theorem xj (n:Nat) (a8:3<=n) (b:Nat) (gp ai:Int->Nat) (bH X:Nat->Prop) (bn:ab) (f:eO) (bs:ad->Int->ad) (i:ad->Int->Nat->Prop) (j:ad×Int) (V:List (Int×Int)->ab->Prop) (l M N:Nat) (h:ab->Prop) (B:ab) (ba:∀k,bH k->k<bn.heap.size) (az:∀ag W,V ag W->W.cell? ⟨M,0,U⟩=R (af (R ⟨b,0,U⟩))∧W.cell? ⟨N,0,U⟩=R (.func (.func 79) #[] #[])) (h0:kE b gp ai bH X bn f bs i j V [] B) (aB:h B) (av:∀A,h A->bn.heap.size+2<=A.heap.size) (aA:∀O x W,oX b gp ai bH X bn f bs i j V O x W->h W->YieldAt Fence.wide (n-1) au l (lS ai x) W λe W'=>e=aK (aD true)∧kE b gp ai bH X bn f bs i j V (O++[x]) W'∧h W'):CallsIn Fence.wide n au 133 #[.func (.yield l) #[] #[],af (R ⟨M,0,U⟩),af (R ⟨N,0,U⟩)] B λe W'=>(∃v,e=aK v)∧∃ag,hG ag=true∧kE b gp ai bH X bn f bs i j V ag W'∧h W':=by
 have aG:=C az;have aL:=C aA;have ae:=C h0;have am:=C aB;have ao:1<=n:=by omega
 have bb:Fence.wide.fn 79:=trivial;refine callsIn_of_wp func133 rfl trivial ?_ rfl;simp only[ntmps133,jJ,dX,hM,jN,jM,jG,jF,jK,jH,jc,gM];gi_wp2;gi_loopw [4] (λD wr=>∃ag,hG ag=false∧D=I J (kD ag)∧kE b gp ai bH X bn f bs i j V ag wr∧h wr) (λD _=>(9-(match f (intOf D) with|none=>0|some p=>p.2)).toNat);case atStart=>exact⟨[],rfl,rfl,ae.out,am.out⟩
 case round=>
  obtain⟨ag,P,rfl,aN,aj⟩:=hrel;obtain⟨Q,ap⟩:=aN;obtain⟨bf,ax⟩:=aG.out _ _ Q;rcases ap with⟨S,_⟩|⟨_,E,k,G,d⟩;·rw[P] at S;cases S
  obtain⟨m,Y,bc,c⟩:=d.aP.ty d.at_ d.ok.len;have aQ:=(d.aP.cp d.at_).cell 2 (v:=af (R ⟨ai (kD ag),0,U⟩)) rfl;obtain⟨T,ah⟩:=d.aP.Jy d.at_;have s:=C (callsIn_wide (n:=n-1).2 (Jf T (ai (kD ag)) G.q wr ah));obtain⟨fn,tmps,bg,bj,F,Z⟩:=aL.out ag (kD ag,G.q.cur) wr ⟨Q,rfl,P,E,k,G,d,rfl⟩ aj;simp only[lS] at F;have o:=C d.next;obtain⟨g,aa⟩:=aW (kD ag);have an:=C aa;rw[aa] at s o Y c aQ F Z⊢;have y:=C Z;subst Y;have aw:(0:Int)<=(m:Int):=by omega
  have bl:(m:Int)<32:=by omega
  have bo:(m:Int).toNat=m:=by omega
  generalize bm:G.q.cur=u at s o F y;have ay:=o.out.2.2.2.1;cases r:fE u with
  |true=>
   have H:=C r;have stop:∀a:ab,kE b gp ai bH X bn f bs i j V (ag++[((m:Int),u)]) a->h a->∃ag,hG ag=true∧kE b gp ai bH X bn f bs i j V ag a∧h a:=λa E K=>⟨_,by rw[mT];exact H.out,E,K⟩;have aq:=C stop;by_cases bq:u<0;·clear r;gi_wp2_with (gi_at_call 79;refine s.mono ?_;rintro e ac ⟨rfl,rfl⟩);refine y.mono ?_;rintro e a ⟨rfl,t,w⟩;have L:=C (aq.out a t w);gi_wp2;(try simp only[Exit.inBlock,Exit.then]);refine bodyPost_ret (results_none rfl _ _ _) rfl ?_;exact⟨⟨_,rfl⟩,L.out⟩
   ·have z:0<=u:=(by omega);have aR:u.tmod 2=0:=(by rw[qo z];unfold fE at r;simp only[ob,decide_eq_true_eq] at r;omega);gi_wp2_with (gi_at_call 79;refine s.mono ?_;rintro e ac ⟨rfl,rfl⟩);refine y.mono ?_;rintro e a ⟨rfl,t,w⟩;have L:=C (aq.out a t w);gi_wp2;(try simp only[Exit.inBlock,Exit.then]);refine bodyPost_ret (results_none rfl _ _ _) rfl ?_;exact⟨⟨_,rfl⟩,L.out⟩
  |false=>
   obtain⟨z,aS,ar,aU,aV⟩:=o.out.2.2.2.2 r;have aR:u.tmod 2=1:=(by rw[qo z];exact aS);have bt:u.tdiv 2=u/2:=Int.tdiv_eq_ediv_of_nonneg z;have bw:IntKind.i64.wrap (u/2)=u/2:=IntWalk.i64_in _ (by omega);have aZ:=C (br aU aV);have H:=C r;gi_wp2_with (gi_at_call 79;refine s.mono ?_;rintro e ac ⟨rfl,rfl⟩);refine y.mono ?_;rintro e a ⟨rfl,t,w⟩;have a6:=C t;have ak:=C w;gi_wp2;go_roundw;case rel=>exact⟨ag++[((m:Int),u)],by rw[mT];exact H.out,by rw[p7],a6.out,ak.out⟩
   case measure=>have K:=o.out.1;have a0:=o.out.2.2.1;have bz:=o.out.2.1;have a7:=aZ.out;simp only[intOf];rw[K,a7.1];simp only;omega
end
variable {al:Nat->Prop}
section
open Go.Shelf
attribute [local go_sem] Oper.semAt_some
def h1 (ag:List (Int×Int)):Int:=match ag.getLast? with|none=>-1|some x=>x.2
theorem xk (ag:List (Int×Int)) (x:Int×Int):h1 (ag++[x])=x.2:=by unfold h1;rw[n4]
theorem oY {P:Program} {f:FuncId} {args:Array Value} {al:Ending->ab->Prop} (h:Calls P f args w al):CallsIn Fence.wide n P f args w al:=callsIn_wide.2 h
theorem BE (ai:Int->Nat) (m n:Nat) (a:ab) (c:List (Int×Int)->ab->Prop) (q:List (Int×Int)->(Int×Int)->ab->Prop) (aG:m<a.heap.size) (aL:n<a.heap.size) (M:∀ag A d,c ag A->Mod (λk=>k=a.heap.size∨k=a.heap.size+1∨k=a.heap.size+2) A d->c ag d) (N:∀ag x A d,q ag x A->Mod (λk=>k=a.heap.size∨k=a.heap.size+1∨k=a.heap.size+2) A d->q ag x d) (O:∀ag A,c ag A->h1 ag<9223372036854775808) (P:∀ag x A,q ag x A->c (ag++[x]) A) (h0:c [] (a.alloc (av #[I J (-1)] 3))) (Q:∀(V:List (Int×Int)->ab->Prop) (l:Nat) (i:ab->Prop) (o:ab),(∀ag W W',V ag W->W'.heap[a.heap.size]?=W.heap[a.heap.size]?->V ag W')->(∀A d,i A->rF (a.heap.size+1) A d->i d)->(∀A,i A->a.heap.size+3<=A.heap.size)->(V [] o∧c [] o)->i o->(∀p x W,V p W∧q p x W->i W->YieldAt Fence.wide 7 au l (lS ai x) W λe W'=>e=aK (aD true)∧(V (p++[x]) W'∧c (p++[x]) W')∧i W')->CallsIn Fence.wide 8 au 133 #[.func (.yield l) #[] #[],af (R ⟨m,0,U⟩),af (R ⟨n,0,U⟩)] o λe W'=>(∃v,e=aK v)∧∃ag,hG ag=true∧(V ag W'∧c ag W')∧i W'):CallsIn Fence.wide 9 au 77 #[.func (.func 133) #[] #[af (R ⟨m,0,U⟩),af (R ⟨n,0,U⟩)]] a λe W'=>∃ag,hG ag=true∧e=aK (I J (ou (h1 ag)))∧c ag W':=by
 have w:=C M;have y:=C N;have S:=C P;have T:=C O;have X:=C h0;have Y:=C Q;refine callsIn_of_wp_marks func77 rfl trivial ?_ rfl;simp only[ntmps77,jJ,dX,hM,jN,jM,jG,jF,jK,jH,jc,gM];gi_wp2;have r:(a.alloc (av #[I J (-1)] 3)).heap.size=a.heap.size+1:=by simp
 have Z:=ak.new a #[I J (-1)] 3;refine xh rfl (by omega) (gf:=133) (lb:=#[af (R ⟨m,0,U⟩),af (R ⟨n,0,U⟩)]) rfl trivial (enters_of func133 (by kernel_rfl) rfl) (encs:=lS ai) (λ_=>rfl) (λag W=>ak W a.heap.size #[I J (h1 ag)] 3∧c ag W) (λag x W=>ak W a.heap.size #[I J (h1 ag)] 3∧q ag x W) (λag=>hG ag=true) ?hI ?hI' ⟨Z,X.out⟩ ?hiter (λx=>{tmps:=#[.func (.func 133) #[] #[af (R ⟨m,0,U⟩),af (R ⟨n,0,U⟩)],undef,I J 0,af (R ⟨a.heap.size,0,U⟩),undef,I J x.2,.func (.func 133) #[] #[af (R ⟨m,0,U⟩),af (R ⟨n,0,U⟩)],af (R ⟨ai x.1,0,U⟩),I J x.2,undef,undef,undef,undef,undef],defers:=[]}) ?assign ?body ?done;case hI=>rintro ag A d ⟨f,h⟩ b;rw[r] at b;exact⟨f.mod b (λe=>by omega),w.out _ _ _ h (b.mono (λk _ e=>by omega))⟩
 case hI'=>rintro ag x A d ⟨f,h⟩ b;rw[r] at b;exact⟨f.mod b (λe=>by omega),y.out _ _ _ _ h (b.mono (λk _ e=>by omega))⟩
 case hiter=>intro l B o z D E aa aq ac;rw[r] at z D;exact Y.out (λag W=>ak W a.heap.size #[I J (h1 ag)] 3) l B o (λag W W' az e=>e.trans az) z D aa aq ac
 case assign=>intro l x W ae s;simp only[lS];gi_wp2;exact s
 case body=>rintro l p ⟨g,x⟩ W ⟨f,h⟩ t;rw[r] at t;have F:=f.cell 0 (v:=I J (h1 p)) rfl;have am:=f.free 0;have ad:=C f;have u:=C h;gi_wp2;have b:=Mod.one W a.heap.size 0 (I J x);refine⟨⟨b.block _ (by omega) (by omega),b.block _ (by omega) (by omega)⟩,?_,S.out _ _ _ (y.out _ _ _ _ u.out (b.mono (λk _ e=>.inl e)))⟩;rw[xk];exact ad.out.set 0 (I J x)
 case done=>
  rintro ag W G ⟨f,h⟩ s;have F:=f.cell 0 (v:=I J (h1 ag)) rfl;have E:=T.out _ _ h;have u:=C h;obtain⟨j,t⟩:∃j,h1 ag=j:=⟨_,rfl⟩;have H:=C t;rw[t] at F E;rw[r] at s⊢;have K:=C s;have L:=C (w.out _ _ (W.putObj (a.heap.size+1) (.deferred U)) u.out ⟨rfl,rfl,rfl,by simp,λk aN aB=>qq (λe=>aB (.inr (.inl e)))⟩);by_cases aA:j<0;·gi_wp2;refine⟨by simp,.inl ⟨_,_,rfl,run_takeDeferred K.out,?_⟩⟩;refine⟨_,results_tmp rfl _ _ _,ag,G,?_,L.out⟩;rw[H.out];unfold ou;rw[aj aA];rfl
  ·have ap:j.tdiv 2=j/2:=Int.tdiv_eq_ediv_of_nonneg (by omega);have aQ:IntKind.i64.wrap (j/2)=j/2:=IntWalk.i64_in _ (by omega);gi_wp2;refine⟨by simp,.inl ⟨_,_,rfl,run_takeDeferred K.out,?_⟩⟩;refine⟨_,results_tmp rfl _ _ _,ag,G,?_,L.out⟩;rw[H.out];unfold ou;rw[z0 (by omega)];rfl
end
variable {cap:Nat} {zs:List Int}
section
variable {ao:ab} {S:Nat->Prop} {b:Nat} {gp ai:Int->Nat}
def mU (ao:ab) (S:Nat->Prop) (b:Nat) (gp ai:Int->Nat) (h:ad) (e:Ending) (w':ab):Prop:=e=aK (bC #[])∧bB ao S b gp ai h w'
theorem ad.Jz (h:ad) {g u:Int} (b:0<=g) (c:0<=u) (d:u≠g) (A a B:Option aJ):((h.set g A).set u B).set g a=(h.set g a).set u B:=by unfold ad.set;dsimp only;congr 1;rw[List.set_comm _ _ (by omega),List.set_set,List.set_comm _ _ (by omega)]
theorem Own.mV {α:Type} {E:cd α} {T:Nat} {zs:List α} (h:Own E W B T v n zs):∃a cap,v=ay a n cap:=by obtain⟨_,a,cap,b,_⟩:=h.rd;exact⟨a,cap,b⟩
theorem JA (w:ab) (h:ad) (g:Int) (G:aJ) (H:bB ao S b gp ai h w) (d:h.gs.length=32) (a:h.at g=R G) (e:G.up=-1):Calls au 143 #[af (R ⟨b,0,U⟩),I J g] w (mU ao S b gp ai h):=by have f:=C H;obtain⟨m,rfl,j,c⟩:=H.ty a d;have i:=(H.cp a).cell 0 (v:=I J G.up) rfl;rw[e] at i;go_enter func143,ntmps143;go_wp2;go_end0;exact⟨rfl,f⟩
theorem JB (w:ab) (h Z:ad) (g:Int) (G d:aJ) (H:bB ao S b gp ai h w) (B:h.gs.length=32) (hk:cX h.at g) (n:h.at g=R G) (az:g≠0) (D:h.at G.up=R d) (o:G.fM=true) (aB:G.on=false) (aA:∀w',bB ao S b gp ai ((h.set g (R {G with own:={G.own with v:=ic G.own.v d.q.mn h.ch},on:=true})).set G.up (R {d with q:=d.q.put {G.own with v:=ic G.own.v d.q.mn h.ch}})) w'->Calls au 143 #[af (R ⟨b,0,U⟩),I J G.up] w' (mU ao S b gp ai Z)):Calls au 143 #[af (R ⟨b,0,U⟩),I J g] w (mU ao S b gp ai Z):=by
 have aG:=C H;have bl:=C B;have j:=C n;have u:=C D;have aL:=C hk;have E:=C aA;have x:=hk.mB n az;have N:G.stopped=false∧G.q.es≠[]:=by
  unfold aJ.fM at o;cases he:G.q.es with
  |nil=>rw[he] at o;simp at o
  |cons a l=>rw[he] at o;simp at o;exact⟨o,by simp⟩
 obtain⟨m,ae,bo,c⟩:=H.ty n B;obtain⟨p,O,bm,am⟩:=H.ty D B;have y:=H.cp n;have aN:=y.cell 0 (v:=I J G.up) rfl;have ay:=y.cell 2 (v:=af (R ⟨ai g,0,U⟩)) rfl;have aj:=y.cell 8 (v:=aD G.stopped) rfl;have u2:=(H.cp D).cell 2 (v:=af (R ⟨ai G.up,0,U⟩)) rfl;rw[N.1] at aj;have P:=C (H.drew.rK n (hk.q g G n));have ap:0<G.q.es.length:=by
  cases he:G.q.es with
  |nil=>exact absurd he N.2
  |cons a l=>simp
 have aQ:G.up≠-1:=by omega
 generalize aR:G.up=up at aN u x am O u2 E aQ;generalize aS:ic G.own.v d.q.mn h.ch=i at E;have aU:=C aS;have Q:=C aR;subst ae O;generalize bq:G.q.es=es at ap P;obtain⟨k,aP⟩:∃k:Nat,es.length=k+1:=⟨es.length-1,by omega⟩;have aV:=C aP;have bt:=y.cell 7 (v:=aD G.on) rfl;go_enter func143,ntmps143;go_wp2_with fail;go_region;go_wp2_with fail;refine P.mono ?_;rintro e bw ⟨a0,rfl,aZ,a6⟩;obtain⟨bz,a2,rfl⟩:=aZ.mV;have r:=C (aG.drew.below a6);rw[aV.out];have ak:=(r.cp j).cell 7 (v:=aD G.on) rfl;have a3:=(r.cp j).cell 5 (v:=I J G.own.v) rfl;have a4:=r.cs.cell 0 (xf h gp);rw[aB] at ak;go_wp2_with fail;go_region_with (first|(go_at_call 132;refine(r.drew.tq u).mono ?_;rintro e a5 ⟨rfl,rfl⟩)|(go_at_call 146;refine(AZ G.own.v d.q.mn h.ch _).mono ?_;rintro e T ⟨rfl,a7⟩;rw[aU.out];have z:=C (r.drew.below a7);have aK:=(z.cp j).cell 5 (v:=I J G.own.v) rfl;have bF:=(z.cp j).free 5));all_goals
  go_upto_region 8 with fail;generalize a8:T.setCell ⟨gp m,5,U⟩ (I J i)=ba;obtain⟨f,F⟩:=aW ({G with own:={G.own with v:=i}}:aJ);have K:bB ao S b gp ai (h.set m (R f)) ba:=by rw[<-F];exact a8▸z.out.cells j ((z.cp j).set 5 (I J i)) (Mod.one T (gp m) 5 _) rfl
  have V:(h.set m (R f)).at m=R f:=by rw[ad.dm j.out];exact eV _ _ _
  have W:(h.set m (R f)).at p=R d:=by rw[ad.dm j.out];exact(gj _ x.1).trans u
  have s:=K.cp V;rw[<-F] at s;have aO:=s.cell 3 (v:=I J G.own.id) rfl;have a9:=s.cell 4 (v:=I ah G.own.wt) rfl;have aC:=s.cell 5 (v:=I J i) rfl;have bI:=s.cell 6 (v:=I ah G.own.rem) rfl;have bL:=C K;have av:=C V;have bb:=C W;have A:=C F;have ag:=C (K.BB {G.own with v:=i} W (aL.q _ _ u));go_wp2_with fail;refine ag.mono ?_;rintro e X ⟨rfl,Y⟩;have aa:((h.set m (R f)).set p (R {d with q:=d.q.put {G.own with v:=i}})).at m=R f:=by rw[ad.dm bb.out];exact(gj _ (Ne.symm x.1)).trans av
  have L:=Y.cp aa;rw[<-A.out] at L;have bd:=L.cell 7 (v:=aD G.on) rfl;have be:=L.free 7;have aq:=C Y;have M:=C aa;go_upto_region 10 with fail;generalize ac:X.setCell ⟨gp m,7,U⟩ (aD true)=bf;have t:=aq.cells (G':={f with on:=true}) M (by have:=(aq.cp M).set 7 (aD true);rw[ac] at this;rw[<-A.out] at this⊢;exact this) (ac▸Mod.one X (gp m) 7 _) rfl;have ax:(((h.set m (R f)).set p (R {d with q:=d.q.put {G.own with v:=i}})).set m (R {f with on:=true})).at m=R {f with on:=true}:=by rw[ad.dm M.out];exact eV _ _ _
  have bc:=(t.cp ax).cell 0 (v:=I J f.up) rfl;rw[show f.up=(p:Int) by rw[<-A.out];exact Q.out] at bc;rw[ad.Jz h (by omega) (by omega) x.1] at t;rw[<-A.out] at t;have bg:({{G with own:={G.own with v:=i}} with on:=true}:aJ)=⟨(p:Int),G.deep,G.q,{G.own with v:=i},true,G.stopped⟩:=by rw[<-Q.out]
  rw[bg] at t;have bj:=C (E bf t);go_wp2_with fail;refine bj.mono ?_;rintro e bN ⟨rfl,an⟩;have aw:=C an;go_wp2_with fail;go_end0;exact⟨rfl,aw⟩
theorem ad.BF (h:ad) {g u:Int} (a:0<=g) (b:0<=u) (c:u≠g) (A B:Option aJ):(h.set u B).set g A=(h.set g A).set u B:=by unfold ad.set;dsimp only;congr 1;rw[List.set_comm _ _ (by omega)]
theorem JC (w:ab) (h:ad) (g:Int) (G K:aJ) (H:bB ao S b gp ai h w) (n:h.gs.length=32) (hk:cX h.at g) (a:h.at g=R G) (L:g≠0) (o:h.at G.up=R K) (z:G.fM=G.on):Calls au 143 #[af (R ⟨b,0,U⟩),I J g] w (mU ao S b gp ai h):=by
 have p:=C H;have M:=hk.mB a L;obtain⟨m,N,aq,c⟩:=H.ty a n;obtain⟨ac,A,az,O⟩:=H.ty o n;have f:=H.cp a;have P:=f.cell 0 (v:=I J G.up) rfl;have aB:=f.cell 2 (v:=af (R ⟨ai g,0,U⟩)) rfl;have Q:=f.cell 7 (v:=aD G.on) rfl;have T:=f.cell 8 (v:=aD G.stopped) rfl;have u2:=(H.cp o).cell 2 (v:=af (R ⟨ai G.up,0,U⟩)) rfl;have r:=C (H.drew.rK a (hk.q g G a));have V:G.up≠-1:=by omega
 generalize W:G.up=up at P O A u2 V;have B:=C a;generalize D:G.q.es=es at r;obtain⟨E,s⟩:=aW G.stopped;obtain⟨j,k⟩:=aW G.on;have d:j=(!E&&!es.isEmpty):=by rw[<-k,<-z,<-s,<-D];rfl
 rw[s] at T;rw[k] at Q;have F:=C k;subst N A;clear H n hk a o z f W D s M k;cases E with
 |true=>
  have:j=false:=by rw[d];rfl
  subst this;clear d;go_enter func143,ntmps143;go_wp2_with fail;go_region;go_wp2_with fail;go_end0;exact⟨rfl,p.drew⟩
 |false=>
  cases es with
  |nil=>have:j=false:=(by rw[d];rfl);subst this;clear d;go_enter func143,ntmps143;go_wp2_with fail;go_region;go_wp2_with fail;refine r.mono ?_;rintro e X ⟨Y,rfl,t,u⟩;obtain⟨Z,aa,rfl⟩:=t.mV;have i:=C (p.drew.below u);have y:=(i.cp B).cell 7 (v:=aD G.on) rfl;rw[F.out] at y;rw[hM];go_wp2_with fail;go_end0;exact⟨rfl,i⟩
  |cons x l=>have:j=true:=(by rw[d];rfl);subst this;clear d;go_enter func143,ntmps143;go_wp2_with fail;go_region;go_wp2_with fail;refine r.mono ?_;rintro e X ⟨Y,rfl,t,u⟩;obtain⟨Z,aa,rfl⟩:=t.mV;have i:=C (p.drew.below u);have y:=(i.cp B).cell 7 (v:=aD G.on) rfl;rw[F.out] at y;rw[dX];go_wp2_with fail;go_end0;exact⟨rfl,i⟩
end
section
variable {ao:ab} {S:Nat->Prop} {b:Nat} {gp ai:Int->Nat}
theorem ad.set_set (h:ad) (g:Int) (A B:Option aJ):(h.set g A).set g B=h.set g B:=by unfold ad.set;simp
theorem JD (w:ab) (h Z:ad) (g:Int) (G d:aJ) (H:bB ao S b gp ai h w) (aG:h.gs.length=32) (hk:cX h.at g) (u:h.at g=R G) (aZ:g≠0) (P:h.at G.up=R d) (a6:G.fM=false) (aL:G.on=true) (a7:∀w',bB ao S b gp ai ((h.set g (R {G with own:=d.q.ed (2*g+1),on:=false})).set G.up (R {d with q:=d.q.drop (2*g+1)})) w'->Calls au 143 #[af (R ⟨b,0,U⟩),I J G.up] w' (mU ao S b gp ai Z)):Calls au 143 #[af (R ⟨b,0,U⟩),I J g] w (mU ao S b gp ai Z):=by
 have ae:=C H;have Q:=C u;have A:=C P;have a8:=C hk;have M:=C a7;have B:=hk.mB u aZ;obtain⟨m,ba,aO,c⟩:=H.ty u aG;obtain⟨i,am,a9,av⟩:=H.ty P aG;have N:=H.cp u;have bb:=N.cell 0 (v:=I J G.up) rfl;have aC:=N.cell 2 (v:=af (R ⟨ai g,0,U⟩)) rfl;have ag:=N.cell 7 (v:=aD G.on) rfl;have bf:=N.cell 8 (v:=aD G.stopped) rfl;have u2:=(H.cp P).cell 2 (v:=af (R ⟨ai G.up,0,U⟩)) rfl;rw[aL] at ag;have aN:=C (H.drew.rK u (hk.q g G u));have ax:G.up≠-1:=by omega
 generalize bc:G.up=up at bb A B av am u2 M ax;have p:=C bc;obtain⟨a,aj⟩:=aW (d.q.ed (2*g+1));obtain⟨j,ap⟩:=aW (d.q.drop (2*g+1));rw[aj,ap] at M;have aQ:=C (br aj ap);subst ba am;generalize bg:G.q.es=es at aN;obtain⟨aR,aS⟩:=aW G.stopped;have T:false=(!aR&&!es.isEmpty):=by rw[<-a6,<-aS,<-bg];rfl
 rw[aS] at bf;have aU:∀(O:ab),bB ao S b gp ai h O->Calls au 193 #[af (R ⟨ai i,0,U⟩),I J (2*(m:Int)+1)] O λe w'=>e=aK (bC #[bk (dj a),I J (d.q.e6 (2*(m:Int)+1))])∧bB ao S b gp ai (h.set i (R {d with q:=j})) w':=by intro O bj;have:=bj.BC (2*(m:Int)+1) A (a8.q _ _ A);rw[aQ.out.1,aQ.out.2] at this;exact this
 have aP:=C aU;clear aU;cases aR with
 |true=>
  clear T;go_enter func143,ntmps143;go_wp2_with fail;go_region;go_wp2_with fail;refine(tn m (by omega) (by omega) _).mono ?_;rintro e an ⟨rfl,rfl⟩;go_wp2_with fail;refine(aP _ ae.drew).mono ?_;rintro e r ⟨rfl,D⟩;have E:(h.set i (R {d with q:=j})).at m=R G:=by rw[ad.dm A.out];exact(gj _ (Ne.symm B.1)).trans Q
  have f:=D.cp E;have aw:=f.cell 3 (v:=I J G.own.id) rfl;have bl:=f.cell 4 (v:=I ah G.own.wt) rfl;have bo:=f.cell 5 (v:=I J G.own.v) rfl;have bm:=f.cell 6 (v:=I ah G.own.rem) rfl;have ay:=f.free 3;have bq:=f.free 4;have bt:=f.free 5;have bw:=f.free 6;have F:=C D;have s:=C E;unfold dj;go_upto_region 9 with fail;generalize y:(((r.setCell ⟨gp m,3,U⟩ (I J a.id)).setCell ⟨gp m,4,U⟩ (I ah (a.wt:Int))).setCell ⟨gp m,5,U⟩ (I J a.v)).setCell ⟨gp m,6,U⟩ (I ah (a.rem:Int))=n;have V:Mod (λk=>k=gp m) r n:=y▸(((Mod.one r (gp m) 3 _).setCell rfl _).setCell rfl _).setCell rfl _;have o:ak n (gp m) (iy {G with own:=a} (ai m)) 132:=y▸((((F.cp s).set 3 (I J a.id)).set 4 (I ah (a.wt:Int))).set 5 (I J a.v)).set 6 (I ah (a.rem:Int));have W:=F.cells (G':={G with own:=a}) s o V rfl;have X:((h.set i (R {d with q:=j})).set m (R {G with own:=a})).at m=R {G with own:=a}:=by rw[ad.dm s.out];exact eV _ _ _
  have a0:=o.cell 7 (v:=aD G.on) rfl;have bz:=o.free 7;have Y:=C W;have K:=C X;go_upto_region 10 with fail;generalize z:n.setCell ⟨gp m,7,U⟩ (aD false)=L;have t:=Y.cells (G':={G with own:=a,on:=false}) K (by have:=o.set 7 (aD false);rw[z] at this;exact this) (z▸Mod.one n (gp m) 7 _) rfl;have aa:(((h.set i (R {d with q:=j})).set m (R {G with own:=a})).set m (R {G with own:=a,on:=false})).at m=R {G with own:=a,on:=false}:=by rw[ad.dm K.out];exact eV _ _ _
  have aq:=(t.cp aa).cell 0 (v:=I J G.up) rfl;rw[p.out] at aq;have ac:(((h.set i (R {d with q:=j})).set m (R {G with own:=a})).set m (R {G with own:=a,on:=false}))=(h.set m (R ⟨(i:Int),G.deep,G.q,a,false,G.stopped⟩)).set i (R {d with q:=j}):=by rw[<-p.out,ad.set_set,ad.BF h (by omega) (by rw[p.out];omega) (by rw[p.out];exact B.1)]
  rw[ac] at t;have az:=C (M L t);go_wp2_with fail;refine az.mono ?_;rintro e a2 ⟨rfl,aB⟩;have aA:=C aB;go_wp2_with fail;go_end0;exact⟨rfl,aA⟩
 |false=>
  cases es with
  |cons x l=>cases T
  |nil=>clear T;go_enter func143,ntmps143;go_wp2_with fail;go_region;go_wp2_with fail;refine aN.mono ?_;rintro e O ⟨bI,rfl,a3,a4⟩;obtain⟨bL,bd,rfl⟩:=a3.mV;have aV:=C (ae.drew.below a4);have a5:=(aV.cp Q).cell 7 (v:=aD G.on) rfl;rw[aL] at a5;rw[hM];go_wp2_with fail;refine(tn m (by omega) (by omega) _).mono ?_;rintro e an ⟨rfl,rfl⟩;go_wp2_with fail;refine(aP _ aV).mono ?_;rintro e r ⟨rfl,D⟩;have E:(h.set i (R {d with q:=j})).at m=R G:=(by rw[ad.dm A.out];exact(gj _ (Ne.symm B.1)).trans Q);have f:=D.cp E;have aw:=f.cell 3 (v:=I J G.own.id) rfl;have bl:=f.cell 4 (v:=I ah G.own.wt) rfl;have bo:=f.cell 5 (v:=I J G.own.v) rfl;have bm:=f.cell 6 (v:=I ah G.own.rem) rfl;have ay:=f.free 3;have bq:=f.free 4;have bt:=f.free 5;have bw:=f.free 6;have F:=C D;have s:=C E;unfold dj;go_upto_region 9 with fail;obtain⟨n,y⟩:∃n,(((r.setCell ⟨gp m,3,U⟩ (I J a.id)).setCell ⟨gp m,4,U⟩ (I ah (a.wt:Int))).setCell ⟨gp m,5,U⟩ (I J a.v)).setCell ⟨gp m,6,U⟩ (I ah (a.rem:Int))=n:=⟨_,rfl⟩;rw[y];have V:Mod (λk=>k=gp m) r n:=y▸(((Mod.one r (gp m) 3 _).setCell rfl _).setCell rfl _).setCell rfl _;have o:ak n (gp m) (iy {G with own:=a} (ai m)) 132:=y▸((((F.cp s).set 3 (I J a.id)).set 4 (I ah (a.wt:Int))).set 5 (I J a.v)).set 6 (I ah (a.rem:Int));have W:=F.cells (G':={G with own:=a}) s o V rfl;have X:((h.set i (R {d with q:=j})).set m (R {G with own:=a})).at m=R {G with own:=a}:=(by rw[ad.dm s.out];exact eV _ _ _);have a0:=o.cell 7 (v:=aD G.on) rfl;have bz:=o.free 7;have Y:=C W;have K:=C X;have bF:=C o;go_upto_region 10 with fail;obtain⟨L,z⟩:∃L,n.setCell ⟨gp m,7,U⟩ (aD false)=L:=⟨_,rfl⟩;rw[z];have t:=Y.cells (G':={G with own:=a,on:=false}) K (by have:=bF.set 7 (aD false);rw[z] at this;exact this) (z▸Mod.one n (gp m) 7 _) rfl;have aa:(((h.set i (R {d with q:=j})).set m (R {G with own:=a})).set m (R {G with own:=a,on:=false})).at m=R {G with own:=a,on:=false}:=(by rw[ad.dm K.out];exact eV _ _ _);have aq:=(t.cp aa).cell 0 (v:=I J G.up) rfl;rw[p.out] at aq;have ac:(((h.set i (R {d with q:=j})).set m (R {G with own:=a})).set m (R {G with own:=a,on:=false}))=(h.set m (R ⟨(i:Int),G.deep,G.q,a,false,G.stopped⟩)).set i (R {d with q:=j}):=(by rw[<-p.out,ad.set_set,ad.BF h (by omega) (by rw[p.out];omega) (by rw[p.out];exact B.1)]);rw[ac] at t;have az:=C (M L t);go_wp2_with fail;refine az.mono ?_;rintro e a2 ⟨rfl,aB⟩;have aA:=C aB;go_wp2_with fail;go_end0;exact⟨rfl,aA⟩
theorem JE (n:Nat):∀(w:ab) (a:ad) (g:Int) (G:aJ),bB ao S b gp ai a w->a.gs.length=32->a.at g=R G->G.deep<n->cX a.at g->Calls au 143 #[af (R ⟨b,0,U⟩),I J g] w (mU ao S b gp ai (a.settle n g)):=by
 induction n with
 |zero=>intro w a g G _ _ c A f;have:=(f.deep g G c).1;omega
 |succ n B=>
  intro w a g G r m c A f;by_cases h:g=0;·have e:a.settle (n+1) g=a:=(by unfold ad.settle;rw[c];dsimp only;rw[aj ((f.ny c).2 h)]);rw[e];exact JA w a g G r m c ((f.ny c).2 h)
  ·obtain⟨d,j,F⟩:=f.up g G c h;have C:=(f.mB c h).1;have D:a.settle (n+1) g=if G.fM=G.on then a else if G.fM=true then ad.settle n ((a.set g (R {G with own:={G.own with v:=ic G.own.v d.q.mn a.ch},on:=true})).set G.up (R {d with q:=d.q.put {G.own with v:=ic G.own.v d.q.mn a.ch}})) G.up else ad.settle n ((a.set g (R {G with own:=d.q.ed (2*g+1),on:=false})).set G.up (R {d with q:=d.q.drop (2*g+1)})) G.up:=by
    conv=>lhs;unfold ad.settle
    rw[c];dsimp only;rw[z0 (λe=>h ((f.ny c).1 e)),j]
   have u:∀(y:aJ) (k:aC) (w':ab),cX (cL (cL a.at g (R y)) G.up (R {d with q:=k})) G.up->bB ao S b gp ai ((a.set g (R y)).set G.up (R {d with q:=k})) w'->Calls au 143 #[af (R ⟨b,0,U⟩),I J G.up] w' (mU ao S b gp ai (((a.set g (R y)).set G.up (R {d with q:=k})).settle n G.up)):=by
    intro y k w' o i;have z:=ad.dm (x:=R y) c;have E:(a.set g (R y)).at G.up=R d:=(by rw[z];exact(gj _ C).trans j);have s:=ad.dm (x:=R {d with q:=k}) E;rw[z] at s;refine B w' _ _ {d with q:=k} i (by rw[ad.md,ad.md];exact m) ?_ ?_ (by rw[s];exact o);·rw[s];exact eV _ _ _
    ·show d.deep<n;omega
   rw[D];by_cases i:G.fM=G.on;·rw[aj i];exact JC w a g G d r m f c h j i
   ·rw[z0 i];by_cases l:G.fM=true
    ·rw[aj l];have p:G.on=false:=by cases o:G.on with
      |false=>rfl
      |true=>rw[o] at i;exact absurd l i
     exact JB w a _ g G d r m f c h j l p (λw'=>u _ _ w' (f.vL c h j p l ((f.own g G c h).vN _)))
    ·rw[z0 l];have t:G.fM=false:=(by simpa using l);have p:G.on=true:=by cases o:G.on with
      |true=>rfl
      |false=>rw[o,t] at i;exact absurd rfl i
     exact JD w a _ g G d r m f c h j t p (λw'=>u _ _ w' (f.vM c h j p t))
end
def dv (S:Nat->Prop) (b:Nat) (r:Value) (h':ad) (w:ab) (e:Ending) (w':ab):Prop:=e=aK r∧cO w' (cS S w) b h'∧Mod S w w'
theorem bB.hp {h:ad} (H:bB w S b gp ai h w') (r:Value):dv S b r h w (aK r) w':=⟨rfl,H.done⟩
theorem ad.BG {h:ad} {g:Int} {x:aJ} (a:h.at g=R x):h.set g (R x)=h:=by
 obtain⟨e,f,b⟩:=ad.dk a;obtain⟨c,d⟩:=bD.1 b;unfold ad.set;have:h.gs.set g.toNat (R x)=h.gs:=by rw[<-d];exact List.set_getElem_self c
 rw[this]
theorem ad.Ok.JF {h:ad} (hk:h.Ok) {g:Int} {x:aJ} (b:h.at g=R x) (f:hc e.id=true) (d:x.q.dE {e with id:=e.id*2}=0):cX (h.set g (R {x with q:=x.q.put {e with id:=e.id*2}})).at g:=by
 rw[ad.dm b];refine hk.g.queue b ((hk.g.q g x b).put _) ?_ ?_ (.inl rfl) (.inl rfl)
 ·intro c a;rcases(aC.l9 d).1 a with rfl|a;·exact .inl (vO f)
  ·exact .inr ⟨c,a,rfl⟩
 ·intro c a _;exact dC.2 ⟨c,(aC.l9 d).2 (.inr a),rfl⟩
theorem ad.Ok.JG {h:ad} (hk:h.Ok) {g:Int} {x:aJ} (a:h.at g=R x) (task:Int):cX (h.set g (R {x with q:=x.q.drop (2*task)})).at g:=by
 rw[ad.dm a];refine hk.g.queue a ((hk.g.q g x a).drop _) ?_ ?_ (.inl rfl) (.inl rfl);·intro b c;exact .inr ⟨b,(aC.mC.1 c).1,rfl⟩
 ·intro b c d;exact dC.2 ⟨b,aC.mC.2 ⟨c,by omega⟩,rfl⟩
theorem xl {a:ab} {h:ad} {g:Int} (H:bB a S b gp ai h w) (d:h.gs.length=32) (c:h.at g=R G) (hk:cX h.at g):Calls au 143 #[af (R ⟨b,0,U⟩),I J g] w (mU a S b gp ai (h.settle 10 g)):=JE 10 w h g G H d c (by have:=(hk.deep g G c).2;omega) hk
theorem JH (S:Nat->Prop) (b:Nat) (h:ad) (g:Int) (a:aI) (w:ab) (H:cO w S b h) (hk:h.Ok):Calls au 147 #[af (R ⟨b,0,U⟩),I J g,bk #[I J a.id,I ah (a.wt:Int),I J a.v,I ah (a.rem:Int)]] w (dv S b (I J (h.dE g a)) (h.put g a) w):=by
 obtain⟨gp,ai,H⟩:=H.start;obtain⟨V,m⟩:=aW (w.alloc (av #[I J a.id,I ah (a.wt:Int),I J a.v,I ah (a.rem:Int)] 79));have z:Below w.heap.size w V:=m▸bx _ _;have t:ak V w.heap.size (dj a) 79:=m▸ak.new w _ _;have n:=H.below z;have o:=C (oT g n hk.len);have T:=C H;have W:=t.cell 0 (v:=I J a.id) rfl;have aG:=t.free 0;have F:=C n;have A:=C m;cases f:h.at g with
 |none=>
  have d:h.dE g a=1:=by unfold ad.dE;rw[f]
  have i:h.put g a=h:=by unfold ad.put;rw[z0 (by rw[d];decide)]
  rw[wd f] at o;rw[d,i];clear H m n f d i;go_enter func147,ntmps147;go_upto_region 1 with fail;rw[A.out];go_wp2_with fail;refine o.mono ?_;rintro e p ⟨rfl,rfl⟩;go_wp2_with fail;go_ret;exact F.hp _
 |some x=>
  rw[j3 f] at o;have s:=C f;cases j:hc a.id with
  |false=>have d:h.dE g a=1:=(by unfold ad.dE;rw[f];dsimp only;rw[aj j]);have i:h.put g a=h:=(by unfold ad.put;rw[z0 (by rw[d];decide)]);have B:=C j;rw[d,i];clear H hk m z t n f d i j;go_enter func147,ntmps147;go_upto_region 1 with fail;rw[A.out];go_wp2_with fail;refine o.mono ?_;rintro e p ⟨rfl,rfl⟩;go_wp2_with fail;refine(oU a.id _).mono ?_;rintro e p ⟨rfl,rfl⟩;rw[B.out];go_wp2_with fail;go_ret;exact F.hp _
  |true=>have aL:0<=a.id∧a.id<64:=(by unfold hc at j;simpa using j);obtain⟨c,u⟩:=aW ({a with id:=a.id*2}:aI);have d:h.dE g a=x.q.dE c:=(by unfold ad.dE;rw[f];dsimp only;rw[z0 (by rw[j];decide),u]);have i:h.put g a=if x.q.dE c=0 then(h.set g (R {x with q:=x.q.put c})).settle 10 g else h:=(by unfold ad.put;rw[d,f];dsimp only;rw[u]);have G:x.q.dE c=0->cX (h.set g (R {x with q:=x.q.put c})).at g:=(by rw[<-u];exact hk.JF f j);have B:=C j;have K:=C G;have D:=C i;obtain⟨r,k⟩:=aW (h.put g a);obtain⟨X,l⟩:=aW (x.q.dE c);rw[k,l] at D;rw[l] at K;rw[d,k,l];have L:=C l;have Y:=(n.cp f).cell 2 (v:=af (R ⟨ai g,0,U⟩)) rfl;have Z:=C u;clear H n d i j G k l m;go_enter func147,ntmps147;go_upto_region 1 with fail;rw[A.out];go_wp2_with fail;refine o.mono ?_;rintro e p ⟨rfl,rfl⟩;go_wp2_with fail;refine(oU a.id _).mono ?_;rintro e p ⟨rfl,rfl⟩;rw[B.out];go_upto_region 5 with fail;generalize M:p.setCell ⟨w.heap.size,0,U⟩ (I J (a.id*2))=N;have aa:Below w.heap.size w N:=M▸((zF9 z).fw (b:=w.heap.size) zK9 _).toBelow;have y:ak N w.heap.size (dj c) 79:=(by have:=t.set 0 (I J (a.id*2));rw[M] at this;rw[<-Z.out];exact this);have O:=T.below aa;have Y:=(O.cp s).cell 2 (v:=af (R ⟨ai g,0,U⟩)) rfl;have W:=y.cell 0 (v:=I J c.id) rfl;have d:=y.cell 1 (v:=I ah c.wt) rfl;have i:=y.cell 2 (v:=I J c.v) rfl;have ae:=y.cell 3 (v:=I ah c.rem) rfl;have dv:=C (O.drew.BB c s (hk.g.q g x s));rw[L.out] at dv;go_region_with (first|(go_at_call 192;refine dv.mono ?_;rintro e am ⟨rfl,aq⟩;have P:=C aq));all_goals
   by_cases l:X=0;·subst l;have k:r=_:=D;rw[aj rfl] at k;have E:=C k;have ac:=C (xl P (by rw[ad.md];exact hk.len) (by rw[ad.dm s.out];exact eV _ _ _) (K rfl));go_wp2_with fail;refine ac.mono ?_;rintro e aN ⟨rfl,az⟩;have aB:=C az;go_wp2_with fail;go_ret;rw[E.out];exact aB.hp _
   ·have k:r=_:=D;rw[z0 l] at k;have E:=C k;go_wp2_with fail;go_ret;rw[E.out];have aA:x.q.put c=x.q:=(by unfold aC.put;rw[z0 (by rw[L.out];exact l)]);have Q:=P.out;rw[aA,show({x with q:=x.q}:aJ)=x from rfl,ad.BG s.out] at Q;exact Q.hp _
theorem cO.trim {h:ad} (H:cO w S b h):cO w (λk=>S k∧k<w.heap.size) b h:=H.mono λk a c=>⟨c,a⟩
theorem bB.JI {h:ad} {V:ab} (H:bB V (λk=>S k∧k<w.heap.size) b gp ai h W) (c:Below w.heap.size w V) (r:Value):dv S b r h w (aK r) W:=by obtain⟨d,e⟩:=H.done;exact⟨rfl,d.mono (λk _ f=>f.elim (λa=>.inl a.1) (λa=>.inr (cA c.size a))),(Mod.below (S:=S) c).trans e (λi _ a=>a.1)⟩
theorem dv.tr {a:Nat->Prop} {h:ad} {c:ab} (H:cO W a b h) (f:∀k,a k->k≠n) (g:∀k,a k->cS S w k) (l:w.heap.size<=n) (j:Mod S w W) (d:Mod (λk=>k=n) W c):cO c (cS S w) b h∧Mod S w c:=⟨(H.frame d f).mono (λk _=>g k),j.trans d (λi m e=>by omega)⟩
theorem tt (w:ab) (n:Nat) (a b c d:Value):Mod (λk=>k=n) w ((((w.setCell ⟨n,0,U⟩ a).setCell ⟨n,1,U⟩ b).setCell ⟨n,2,U⟩ c).setCell ⟨n,3,U⟩ d):=(((Mod.one w n 0 a).setCell rfl b).setCell rfl c).setCell rfl d
theorem JJ (S:Nat->Prop) (b:Nat) (h:ad) (g task:Int) (w:ab) (H:cO w S b h) (hk:h.Ok):Calls au 152 #[af (R ⟨b,0,U⟩),I J g,I J task] w (dv S b (bC #[bk (dj (h.ed g task)),I J (h.e6 g task)]) (h.drop g task) w):=by
 obtain⟨V,N⟩:=aW (w.alloc (av #[I J 0,I ah 0,I J 0,I ah 0] 79));have u:Below w.heap.size w V:=N▸bx _ _;have a:ak V w.heap.size (dj lB) 79:=N▸ak.new w _ _;obtain⟨gp,ai,H⟩:=(H.trim.next u).start;have O:=C N;clear N;have aj:∀k,(λk=>S k∧k<w.heap.size) k->k≠w.heap.size:=λk hk e=>by have:=hk.2;omega
 have ap:∀k,cS (λk=>S k∧k<w.heap.size) V k->k≠w.heap.size:=λk hk e=>by
  have:=a.lt;rcases hk with q|q;·have:=q.2;omega
  ·omega
 have aQ:∀k,cS (λk=>S k∧k<w.heap.size) V k->cS S w k:=λk hk=>hk.elim (λq=>.inl q.1) (λq=>.inr (cA u.size q));have aR:=C aj;have G:=C ap;have P:=C aQ;clear aj ap aQ;have B:=C (oT g H hk.len);have aS:=C H;have Q:h.e6 g task≠0->h.ed g task=lB∧h.drop g task=h:=λe=>⟨by unfold ad.ed;rw[if_neg e],by unfold ad.drop;rw[if_neg e]⟩;cases c:h.at g with
 |none=>
  have f:h.e6 g task=1:=by unfold ad.e6;rw[c]
  obtain⟨p,r⟩:=Q (by rw[f];decide);rw[wd c] at B;rw[f,p,r];clear H hk c f p r Q;have W:=a.cell 0 (v:=I J 0) rfl;have X:=a.cell 1 (v:=I ah 0) rfl;have Y:=a.cell 2 (v:=I J 0) rfl;have Z:=a.cell 3 (v:=I ah 0) rfl;have aa:=a.free 0;have aq:=a.free 1;have ac:=a.free 2;have az:=a.free 3;go_enter func152,ntmps152;go_upto_region 1 with fail;rw[O.out];go_wp2_with fail;refine B.mono ?_;rintro e D ⟨rfl,rfl⟩;go_wp2_with fail;have o:=aS.out.done;obtain⟨z,A⟩:=dv.tr o.1 G P zK9 ((Mod.below (S:=S) u).trans o.2 (λi _ q=>q.1)) (tt _ w.heap.size (I J 0) (I ah 0) (I J 0) (I ah 0));exact bodyPost_ret (oV (g:=w.heap.size) (T:=79) rfl rfl rfl ((((a.set 0 (I J 0)).set 1 (I ah 0)).set 2 (I J 0)).set 3 (I ah 0))) rfl ⟨rfl,z,A⟩
 |some x=>
  rw[j3 c] at B;cases E:hc task with
  |false=>have f:h.e6 g task=1:=(by unfold ad.e6;rw[c];dsimp only;rw[if_pos E]);obtain⟨p,r⟩:=Q (by rw[f];decide);have aB:=C E;rw[f,p,r];have W:=a.cell 0 (v:=I J 0) rfl;have X:=a.cell 1 (v:=I ah 0) rfl;have Y:=a.cell 2 (v:=I J 0) rfl;have Z:=a.cell 3 (v:=I ah 0) rfl;have aa:=a.free 0;have aq:=a.free 1;have ac:=a.free 2;have az:=a.free 3;go_enter func152,ntmps152;go_upto_region 1 with fail;rw[O.out];go_wp2_with fail;refine B.mono ?_;rintro e D ⟨rfl,rfl⟩;go_wp2_with fail;refine(oU task _).mono ?_;rintro e D ⟨rfl,rfl⟩;rw[aB.out];go_wp2_with fail;have o:=aS.out.done;obtain⟨z,A⟩:=dv.tr o.1 G P zK9 ((Mod.below (S:=S) u).trans o.2 (λi _ q=>q.1)) (tt _ w.heap.size (I J 0) (I ah 0) (I J 0) (I ah 0));exact bodyPost_ret (oV (g:=w.heap.size) (T:=79) rfl rfl rfl ((((a.set 0 (I J 0)).set 1 (I ah 0)).set 2 (I J 0)).set 3 (I ah 0))) rfl ⟨rfl,z,A⟩
  |true=>
   have bq:0<=task∧task<64:=(by unfold hc at E;simpa using E);have f:h.e6 g task=x.q.e6 (2*task):=(by unfold ad.e6;rw[c];dsimp only;rw[if_neg (by rw[E];decide)]);have aB:=C E;have F:=C (H.BC (2*task) c (hk.g.q g x c));have bt:=(H.cp c).cell 2 (v:=af (R ⟨ai g,0,U⟩)) rfl;cases aL:cH (2*task) x.q.es with
   |false=>
    have K:x.q.e6 (2*task)=12:=(by unfold aC.e6;rw[aL];rfl);rw[K] at f;obtain⟨p,r⟩:=Q (by rw[f];decide);have aV:x.q.drop (2*task)=x.q:=(by unfold aC.drop;rw[aL];rfl);rw[K,aV,show({x with q:=x.q}:aJ)=x from rfl,ad.BG c] at F;generalize ae:x.q.ed (2*task)=d at F;rw[f,p,r];go_enter func152,ntmps152;go_upto_region 1 with fail;rw[O.out];go_wp2_with fail;refine B.mono ?_;rintro e D ⟨rfl,rfl⟩;go_wp2_with fail;refine(oU task _).mono ?_;rintro e D ⟨rfl,rfl⟩;rw[aB.out];go_wp2_with fail;refine F.mono ?_;rintro e s ⟨rfl,L⟩;have l:=C ((a.mod L.1 (λq=>aR _ q rfl)).alloc (av (dj d) 79));have aZ:=C (L.below (bx s (av (dj d) 79)));have W:=l.cell 0 (v:=I J 0) rfl;have X:=l.cell 1 (v:=I ah 0) rfl;have Y:=l.cell 2 (v:=I J 0) rfl;have Z:=l.cell 3 (v:=I ah 0) rfl;have aa:=l.free 0;have aq:=l.free 1;have ac:=l.free 2;have az:=l.free 3;unfold dj;obtain⟨m,j⟩:=aW (s.alloc (av #[I J d.id,I ah (d.wt:Int),I J d.v,I ah (d.rem:Int)] 79));go_upto_region 5 with fail;try rw[j]
    have bw:m.cell? ⟨w.heap.size,0,U⟩=_:=j▸W;have aD:m.cell? ⟨w.heap.size,1,U⟩=_:=j▸X;have a0:m.cell? ⟨w.heap.size,2,U⟩=_:=j▸Y;have bz:m.cell? ⟨w.heap.size,3,U⟩=_:=j▸Z;have a2:m.frozen? ⟨w.heap.size,0,U⟩=false:=j▸aa;have a3:m.frozen? ⟨w.heap.size,1,U⟩=false:=j▸aq;have a4:m.frozen? ⟨w.heap.size,2,U⟩=false:=j▸ac;have a5:m.frozen? ⟨w.heap.size,3,U⟩=false:=j▸az;have a6:=C j;go_wp2_with fail;have o:=aZ.out.done;have am:=l.out;unfold dj at o am;rw[a6.out] at o am;obtain⟨z,A⟩:=dv.tr o.1 G P zK9 ((Mod.below (S:=S) u).trans o.2 (λi _ q=>q.1)) (tt _ w.heap.size (I J 0) (I ah 0) (I J 0) (I ah 0));exact bodyPost_ret (oV (g:=w.heap.size) (T:=79) rfl rfl rfl ((((am.set 0 (I J 0)).set 1 (I ah 0)).set 2 (I J 0)).set 3 (I ah 0))) rfl ⟨rfl,z,A⟩
   |true=>
    have K:x.q.e6 (2*task)=0:=(by unfold aC.e6;rw[aL];rfl);rw[K] at f;have p:h.ed g task={x.q.ed (2*task) with id:=task}:=(by unfold ad.ed;rw[if_pos f,c]);have r:h.drop g task=(h.set g (R {x with q:=x.q.drop (2*task)})).settle 10 g:=(by unfold ad.drop;rw[if_pos f,c]);have aU:=hk.JG c task;rw[K] at F;obtain⟨d,ae⟩:=aW (x.q.ed (2*task));obtain⟨aP,aA⟩:=aW (h.set g (R {x with q:=x.q.drop (2*task)}));have a7:aP.at g=R {x with q:=x.q.drop (2*task)}:=(by rw[<-aA,ad.dm c];exact eV _ _ _);have a8:aP.gs.length=32:=(by rw[<-aA,ad.md];exact hk.len);rw[ae,aA] at F;rw[ae] at p;rw[aA] at r aU;rw[f,p,r];have ba:=C a7;have ao:=C a8;have bb:=C aU;go_enter func152,ntmps152;go_upto_region 1 with fail;rw[O.out];go_wp2_with fail;refine B.mono ?_;rintro e D ⟨rfl,rfl⟩;go_wp2_with fail;refine(oU task _).mono ?_;rintro e D ⟨rfl,rfl⟩;rw[aB.out];go_wp2_with fail;refine F.mono ?_;rintro e s ⟨rfl,L⟩;have l:=C (a.mod L.1 (λq=>aR _ q rfl));obtain⟨ag,bf⟩:=L.done;have ax:=C ((Mod.below (S:=S) u).trans bf (λi _ q=>q.1));have bc:=C ag.trim;unfold dj;go_upto_region 8 with fail;generalize j:s.alloc (av #[I J task,I ah (d.wt:Int),I J d.v,I ah (d.rem:Int)] 79)=m;have M:Below s.heap.size s m:=j▸bx _ _;have bg:ak m s.heap.size (dj {d with id:=task}) 79:=j▸ak.new s _ _;have bj:=l.next M;obtain⟨aK,bF,an⟩:=(bc.next M).start;have aw:=C (ax.hV M);have bl:=C (xl an ao ba bb);go_wp2_with fail;refine bl.mono ?_;rintro e aO ⟨rfl,aN⟩;have a9:w.heap.size<s.heap.size:=l.lt;have aG:=C (bg.mod aN.1 (λq=>by have:=q.2;omega));have t:=C (bj.mod aN.1 (λq=>G _ q.1 rfl));obtain⟨bo,bm⟩:=aN.done;have ay:=C (aw.trans bm (λi bI q=>by
     rcases q.1 with y|y;·exact y.1
     ·have:=u.size;have:=a.lt;omega))
    have bL:=aG.cell 0 (v:=I J task) rfl;have bd:=aG.cell 1 (v:=I ah d.wt) rfl;have be:=aG.cell 2 (v:=I J d.v) rfl;have bN:=aG.cell 3 (v:=I ah d.rem) rfl;have W:=t.cell 0 (v:=I J 0) rfl;have X:=t.cell 1 (v:=I ah 0) rfl;have Y:=t.cell 2 (v:=I J 0) rfl;have Z:=t.cell 3 (v:=I ah 0) rfl;have aa:=t.free 0;have aq:=t.free 1;have ac:=t.free 2;have az:=t.free 3;go_wp2_with fail
    obtain⟨z,A⟩:=dv.tr bo (n:=w.heap.size) (λk hk=>by
     rcases hk with q|q;·exact G _ q.1
     ·have:=M.size;omega) (λk hk=>by
     rcases hk with q|q;·exact P _ q.1
     ·have:=M.size;exact .inr (by omega)) zK9 ay (tt _ w.heap.size (I J task) (I ah (d.wt:Int)) (I J d.v) (I ah (d.rem:Int)))
    exact bodyPost_ret (oV (g:=w.heap.size) (T:=79) rfl rfl rfl ((((t.set 0 (I J task)).set 1 (I ah (d.wt:Int))).set 2 (I J d.v)).set 3 (I ah (d.rem:Int)))) rfl ⟨rfl,z,A⟩
section
open Go.Shelf
attribute [local go_sem] Oper.semAt_some
theorem BH (k:Nat):∀(a:ad) (g:Int),k4 (λa _=>a) k a g=(a,(a.cC k g).2):=by
 induction k with
 |zero=>intro a g;rfl
 |succ k b=>
  intro a g;unfold k4 ad.cC;cases a.at g with
  |none=>rfl
  |some x=>
   dsimp only;split;·rfl
   ·rw[b]
theorem tu (n:Nat) (b f:Nat) (cap:Array Value) (w:ab):CallsIn Fence.wide n au 78 #[af (R ⟨b,0,U⟩),.func (.func f) #[] cap] w λe w'=>e=aK (.func (.func 133) #[] #[af (R ⟨w.heap.size,0,U⟩),af (R ⟨w.heap.size+1,0,U⟩)])∧w'=(w.alloc (av #[af (R ⟨b,0,U⟩)] 90)).alloc (av #[.func (.func f) #[] cap] 148):=by refine callsIn_of_wp func78 rfl trivial ?_ rfl;simp[ntmps78];gi_wp2;go_ret;exact⟨rfl,rfl⟩
section
variable {b:Nat} {gp ai:Int->Nat} {bH X:Nat->Prop} {bn W W':ab} {a1:eO} {bs:ad->Int->ad} {Q:ad->Int->Nat->Prop} {res:ad×Int} {aq:ad} {g1:Int} {k:Nat} {G:aJ}
theorem wl.stay (h:wl b gp ai bH X bn a1 bs Q res aq g1 k G W) {Z:Nat->Prop} (a:∀k,bH k->¬Z k) (c:∀k,bn.heap.size+2<=k->¬Z k) (d:∀k,k<bn.heap.size->Z k->X k) (e:Mod Z W W'):wl b gp ai bH X bn a1 bs Q res aq g1 k G W':=⟨h.aP.stay a c d e,h.ok,h.a1,h.at_,h.deep,h.res,h.q⟩
theorem kE.stay {V:List (Int×Int)->ab->Prop} {ag:List (Int×Int)} (h:kE b gp ai bH X bn a1 bs Q res V ag W) {Z:Nat->Prop} (d:∀k,bH k->¬Z k) (e:∀k,bn.heap.size+2<=k->¬Z k) (f:∀k,k<bn.heap.size->Z k->X k) (g:Mod Z W W') (i:V ag W->V ag W'):kE b gp ai bH X bn a1 bs Q res V ag W':=by
 obtain⟨j,l⟩:=h;refine⟨i j,?_⟩;rcases l with⟨aq,a,c⟩|⟨aq,a,k,G,c⟩;·exact .inl ⟨aq,a.stay d e f g,c⟩
 ·exact .inr ⟨aq,a,k,G,c.stay d e f g⟩
theorem oX.stay {V:List (Int×Int)->ab->Prop} {ag:List (Int×Int)} {x:Int×Int} (h:oX b gp ai bH X bn a1 bs Q res V ag x W) {Z:Nat->Prop} (a:∀k,bH k->¬Z k) (c:∀k,bn.heap.size+2<=k->¬Z k) (d:∀k,k<bn.heap.size->Z k->X k) (e:Mod Z W W') (f:V ag W->V ag W'):oX b gp ai bH X bn a1 bs Q res V ag x W':=by obtain⟨g,i,j,l,k,G,m,n⟩:=h;exact⟨f g,i,j,l,k,G,m.stay a c d e,n⟩
theorem wl.step (h:wl b gp ai bH X bn a1 bs Q res aq g1 k G W) {e:ad} (m:bs aq g1=e) (i:ca b gp ai bH X bn e W') (n:e.Ok) (j:e.a1=a1) (o:∀a,k=a+1->fE G.q.cur=false->Q e (G.q.cur/2) a):(fE G.q.cur=true∧ca b gp ai bH X bn res.1 W'∧G.q.cur=res.2)∨(fE G.q.cur=false∧∃a r,wl b gp ai bH X bn a1 bs Q res e (G.q.cur/2) a r W'):=by
 have v:=h.ok.g.deep _ _ h.at_;have w:=h.deep;obtain⟨a,rfl⟩:∃a,k=a+1:=⟨k-1,by omega⟩;have d:=h.res;unfold k4 at d;rw[h.at_] at d;dsimp only at d;rw[m] at d;cases c:fE G.q.cur with
 |true=>unfold fE at c;simp only[ob,decide_eq_true_eq] at c;rw[aj c] at d;rw[<-d];exact .inl ⟨rfl,i,rfl⟩
 |false=>obtain⟨_,_,p,l,s⟩:=h.next.2.2.2.2 c;have t:=c;unfold fE at c;simp only[vb,decide_eq_false_iff_not] at c;rw[z0 (by rintro(f|f);exact c.1 f;exact c.2 f)] at d;rw[<-j] at l;obtain⟨ar,u,rfl⟩:=ad.mG l;refine .inr ⟨rfl,a,ar,i,n,j,u,?_,d,o a rfl t⟩;dsimp only at s;omega
end
theorem j5 {W:ab} {b:Nat} (h:W.cell? ⟨b,o,U⟩=R v):b<W.heap.size:=by
 rcases nm b W.heap.size with q|q;·exact q
 ·unfold World.cell? at h;simp[Array.getElem?_eq_none q] at h
theorem BI {n:Int} (h:∃x∈ag.getLast?,x.2=n):h1 ag=n:=by obtain⟨x,a,e⟩:=h;unfold h1;rw[a];exact e
theorem xm (S:Nat->Prop) (b:Nat) (h:ad) (w:ab) (H:cO w S b h) (hk:h.Ok):Calls au 38 #[af (R ⟨b,0,U⟩)] w λe w'=>e=aK (I J h.running)∧Below w.heap.size w w':=by
 have aG:=C H.trim;clear H;refine callsIn_wide (n:=10).1 ?_;refine callsIn_of_wp func38 rfl trivial ?_ rfl;simp[ntmps38];have bf:Fence.wide.fn 78:=trivial;have ax:Fence.wide.fn 77:=trivial;gi_wp2_with (gi_at_call 78;refine(tu _ b _ _ w).mono ?_;rintro e d ⟨rfl,m⟩;have aL:=C m;clear m);have m:=aL.out;have z:Below w.heap.size w d:=m▸((Below.refl _ _).alloc zK9 _).alloc (by simp) _;have N:d.heap.size=w.heap.size+2:=by rw[m];simp
 have O:d.cell? ⟨w.heap.size,0,U⟩=R (af (R ⟨b,0,U⟩)):=by rw[m];exact fq _ (by simp) (dz.trans rfl)
 have P:d.cell? ⟨w.heap.size+1,0,U⟩=R (.func (.func 79) #[] #[]):=by rw[m];have:=(ak.new (w.alloc (av #[af (R ⟨b,0,U⟩)] 90)) #[.func (.func 79) #[] #[]] 148).cell 0 rfl;rw[show(w.alloc (av #[af (R ⟨b,0,U⟩)] 90)).heap.size=w.heap.size+1 by simp] at this;exact this
 have j:=C N;have Q:=C (br O P);clear m N O P;obtain⟨gp,ai,ae,T⟩:=aG;have am:=C T;clear T;obtain⟨bn,t⟩:=aW (d.alloc (av #[I J (-1)] 3));have X:bn.heap.size=w.heap.size+3:=by rw[<-t];simp;have:=j.out;omega
 have Y:Below w.heap.size w bn:=by rw[<-t];exact z.alloc z.size _
 have Z:∀x o v,x<d.heap.size->d.cell? ⟨x,o,U⟩=R v->bn.cell? ⟨x,o,U⟩=R v:=λx o v aN D=>by rw[<-t];exact fq _ aN D
 have p:=C (br X (br Y Z));have aj:=C t;clear t X Y Z;have aa:kE b gp ai (λk=>S k∧k<w.heap.size) (λk=>k=d.heap.size) bn h.a1 (λh _=>h) (λ_ _ _=>True) (h,(h.cC 10 0).2) (λag W=>(W.cell? ⟨w.heap.size,0,U⟩=R (af (R ⟨b,0,U⟩))∧W.cell? ⟨w.heap.size+1,0,U⟩=R (.func (.func 79) #[] #[]))∧h1 ag<128) [] bn:=by obtain⟨r,ap,bc,bg⟩:=hk.g.root;refine⟨⟨⟨p.2.2 _ _ _ (by have:=j.out;omega) Q.1,p.2.2 _ _ _ (by have:=j.out;omega) Q.2⟩,by decide⟩,.inr ⟨rfl,h,10,r,?_⟩⟩;refine⟨⟨Mod.refl _ _,ae,?_⟩,hk,rfl,ap,by omega,BH 10 h 0,trivial⟩;exact(am.frame (zF9 p.2.1) (λ_ _=>id)).mono (λk _ a=>.inl a)
 have aQ:=C aa;clear aa
 have ah:=C (BE ai w.heap.size (w.heap.size+1) d (kE b gp ai (λk=>S k∧k<w.heap.size) (λk=>k=d.heap.size) bn h.a1 (λh _=>h) (λ_ _ _=>True) (h,(h.cC 10 0).2) (λag W=>(W.cell? ⟨w.heap.size,0,U⟩=R (af (R ⟨b,0,U⟩))∧W.cell? ⟨w.heap.size+1,0,U⟩=R (.func (.func 79) #[] #[]))∧h1 ag<128)) (oX b gp ai (λk=>S k∧k<w.heap.size) (λk=>k=d.heap.size) bn h.a1 (λh _=>h) (λ_ _ _=>True) (h,(h.cC 10 0).2) (λag W=>(W.cell? ⟨w.heap.size,0,U⟩=R (af (R ⟨b,0,U⟩))∧W.cell? ⟨w.heap.size+1,0,U⟩=R (.func (.func 79) #[] #[]))∧h1 ag<128)) (by have:=j.out;omega) (by have:=j.out;omega) (λag A aR f q=>by
  have u:=j.out;have B:=p.1;refine f.stay (λk a e=>by have:=a.2;omega) (λk a e=>by omega) (λk a e=>by omega) q (λc=>⟨⟨?_,?_⟩,c.2⟩);·exact q.cell c.1.1 (j5 c.1.1) (by omega)
  ·exact q.cell c.1.2 (j5 c.1.2) (by omega)) (λag x A aR f q=>by
  have u:=j.out;have B:=p.1;refine f.stay (λk a e=>by have:=a.2;omega) (λk a e=>by omega) (λk a e=>by omega) q (λc=>⟨⟨?_,?_⟩,c.2⟩);·exact q.cell c.1.1 (j5 c.1.1) (by omega)
  ·exact q.cell c.1.2 (j5 c.1.2) (by omega)) (λag A f=>by have:=f.1.2;omega) (λag x A f=>by
  obtain⟨c,_,_,aq,k,G,y,D⟩:=f;have ac:=y.step rfl y.aP y.ok y.a1 (λ_ _ _=>trivial);have az:=y.next.2.2.2.1;rw[D] at ac az;refine⟨⟨c.1,by rw[xk];exact az⟩,?_⟩;rw[mT,p7];rcases ac with⟨E,F,aS⟩|⟨E,aU,aV,F⟩;·exact .inl ⟨E,F,x,by rw[n4];rfl,aS⟩
  ·exact .inr ⟨E,aq,aU,aV,F⟩) (by rw[aj.out];exact aQ) (λV l aZ a6 bj an z f a7 a8=>by
  have u:=j.out;have B:=p.1;refine(xj 8 (by omega) b gp ai (λk=>S k∧k<w.heap.size) (λk=>k=d.heap.size) bn h.a1 (λh _=>h) (λ_ _ _=>True) (h,(h.cC 10 0).2) (λag W=>V ag W∧((W.cell? ⟨w.heap.size,0,U⟩=R (af (R ⟨b,0,U⟩))∧W.cell? ⟨w.heap.size+1,0,U⟩=R (.func (.func 79) #[] #[]))∧h1 ag<128)) l w.heap.size (w.heap.size+1) aZ a6 (λk a=>by have:=a.2;omega) (λag W c=>c.2.1) ⟨⟨f.1,f.2.1⟩,f.2.2⟩ a7 (λA ba=>by have:=z A ba;omega) ?_).mono ?_;·intro ao x W K L;exact(a8 ao x W ⟨K.1.1,K.1.2,K.2⟩ L).mono (λe w' a=>⟨a.1,⟨⟨a.2.1.1,a.2.1.2.1⟩,a.2.1.2.2⟩,a.2.2⟩)
  ·rintro e W' ⟨c,ag,M,s,L⟩;exact⟨c,ag,M,⟨s.1.1,s.1.2,s.2⟩,L⟩))
 refine ah.mono ?_;rintro e bb ⟨ag,M,rfl,s⟩;have aB:h1 ag=(h.cC 10 0).2∧Mod (λk=>k=d.heap.size) bn bb:=by
  rcases s.2 with⟨_,u,B⟩|⟨aq,_⟩;·exact⟨BI B,u.1⟩
  ·rw[M] at aq;cases aq
 have aA:=C aB;clear aB s;gi_wp2;go_ret;refine⟨?_,?_⟩;·rw[aA.out.1];rfl
 ·have u:=j.out;exact((zF9 p.2.1).trans aA.2 (λi f e=>by omega)).toBelow
end
theorem JM (S:Nat->Prop) (b:Nat) (h:ad) (g task:Int) (n:Nat) (w:ab) (H:cO w S b h) (hk:h.Ok):Calls au 101 #[af (R ⟨b,0,U⟩),I J g,I J task,I ah (n:Int)] w (dv S b (I J (h.e8 g task n)) (h.nice g task n) w):=by
 obtain⟨gp,ai,H⟩:=H.start;have i:=C (oT g H hk.len);have l:=C H;cases a:h.at g with
 |none=>
  have d:h.e8 g task n=1:=by unfold ad.e8;rw[a]
  have f:h.nice g task n=h:=by unfold ad.nice;rw[a]
  rw[wd a] at i;rw[d,f];go_enter func101,ntmps101;go_wp2_with fail;apply i.mono;rintro e j ⟨rfl,rfl⟩;go_wp2_with fail;go_ret;exact l.hp _
 |some x=>
  rw[j3 a] at i;cases c:hc task with
  |false=>have d:h.e8 g task n=1:=(by unfold ad.e8;rw[a];dsimp only;rw[aj c]);have f:h.nice g task n=h:=(by unfold ad.nice;rw[a];dsimp only;rw[aj c]);have k:=C c;rw[d,f];clear H hk a d f c;go_enter func101,ntmps101;go_wp2_with fail;refine i.mono ?_;rintro e j ⟨rfl,rfl⟩;go_wp2_with fail;refine(oU task _).mono ?_;rintro e j ⟨rfl,rfl⟩;rw[k.out];go_wp2_with fail;go_ret;exact l.hp _
  |true=>have r:0<=task∧task<64:=(by unfold hc at c;simpa using c);have d:h.e8 g task n=x.q.fL (2*task) n:=(by unfold ad.e8;rw[a];dsimp only;rw[z0 (by rw[c];decide)]);have f:h.nice g task n=h.set g (R {x with q:=x.q.bO (2*task) n}):=(by unfold ad.nice;rw[a];dsimp only;rw[z0 (by rw[c];decide)]);have k:=C c;have o:=C (H.BD (2*task) n a (hk.g.q g x a));have s:=(H.cp a).cell 2 (v:=af (R ⟨ai g,0,U⟩)) rfl;rw[d,f];clear H hk a d f c;go_enter func101,ntmps101;go_wp2_with fail;refine i.mono ?_;rintro e j ⟨rfl,rfl⟩;go_wp2_with fail;refine(oU task _).mono ?_;rintro e j ⟨rfl,rfl⟩;rw[k.out];go_wp2_with fail;refine o.mono ?_;rintro e t ⟨rfl,m⟩;have p:=C m;clear m;go_wp2_with fail;go_ret;exact p.hp _
theorem rO {h:ad} {g:Int} (e:h.linked g=U):h.mS gp g=af U:=by unfold ad.mS;rw[e];rfl
theorem rP {h:ad} {g:Int} (e:h.linked g=R G):h.mS gp g=af (R ⟨gp g,0,U⟩):=by unfold ad.mS;rw[e];rfl
theorem xn (S:Nat->Prop) (b:Nat) (h:ad) (g:Int) (is:Bool) (w:ab) (H:cO w S b h) (hk:h.Ok):Calls au 94 #[af (R ⟨b,0,U⟩),I J g,aD is] w (dv S b (I J (if(h.linked g).isSome then 0 else 1)) (h.stop g is) w):=by
 obtain⟨gp,ai,H⟩:=H.start;have d:=C (rG g H hk.len);have f:=C H;cases c:h.linked g with
 |none=>
  have i:h.stop g is=h:=by unfold ad.stop;rw[c]
  rw[rO c] at d;rw[i];go_enter func94,ntmps94;go_wp2_with fail;apply d.mono;rintro e l ⟨rfl,rfl⟩;go_wp2_with fail;go_ret;exact f.hp _
 |some x=>
  rw[rP c] at d;obtain⟨k,a⟩:=kt c;have i:h.stop g is=(h.set g (R {x with stopped:=is})).settle 10 g:=by unfold ad.stop;rw[c]
  have m:cX (h.set g (R {x with stopped:=is})).at g:=by rw[ad.dm a];exact hk.g.other (own':=x.own) a (λk=>hk.g.own g x a k) (.inl rfl) (.inl rfl)
  have t:=(H.cp a).cell 8 (v:=aD x.stopped) rfl;have u:=(H.cp a).free 8;have j:=C a;have n:=C m;have o:=C hk.len;rw[i];go_enter func94,ntmps94;go_wp2_with fail;apply d.mono;rintro e l ⟨rfl,rfl⟩;go_upto_region 5 with fail;have p:=f.cells (G':={x with stopped:=is}) j ((f.cp j).set 8 (aD is)) (Mod.one _ (gp g) 8 _) rfl;have q:=C (xl p (by rw[ad.md];exact o) (by rw[ad.dm j.out];exact eV _ _ _) n);go_wp2_with fail;apply q.mono;rintro e y ⟨rfl,r⟩;have s:=C r;go_wp2_with fail;go_ret;exact s.hp _
theorem xo (S:Nat->Prop) (b:Nat) (h:ad) (g:Int) (w:ab) (H:cO w S b h) (hk:h.Ok):Calls au 76 #[af (R ⟨b,0,U⟩),I J g] w λe w'=>e=aK (I J (h.minOf g))∧w'=w:=by
 obtain⟨gp,ai,H⟩:=H.start;have c:=C (oT g H hk.len);cases a:h.at g with
 |none=>
  have d:h.minOf g=0:=by unfold ad.minOf;rw[a]
  rw[wd a] at c;rw[d];go_enter func76,ntmps76;go_wp2_with fail;apply c.mono;rintro e f ⟨rfl,rfl⟩;go_wp2_with fail;go_ret;exact⟨rfl,rfl⟩
 |some x=>
  have d:h.minOf g=x.q.mn:=by unfold ad.minOf;rw[a]
  rw[j3 a] at c;have i:=C (H.tq a);have j:=(H.cp a).cell 2 (v:=af (R ⟨ai g,0,U⟩)) rfl;rw[d];go_enter func76,ntmps76;go_wp2_with fail;apply c.mono;rintro e f ⟨rfl,rfl⟩;go_wp2_with fail;apply i.mono;rintro e f ⟨rfl,rfl⟩;go_wp2_with fail;go_ret;exact⟨rfl,rfl⟩
def ad.nK (h:ad) (g:Int):Bool:=match h.linked g with|none=>false|some x=>x.stopped
theorem BM (S:Nat->Prop) (b:Nat) (h:ad) (g:Int) (w:ab) (H:cO w S b h) (hk:h.Ok):Calls au 28 #[af (R ⟨b,0,U⟩),I J g] w λe w'=>e=aK (aD (h.nK g))∧w'=w:=by
 obtain⟨gp,ai,H⟩:=H.start;have c:=C (rG g H hk.len);cases a:h.linked g with
 |none=>
  have d:h.nK g=false:=by unfold ad.nK;rw[a]
  rw[rO a] at c;rw[d];go_enter func28,ntmps28;go_wp2_with fail;apply c.mono;rintro e f ⟨rfl,rfl⟩;go_wp2_with fail;go_ret;exact⟨rfl,rfl⟩
 |some x=>
  obtain⟨j,i⟩:=kt a;have d:h.nK g=x.stopped:=by unfold ad.nK;rw[a]
  rw[rP a] at c;have k:=(H.cp i).cell 8 (v:=aD x.stopped) rfl;rw[d];go_enter func28,ntmps28;go_wp2_with fail;apply c.mono;rintro e f ⟨rfl,rfl⟩;go_wp2_with fail;go_ret;exact⟨rfl,rfl⟩
theorem KC (S:Nat->Prop) (b:Nat) (h:ad) (g:Int) (n:Nat) (w:ab) (H:cO w S b h) (hk:h.Ok):Calls au 116 #[af (R ⟨b,0,U⟩),I J g,I ah (n:Int)] w (dv S b (I J (h.fL g n)) (h.bO g n) w):=by
 obtain⟨gp,ai,H⟩:=H.start;have p:=C (rG g H hk.len);have D:=C H;cases d:h.linked g with
 |none=>
  have k:h.fL g n=1:=by unfold ad.fL;rw[d]
  have l:h.bO g n=h:=by unfold ad.bO;rw[d]
  rw[rO d] at p;rw[k,l];go_enter func116,ntmps116;go_wp2_with fail;refine p.mono ?_;rintro e E ⟨rfl,rfl⟩;go_wp2_with fail;go_ret;exact D.hp _
 |some x=>
  rw[rP d] at p;obtain⟨M,o⟩:=kt d;by_cases t:n<2∨262144<n
  ·have k:h.fL g n=4:=(by unfold ad.fL;rw[d];dsimp only;rw[aj t]);have l:h.bO g n=h:=(by unfold ad.bO;rw[d];dsimp only;rw[aj t]);rw[k,l];by_cases ae:n<2;·have am:(n:Int)<2:=(by omega);go_enter func116,ntmps116;go_wp2_with fail;refine p.mono ?_;rintro e E ⟨rfl,rfl⟩;go_wp2_with fail;go_ret;exact D.hp _
   ·have am:¬(n:Int)<2:=(by omega);have ba:(262144:Int)<(n:Int):=(by omega);go_enter func116,ntmps116;go_wp2_with fail;refine p.mono ?_;rintro e E ⟨rfl,rfl⟩;go_wp2_with fail;go_ret;exact D.hp _
  ·have ae:¬(n:Int)<2:=(by omega);have av:¬(262144:Int)<(n:Int):=(by omega);have y:=C o;have z:=H.cp o;have T:=z.cell 7 (v:=aD x.on) rfl;cases s:x.on with
   |true=>rw[s] at T;obtain⟨a,j,ao⟩:=hk.g.up g x o M;have V:=(hk.g.mB o M).1;obtain⟨m,aN,bb,c⟩:=H.ty o hk.len;obtain⟨f,W,ap,aQ⟩:=H.ty j hk.len;have k:h.fL g n=a.q.fL (2*g+1) n:=(by unfold ad.fL;rw[d];dsimp only;rw[z0 t,aj s,j]);have l:h.bO g n=h.set x.up (R {a with q:=a.q.bO (2*g+1) n}):=(by unfold ad.bO;rw[d];dsimp only;rw[z0 t,aj s,j]);have aR:=z.cell 0 (v:=I J x.up) rfl;have u2:=(H.cp j).cell 2 (v:=af (R ⟨ai x.up,0,U⟩)) rfl;have F:=C ((H.drewN 1).BD (2*g+1) n j (hk.g.q _ a j));have N:(h.set x.up (R {a with q:=a.q.bO (2*g+1) n})).at x.up=R {a with q:=a.q.bO (2*g+1) n}:=(by rw[ad.dm j];exact eV _ _ _);have X:(h.set x.up (R {a with q:=a.q.bO (2*g+1) n})).at g=R x:=(by rw[ad.dm j];exact(gj _ (Ne.symm V)).trans o);rw[k,l];obtain⟨O,Y⟩:∃O,h.set x.up (R {a with q:=a.q.bO (2*g+1) n})=O:=⟨_,rfl⟩;have aS:O.gs.length=32:=(by rw[<-Y,ad.md];exact hk.len);rw[Y] at N X F⊢;obtain⟨Z,aa⟩:∃Z,x.up=Z:=⟨_,rfl⟩;rw[aa] at j W aQ aR u2 F N V;have aU:=C aa;have aq:=C N;have aP:=C X;have ag:=C aS;obtain⟨i,A⟩:∃i,a.q.fL (2*g+1) n=i:=⟨_,rfl⟩;rw[A] at F⊢;subst aN W;have bf:(0:Int)<=(f:Int):=(by omega);have ax:(f:Int)<32:=(by omega);have bc:(f:Int).toNat=f:=(by omega);go_enter func116,ntmps116;go_wp2_with fail;refine p.mono ?_;rintro e E ⟨rfl,rfl⟩;go_wp2_with fail;go_region_held3 (λW'=>W'.cell? ⟨gp m,0,U⟩=R (I J f)∧W'.cell? ⟨b,2+f,U⟩=R (af (R ⟨gp f,0,U⟩))∧W'.cell? ⟨gp f,2,U⟩=R (af (R ⟨ai f,0,U⟩))) ((refine⟨?_,?_,?_⟩)<;>(repeat(first|assumption|(with_reducible refine b2 ?_)))) (first|(go_at_call 135;refine(tn m (by omega) (by omega) _).mono ?_;rintro e bg ⟨rfl,rfl⟩)|(go_at_call 149;refine F.mono ?_;rintro e bj ⟨rfl,G⟩;have u:=C G;have aV:=(G.cp aP).cell 0 (v:=I J x.up) rfl;rw[aU.out] at aV;have aZ:=G.ptr (n:=f) ap;rw[j3 aq.out] at aZ;have an:=(G.cp aq).cell 2 (v:=af (R ⟨ai f,0,U⟩)) rfl));all_goals go_wp2_with fail;go_ret;exact u.hp _
   |false=>rw[s] at T;have k:h.fL g n=0:=(by unfold ad.fL;rw[d];dsimp only;rw[z0 t,s];rfl);have l:h.bO g n=h.set g (R {x with own:=x.own.bO n}):=(by unfold ad.bO;rw[d];dsimp only;rw[z0 t,s];rfl);have K:=hk.g.own g x o M;have aw:=z.cell 4 (v:=I ah x.own.wt) rfl;have bl:=z.cell 6 (v:=I ah x.own.rem) rfl;have ac:=C (oO x.own.rem n x.own.wt (by have:=K.2;omega) (by omega) (by have bo:x.own.rem*n<=262144*262144:=qx (by have:=K.2;omega) (by omega);omega) (by have:=K.2;omega));obtain⟨i,A⟩:∃i,x.own.rem*n/x.own.wt=i:=⟨_,rfl⟩;obtain⟨r,az⟩:∃r,x.own.rem*n%x.own.wt=r:=⟨_,rfl⟩;rw[A,az] at ac;have a6:=C A;rw[k,l];clear H hk d k l o z K A az s;go_enter func116,ntmps116;go_wp2_with fail;refine p.mono ?_;rintro e E ⟨rfl,rfl⟩;go_wp2_with fail;go_region_with (first|(go_at_call 102;refine(ac _).mono ?_;rintro e ak ⟨rfl,aB⟩;have u:=C (D.drew.below aB);have a7:=(u.cp y).cell 6 (v:=I ah x.own.rem) rfl;have a8:=(u.cp y).free 6;clear aB));all_goals go_upto_region 9 with fail;have B:=u.cells (G':={x with own:={x.own with rem:=i}}) y ((u.cp y).set 6 (I ah (i:Int))) (Mod.one _ (gp g) 6 _) rfl;obtain⟨P,Q⟩:∃P,ak.setCell ⟨gp g,6,U⟩ (I ah (i:Int))=P:=⟨_,rfl⟩;rw[Q] at B;rw[Q];have L:(h.set g (R {x with own:={x.own with rem:=i}})).at g=R {x with own:={x.own with rem:=i}}:=(by rw[ad.dm y.out];exact eV _ _ _);have bm:=(B.cp L).cell 4 (v:=I ah x.own.wt) rfl;have ay:=(B.cp L).free 4;have aA:=C B;have aG:=C L;clear Q B L a7 a8;go_wp2_with fail;go_ret;have aL:=aA.cells (G':={x with own:=x.own.bO n}) aG (by have:=(aA.cp aG).set 4 (I ah (n:Int));unfold aI.bO;rw[a6.out];exact this) (Mod.one P (gp g) 4 _) rfl;rw[ad.set_set] at aL;exact aL.hp _
section
open Go.Shelf
attribute [local go_sem] Oper.semAt_some
section
variable {b:Nat} {gp ai:Int->Nat} {bH X:Nat->Prop} {bn W W':ab} {h:ad}
theorem ca.KO (H:ca b gp ai bH X bn h W) (c:∀k,bH k->X k) (d:∀k,bH k->k<bn.heap.size) (f:bn.heap.size+2<=W.heap.size) {g:Int} (i:h.at g=R G) (j:G.q.Ok) (a:Int):Calls au 178 #[af (R ⟨ai g,0,U⟩),I J a] W λe w'=>e=aK (I J (G.q.pick a).cur)∧ca b gp ai bH X bn (h.set g (R {G with q:=G.q.pick a})) w'∧Mod (λk=>bH k∨bn.heap.size+2<=k) W w':=by obtain⟨T,l,m,n⟩:=H.q c d f i;exact(tp T (ai g) G.q a W l j).mono λe w' r=>⟨r.1,(n w' _ (r.2.1.mono λ_ _ q=>.inl q) r.2.2).1,r.2.2.mono (λk _ q=>m k q)⟩
theorem KP (H:ca b gp ai bH X bn h W) (i:∀k,bH k->X k) (j:∀k,bH k->k<bn.heap.size) (l:bn.heap.size+2<=W.heap.size) {g:Int} (m:h.at g=R G) (n:G.q.Ok) (c:Nat) (x:W.cell? ⟨c,0,U⟩=R (af (R ⟨b,0,U⟩))):Calls au 177 #[af (R ⟨ai g,0,U⟩),af (R ⟨c,0,U⟩)] W λe w'=>e=aK (I J (G.q.pick h.bG).cur)∧ca b gp ai bH X bn (h.set g (R {G with q:=G.q.pick h.bG})) w'∧Mod (λk=>bH k∨bn.heap.size+2<=k) W w':=by have o:=H.cs.cell 1 (tj h gp);have a:=C (H.KO i j l m n h.bG);obtain⟨d,p⟩:∃d,h.set g (R {G with q:=G.q.pick h.bG})=d:=⟨_,rfl⟩;obtain⟨u,r⟩:∃u,(G.q.pick h.bG).cur=u:=⟨_,rfl⟩;obtain⟨f,s⟩:∃f,h.bG=f:=⟨_,rfl⟩;rw[p,r] at a⊢;rw[s] at a o;go_enter func177,ntmps177;go_wp2_with fail;refine a.mono ?_;rintro e y ⟨rfl,t,v⟩;have w:=C (br t v);go_wp2_with fail;go_ret;exact⟨rfl,w⟩
end
structure nO (b:Nat) (gp ai:Int->Nat) (bH X:Nat->Prop) (bn:ab) (a1:eO) (res:ad×Int) (aq:ad) (g1:Int) (k:Nat) (G:aJ) (W:ab):Prop where
 aP:ca b gp ai bH X bn aq W
 ok:aq.Ok
 a1:aq.a1=a1
 at_:aq.at g1=R G
 deep:9<=G.deep+k
 res:ad.gO k aq g1=res
def lV (b:Nat) (gp ai:Int->Nat) (bH X:Nat->Prop) (bn:ab) (c:eO) (a:ad×Int) (V:List (Int×Int)->ab->Prop) (ag:List (Int×Int)) (W:ab):Prop:=V ag W∧((hG ag=true∧ca b gp ai bH X bn a.1 W∧(∃x∈ag.getLast?,x.2=a.2))∨(hG ag=false∧∃d k G,nO b gp ai bH X bn c a d (kD ag) k G W))
def rZ (b:Nat) (gp ai:Int->Nat) (bH X:Nat->Prop) (bn:ab) (c:eO) (a:ad×Int) (V:List (Int×Int)->ab->Prop) (ag:List (Int×Int)) (x:Int×Int) (W:ab):Prop:=V ag W∧x.2<128∧((fE x.2=true∧ca b gp ai bH X bn a.1 W∧x.2=a.2)∨(fE x.2=false∧∃d k G,nO b gp ai bH X bn c a d (x.2/2) k G W))
theorem nO.step {b:Nat} {gp ai:Int->Nat} {bH X:Nat->Prop} {bn W W':ab} {j:eO} {n:ad×Int} {a:ad} {g1:Int} {k:Nat} (h:nO b gp ai bH X bn j n a g1 k G W) (t:ca b gp ai bH X bn (a.set g1 (R {G with q:=G.q.pick a.bG})) W'):j g1=R (G.up,G.deep)∧0<=G.deep∧G.deep<=8∧(G.q.pick a.bG).cur<128∧((fE (G.q.pick a.bG).cur=true∧ca b gp ai bH X bn n.1 W'∧(G.q.pick a.bG).cur=n.2)∨(fE (G.q.pick a.bG).cur=false∧0<=(G.q.pick a.bG).cur∧(∃p,j ((G.q.pick a.bG).cur/2)=R p∧p.2=G.deep+1)∧∃l m D,nO b gp ai bH X bn j n l ((G.q.pick a.bG).cur/2) m D W')):=by
 have v:=h.ok.g.deep _ _ h.at_;have O:=h.deep;have w:=(h.ok.g.q _ _ h.at_).pick a.bG;have E:=h.ok.same h.at_ w (λk=>by rw[aC.ov]);have x:(a.set g1 (R {G with q:=G.q.pick a.bG})).a1=j:=(ad.jT (y:={G with q:=G.q.pick a.bG}) h.at_ rfl rfl).trans h.a1;have o:(G.q.pick a.bG).cur≠-1->∃e∈G.q.es,e.id=(G.q.pick a.bG).cur:=λr=>by have:=w.cur.resolve_left r;rw[aC.ov] at this;exact this
 obtain⟨m,rfl⟩:∃m,k=m+1:=⟨k-1,by omega⟩;have d:=h.res;unfold ad.gO at d;rw[h.at_] at d;dsimp only at d;generalize P:(G.q.pick a.bG).cur=u at d o⊢;refine⟨by rw[<-h.a1];exact ad.d_ h.at_,v.1,v.2,?_,?_⟩
 ·by_cases r:u=-1;·omega
  ·obtain⟨e,s,F⟩:=o r;rcases h.ok.g.ids _ _ h.at_ e s with⟨i,a,l,H⟩|⟨c,ar,a,l,_⟩;·omega
   ·have:=h.ok.g.lo _ _ l;omega
 ·cases f:fE u with
  |true=>unfold fE at f;simp only[ob,decide_eq_true_eq] at f;rw[aj f] at d;rw[<-d];exact .inl ⟨rfl,t,rfl⟩
  |false=>
   unfold fE at f;simp only[vb,decide_eq_false_iff_not] at f;rw[z0 (by rintro(q|q);exact f.1 q;exact f.2 q)] at d;obtain⟨e,s,F⟩:=o (by omega);rcases h.ok.g.ids _ _ h.at_ e s with⟨i,a,l,H⟩|⟨c,ar,Q,z,I,J,_⟩;·omega
   ·obtain⟨S,A,K⟩:=h.ok.g.up _ _ z I;rw[J,h.at_] at A;cases A;have L:u/2=c:=(by omega);have B:j c=R (ar.up,ar.deep):=(by rw[<-h.a1];exact ad.d_ z);obtain⟨C,M,N⟩:=ad.mG (show(a.set g1 (R {G with q:=G.q.pick a.bG})).a1 c=R (ar.up,ar.deep) by rw[x];exact B);have T:C.deep=ar.deep:=(Prod.mk.inj N).2.symm;rw[L] at d⊢;exact .inr ⟨rfl,by omega,⟨_,B,K⟩,_,m,C,t,E,x,M,by omega,d⟩
theorem KQ (n:Nat) (a3:3<=n) (b:Nat) (gp ai:Int->Nat) (bH X:Nat->Prop) (bn:ab) (h:eO) (j:ad×Int) (V:List (Int×Int)->ab->Prop) (l P Q z:Nat) (a:ab->Prop) (B:ab) (aA:∀k,bH k->X k) (aG:∀k,bH k->k<bn.heap.size) (aL:∀ag W,V ag W->W.cell? ⟨P,0,U⟩=R (af (R ⟨b,0,U⟩))∧W.cell? ⟨Q,0,U⟩=R (.func (.func 177) #[] #[af (R ⟨z,0,U⟩)])∧W.cell? ⟨z,0,U⟩=R (af (R ⟨b,0,U⟩))) (ae:∀ag W W',V ag W->Mod (λk=>bH k∨bn.heap.size+2<=k) W W'->V ag W') (h0:lV b gp ai bH X bn h j V [] B) (am:a B) (aN:∀A,a A->bn.heap.size+2<=A.heap.size) (aj:∀A S,a A->rF bn.heap.size A S->a S) (ap:∀T x W,rZ b gp ai bH X bn h j V T x W->a W->YieldAt Fence.wide (n-1) au l (lS ai x) W λe W'=>e=aK (aD true)∧lV b gp ai bH X bn h j V (T++[x]) W'∧a W'):CallsIn Fence.wide n au 133 #[.func (.yield l) #[] #[],af (R ⟨P,0,U⟩),af (R ⟨Q,0,U⟩)] B λe W'=>(∃v,e=aK v)∧∃ag,hG ag=true∧lV b gp ai bH X bn h j V ag W'∧a W':=by
 have aQ:=C aL;have ah:=C ae;have aR:=C ap;have aS:=C h0;have aU:=C am;have aV:=C aN;have aZ:=C aj;have D:=C (br aA aG);have a4:1<=n:=by omega
 have a5:Fence.wide.fn 177:=trivial;refine callsIn_of_wp func133 rfl trivial ?_ rfl;simp only[ntmps133,jJ,dX,hM,jN,jM,jG,jF,jK,jH,jc,gM];gi_wp2;gi_loopw [4] (λE wr=>∃ag,hG ag=false∧E=I J (kD ag)∧lV b gp ai bH X bn h j V ag wr∧a wr) (λE _=>(9-(match h (intOf E) with|none=>0|some p=>p.2)).toNat);case atStart=>exact⟨[],rfl,rfl,aS.out,aU.out⟩
 case round=>
  obtain⟨ag,a6,rfl,ak,Y⟩:=hrel;obtain⟨Z,a7⟩:=ak;obtain⟨bF,aO,a8⟩:=aQ.out _ _ Z;rcases a7 with⟨q,_⟩|⟨_,r,k,G,d⟩;·rw[a6] at q;cases q
  obtain⟨m,aa,a9,c⟩:=d.aP.ty d.at_ d.ok.len;have ba:=(d.aP.cp d.at_).cell 2 (v:=af (R ⟨ai (kD ag),0,U⟩)) rfl;have av:=aV.out _ Y;have F:=C (oY (n:=n-1) (KP d.aP D.out.1 D.out.2 av d.at_ (d.ok.g.q _ _ d.at_) z a8));obtain⟨g,aq⟩:=aW (kD ag);have aC:=C aq;have H:=C (λW' ao=>d.step (W':=W') ao);have bb:=C Z;have bf:=C Y;rw[aq] at F H aa c ba⊢;subst aa;have bI:(0:Int)<=(m:Int):=by omega
  have bL:(m:Int)<32:=by omega
  have bd:(m:Int).toNat=m:=by omega
  obtain⟨w,ax⟩:=aW (r.set m (R {G with q:=G.q.pick r.bG}));obtain⟨u,bc⟩:=aW ((G.q.pick r.bG).cur);rw[ax,bc] at F H;gi_wp2_with (gi_at_call 177;refine F.mono ?_;rintro e K ⟨rfl,bg,L⟩);have o:=H.out K bg;have ac:∀k,k=bn.heap.size∨k=bn.heap.size+1->¬(bH k∨bn.heap.size+2<=k):=λk e q=>by
   rcases q with q|q;·have:=D.out.2 k q;omega
   ·omega
  have bj:=aZ.out _ K bf.out ⟨L.block _ (by omega) (ac _ (.inl rfl)),L.block _ (by omega) (ac _ (.inr rfl))⟩;have an:=ah.out _ _ _ bb.out L
  obtain⟨fn,tmps,be,bN,az,aw⟩:=aR.out ag ((m:Int),u) K ⟨an,o.2.2.2.1,by
   rcases o.2.2.2.2 with q|q;·exact .inl q
   ·exact .inr ⟨q.1,q.2.2.2⟩⟩ bj
  simp only[lS] at az;have M:=C aw;have N:=C (br o.1 (br o.2.1 o.2.2.1));have bS:=o.2.2.2.1;have bl:=C (show(fE u=true)∨(fE u=false∧0<=u∧∃p,h (u/2)=R p∧p.2=G.deep+1) from by
   rcases o.2.2.2.2 with q|q;·exact .inl q.1
   ·exact .inr ⟨q.1,q.2.1,q.2.2.1⟩)
  rw[az];rcases bl.out with i|⟨i,y,p,bo,bm⟩
  ·have stop:∀f:ab,lV b gp ai bH X bn h j V (ag++[((m:Int),u)]) f->a f->∃ag,hG ag=true∧lV b gp ai bH X bn h j V ag f∧a f:=λf r w=>⟨_,by rw[mT];exact i,r,w⟩;have aB:=C stop;by_cases aM:u<0;·clear i;gi_wp2;refine M.mono ?_;rintro e f ⟨rfl,s,t⟩;have O:=C (aB.out f s t);gi_wp2;(try simp only[Exit.inBlock,Exit.then]);refine bodyPost_ret (results_none rfl _ _ _) rfl ?_;exact⟨⟨_,rfl⟩,O.out⟩
   ·have y:0<=u:=(by omega);have ay:u.tmod 2=0:=(by rw[qo y];unfold fE at i;simp only[ob,decide_eq_true_eq] at i;omega);gi_wp2;refine M.mono ?_;rintro e f ⟨rfl,s,t⟩;have O:=C (aB.out f s t);gi_wp2;(try simp only[Exit.inBlock,Exit.then]);refine bodyPost_ret (results_none rfl _ _ _) rfl ?_;exact⟨⟨_,rfl⟩,O.out⟩
  ·have bq:u%2=1:=(by unfold fE at i;simp only[vb,decide_eq_false_iff_not] at i;omega);have ay:u.tmod 2=1:=(by rw[qo y];exact bq);have bi:u.tdiv 2=u/2:=Int.tdiv_eq_ediv_of_nonneg y;have bT:IntKind.i64.wrap (u/2)=u/2:=IntWalk.i64_in _ (by omega);have bt:=C (br bo bm);have bw:=C i;gi_wp2;refine M.mono ?_;rintro e f ⟨rfl,s,t⟩;have a0:=C s;have bz:=C t;gi_wp2;go_roundw;case rel=>exact⟨ag++[((m:Int),u)],by rw[mT];exact bw.out,by rw[p7],a0.out,bz.out⟩
   case measure=>have w:=N.out.1;have aX:=N.out.2.2;have bX:=N.out.2.1;have a2:=bt.out;simp only[intOf];rw[w,a2.1];simp only;omega
end
section
open Go.Shelf
attribute [local go_sem] Oper.semAt_some
section
variable {b:Nat} {gp ai:Int->Nat} {bH X:Nat->Prop} {bn W W':ab} {a1:eO} {res:ad×Int} {aq:ad} {g1:Int} {k:Nat} {G:aJ}
theorem nO.stay (h:nO b gp ai bH X bn a1 res aq g1 k G W) {Z:Nat->Prop} (a:∀k,bH k->¬Z k) (c:∀k,bn.heap.size+2<=k->¬Z k) (d:∀k,k<bn.heap.size->Z k->X k) (e:Mod Z W W'):nO b gp ai bH X bn a1 res aq g1 k G W':=⟨h.aP.stay a c d e,h.ok,h.a1,h.at_,h.deep,h.res⟩
theorem lV.stay {V:List (Int×Int)->ab->Prop} {ag:List (Int×Int)} (h:lV b gp ai bH X bn a1 res V ag W) {Z:Nat->Prop} (d:∀k,bH k->¬Z k) (e:∀k,bn.heap.size+2<=k->¬Z k) (f:∀k,k<bn.heap.size->Z k->X k) (g:Mod Z W W') (i:V ag W->V ag W'):lV b gp ai bH X bn a1 res V ag W':=by
 obtain⟨j,l⟩:=h;refine⟨i j,?_⟩;rcases l with⟨aq,a,c⟩|⟨aq,a,k,G,c⟩;·exact .inl ⟨aq,a.stay d e f g,c⟩
 ·exact .inr ⟨aq,a,k,G,c.stay d e f g⟩
theorem rZ.stay {V:List (Int×Int)->ab->Prop} {ag:List (Int×Int)} {x:Int×Int} (h:rZ b gp ai bH X bn a1 res V ag x W) {Z:Nat->Prop} (d:∀k,bH k->¬Z k) (e:∀k,bn.heap.size+2<=k->¬Z k) (f:∀k,k<bn.heap.size->Z k->X k) (g:Mod Z W W') (i:V ag W->V ag W'):rZ b gp ai bH X bn a1 res V ag x W':=by
 obtain⟨j,l,m⟩:=h;refine⟨i j,l,?_⟩;rcases m with⟨aq,a,c⟩|⟨aq,a,k,G,c⟩;·exact .inl ⟨aq,a.stay d e f g,c⟩
 ·exact .inr ⟨aq,a,k,G,c.stay d e f g⟩
end
def nP (w:ab) (b:Nat) (ag:List (Int×Int)) (W:ab):Prop:=(W.cell? ⟨w.heap.size+1,0,U⟩=R (af (R ⟨b,0,U⟩))∧W.cell? ⟨w.heap.size+2,0,U⟩=R (.func (.func 177) #[] #[af (R ⟨w.heap.size,0,U⟩)])∧W.cell? ⟨w.heap.size,0,U⟩=R (af (R ⟨b,0,U⟩)))∧h1 ag<128
theorem nP.mod {b:Nat} {W W':ab} (h:nP w b ag W) (a:Mod Z W W') (c:∀k,w.heap.size<=k->k<=w.heap.size+2->¬Z k):nP w b ag W':=⟨⟨a.cell h.1.1 (j5 h.1.1) (c _ (by omega) (by omega)),a.cell h.1.2.1 (j5 h.1.2.1) (c _ (by omega) (by omega)),a.cell h.1.2.2 (j5 h.1.2.2) (c _ (by omega) (by omega))⟩,h.2⟩
theorem xD (S:Nat->Prop) (b:Nat) (h:ad) (w:ab) (H:cO w S b h) (hk:h.Ok):Calls au 120 #[af (R ⟨b,0,U⟩)] w (dv S b (I J h.l8) h.pick w):=by
 have aB:=C H.trim;obtain⟨d,y⟩:∃d,w.alloc (av #[af (R ⟨b,0,U⟩)] 90)=d:=⟨_,rfl⟩;have O:d.heap.size=w.heap.size+1:=by rw[<-y];simp
 have P:Below w.heap.size w d:=y▸bx _ _;have aA:d.cell? ⟨w.heap.size,0,U⟩=R (af (R ⟨b,0,U⟩)):=y▸dz.trans rfl;have aG:=C y;have o:=C (br O (br P aA));clear y O P;refine callsIn_wide (n:=10).1 ?_;refine callsIn_of_wp func120 rfl trivial ?_ rfl;simp only[ntmps120,jJ,dX,hM,jN,jM,jG,jF,jK,jH,jc,gM];have an:Fence.wide.fn 78:=trivial;have aw:Fence.wide.fn 77:=trivial;gi_wp2_with (gi_at_call 78;rw[aG.out];refine(tu _ b _ _ d).mono ?_;rintro e f ⟨rfl,Q⟩;have z:=C Q;clear Q);have aL:f.heap.size=w.heap.size+3:=by rw[z.out];simp;have:=o.out.1;omega
 have s:Below w.heap.size w f:=by rw[z.out];exact(o.out.2.1.alloc o.out.2.1.size _).alloc (by have:=o.out.2.1.size;simp;omega) _
 have ae:nP w b [] f:=by have aq:=o.out.1;have T:=(ak.new d #[af (R ⟨b,0,U⟩)] 90);have X:=(ak.new (d.alloc (av #[af (R ⟨b,0,U⟩)] 90)) #[.func (.func 177) #[] #[af (R ⟨w.heap.size,0,U⟩)]] 148);rw[show(d.alloc (av #[af (R ⟨b,0,U⟩)] 90)).heap.size=w.heap.size+2 by simp;omega] at X;rw[aq] at T;rw[z.out];exact⟨⟨(T.alloc _).cell 0 rfl,X.cell 0 rfl,fq _ (by simp;omega) (fq _ (by omega) o.out.2.2)⟩,by decide⟩
 have p:=C aL;have am:=C ae;obtain⟨gp,ai,aN,aj⟩:=aB.out;have ap:=C aj;obtain⟨bn,B⟩:∃bn,f.alloc (av #[I J (-1)] 3)=bn:=⟨_,rfl⟩;have aQ:bn.heap.size=w.heap.size+4:=by rw[<-B];simp;have:=p.out;omega
 have Y:Below f.heap.size f bn:=B▸bx _ _;have ah:Below w.heap.size w bn:=s.trans (Y.mono s.size);have q:=C (br aQ (br ah Y));have aR:=C B;have Z:lV b gp ai (λk=>S k∧k<w.heap.size) (λk=>(S k∧k<w.heap.size)∨k=f.heap.size) bn h.a1 (ad.gO 10 h 0) (nP w b) [] bn:=by obtain⟨r,D,bl,bo⟩:=hk.g.root;refine⟨am.out.mod (Mod.below (S:=λ_=>False) q.out.2.2) (λ_ _ _=>id),.inr ⟨rfl,h,10,r,⟨⟨Mod.refl _ _,aN,?_⟩,hk,rfl,D,by omega,rfl⟩⟩⟩;exact(ap.out.frame (Mod.below (S:=λ_=>False) q.out.2.1) (λ_ _=>id)).mono (λk _ a=>.inl a)
 have aS:=C Z;clear Z
 have aU:=C (BE ai d.heap.size (d.heap.size+1) f (lV b gp ai (λk=>S k∧k<w.heap.size) (λk=>(S k∧k<w.heap.size)∨k=f.heap.size) bn h.a1 (ad.gO 10 h 0) (nP w b)) (rZ b gp ai (λk=>S k∧k<w.heap.size) (λk=>(S k∧k<w.heap.size)∨k=f.heap.size) bn h.a1 (ad.gO 10 h 0) (nP w b)) (by have:=p.out;have:=o.out.1;omega) (by have:=p.out;have:=o.out.1;omega) (λag A E j m=>by have t:=p.out;have u:=q.out.1;exact j.stay (λk a e=>by have:=a.2;omega) (λk a e=>by omega) (λk a e=>.inr (by omega)) m (λc=>c.mod m (λk _ _ e=>by omega))) (λag x A E j m=>by have t:=p.out;have u:=q.out.1;exact j.stay (λk a e=>by have:=a.2;omega) (λk a e=>by omega) (λk a e=>.inr (by omega)) m (λc=>c.mod m (λk _ _ e=>by omega))) (λag A j=>by have:=j.1.2;omega) (λag x A j=>by
  obtain⟨c,aP,D⟩:=j;refine⟨⟨c.1,by rw[xk];exact aP⟩,?_⟩;rw[mT,p7];rcases D with⟨F,G,aV⟩|⟨F,G⟩;·exact .inl ⟨F,G,x,by rw[n4];rfl,aV⟩
  ·exact .inr ⟨F,G⟩) (by rw[aR.out];exact aS.out) (λV l aZ a6 a7 a8 s j aa ba=>by
  have t:=p.out;have u:=q.out.1;have ao:=o.out.1;refine(KQ 8 (by omega) b gp ai (λk=>S k∧k<w.heap.size) (λk=>(S k∧k<w.heap.size)∨k=f.heap.size) bn h.a1 (ad.gO 10 h 0) (λag W=>W.heap.size≥f.heap.size+1∧V ag W∧nP w b ag W) l d.heap.size (d.heap.size+1) w.heap.size aZ a6 (λk a=>.inl a) (λk a=>by have:=a.2;omega) (λag W c=>by rw[ao];exact c.2.2.1) (λag W W' c m=>⟨cA c.1 m.size,a7 ag W W' c.2.1 (m.block _ (by have:=c.1;omega) (λe=>by rcases e with e|e;have:=e.2;omega;omega)),c.2.2.mod m (λk bm ay e=>by rcases e with e|e;have:=e.2;omega;omega)⟩) ⟨⟨by have:=s _ aa;omega,j.1,j.2.1⟩,j.2.2⟩ aa (λA K=>by have:=s A K;omega) (λA E K ac=>a8 A E K (by rw[u] at ac;rw[t];exact ac)) ?_).mono ?_;·intro bb x W L M;exact(ba bb x W ⟨L.1.2.1,L.1.2.2,L.2⟩ M).mono (λe w' a=>⟨a.1,⟨⟨by have:=s _ a.2.2;omega,a.2.1.1,a.2.1.2.1⟩,a.2.1.2.2⟩,a.2.2⟩)
  ·rintro e W' ⟨c,ag,N,v,M⟩;exact⟨c,ag,N,⟨v.1.2.1,v.1.2.2,v.2⟩,M⟩))
 refine aU.out.mono ?_;rintro e bf ⟨ag,N,rfl,v⟩;have az:h1 ag=(ad.gO 10 h 0).2∧ca b gp ai (λk=>S k∧k<w.heap.size) (λk=>(S k∧k<w.heap.size)∨k=f.heap.size) bn (ad.gO 10 h 0).1 bf:=by
  rcases v.2 with⟨_,t,u⟩|⟨aq,_⟩;·exact⟨BI u,t⟩
  ·rw[N] at aq;cases aq
 have ax:=C az;clear az v;gi_wp2;go_ret;obtain⟨bc,m,bg,bj⟩:=ax.out;have t:=p.out;have u:=q.out.1;refine⟨by rw[bc];rfl,⟨gp,ai,bg,bj.mono (λk _ a=>?_)⟩,(Mod.below (S:=S) q.out.2.1).trans m (λi j e=>?_)⟩
 ·rcases a with a|a;·exact .inl a.1
  ·exact .inr (by omega)
 ·rcases e with e|e;·exact e.1
  ·omega
end
section
open Go.Shelf
attribute [local go_sem] Oper.semAt_some
theorem Cq {h:ad}:∀(k:Nat) (g a:Int),(h.cC k g).1.getLast?=R a->∃G,h.at a=R G
 |0,g,a,e=>by simp[ad.cC] at e
 |k+1,g,a,e=>by
  unfold ad.cC at e;cases b:h.at g with
  |none=>rw[b] at e;simp at e
  |some x=>
   rw[b] at e;dsimp only at e;split at e;·simp at e;exact⟨x,by rw[<-e];exact b⟩
   ·rw[List.getLast?_cons] at e;cases aP:(h.cC k (x.q.cur/2)).1.getLast? with
    |none=>rw[aP] at e;simp at e;exact⟨x,by rw[<-e];exact b⟩
    |some y=>rw[aP] at e;simp at e;subst e;exact Cq k _ _ aP
def o8 (ai:Int->Nat) (ag:List (Int×Int)):Value:=match ag.getLast? with|none=>af U|some x=>af (R ⟨ai x.1,0,U⟩)
theorem K5 (ai:Int->Nat) (ag:List (Int×Int)) (x:Int×Int):o8 ai (ag++[x])=af (R ⟨ai x.1,0,U⟩):=by unfold o8;rw[n4]
def o9 (n:Nat) (b:Nat) (h:ad) (ai:Int->Nat) (ag:List (Int×Int)) (W:ab):Prop:=(W.cell? ⟨n+1,0,U⟩=R (af (R ⟨b,0,U⟩))∧W.cell? ⟨n+2,0,U⟩=R (.func (.func 79) #[] #[]))∧ak W n #[o8 ai ag] 130∧(hG ag=true->(h.cC 10 0).1.getLast?=ag.getLast?.map (·.1))
theorem o9.mod {n b:Nat} {h:ad} {ai:Int->Nat} {ag:List (Int×Int)} {W W':ab} {Z:Nat->Prop} (hv:o9 n b h ai ag W) (a:Mod Z W W') (h0:¬Z n) (c:¬Z (n+1)) (d:¬Z (n+2)):o9 n b h ai ag W':=⟨⟨a.cell hv.1.1 (j5 hv.1.1) c,a.cell hv.1.2 (j5 hv.1.2) d⟩,hv.2.1.mod a h0,hv.2.2⟩
def mq (h:ad) (a:ad) (g1:Int) (k:Nat):Prop:=a=h∧(h.cC k g1).1.getLast?=(h.cC 10 0).1.getLast?∧((h.cC k g1).1=[]->False)
theorem K6 {c:Fence} {P:Program} {al:Ending->ab->Prop} {s:Code} {d:Act->ab->Prop} {a:Act} (h:s.wpIn c n P (Exit.then d (bodyPost P fn (λ_ _=>False))) a w):s.wpIn c n P (Exit.then d (bodyPostM c n P fn al)) a w:=by
 refine wpIn_mono h ?_;intro e g w' b;cases e with
 |normal=>exact b
 |exit id=>exact b.elim
 |goto l=>exact b.elim
 |ret=>obtain⟨_,_,_,f⟩:=b;exact f.elim
 |panic i=>exact b.2.elim
 |outgrown=>exact b.elim
theorem Cr {h:ad} {k:Nat} {g:Int} (b:h.at g=R G) (hk:1<=k):(h.cC k g).1≠[]:=by obtain⟨a,rfl⟩:∃a,k=a+1:=⟨k-1,by omega⟩;unfold ad.cC;rw[b];dsimp only;split<;>simp
theorem mq.fin {e f:Nat->Prop} {i:ab} {h j:ad} {l:ad×Int} {g1:Int} {k:Nat} (a:wl b gp ai e f i h.a1 (λh _=>h) (mq h) l j g1 k G W) (c:fE G.q.cur=true):(h.cC 10 0).1.getLast?=R g1:=by obtain⟨rfl,m,_⟩:=a.q;have n:=a.deep;have o:=a.ok.g.deep _ _ a.at_;obtain⟨d,rfl⟩:∃d,k=d+1:=⟨k-1,by omega⟩;rw[<-m];unfold ad.cC;rw[a.at_];dsimp only;unfold fE at c;simp only[ob,decide_eq_true_eq] at c;rw[aj c];rfl
theorem mq.next {b:Nat} {gp ai:Int->Nat} {l m:Nat->Prop} {n W:ab} {h e:ad} {o:ad×Int} {g1:Int} {k:Nat} {G:aJ} (a:wl b gp ai l m n h.a1 (λh _=>h) (mq h) o e g1 k G W) (d:Nat) (r:k=d+1) (c:fE G.q.cur=false):mq h e (G.q.cur/2) d:=by
 obtain⟨_,_,p,s,t⟩:=a.next.2.2.2.2 c;obtain⟨u,v,_⟩:=a.q;subst u;subst r;have w:=a.deep;obtain⟨ar,i,rfl⟩:=ad.mG s;have x:=a.ok.g.deep _ _ i;dsimp only at t;have j:=Cr (k:=d) i (by omega);refine⟨rfl,?_,j⟩;rw[<-v];unfold fE at c;simp only[vb,decide_eq_false_iff_not] at c;conv=>rhs;unfold ad.cC
 rw[a.at_];dsimp only;rw[z0 (by rintro(f|f);exact c.1 f;exact c.2 f)];dsimp only;rw[List.getLast?_cons];cases aP:(e.cC d (G.q.cur/2)).1.getLast? with
 |none=>exact absurd (List.getLast?_eq_none_iff.1 aP) j
 |some y=>rfl
theorem Cs (S:Nat->Prop) (b:Nat) (h:ad) (w:ab) (H:cO w S b h) (hk:h.Ok):Calls au 106 #[af (R ⟨b,0,U⟩)] w (dv S b (I J h.yielded) h.yield w):=by
 have aK:=C H.trim;have Y:=C (oY (n:=9) (xm S b h w H hk));obtain⟨r,Q⟩:∃r,h.running=r:=⟨_,rfl⟩;rw[Q] at Y;by_cases K:r=-1
 ·have t:h.yielded=h.l8:=by unfold ad.yielded;rw[Q,aj K]
  have y:h.yield=h.pick:=by unfold ad.yield;rw[Q,aj K]
  rw[t,y];have bF:=C (λa (aV:Below w.heap.size w a)=>oY (n:=9) (xD S b h a (H.next aV) hk));subst K;refine callsIn_wide (n:=10).1 ?_;refine callsIn_of_wp_marks func106 rfl trivial ?_ rfl;simp only[ntmps106,jJ,dX,hM,jN,jM,jG,jF,jK,jH,jc,gM];have aO:Fence.wide.fn 38:=trivial;have a9:Fence.wide.fn 120:=trivial;gi_wp2_with (gi_at_call 38;refine Y.out.mono ?_;rintro e a ⟨rfl,aa⟩;have s:=C aa);refine(bF.out a s.out).mono ?_;rintro e c ⟨rfl,bI,d⟩;have aZ:=C (br bI d);gi_wp2;exact⟨_,results_tmp rfl _ _ _,rfl,aZ.out.1.mono (λk _ q=>q.elim .inl (λq=>.inr (cA s.out.size q))),(Mod.below (S:=S) s.out).trans aZ.out.2 (λ_ _ q=>q)⟩
 ·obtain⟨aq,a6⟩:∃aq,h.yielded=aq:=⟨_,rfl⟩;obtain⟨ac,a7⟩:∃ac,h.yield=ac:=⟨_,rfl⟩;have bL:∀g x,(h.cC 10 0).1.getLast?=R g->h.at g=R x->aq=(h.set g (R {x with q:=x.q.yield h.bG})).l8∧ac=(h.set g (R {x with q:=x.q.yield h.bG})).pick:=by intro g x t y;rw[<-a6,<-a7];unfold ad.yielded ad.yield;rw[Q,z0 K,z0 K,t];dsimp only;rw[y];exact⟨rfl,rfl⟩
  rw[a6,a7];have bd:=C bL;refine callsIn_wide (n:=10).1 ?_;refine callsIn_of_wp_marks func106 rfl trivial ?_ rfl;simp only[ntmps106,jJ,dX,hM,jN,jM,jG,jF,jK,jH,jc,gM];have aO:Fence.wide.fn 38:=trivial;have ar:Fence.wide.fn 78:=trivial;have a9:Fence.wide.fn 120:=trivial;have a_:Fence.wide.fn 154:=trivial;gi_wp2_with (gi_at_call 38;refine Y.out.mono ?_;rintro e a ⟨rfl,aa⟩;have s:=C aa);obtain⟨f,T⟩:∃f,a.alloc (av #[af U] 130)=f:=⟨_,rfl⟩;rw[T];have az:f.heap.size=a.heap.size+1:=by rw[<-T];simp
  have a8:Below a.heap.size a f:=T▸bx _ _;have ba:ak f a.heap.size #[af U] 130:=T▸ak.new a _ _;refine(tu 9 b _ _ f).mono ?_;rintro e c ⟨rfl,V⟩;have ao:c.heap.size=a.heap.size+3:=by rw[V];simp;omega
  have be:Below a.heap.size a c:=by rw[V];exact(a8.alloc (by omega) _).alloc (by simp;omega) _
  have bb:∀ai,o9 a.heap.size b h ai [] c:=by intro ai;have t:=(ak.new f #[af (R ⟨b,0,U⟩)] 90);have y:=(ak.new (f.alloc (av #[af (R ⟨b,0,U⟩)] 90)) #[.func (.func 79) #[] #[]] 148);rw[show(f.alloc (av #[af (R ⟨b,0,U⟩)] 90)).heap.size=a.heap.size+2 by simp;omega] at y;rw[az] at t;rw[V];exact⟨⟨(t.alloc _).cell 0 rfl,y.cell 0 rfl⟩,(ba.alloc _).alloc _,λq=>by cases q⟩
  have z:=C ao;have bN:=C bb;have bS:=C az;clear V ao bb a8 ba az;gi_wp2;obtain⟨gp,ai,aM,bf⟩:=aK.out;have bi:=C bf;clear bf;have ax:=C (s.out.trans (be.mono s.out.size));have D:=C s.out.size;refine xh rfl (by omega) (gf:=133) (lb:=#[af (R ⟨f.heap.size,0,U⟩),af (R ⟨f.heap.size+1,0,U⟩)]) rfl trivial (enters_of func133 (by kernel_rfl) rfl) (encs:=lS ai) (λ_=>rfl) (kE b gp ai (λk=>S k∧k<w.heap.size) (λk=>k=a.heap.size) c h.a1 (λh _=>h) (mq h) (h,(h.cC 10 0).2) (o9 a.heap.size b h ai)) (oX b gp ai (λk=>S k∧k<w.heap.size) (λk=>k=a.heap.size) c h.a1 (λh _=>h) (mq h) (h,(h.cC 10 0).2) (o9 a.heap.size b h ai)) (λag=>hG ag=true) ?hI ?hI' ?h0 ?hiter (λx=>{tmps:=#[af (R ⟨b,0,U⟩),undef,I J 0,af (R ⟨a.heap.size,0,U⟩),af (R ⟨ai x.1,0,U⟩),af (R ⟨b,0,U⟩),I J r,aD true,af (R ⟨b,0,U⟩),.func (.func 133) #[] #[af (R ⟨f.heap.size,0,U⟩),af (R ⟨f.heap.size+1,0,U⟩)],af (R ⟨ai x.1,0,U⟩),I J x.2,undef,undef,undef,undef,undef,undef,undef,undef,undef],defers:=[]}) ?assign ?body ?done;case hI=>intro ag A bT j d;have E:=D.out;have p:=z.out;exact j.stay (λk q e=>by have:=q.2;omega) (λk q e=>by omega) (λk q e=>by omega) d (λm=>m.mod d (by omega) (by omega) (by omega))
  case hI'=>intro ag x A bT j d;have E:=D.out;have p:=z.out;exact j.stay (λk q e=>by have:=q.2;omega) (λk q e=>by omega) (λk q e=>by omega) d (λm=>m.mod d (by omega) (by omega) (by omega))
  case h0=>obtain⟨aX,bc,cW,c8⟩:=hk.g.root;refine⟨bN.out ai,.inr ⟨rfl,h,10,aX,⟨⟨Mod.refl _ _,aM,?_⟩,hk,rfl,bc,by omega,BH 10 h 0,rfl,rfl,Cr bc (by omega)⟩⟩⟩;exact(bi.out.frame (Mod.below (S:=λ_=>False) ax.out) (λ_ _=>id)).mono (λk _ q=>.inl q)
  case hiter=>intro l B bX c_ bV aV b1 al b3;have E:=D.out;have p:=z.out;have b6:=bS.out;exact xj 9 (by omega) b gp ai (λk=>S k∧k<w.heap.size) (λk=>k=a.heap.size) c h.a1 (λh _=>h) (mq h) (h,(h.cC 10 0).2) (o9 a.heap.size b h ai) l f.heap.size (f.heap.size+1) B bX (λk q=>by have:=q.2;omega) (λag W m=>by rw[b6];exact m.1) b1 al bV b3
  case assign=>intro l x W da aB;simp only[lS];gi_wp2;exact aB
  case body=>
   rintro l bR ⟨g,x⟩ W ⟨m,bs,b9,E,k,G,o,bg⟩ aY;clear bs b9;have aI:=m.2.1.cell 0 (v:=o8 ai bR) rfl;have cZ:=m.2.1.free 0;have bv:=C o;have L:=C m;have bj:=C bg;clear m o bg;gi_wp2;have de:=D.out;have p:=z.out;have bh:=aY;have d:=Mod.one W a.heap.size 0 (af (R ⟨ai g,0,U⟩));have o:=bv.out.stay (W':=W.setCell ⟨a.heap.size,0,U⟩ (af (R ⟨ai g,0,U⟩))) (Z:=λk=>k=a.heap.size) (λk q e=>by have:=q.2;omega) (λk q e=>by omega) (λk q e=>e) d;refine⟨⟨d.block _ (by omega) (by omega),d.block _ (by omega) (by omega)⟩,⟨⟨d.cell L.out.1.1 (j5 L.out.1.1) (by omega),d.cell L.out.1.2 (j5 L.out.1.2) (by omega)⟩,?_,?_⟩,?_⟩;·rw[K5];exact L.out.2.1.set 0 _
   ·intro X;rw[mT] at X;have aA:G.q.cur=x:=bj.out;dsimp only at X;rw[<-aA] at X;rw[n4];exact mq.fin o X
   ·have an:=o.step rfl o.aP o.ok o.a1 (mq.next o);rw[mT,p7];have aA:G.q.cur=x:=bj.out;rw[aA] at an;rcases an with⟨aG,aL,cc⟩|⟨aG,cf,cg,aL⟩;·exact .inl ⟨aG,aL,(g,x),by rw[n4];rfl,cc⟩
    ·exact .inr ⟨aG,_,cf,cg,aL⟩
  case done=>
   rintro ag W M j aB;have cj:ca b gp ai (λk=>S k∧k<w.heap.size) (λk=>k=a.heap.size) c h W:=by
    rcases j.2 with⟨_,F,p⟩|⟨E,_⟩;·exact F
    ·rw[M] at E;cases E
   obtain⟨g,u,aw⟩:∃g u,ag.getLast?=R (g,u):=by
    unfold hG at M;cases aP:ag.getLast? with
    |none=>rw[aP] at M;cases M
    |some x=>exact⟨x.1,x.2,rfl⟩
   have bl:(h.cC 10 0).1.getLast?=R g:=(by rw[j.1.2.2 M,aw];rfl);obtain⟨G,N⟩:=Cq _ _ _ bl;have cm:=j.1.2.1.cell 0 (v:=o8 ai ag) rfl;rw[show o8 ai ag=af (R ⟨ai g,0,U⟩) by unfold o8;rw[aw]] at cm;obtain⟨d,cn,b8⟩:=cj;have bo:bB W (λk=>(S k∧k<w.heap.size)∨c.heap.size+2<=k) b gp ai h W:=⟨Mod.refl _ _,cn,b8.mono (λk _ q=>.inl q)⟩;have cr:=bo.cs.cell 1 (tj h gp);have ae:=C (bd.out g G bl N);have am:=C (oY (n:=9) (bo.drew.Jx h.bG N (hk.g.q g G N)));have bm:=hk.same N ((hk.g.q g G N).yield h.bG) (λk=>by rw[aC.qO]);obtain⟨F,bW⟩:∃F,h.set g (R {G with q:=G.q.yield h.bG})=F:=⟨_,rfl⟩;rw[bW] at ae am bm;have aN:=C aB;obtain⟨ay,cu⟩:∃ay,h.bG=ay:=⟨_,rfl⟩;rw[cu] at am cr;have df:prog.follows .mixedOrders=true:=(by kernel_rfl);gi_wp2;refine K6 ?_;gi_region_with_o (gi_at_call 154;refine am.out.mono ?_;rintro e ap ⟨rfl,cB⟩;have cG:=C cB);all_goals
    obtain⟨bq,aQ⟩:=cG.out.done;have p:=z.out;have ah:=D.out;have O:=iZ.1 aN.out
    have bt:ap.heap[c.heap.size]?=R (.deferred (R [])):=(aQ.block _ O.1 (λe=>by
     rcases e with e|e;·have:=e.2;omega
     ·omega)).trans aN.out
    have cJ:=C (oY (n:=9) (xD _ b F ap bq bm));have bw:=C bt;clear bq bt O p ah;gi_wp2;refine cJ.out.mono ?_;rintro e P ⟨rfl,a0,aR⟩;have p:=z.out;have ah:=D.out;have O:=(iZ.1 bw.out).1;have bk:=(iZ.1 aN.out).1;have aS:¬cS (cS (λk=>(S k∧k<w.heap.size)∨c.heap.size+2<=k) W) ap c.heap.size:=λe=>by
     rcases e with(e|e)|e
     ·rcases e with e|e;·have:=e.2;omega
      ·omega
     ·omega
     ·omega
    have bz:¬cS (λk=>(S k∧k<w.heap.size)∨c.heap.size+2<=k) W c.heap.size:=λe=>aS (.inl e);have a2:P.heap[c.heap.size]?=R (.deferred (R [])):=(aR.block _ O bz).trans bw.out;have b_:=C a2;have aU:Mod (λk=>k=c.heap.size) P (P.putObj c.heap.size (.deferred U)):=⟨rfl,rfl,rfl,by simp,λk hk cq=>qq cq⟩;have a3:=a0.frame aU (λk q e=>aS (e▸q));have a4:Mod S w (P.putObj c.heap.size (.deferred U)):=by
     refine((((Mod.below (S:=S) ax.out).trans d (λi j e=>by omega)).trans aQ (λi j e=>?_)).trans aR (λi j e=>?_)).trans aU (λi j e=>by omega)
     ·rcases e with e|e;·exact e.1
      ·omega
     ·rcases e with e|e
      ·rcases e with e|e;·exact e.1
       ·omega
      ·omega
    have a5:cO (P.putObj c.heap.size (.deferred U)) (cS S w) b F.pick:=a3.mono (λk _ q=>by
     rcases q with(q|q)|q
     ·rcases q with q|q;·exact .inl q.1
      ·exact .inr (by omega)
     ·exact .inr (by omega)
     ·have:=aQ.size;exact .inr (by omega))
    have cM:=C (br a5 a4);clear p ah O bk aS bz a2 aU a3 a4 a5 a0 aR;gi_wp2;refine⟨by simp,.inl ⟨_,_,rfl,run_takeDeferred b_.out,?_⟩⟩;refine⟨_,results_tmp rfl _ _ _,?_⟩;rw[ae.out.1,ae.out.2];exact⟨rfl,cM.out⟩
end
theorem C4 {h h':ad} {gp gp':Int->Nat} (j:g<32) (l:h'.ch=h.ch) (m:h'.bG=h.bG) (e:∀k:Nat,k<32->k≠g->gq h' gp' k=gq h gp k):ek h' gp'=(ek h gp).setIfInBounds (2+g) (gq h' gp' g):=by
 apply Array.ext;·simp[xg]
 ·intro i d q;rw[xg] at d;have f:∀(a:ad) (p:Int->Nat),∀b,(ek a p)[i]'b=((ek a p)[i]?).getD undef:=λa p b=>by rw[Array.getElem?_eq_getElem b];rfl
  rw[f h' gp'];rw[Array.getElem_setIfInBounds (by rw[xg];exact d)];by_cases c:2+g=i;·rw[aj c,<-c,rE h' gp' j];rfl
  ·rw[z0 c,f h gp];by_cases n:i=0;·subst n;rw[xf,xf,l]
   ·by_cases o:i=1;·subst o;rw[tj,tj,m]
    ·obtain⟨k,rfl⟩:∃k,i=2+k:=⟨i-2,by omega⟩;rw[rE h' gp' (by omega),rE h gp (by omega),e k (by omega) (by omega)]
section
variable {w W:ab} {S:Nat->Prop} {b:Nat} {h:ad} {gp ai:Int->Nat} {tag:Nat->Int}
theorem ad.C5 {h:ad} (a:h.gs.length=32) (b:g<32) (x:Option aJ):(h.set g x).at=cL h.at g x:=by funext k;rw[ad.qM (by omega) (by rw[a];omega)];rfl
theorem ms.add (H:ms w S b h gp ai tag) (x:h.gs.length=32) (r:g<32) (C:h.at g=U) (s:Below w.heap.size w W) {qb:Nat} (y:w.heap.size<=p) (z:ak W p (iy G qb) 132) (A:et W (λk=>w.heap.size<=k∧k≠p) qb G.q):ms (W.setCell ⟨b,2+g,U⟩ (af (R ⟨p,0,U⟩))) (cS S w) b (h.set g (R G)) (λk=>if k=g then p else gp k) (λk=>if k=g then qb else ai k) (λk=>if k<w.heap.size then tag k else if k=p then-2-(g:Int) else g):=by
 have j:=ad.C5 x r (R G);have B:=H.cs.lt;have t:Mod (λk=>k=b) w (W.setCell ⟨b,2+g,U⟩ (af (R ⟨p,0,U⟩))):=(Mod.below (S:=λk=>k=b) s).setCell (show b=b from rfl) _;have u:Mod (λk=>k=b) W (W.setCell ⟨b,2+g,U⟩ (af (R ⟨p,0,U⟩))):=Mod.one _ _ _ _;refine⟨?_,⟨.inl H.b.1,by rw[aj B];exact H.b.2⟩,?_,?_⟩
 ·rw[C4 (h:=h) (h':=h.set g (R G)) (gp:=gp) (gp':=λk=>if k=g then p else gp k) r rfl rfl (λk d D=>?_)];·rw[show gq (h.set g (R G)) (λk=>if k=g then p else gp k) g=af (R ⟨p,0,U⟩) by unfold gq;rw[j,eV];simp];exact(H.cs.next s).set (2+g) _
  ·have v:(k:Int)≠g:=(by omega);unfold gq;rw[j,gj _ v];simp only[z0 v]
 ·intro k l d;rw[j] at d;rcases hy d with⟨rfl,e⟩|⟨n,e⟩;·cases e;rw[aj rfl,aj rfl];refine⟨z.mod u (λe=>by omega),.inr y,?_⟩;rw[z0 (by omega),aj rfl]
  ·rw[z0 n,z0 n];have f:=H.g k l e;refine⟨f.1.mod t (λm=>by have o:=f.2.2;rw[m,H.b.2] at o;have:=(ad.dk e).1;omega),.inl f.2.1,?_⟩;rw[aj f.1.lt];exact f.2.2
 ·intro k l d;rw[j] at d;rcases hy d with⟨rfl,e⟩|⟨n,e⟩;·cases e;rw[aj rfl];refine(A.frame u (λi c e=>by have:=c.1;omega)).mono (λi c a=>⟨.inr a.1,?_⟩);rw[z0 (by have:=a.1;omega),z0 a.2]
  ·rw[z0 n];refine(((H.q k l e).mono (T:=λi=>(S i∧tag i=k)∧i<w.heap.size) (λi c a=>⟨a,c⟩)).frame t (λi c m=>by have o:=c.1.2;rw[m,H.b.2] at o;have:=(ad.dk e).1;omega)).mono (λi c a=>⟨.inl a.1.1,?_⟩);rw[aj a.2];exact a.1.2
theorem ms.take (H:ms w S b h gp ai tag) (p:h.gs.length=32) (n:g<32):ms (w.setCell ⟨b,2+g,U⟩ (af U)) S b (h.set g U) gp ai tag:=by
 have f:=ad.C5 p n U;have o:Mod (λk=>k=b) w (w.setCell ⟨b,2+g,U⟩ (af U)):=Mod.one _ _ _ _;have d:∀k a,(h.set g U).at k=R a->h.at k=R a:=λk a c=>by
  rw[f] at c;rcases hy c with⟨_,e⟩|⟨_,e⟩;·cases e
  ·exact e
 refine⟨?_,H.b,?_,?_⟩
 ·rw[C4 (h:=h) (h':=h.set g U) (gp:=gp) (gp':=gp) n rfl rfl (λk c s=>?_)];·rw[show gq (h.set g U) gp g=af U by unfold gq;rw[f,eV];rfl];exact H.cs.set (2+g) _
  ·unfold gq;rw[f,gj _ (by omega)]
 ·intro k a c;have j:=H.g k a (d k a c);exact⟨j.1.mod o (λl=>by have m:=j.2.2;rw[l,H.b.2] at m;have:=(ad.dk (d k a c)).1;omega),j.2⟩
 ·intro k a c;exact(H.q k a (d k a c)).frame o (λi r l=>by have m:=r.2;rw[l,H.b.2] at m;have:=(ad.dk (d k a c)).1;omega)
end
theorem Mc (S:Nat->Prop) (b:Nat) (h:ad) (g parent:Int) (w:ab) (D:cO w S b h) (hk:h.Ok):Calls au 87 #[af (R ⟨b,0,U⟩),I J g,I J parent] w (dv S b (I J (h.gx g parent)) (h.link g parent) w):=by
 obtain⟨gp,ai,r⟩:=D.start;obtain⟨ac,az,tag,N⟩:=D;have j:=C (oT parent r hk.len);have l:=C r;have o:h.gx g parent≠0->h.link g parent=h:=λe=>by unfold ad.link;rw[z0 e]
 cases hp:h.at parent with
 |none=>
  have a:h.gx g parent=1:=by unfold ad.gx;rw[hp]
  rw[wd hp] at j;rw[o (by rw[a];decide),a];by_cases E:g<1;·go_enter func87,ntmps87;go_wp2_with fail;refine j.mono ?_;rintro e d ⟨rfl,rfl⟩;go_wp2_with fail;go_ret;exact l.hp _
  ·by_cases F:32<=g;all_goals go_enter func87,ntmps87;go_wp2_with fail;refine j.mono ?_;rintro e d ⟨rfl,rfl⟩;go_wp2_with fail;go_ret;exact l.hp _
 |some up=>
  rw[j3 hp] at j;by_cases E:g<1;·have a:h.gx g parent=1:=(by unfold ad.gx;rw[hp];dsimp only;rw[aj (.inl E)]);rw[o (by rw[a];decide),a];go_enter func87,ntmps87;go_wp2_with fail;refine j.mono ?_;rintro e d ⟨rfl,rfl⟩;go_wp2_with fail;go_ret;exact l.hp _
  by_cases F:32<=g;·have a:h.gx g parent=1:=(by unfold ad.gx;rw[hp];dsimp only;rw[aj (.inr F)]);rw[o (by rw[a];decide),a];go_enter func87,ntmps87;go_wp2_with fail;refine j.mono ?_;rintro e d ⟨rfl,rfl⟩;go_wp2_with fail;go_ret;exact l.hp _
  obtain⟨n,rfl⟩:∃n:Nat,g=n:=⟨g.toNat,by omega⟩;have t:n<32:=by omega
  have c:=r.ptr t;cases m:h.at n with
  |some G=>have a:h.gx n parent=6:=(by unfold ad.gx;rw[hp];dsimp only;rw[z0 (by omega),m];rfl);rw[o (by rw[a];decide),a];rw[j3 m] at c;go_enter func87,ntmps87;go_wp2_with fail;refine j.mono ?_;rintro e d ⟨rfl,rfl⟩;go_wp2_with fail;go_ret;exact l.hp _
  |none=>
   rw[wd m] at c;have H:=(r.cp hp).cell 1 (v:=I J up.deep) rfl;by_cases u:up.deep=8;·have a:h.gx n parent=5:=(by unfold ad.gx;rw[hp];dsimp only;rw[z0 (by omega),m,z0 (by simp),aj u]);rw[o (by rw[a];decide),a];rw[u] at H;go_enter func87,ntmps87;go_wp2_with fail;refine j.mono ?_;rintro e d ⟨rfl,rfl⟩;go_wp2_with fail;go_ret;exact l.hp _
   ·have a:h.gx n parent=0:=(by unfold ad.gx;rw[hp];dsimp only;rw[z0 (by omega),m,z0 (by simp),z0 u]);have O:h.link n parent=h.set n (R (jR n parent (up.deep+1))):=(by unfold ad.link;rw[aj a,hp]);have aB:=hk.g.deep _ _ hp;have P:=C hp;have K:=C m;have Q:=C hk.len;have y:=C N;rw[a,O];go_enter func87,ntmps87;go_wp2_with fail;refine j.mono ?_;rintro e d ⟨rfl,rfl⟩;go_wp2_with fail;have aA:(0:Int)<=(n:Int):=(by omega);have aG:(n:Int).toNat=n:=(by omega);have V:=y.out.cs.lt;have aL:IntKind.i64.wrap (up.deep+1)=up.deep+1:=IntWalk.i64_in _ (by omega);go_region_with (first|(go_at_call 82;refine(Bb _).mono ?_;rintro e s ⟨qb,rfl,W,z⟩;have A:=C (l.drew.below z);have X:=C W;have B:=C z;have L:b<s.heap.size:=dd V z.size;have H:=(A.cp P.out).cell 1 (v:=I J up.deep) rfl;have c:=A.ptr t;rw[wd K.out] at c;have f:=A.cs.free (2+n);have ae:=fq (av (iy (jR n parent (up.deep+1)) qb) 132) L c)|(go_at_call 135;refine(tn n (by omega) (by omega) _).mono ?_;rintro e q ⟨rfl,rfl⟩));all_goals go_wp2_with fail;go_ret;obtain⟨s,Y⟩:∃s,q=s:=⟨_,rfl⟩;subst Y;have Z:Below d.heap.size d (q.alloc (av (iy (jR n parent (up.deep+1)) qb) 132)):=((Mod.below (S:=λ_=>False) (x:=d.drew) B.out).jm.alloc _).toBelow;have M:=ms.add y.out Q.out t K.out Z (p:=q.heap.size) (qb:=qb) (G:=jR n parent (up.deep+1)) B.out.size (ak.new _ _ _) ((X.out.mono (T:=λk=>d.heap.size<=k∧k≠q.heap.size) (λk hk aa=>⟨aa,by omega⟩)).next (bx _ _));rw[World.setCell_alloc_past _ _ _ _ L] at M;refine⟨rfl,⟨_,_,_,M⟩,?_⟩;have aq:=((Mod.below (S:=S) (x:=d.drew) B.out).jm.setCell (i:=2+n) y.b.1 (af (R ⟨q.heap.size,0,U⟩))).alloc (av (iy (jR n parent (up.deep+1)) qb) 132);exact aq
def pr (h:ad) (gp:Int->Nat):List Value:=(gi 32).map λi:Nat=>gq h gp i
theorem x4 (h:ad) (gp:Int->Nat):(pr h gp).length=32:=by simp[pr]
theorem x5 (h:ad) (gp:Int->Nat) (a:i<32):(pr h gp)[i]?=R (gq h gp i):=by simp[pr,a]
theorem bB.range {d:ab} {h:ad} (H:bB d S b gp ai h w):w.rangeAt b 2 (pr h gp):=λj v a=>by have c:=(bD.1 a).1;rw[x4] at c;rw[x5 h gp c] at a;rw[<-Option.some.inj a];exact H.ptr c
theorem ad.C6 {h:ad} (j:h.gs.length=32) (g:Int):h.gs.any (λy=>match y with|none=>false|some y=>decide (y.up=g))=true↔∃(k:Nat) (a:aJ),k<32∧h.at k=R a∧a.up=g:=by
 rw[n_];constructor;·rintro⟨y,b,e⟩;cases y with
  |none=>simp at e
  |some a=>obtain⟨i,c,d⟩:=u_.1 b;refine⟨i,a,by omega,?_,by simpa using e⟩;unfold ad.at;rw[z0 (by omega),dy];simp[c,d]
 ·rintro⟨k,a,l,f,e⟩;exact⟨R a,ea (ad.dk f).2.2,by simpa using e⟩
theorem cO.take {w:ab} {S:Nat->Prop} {b:Nat} {h:ad} (H:cO w S b h) (a:h.gs.length=32) {g:Nat} (c:g<32):cO (w.setCell ⟨b,2+g,U⟩ (af U)) S b (h.set g U):=by obtain⟨gp,ai,d,H⟩:=H;exact⟨gp,ai,d,H.take a c⟩
theorem Md (S:Nat->Prop) (b:Nat) (h:ad) (g:Int) (w:ab) (N:cO w S b h) (hk:h.Ok):Calls au 89 #[af (R ⟨b,0,U⟩),I J g] w (dv S b (I J (h.jh g)) (h.unlink g) w):=by
 obtain⟨gp,ai,m⟩:=N.start;have A:=C (rG g m hk.len);have B:=C m;have ac:h.jh g≠0->h.unlink g=h:=λe=>by unfold ad.unlink;rw[z0 e]
 cases p:h.linked g with
 |none=>
  have D:h.jh g=1:=by unfold ad.jh;rw[p]
  rw[rO p] at A;rw[ac (by rw[D];decide),D];go_enter func89,ntmps89;go_wp2_with fail;refine A.mono ?_;rintro e E ⟨rfl,rfl⟩;go_wp2_with fail;go_ret;exact B.hp _
 |some x=>
  rw[rP p] at A;obtain⟨a8,j⟩:=kt p;have D:h.jh g=if h.gs.any (λy=>match y with|none=>false|some y=>decide (y.up=g)) then 6 else if x.q.es.isEmpty then 0 else 6:=by unfold ad.jh;rw[p];rfl
  have az:=C D;have ah:=C j;have O:=C hk.len;have aB:=C ac;have aA:=C m.range;have aR:=C (λw' (aS:Below w.heap.size w w')=>(m.below aS).rK j (hk.g.q g x j));obtain⟨r,aG⟩:=aW (h.jh g);obtain⟨P,aL⟩:=aW (h.unlink g);have f:=C (br aG aL);rw[aG,aL];have ba:=(ad.dk j).1;have aU:=(ad.dk j).2.1;rw[hk.len] at aU;obtain⟨n,rfl⟩:∃n:Nat,g=n:=⟨g.toNat,by omega⟩;have Q:n<32:=by omega
  have c:=m.ptr Q;rw[j3 j] at c;have av:=(m.cp j).cell 2 (v:=af (R ⟨ai n,0,U⟩)) rfl;have T:=C (x4 h gp);have ae:=C (λi (am:i<32)=>x5 h gp am);generalize ao:pr h gp=L at aA T ae;go_enter func89,ntmps89;go_wp2_with fail;refine A.mono ?_;rintro e E ⟨rfl,rfl⟩;go_wp2_with ((refine wpList_load_mid rfl _ _ rfl b 2 rfl L _ aA underlying160 rfl (by rw[T.out];kernel_rfl) ?_));go_loop [17] (λV=>∃i:Nat,i<=32∧V=I J (i:Int)∧∀(k:Nat) (a:aJ),k<i->h.at k=R a->a.up≠n) (λV=>32-(intOf V).toNat);case atStart=>exact⟨0,by omega,rfl,λk a hk=>by omega⟩
  case round=>
   obtain⟨i,am,rfl,aP⟩:=hrel;have W:=C aP;by_cases F:i<32;·have bb:(i:Int)<32:=(by omega);have G:=ae i F;have ag:=T.out;have bf:(0:Int)<=(i:Int):=(by omega);have ax:(i:Int).toNat=i:=(by omega);cases s:h.at i with
    |none=>
     rw[wd s] at G;have aV:=tR L i _ F G E;have H:=C s;go_wp2_with fail;go_round;case rel=>
      refine⟨i+1,by omega,by go_num,λk a hk d=>?_⟩;by_cases e:k=i;·subst e;rw[H.out] at d;cases d
      ·exact W k a (by omega) d
     case measure=>simp[intOf];omega
    |some a=>
     rw[j3 s] at G;have aV:=tR L i _ F G E;have aZ:=(B.cp s).cell 0 (v:=I J a.up) rfl;have H:=C s;by_cases K:a.up=n;·have t:=(ad.C6 O n).2 ⟨i,a,F,H,K⟩;have o:r=6:=(by rw[<-f.out.1,az.out,aj t]);have M:P=h:=(by rw[<-f.out.2];exact aB (by rw[f.out.1,o];decide));rw[K] at aZ;have u:=C (br o M);clear t o M K;go_wp2_with fail;go_ret;rw[u.out.1,u.out.2];exact B.hp _
     ·go_wp2_with fail;go_round;case rel=>
       refine⟨i+1,by omega,by go_num,λk a6 hk d=>?_⟩;by_cases e:k=i;·subst e;rw[H.out] at d;cases d;exact K
       ·exact W k a6 (by omega) d
      case measure=>simp[intOf];omega
   ·obtain rfl:i=32:=by omega
    have t:¬h.gs.any (λy=>match y with|none=>false|some y=>decide (y.up=(n:Int)))=true:=λX=>by obtain⟨k,a,hk,d,e⟩:=(ad.C6 O n).1 X;exact W k a hk d e
    have aN:r=if x.q.es.isEmpty then 0 else 6:=(by rw[<-f.out.1,az.out,z0 t]);have u:=C aN;clear t aN;go_wp2_with fail;refine(aR E (Below.refl _ _)).mono ?_;rintro e bc ⟨bg,rfl,ap,Y⟩;obtain⟨bj,an,rfl⟩:=ap.mV;have Z:=C (B.below Y);clear ap;cases aa:x.q.es with
    |nil=>have aq:r=0:=(by rw[u.out,aa];rfl);have aQ:P=h.set n U:=(by rw[<-f.out.2];unfold ad.unlink;rw[aj (by rw[f.out.1,aq])]);have ak:=Z.ptr Q;rw[j3 ah.out] at ak;have aw:=Z.cs.free (2+n);have z:=C (br aq aQ);clear aq aQ aa;rw[hM];go_wp2_with fail;go_ret;rw[z.out.1,z.out.2];have a7:=(N.next Y).take O Q;exact⟨rfl,a7.mono (λk _ X=>.inl X),(Mod.below (S:=S) Y).setCell N.own.1 _⟩
    |cons y l=>have o:r=6:=(by rw[u.out,aa];rfl);have M:P=h:=(by rw[<-f.out.2];exact aB (by rw[f.out.1,o];decide));have z:=C (br o M);rw[dX];go_wp2_with fail;go_ret;rw[z.out.1,z.out.2];exact Z.hp _
section
variable {ao w w':ab} {S:Nat->Prop} {b:Nat} {h:ad} {gp ai:Int->Nat}
theorem C7 (g top:Int) {s:Int} (H:bB ao S b gp ai h w) (t:h.gs.length=32) (hk:cX h.at s) (u:h.at g=R G):Calls au 140 #[af (R ⟨b,0,U⟩),I J g,I J top] w λe w'=>e=aK (aD (h.c1 g top))∧w'=w:=by
 generalize x:h.c1 g top=r;have l:=C H;have y:=C t;have i:=C hk;have o:=C u;have z:=C x;go_enter func140,ntmps140;go_wp2_with fail;go_loopg [1] 10 (λA v wr=>∃(n:Nat) (k:Int),A=n∧v=I J k∧(k=-1∨∃f,h.at k=R f∧f.deep<n)∧h.under n k top=r∧w=wr);case atStart=>exact⟨10,g,rfl,rfl,.inr ⟨G,o,by have:=(i.deep g G o).2;omega⟩,z,rfl⟩
 case round=>
  obtain⟨n,k,B,rfl,D,a,rfl⟩:=hrel;have E:=C B;rcases D with rfl|⟨f,d,p⟩
  ·have F:r=false:=by
    rw[<-a];cases n with
    |zero=>rfl
    |succ n=>unfold ad.under;rw[aj rfl]
   subst F;go_wp2;go_ret;exact⟨rfl,rfl⟩
  ·have K:=(i.deep k f d).1;cases n with
   |zero=>omega
   |succ n=>
    have O:=(ad.dk d).1;unfold ad.under at a;rw[z0 (by omega)] at a;by_cases j:k=top;·rw[aj j] at a;subst a j;clear d p K;go_wp2;go_ret;exact⟨rfl,rfl⟩
    ·rw[z0 j,d] at a;dsimp only at a;obtain⟨m,rfl,P,c⟩:=l.ty d y;have Q:=(l.cp d).cell 0 (v:=I J f.up) rfl;have L:=C a;have q:=C d;go_wp2;go_roundg n;case measure=>have:=E.out;omega
     case rel=>
      refine⟨n,f.up,rfl,rfl,?_,L,rfl⟩;by_cases e:(m:Int)=0;·exact .inl ((i.ny q).2 e)
      ·obtain⟨M,N,T⟩:=i.out.up _ _ q.out e;have:=p;exact .inr ⟨M,N,by omega⟩
end
def pt (a b:Int):ad:=⟨a,b,gY 32 U⟩
theorem yk (a b k:Int):(pt a b).at k=U:=by
 cases e:(pt a b).at k with
 |none=>rfl
 |some G=>have:=(ad.dk e).2.2;unfold pt at this;rw[yw] at this;split at this<;>simp at this
theorem yl (a b:Int):ek (pt a b) (λ_=>0)=(I J a::I J b::gY 32 (af U)).toArray:=by unfold ek;congr 3
theorem NH (d h:Int) (w:ab):Calls au 44 #[I J d,I J h] w λe w'=>∃b,e=aK (af (R ⟨b,0,U⟩))∧cO w' (λk=>w.heap.size<=k) b (h0 d h)∧Below w.heap.size w w':=by have A:=C (yl d h);obtain⟨V,n⟩:∃V,w.alloc (av (ek (pt d h) (λ_=>0)) 162)=V:=⟨_,rfl⟩;have s:Below w.heap.size w V:=n▸bx _ _;have j:ak V w.heap.size (ek (pt d h) (λ_=>0)) 162:=n▸ak.new w _ _;have t:=C n;have o:=C (show ms V (λk=>k=w.heap.size) w.heap.size (pt d h) (λ_=>0) (λ_=>0) (λ_=>-1) from⟨j,⟨rfl,rfl⟩,(λg G e=>by rw[yk] at e;cases e),(λg G e=>by rw[yk] at e;cases e)⟩);have B:=C s;have L:=j.cell 2 (v:=af U) (by rw[yl];rfl);have M:=j.free 2;have D:=j.lt;clear n s j;rw[yl] at t;go_enter func44,ntmps44;go_upto_region 2 with fail;have q:=t.out;simp only[gY] at q;rw[q];clear q;go_region_with (first|(go_at_call 82;refine(Bb _).mono ?_;rintro e l ⟨qb,rfl,u,m⟩;have E:=C u;have r:=C m;have y:w.heap.size<l.heap.size:=dd D m.size;have c:=(ak.next (w:=V.drew) o.cs m).cell 2 (v:=af U) (by rw[A.out];rfl);have f:=(ak.next (w:=V.drew) o.cs m).free 2;have N:=fq (av (iy iL qb) 132) y c;clear u m));all_goals
 go_wp2_with fail;go_ret;have F:Below V.heap.size V (l.alloc (av (iy iL qb) 132)):=((Mod.below (S:=λ_=>False) (x:=V.drew) r.out).jm.alloc _).toBelow;have z:=ms.add o.out rfl (g:=0) (by omega) (yk _ _ _) F (p:=l.heap.size) (qb:=qb) (G:=iL) r.size (ak.new _ _ _) ((E.mono (T:=λk=>V.heap.size<=k∧k≠l.heap.size) (λk O a=>⟨a,by omega⟩)).next (bx _ _));rw[World.setCell_alloc_past _ _ _ _ y] at z;have H:cO _ _ w.heap.size (h0 d h):=⟨_,_,_,z⟩;refine⟨w.heap.size,rfl,H.mono (λk _ a=>?_),?_⟩
 ·rcases a with a|a;·show w.heap.size<=k;have:k=w.heap.size:=a;omega
  ·show w.heap.size<=k;omega
 ·have K:=(((Mod.below (S:=λ_=>False) B.out).trans (Mod.below (S:=λ_=>False) (x:=V.drew) r.out).jm (λ_ _ a=>a)).fw (b:=w.heap.size) (i:=2) (bK _) (af (R ⟨l.heap.size,0,U⟩))).alloc (av (iy iL qb) 132);exact K.toBelow
end Go.Proofs.YtddbkdjcjoofpaaGreatDoor
