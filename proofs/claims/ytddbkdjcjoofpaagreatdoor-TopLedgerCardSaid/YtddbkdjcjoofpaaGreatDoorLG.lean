import Derived.Test.YtddbkdjcjoofpaaGreatDoorLA
import Derived.Test.YtddbkdjcjoofpaaGreatDoorLC
import Derived.Test.YtddbkdjcjoofpaaGreatDoorLD
import Derived.Test.YtddbkdjcjoofpaaGreatDoorLE
import Derived.Test.YtddbkdjcjoofpaaGreatDoorLF
namespace Go.Proofs.YtddbkdjcjoofpaaGreatDoor
set_option linter.unusedVariables false
set_option linter.unusedSimpArgs false
set_option maxRecDepth 100000
set_option maxHeartbeats 20000000
open _root_.Go.Proofs.Tryz Go.RowKit
open Go renaming World→ab
open _root_.Go.Proofs.Tryz renaming prog→au
open Option renaming none→U,some→R
open _root_.Go.Value renaming int→I,pointer→af,slice→aA,bool→aE,agg→bm,tuple→bD
open _root_.Go.IntKind renaming i64→J,u64→ah,wrap_u64→nT
open _root_.Go.Obj renaming cells→av
open _root_.Go.Ending renaming returned→aK
open _root_.Nat renaming le_refl→bM,le_trans→cJ,lt_of_lt_of_le→dm,mul_le_mul_right→o5,zero_le→hq,lt_of_le_of_lt→o6,mul_le_mul→qc,reduceSub→jG,reduceAdd→jH
open _root_.Array renaming getElem?_eq_some_iff→iQ,replicate_zero→jA,replicate_succ→jB
open _root_.Go.World renaming cell?_of_block→lH,cell?_setCell_other→jz,putObj_heap_other→p5
open _root_.Go renaming World→ab
open _root_.List renaming getElem?_eq_getElem→b6,getElem?_map→dP,length_eq_zero_iff→nM,drop_eq_getElem_cons→o3,getElem?_eq_some_iff→bE,length_cons→dY,length_append→eZ,getElem?_append_right→gC,getElem?_append_left→iR,take_of_length_le→ub,mem_map→e0,cons_append→gQ,mem_iff_getElem?→mm,getD_eq_getElem?_getD→dD,getElem?_toArray→ff,mem_of_getElem?→ea,length_map→ep,map_append→h4,append_assoc→h2,nodup_cons→iT,mem_cons_self→ey,mem_cons_of_mem→gD,getElem?_set_self→cZ,getElem?_set_ne→dK,range→gh,foldl_cons→nV,mem_range→o9,getElem?_eq_none→ho,length_set→ef,getElem?_zipIdx→nR,range_succ→nU,length_nil→hJ,nil_append→iU,append_toArray→jC,size_toArray→jE,push_toArray→jF,take_length→h3,length_take→ix,ext_getElem?→p9,take_add_one→gE,append_nil→qa,getLast?_concat→nQ,getElem?_range→uh,length_singleton→nP,foldl_append→r2,length_reverse→ug
open _root_.Bool renaming eq_iff_iff→hK,and_eq_true→iy,false_eq_true→jD,not_eq_true'→r3
open _root_.And renaming intro→bx
open _root_.Int renaming toNat_natCast→cd,le_refl→hL,eq_ofNat_of_zero_le→dW
open _root_.Option renaming isSome_iff_exists→gP,map_eq_some_iff→h1,map_some→iS,toList_some→lI
variable {b n g i j c B m:Nat} {S:Nat->Prop} {w w':ab} {v:Value} {a:Option Addr} {k x:Key} {l:List Int} {e:aI} {r:T}
def jh (w:ab) (m:Nat) (f:Int->Int):Prop:=∃g n,ej w m g n∧∀k,(g k).getD (I J 0)=I J (f k)
structure fJ (w:ab) (S:Nat->Prop) (b:Nat) (B:fF):Prop where e:∃mt qZ,ak w b #[.map (R mt),.map (R qZ),I J B.total] 118∧jh w mt B.tasks∧jh w qZ B.groups∧S b∧S mt∧S qZ∧b≠mt∧b≠qZ∧mt≠qZ
section
variable {w w':ab} {m b:Nat} {f:Int->Int} {S:Nat->Prop} {B:fF}
theorem jh.mod {T:Nat->Prop} (h:jh w m f) (a:Mod T w w') (b:¬T m):jh w' m f:=by obtain⟨g,n,h,e⟩:=h;exact⟨g,n,h.mod a b,e⟩
theorem jh.lt (h:jh w m f):m<w.heap.size:=by obtain⟨g,n,h,_⟩:=h;exact h.lt
theorem jh.look (h:jh w m f) (k:Int):(Instr.lookup 116 (.map (R m)) (I J k) false).run au w= .ok (I J (f k)) w:=by obtain⟨g,n,h,e⟩:=h;rw[h.look underlying116 underlying3 (z:=.int .i64 0) (by kernel_rfl) k,e]
theorem jh.put (h:jh w m f) (k v:Int):∃a,(Instr.mapUpdate 116 (.map (R m)) (I J k) (I J v)).run au w= .ok () (ed w m a)∧jh (ed w m a) m (λi=>if i=k then v else f i):=by
 obtain⟨g,n,h,e⟩:=h;obtain⟨a,c,d⟩:=h.put underlying116 underlying3 k (.int .i64 v);refine⟨a,c,_,_,d,λi=>?_⟩;show(nx g k (I J v) i).getD (I J 0)=I J (if i=k then v else f i);unfold nx;by_cases b:i=k;·rw[aj b,aj b];rfl
 ·rw[z0 b,z0 b,e]
theorem fJ.mod {T:Nat->Prop} (H:fJ w S b B) (a:Mod T w w') (d:∀k,S k->¬T k):fJ w' S b B:=by obtain⟨i,j,c,l,m,f,g,h,r⟩:=H.e;exact⟨i,j,c.mod a (d _ f),l.mod a (d _ g),m.mod a (d _ h),f,g,h,r⟩
theorem fJ.next (H:fJ w S b B) (a:Below w.heap.size w w'):fJ w' S b B:=H.mod (Mod.below (S:=λ_=>False) a) (λ_ _=>id)
theorem fJ.mono {T:Nat->Prop} (H:fJ w S b B) (h:∀k,k<w.heap.size->S k->T k):fJ w T b B:=by obtain⟨f,g,c,a,d,i,j,l,r⟩:=H.e;exact⟨f,g,c,a,d,h _ c.lt i,h _ a.lt j,h _ d.lt l,r⟩
theorem HY (n:Int) (H:fJ w S b B):Calls au 22 #[af (R ⟨b,0,U⟩),I J n] w λe w'=>e=aK (I J (B.tasks n))∧w'=w:=by obtain⟨f,l,c,a,g,h,i,j,r⟩:=H.e;have m:=c.cell 0 (v:=.map (R f)) rfl;have k:=a.look n;obtain⟨x,d⟩:∃x,B.tasks n=x:=⟨_,rfl⟩;rw[d] at k⊢;clear H a g h i j r c d;go_enter func22,ntmps22;go_wp2;go_ret;exact⟨rfl,rfl⟩
theorem HZ (n:Int) (H:fJ w S b B):Calls au 23 #[af (R ⟨b,0,U⟩),I J n] w λe w'=>e=aK (I J (B.groups n))∧w'=w:=by obtain⟨l,f,c,g,a,h,i,j,r⟩:=H.e;have m:=c.cell 1 (v:=.map (R f)) rfl;have k:=a.look n;obtain⟨x,d⟩:∃x,B.groups n=x:=⟨_,rfl⟩;rw[d] at k⊢;clear H g a h i j r c d;go_enter func23,ntmps23;go_wp2;go_ret;exact⟨rfl,rfl⟩
end
theorem H0 (S:Nat->Prop) (w:ab):Calls au 41 #[] w λe w'=>∃b,e=aK (af (R ⟨b,0,U⟩))∧fJ w' (c6 S w) b fF.new∧Below w.heap.size w w':=by
 have j:=@run_makeMap au;go_enter func41,ntmps41;go_wp2;go_ret;have d:Below w.heap.size w (((w.alloc (.map #[] 0)).alloc (.map #[] 0)).alloc (av #[.map (R w.heap.size),.map (R (w.heap.size+1)),I J 0] 118)):=((bz w _).alloc (by simp) _).alloc (by simp;omega) _;have f:=(ej.new w).next (bz (w.alloc (.map #[] 0)) (.map #[] 0));have g:=f.next (bz ((w.alloc (.map #[] 0)).alloc (.map #[] 0)) (av #[.map (R w.heap.size),.map (R (w.heap.size+1)),I J 0] 118));have a:=(ej.new (w.alloc (.map #[] 0))).next (bz ((w.alloc (.map #[] 0)).alloc (.map #[] 0)) (av #[.map (R w.heap.size),.map (R (w.heap.size+1)),I J 0] 118));have h:(w.alloc (.map #[] 0)).heap.size=w.heap.size+1:=by simp
 have i:((w.alloc (.map #[] 0)).alloc (.map #[] 0)).heap.size=w.heap.size+1+1:=by simp
 rw[h] at a;have c:=ak.new ((w.alloc (.map #[] 0)).alloc (.map #[] 0)) #[.map (R w.heap.size),.map (R (w.heap.size+1)),I J 0] 118;rw[i] at c;refine⟨w.heap.size+1+1,by simp,⟨w.heap.size,w.heap.size+1,c,⟨_,_,g,λk=>rfl⟩,⟨_,_,a,λk=>rfl⟩,.inr (by omega),.inr (bM _),.inr (by omega),by omega,by omega,by omega⟩,d⟩
variable {p cap o:Nat} {Z:Nat->Prop} {u:Value} {t:ex} {G:aL} {f:Int->Option aL} {ag:List (Int×Int)} {s:bt (aG×Int)} {L:List ByteArray}
structure bu where
 b:Nat
 eF:Nat
 km:Nat
 fc:Nat
 tk:Nat->Nat
 gk:Nat->Nat
 bd:Nat->Nat
 ln:Nat->Nat
 hk:Nat->Nat
 ck:Nat->Nat
 tv:Value
 gv:Value
 hv:Value
 cv:Value
inductive Part
 |no|top|fx|eX|fY|gm|tree|pool|book
 |task (n:Nat)|ax (n:Nat)|band (n:Nat)|line (n:Nat)|a1 (p:Nat)|gM (p:Nat) deriving DecidableEq
def aY (b:Nat):Value:=af (R ⟨b,0,U⟩)
def c8:Option Nat->Value
 |none=>af U
 |some b=>aY b
def dr:cm (Option Nat):=⟨1,λo=>[c8 o],λ_=>rfl,λo u h=>by simp at h;subst h;cases o<;>rfl,by decide⟩
def hf (L:bu) (s:aa):List (Option Nat):=(gh s.tasks.length).map λn=>R (L.tk n)
def fL (L:bu) (s:aa):List (Option Nat):=s.groups.zipIdx.map λx=>if x.1.there then R (L.gk x.2) else U
def hS (L:bu) (s:aa):List (Option Nat):=(gh s.hiers.length).map λn=>R (L.hk n)
def hT (L:bu) (s:aa):List (Option Nat):=(gh s.clocks.length).map λn=>R (L.ck n)
def cY (L:bu) (s:aa):Array Value:=([I J s.c.aR,I J s.c.tick,I J s.c.bI,I J s.c.b4,I ah s.c.hC,aY L.eF,aY L.km,L.tv,L.gv]++s.places.map (λo=>c8 (o.map L.gk))++s.at_.map (I J)++[L.hv,L.cv,aY L.fc]).toArray
def kM (L:bu) (t:ex):Array Value:=#[I J t.h.idx,I J t.h.gen,aE t.dead,aE t.on,I J t.p,aY (L.gk t.g),I J t.nice,I ah t.w,I ah t.mask,I J t.e.id,I ah t.e.wt,I J t.e.v,I ah t.e.rem,I J t.mn]
def hg (L:bu) (n:Nat) (G:cc):Array Value:=#[I J n,I J G.h.idx,I J G.h.gen,I ah G.shares,I J G.quota,c8 (G.band.map λ_=>L.bd n),c8 (G.line.map λ_=>L.ln n)]
def dJ (w:ab) (T:Nat->Prop) (E:TypeId) (v:Value) (l:List (Option Nat)):Prop:=Own dr w 0 E v l.length l∧∀g,v.ownBlock=R g->T g
def fZ (w:ab) (T:Nat->Prop) (L:bu) (s:aa):Part->Prop
 | .no=>True
 | .top=>ak w L.b (cY L s) 72∧T L.b
 | .fx=>dJ w T 73 L.tv (hf L s)
 | .eX=>dJ w T 65 L.gv (fL L s)
 | .fY=>dJ w T 90 L.hv (hS L s)
 | .gm=>dJ w T 109 L.cv (hT L s)
 | .tree=>cX w T L.eF s.tree
 | .pool=>gL w T L.km 64 s.pool
 | .book=>fJ w T L.fc s.book
 | .task n=>∀t,s.tasks[n]?=R t->ak w (L.tk n) (kM L t) 81∧T (L.tk n)
 | .ax n=>∀G,s.groups[n]?=R G->ak w (L.gk n) (hg L n G) 85∧T (L.gk n)
 | .band n=>∀G B,s.groups[n]?=R G->G.band=R B->cx w (L.bd n) B∧T (L.bd n)
 | .line n=>∀G l,s.groups[n]?=R G->G.line=R l->gI w (L.ln n) l∧T (L.ln n)
 | .a1 p=>∀h,s.hiers[p]?=R h->cQ w T (L.hk p) h
 | .gM p=>∀c,s.clocks[p]?=R c->dt w (L.ck p) c∧T (L.ck p)
section
variable {w w':ab} {T s6 Z S:Nat->Prop} {L:bu} {s:aa} {E:TypeId} {v:Value} {l:List (Option Nat)}
theorem gI.mod {ag:List Int} (h:gI w b ag) (d:Mod Z w w') (g:¬Z b):gI w' b ag:=by obtain⟨r,f,n,h,e⟩:=h;have c:=d.block b h.lt g;have k:=d.size;have:=h.lt;exact⟨r,f,n,⟨by omega,h.f64,h.n64,λj i=>(lH (a:=⟨b,j,U⟩) c).trans (h.ring j i),(lH (a:=⟨b,64,U⟩) c).trans h.from_,(lH (a:=⟨b,65,U⟩) c).trans h.mN,λj=>(World.frozen?_of_block (a:=⟨b,j,U⟩) c).trans (h.free j)⟩,e⟩
theorem dJ.frame (h:dJ w T E v l) (d:Mod Z w w') (f:∀k,T k->¬Z k) (i:∀k,k<w.heap.size->T k->s6 k):dJ w' s6 E v l:=by
 obtain⟨a,b⟩:=h;refine⟨?_,λg e=>i g (a.lt g e).2 (b g e)⟩;refine⟨a.1,?_⟩;rcases a.2 with j|⟨g,cap,m,rfl,n,c,o⟩;·exact .inl j
 ·exact .inr ⟨g,cap,m,rfl,n,(d.block g (iQ.1 c).1 (f g (b g rfl))).trans c,o⟩
theorem fZ.frame {q:Part} (h:fZ w T L s q) (a:Mod Z w w') (b:∀k,T k->¬Z k) (c:∀k,k<w.heap.size->T k->s6 k):fZ w' s6 L s q:=by
 cases q with
 |no=>trivial
 |top=>exact⟨h.1.mod a (b _ h.2),c _ h.1.lt h.2⟩
 |fx=>exact dJ.frame h a b c
 |eX=>exact dJ.frame h a b c
 |fY=>exact dJ.frame h a b c
 |gm=>exact dJ.frame h a b c
 |tree=>exact cX.mono (cX.frame (cX.mono h (T:=λk=>T k∧k<w.heap.size) (λk d q=>⟨q,d⟩)) a (λk q=>b k q.1)) (λk _ q=>c k q.2 q.1)
 |pool=>exact gL.mono (gL.frame (gL.mono h (T:=λk=>T k∧k<w.heap.size) (λk d q=>⟨q,d⟩)) a (λk q=>b k q.1)) (λk _ q=>c k q.2 q.1)
 |book=>exact fJ.mono (fJ.mod (fJ.mono h (T:=λk=>T k∧k<w.heap.size) (λk d q=>⟨q,d⟩)) a (λk q=>b k q.1)) (λk _ q=>c k q.2 q.1)
 |task n=>exactλt e=>⟨(h t e).1.mod a (b _ (h t e).2),c _ (h t e).1.lt (h t e).2⟩
 |ax n=>exactλt e=>⟨(h t e).1.mod a (b _ (h t e).2),c _ (h t e).1.lt (h t e).2⟩
 |band n=>exactλG B e f=>⟨(h G B e f).1.mod a (b _ (h G B e f).2),c _ (h G B e f).1.cs.lt (h G B e f).2⟩
 |line n=>exactλG B e f=>⟨(h G B e f).1.mod a (b _ (h G B e f).2),c _ (h G B e f).1.lt (h G B e f).2⟩
 |a1 p=>exactλx e=>cQ.mono (cQ.frame (cQ.mono (h x e) (T:=λk=>T k∧k<w.heap.size) (λk d q=>⟨q,d⟩)) a (λk q=>b k q.1)) (λk _ q=>c k q.2 q.1)
 |gM p=>exactλt e=>⟨(h t e).1.mod a (b _ (h t e).2),c _ (h t e).1.cs.lt (h t e).2⟩
end
structure hU (w:ab) (S:Nat->Prop) (L:bu) (s:aa) (tag:Nat->Part):Prop where
 part:∀q,fZ w (λk=>tag k=q) L s q
 own:∀k,k<w.heap.size->tag k≠ .no->S k
def fT (w:ab) (tag:Nat->Part) (q:Part) (k:Nat):Part:=if k<w.heap.size then tag k else q
section
variable {w w':ab} {S:Nat->Prop} {L:bu} {s:aa} {tag:Nat->Part}
theorem hU.others (H:hU w S L s tag) {q:Part} (a:Mod (λk=>tag k=q) w w') {r:Part} (b:r≠q):fZ w' (λk=>fT w tag q k=r) L s r:=(H.part r).frame a (λk e f=>b (e.symm.trans f)) (λk c e=>by unfold fT;rw[aj c];exact e)
theorem hU.next (H:hU w S L s tag) (c:Below w.heap.size w w'):hU w' S L s (fT w tag .no):=⟨λa=>(H.part a).frame (Mod.below (S:=λ_=>False) c) (λ_ _=>id) (λk b e=>by unfold fT;rw[aj b];exact e),λk b e=>by
 unfold fT at e;split at e;·rename_i a;exact H.own k a e
 ·exact absurd rfl e⟩
theorem hU.nr (H:hU w S L s tag) (q:Part) {a:bu} {b:aa} (d:Mod (λk=>tag k=q) w w') (f:fZ w' (c6 (λk=>tag k=q) w) a b q) (g:∀r,r≠q->∀T,fZ w' T L s r->fZ w' T a b r):hU w' (c6 S w) a b (fT w tag q):=by
 have h:∀k,k<w'.heap.size->c6 (λk=>tag k=q) w k->fT w tag q k=q:=λk _ e=>by
  unfold fT;split
  ·rename_i i;rcases e with e|e;·exact e
   ·omega
  ·rfl
 refine⟨λr=>?_,λk i e=>?_⟩
 ·by_cases c:r=q;·subst c;exact f.frame (Mod.refl (λ_=>False) w') (λ_ _=>id) h
  ·exact g r c _ (H.others d c)
 ·unfold fT at e;split at e;·rename_i q;exact .inl (H.own k q e)
  ·exact .inr (by omega)
end
def aw (aq:ab) (S:Nat->Prop) (L:bu) (s:aa) (w:ab):Prop:=Mod S aq w∧∃tag,hU w (c6 S aq) L s tag
section
variable {aq w w':ab} {S:Nat->Prop} {L:bu} {s:aa} {tag:Nat->Part}
theorem hU.mono {T:Nat->Prop} (H:hU w S L s tag) (h:∀k,S k->T k):hU w T L s tag:=⟨H.part,λk a e=>h k (H.own k a e)⟩
theorem hU.start (H:hU w S L s tag):aw w S L s w:=⟨Mod.refl _ _,tag,H.mono (λk q=>.inl q)⟩
theorem aw.next (H:aw aq S L s w) (a:Below w.heap.size w w'):aw aq S L s w':=by obtain⟨b,tag,H⟩:=H;exact⟨b.ju a,_,H.next a⟩
theorem aw.drew (H:aw aq S L s w):aw aq S L s w.drew:=H.next (Below.refl _ _).drew
theorem aw.part (H:aw aq S L s w) (q:Part) (h0:q≠ .no):∃T,fZ w T L s q∧∀(w':ab) (a:bu) (b:aa),Mod T w w'->fZ w' (c6 T w) a b q->(∀r,r≠q->∀(v:ab) (T:Nat->Prop),fZ v T L s r->fZ v T a b r)->aw aq S a b w':=by
 obtain⟨d,tag,H⟩:=H;refine⟨λk=>tag k=q,H.part q,λw' a b f j l=>⟨?_,fT w tag q,?_⟩⟩
 ·refine d.trans f (λi h e=>?_);rcases H.own i (dm h d.size) (λc=>h0 (e.symm.trans c)) with g|g;·exact g
  ·exact absurd h (by omega)
 ·refine(H.nr q f j (λr m T=>l r m w' T)).mono (λk e=>?_);rcases e with e|e;·exact e
  ·exact .inr (cJ d.size e)
theorem aw.fk (H:aw aq S L s w) (q:Part):∃T,fZ w T L s q:=by obtain⟨a,tag,H⟩:=H;exact⟨_,H.part q⟩
theorem aw.top (H:aw aq S L s w):ak w L.b (cY L s) 72:=by obtain⟨T,h⟩:=H.fk .top;exact h.1
theorem aw.task (H:aw aq S L s w) {n:Nat} {t:ex} (e:s.tasks[n]?=R t):ak w (L.tk n) (kM L t) 81:=by obtain⟨T,h⟩:=H.fk (.task n);exact(h t e).1
theorem aw.ax (H:aw aq S L s w) {n:Nat} {G:cc} (e:s.groups[n]?=R G):ak w (L.gk n) (hg L n G) 85:=by obtain⟨T,h⟩:=H.fk (.ax n);exact(h G e).1
theorem aw.tree (H:aw aq S L s w):∃T,cX w T L.eF s.tree:=H.fk .tree
theorem aw.book (H:aw aq S L s w):∃T,fJ w T L.fc s.book:=H.fk .book
theorem aw.a1 (H:aw aq S L s w) {p:Nat} {h:ad} (e:s.hiers[p]?=R h):∃T,cQ w T (L.hk p) h:=by obtain⟨T,x⟩:=H.fk (.a1 p);exact⟨T,x h e⟩
theorem aw.gM (H:aw aq S L s w) {p:Nat} {c:cI} (e:s.clocks[p]?=R c):dt w (L.ck p) c:=by obtain⟨T,x⟩:=H.fk (.gM p);exact(x c e).1
theorem aw.band (H:aw aq S L s w) {n:Nat} {G:cc} {B:aN} (e:s.groups[n]?=R G) (f:G.band=R B):cx w (L.bd n) B:=by obtain⟨T,x⟩:=H.fk (.band n);exact(x G B e f).1
theorem aw.line (H:aw aq S L s w) {n:Nat} {G:cc} {l:List Int} (e:s.groups[n]?=R G) (f:G.line=R l):gI w (L.ln n) l:=by obtain⟨T,x⟩:=H.fk (.line n);exact(x G l e f).1
end
section
variable {L:bu} {s:aa}
theorem oD:(cY L s)[0]?=R (I J s.c.aR):=rfl
theorem AG:(cY L s)[1]?=R (I J s.c.tick):=rfl
theorem Is:(cY L s)[3]?=R (I J s.c.b4):=rfl
theorem jX:(cY L s)[5]?=R (aY L.eF):=rfl
theorem AH:(cY L s)[6]?=R (aY L.km):=rfl
theorem pL:(cY L s)[7]?=R L.tv:=rfl
theorem oE:(cY L s)[8]?=R L.gv:=rfl
theorem pM (a:s.places.length=32) {o:Option Nat} (e:s.places[i]?=R o):(cY L s)[9+i]?=R (c8 (o.map L.gk)):=by have b:=(bE.1 e).1;unfold cY;rw[ff,h2,h2,gC (by simp),iR (by simp;omega)];simp[e]
theorem s7 (a:s.places.length=32) {x:Int} (e:s.at_[i]?=R x):(cY L s)[41+i]?=R (I J x):=by have b:=(bE.1 e).1;unfold cY;rw[ff,h2,h2,gC (by simp;omega),gC (by simp;omega),iR (by simp;omega)];simp only[ep,a,dY,hJ,dP];rw[show 41+i-(0+1+1+1+1+1+1+1+1+1)-32=i by omega,e];rfl
theorem lv (a:s.places.length=32) (b:s.at_.length=64) (i:Nat):(cY L s)[105+i]?=[L.hv,L.cv,aY L.fc][i]?:=by unfold cY;rw[ff,gC (by simp[a,b])];congr 1;simp[a,b]
end
section
variable {aq w:ab} {S:Nat->Prop} {L:bu} {s:aa} {k:Nat}
theorem I9 (l:List (Option Nat)):dr.all l=l.map c8:=by
 induction l with
 |nil=>rfl
 |cons a l b=>
  have:dr.all (a::l)=dr.e a++dr.all l:=by simp[cm.all]
  rw[this,b];rfl
theorem dJ.cell {T:Nat->Prop} {E:TypeId} {l:List (Option Nat)} (h:dJ w T E v l) {o:Option Nat} (e:l[i]?=R o):∃g cap,v=aA (R ⟨g,0,U⟩) l.length cap∧w.cell? ⟨g,i,U⟩=R (c8 o)∧w.frozen? ⟨g,i,U⟩=false∧l.length<=cap∧cap<=maxLen:=by
 have m:=(bE.1 e).1;rcases h.1.2 with⟨_,n⟩|⟨g,cap,c,rfl,p,a,d,f,q,j⟩;·omega
 ·refine⟨g,cap,rfl,?_,by simp[World.frozen?,a],d,f⟩;have b:(c.toList.take (l.length*1))[i]?=(dr.all l)[i]?:=by rw[<-j];rfl
  have k:(dr.all l)[i]?=R (c8 o):=by rw[I9,dP,e];rfl
  rw[k,List.getElem?_take_of_lt (by omega),Array.getElem?_toList] at b;simp[World.cell?,a,jD,if_false];exact b
theorem dJ.form {T:Nat->Prop} {E:TypeId} {l:List (Option Nat)} (h:dJ w T E v l):∃a cap,v=aA a l.length cap:=by
 rcases h.1.2 with⟨rfl,b⟩|⟨g,cap,c,rfl,_⟩;·exact⟨U,0,by rw[b]⟩
 ·exact⟨_,_,rfl⟩
theorem re (p:Int) (H:aw aq S L s w):Calls au 37 #[aY L.b,I J p] w λe w'=>e=aK (aE (s.e8 p))∧w'=w:=by
 have c:=H.top.cell 0 oD;unfold aY aa.e8;obtain⟨b,a⟩:=aX L.b;obtain⟨n,d⟩:=aX s.c.aR;rw[a,d] at c;rw[a,d];clear H a d;by_cases f:0<=p
 ·by_cases g:p<(n:Int);·have e:(decide (0<=p)&&decide (p<(n:Int)))=true:=(by simp[f,g]);rw[e];clear e;go_enter func37,ntmps37;go_wp2;go_ret;exact⟨rfl,rfl⟩
  ·have e:(decide (0<=p)&&decide (p<(n:Int)))=false:=(by simp[g]);rw[e];clear e;go_enter func37,ntmps37;go_wp2;go_ret;exact⟨rfl,rfl⟩
 ·have e:(decide (0<=p)&&decide (p<(n:Int)))=false:=by simp[f]
  rw[e];clear e;go_enter func37,ntmps37;go_wp2;go_ret;exact⟨rfl,rfl⟩
theorem AZ (H:aw aq S L s w):Calls au 9 #[aY L.b] w λe w'=>e=aK (I J s.tasks.length)∧w'=w:=by have c:=H.top.cell 7 pL;obtain⟨T,g⟩:=H.fk .fx;obtain⟨a,cap,h⟩:=dJ.form g;rw[h,show(hf L s).length=s.tasks.length by simp[hf]] at c;unfold aY;obtain⟨b,d⟩:∃b,L.b=b:=⟨_,rfl⟩;obtain⟨n,f⟩:∃n,s.tasks.length=n:=⟨_,rfl⟩;rw[d,f] at c;rw[d,f];clear H d f g h;go_enter func9,ntmps9;go_wp2;go_ret;exact⟨rfl,rfl⟩
theorem A0 (H:aw aq S L s w):Calls au 11 #[aY L.b] w λe w'=>e=aK (I J s.groups.length)∧w'=w:=by have c:=H.top.cell 8 oE;obtain⟨T,g⟩:=H.fk .eX;obtain⟨a,cap,h⟩:=dJ.form g;rw[h,show(fL L s).length=s.groups.length by simp[fL]] at c;unfold aY;obtain⟨b,d⟩:∃b,L.b=b:=⟨_,rfl⟩;obtain⟨n,f⟩:∃n,s.groups.length=n:=⟨_,rfl⟩;rw[d,f] at c;rw[d,f];clear H d f g h;go_enter func11,ntmps11;go_wp2;go_ret;exact⟨rfl,rfl⟩
end
variable {y A:ab}
def kp (L:bu) (s:aa) (n:Int):Value:=match s.group n with|none=>af U|some _=>aY (L.gk n.toNat)
def jx (L:bu) (s:aa) (n:Int):Value:=match s.task n with|none=>af U|some _=>aY (L.tk n.toNat)
section
variable {aq w:ab} {S:Nat->Prop} {L:bu} {s:aa} {k:Nat}
theorem rf {G:cc} (e:s.groups[i]?=R G):(fL L s)[i]?=R (if G.there then R (L.gk i) else U):=by unfold fL;rw[dP,nR,e];simp
theorem td (e:i<s.tasks.length):(hf L s)[i]?=R (R (L.tk i)):=by unfold hf;rw[dP,uh e];rfl
theorem A1 (e:i<s.hiers.length):(hS L s)[i]?=R (R (L.hk i)):=by unfold hS;rw[dP,uh e];rfl
theorem I_ (e:i<s.clocks.length):(hT L s)[i]?=R (R (L.ck i)):=by unfold hT;rw[dP,uh e];rfl
theorem te:(fL L s).length=s.groups.length:=by simp[fL]
theorem oL:(hf L s).length=s.tasks.length:=by simp[hf]
theorem rh:(hS L s).length=s.hiers.length:=by simp[hS]
theorem tf:(hT L s).length=s.clocks.length:=by simp[hT]
theorem kO (n:Int) (H:aw aq S L s w):Calls au 24 #[aY L.b,I J n] w λe w'=>e=aK (kp L s n)∧w'=w:=by
 have c:=H.top.cell 8 oE;obtain⟨T,f⟩:=H.fk .eX;obtain⟨a,cap,h⟩:=dJ.form f;rw[h,te] at c;by_cases k:n<0
 ·have e:kp L s n=af U:=by unfold kp aa.group;rw[aj k]
  rw[e];unfold aY;generalize d:L.b=b;clear H f h e d c;go_enter func24,ntmps24;go_wp2;go_ret;exact⟨rfl,rfl⟩
 ·obtain⟨i,rfl⟩:=dW (show 0<=n by omega);by_cases l:i<s.groups.length;·obtain⟨G,o⟩:∃G,s.groups[i]?=R G:=⟨_,b6 l⟩;obtain⟨g,C,p,q,u,v,x⟩:=dJ.cell f (rf o);rw[h] at p;have e:kp L s (i:Int)=c8 (if G.there then R (L.gk i) else U):=(by unfold kp aa.group;rw[z0 k,cd,o];dsimp only;cases G.there<;>rfl);rw[e];simp only[Value.slice.injEq] at p;obtain⟨y,z,A⟩:=p;subst y;obtain⟨m,j⟩:∃m,s.groups.length=m:=⟨_,rfl⟩;rw[j] at c l;obtain⟨r,t⟩:∃r:Option Nat,(if G.there then R (L.gk i) else U)=r:=⟨_,rfl⟩;rw[t] at q⊢;have B:(i:Int)<(m:Int):=(by omega);have D:(0:Int)<=(i:Int):=(by omega);have E:(i:Int).toNat=i:=(by omega);unfold aY at*;obtain⟨b,d⟩:∃b,L.b=b:=⟨_,rfl⟩;rw[d] at c⊢;clear H f h e d o z A j t v x u;cases r with
   |none=>unfold c8 at q⊢;go_enter func24,ntmps24;go_wp2;go_ret;exact⟨rfl,rfl⟩
   |some r=>unfold c8 aY at q;unfold c8 aY;go_enter func24,ntmps24;go_wp2;go_ret;exact⟨rfl,rfl⟩
  ·have e:kp L s (i:Int)=af U:=(by unfold kp aa.group;rw[z0 k,cd,ho (by omega)]);rw[e];unfold aY;obtain⟨b,d⟩:∃b,L.b=b:=⟨_,rfl⟩;obtain⟨m,j⟩:∃m,s.groups.length=m:=⟨_,rfl⟩;rw[j] at c l;rw[d] at c⊢;have B:¬(i:Int)<(m:Int):=(by omega);clear H f h e d j;go_enter func24,ntmps24;go_wp2;go_ret;exact⟨rfl,rfl⟩
end
section
variable {aq w:ab} {S:Nat->Prop} {L:bu} {s:aa} {k:Nat}
theorem tg (n:Int) (H:aw aq S L s w):Calls au 21 #[aY L.b,I J n] w λe w'=>e=aK (jx L s n)∧w'=w:=by
 have c:=H.top.cell 7 pL;obtain⟨T,f⟩:=H.fk .fx;obtain⟨a,cap,h⟩:=dJ.form f;rw[h,oL] at c;by_cases l:n<0
 ·have e:jx L s n=af U:=by unfold jx aa.task;rw[aj l]
  rw[e];unfold aY;generalize d:L.b=b;clear H f h e d c;go_enter func21,ntmps21;go_wp2;go_ret;exact⟨rfl,rfl⟩
 ·obtain⟨i,rfl⟩:=dW (show 0<=n by omega);by_cases k:i<s.tasks.length;·obtain⟨t,o⟩:∃t,s.tasks[i]?=R t:=⟨_,b6 k⟩;obtain⟨g,K,p,r,A,B,C⟩:=dJ.cell f (td k);have u:=(H.task o).cell 2 (v:=aE t.dead) rfl;rw[h] at p;have e:jx L s (i:Int)=if t.dead then af U else aY (L.tk i):=(by unfold jx aa.task;rw[z0 l,cd,o];dsimp only;cases t.dead<;>rfl);rw[e];simp only[Value.slice.injEq] at p;obtain⟨D,E,F⟩:=p;subst D;obtain⟨m,j⟩:∃m,s.tasks.length=m:=⟨_,rfl⟩;rw[j] at c k;have G:(i:Int)<(m:Int):=(by omega);have M:(0:Int)<=(i:Int):=(by omega);have N:(i:Int).toNat=i:=(by omega);unfold c8 aY at r;unfold aY;obtain⟨b,d⟩:∃b,L.b=b:=⟨_,rfl⟩;obtain⟨O,y⟩:∃x,L.tk i=x:=⟨_,rfl⟩;rw[d] at c⊢;rw[y] at r u⊢;obtain⟨q,z⟩:∃q,t.dead=q:=⟨_,rfl⟩;rw[z] at u⊢;clear H f h e d o E F j B C A y z;cases q with
   |true=>rw[aj rfl];go_enter func21,ntmps21;go_wp2;go_ret;exact⟨rfl,rfl⟩
   |false=>rw[z0 (by decide)];go_enter func21,ntmps21;go_wp2;go_ret;exact⟨rfl,rfl⟩
  ·have e:jx L s (i:Int)=af U:=(by unfold jx aa.task;rw[z0 l,cd,ho (by omega)]);rw[e];unfold aY;obtain⟨b,d⟩:∃b,L.b=b:=⟨_,rfl⟩;obtain⟨m,j⟩:∃m,s.tasks.length=m:=⟨_,rfl⟩;rw[j] at c k;rw[d] at c⊢;have G:¬(i:Int)<(m:Int):=(by omega);clear H f h e d j;go_enter func21,ntmps21;go_wp2;go_ret;exact⟨rfl,rfl⟩
theorem aw.A2 (H:aw aq S L s w) (hk:s.Ok k) (a:p<s.c.aR):∃g cap,L.hv=aA (R ⟨g,0,U⟩) s.c.aR cap∧w.cell? ⟨g,p,U⟩=R (aY (L.hk p))∧w.cell? ⟨L.b,105,U⟩=R (aA (R ⟨g,0,U⟩) s.c.aR cap):=by obtain⟨T,d⟩:=H.fk .fY;obtain⟨g,cap,e,f,h,j,l⟩:=dJ.cell d (A1 (i:=p) (by rw[hk.hlen];exact a));rw[rh,hk.hlen] at e;refine⟨g,cap,e,f,?_⟩;have:=H.top.cell 105 ((lv (L:=L) hk.eB hk.gH 0).trans (show[L.hv,L.cv,aY L.fc][0]?=R L.hv from rfl));rw[e] at this;exact this
end
variable {W:ab} {P:List (List Nat)} {V:List (Int×Int)->ab->Prop}
section
variable {aq w:ab} {S:Nat->Prop} {L:bu} {s:aa} {k:Nat}
theorem oM (p:Int) (H:aw aq S L s w) (hk:s.Ok k):Calls au 17 #[aY L.b,I J p] w λe w'=>e=aK (I J (s.running p))∧Below w.heap.size w w':=by
 have a:=C (re p H);unfold aa.running;cases hp:s.e8 p with
 |false=>rw[aj rfl];rw[hp] at a;unfold aY at*;clear H hp;go_enter func17,ntmps17;go_wp2_with fail;refine a.mono ?_;rintro e y ⟨rfl,rfl⟩;go_wp2_with fail;go_ret;exact⟨rfl,Below.refl _ _⟩
 |true=>
  rw[z0 (by decide)];rw[hp] at a;obtain⟨o,z⟩:0<=p∧p<s.c.aR:=by unfold aa.e8 at hp;simpa using hp
  obtain⟨i,rfl⟩:=dW o;have q:i<s.c.aR:=by omega
  obtain⟨g,cap,A,P,B⟩:=H.A2 hk q;have d:=hk.eu (p:=(i:Int)) (by omega) (by omega);rw[cd] at d;obtain⟨T,t⟩:=H.a1 d;have l:=C (wF T (L.hk i) (s.a1 i) w t (hk.a1 i _ d).1);have D:=(hk.a1 i _ d).1.runs;have Q:(i:Int)<(s.c.aR:Int):=by omega
  have ao:(i:Int).toNat=i:=by omega
  generalize E:s.c.aR=m at B Q;generalize F:L.hk i=G at P l;generalize u:L.b=b at B a⊢;have V:=C u;generalize K:(s.a1 (i:Int)).running=r at l D⊢;unfold aY at*;have n:∀j:Nat,j<64->∀W,Below w.heap.size w W->W.cell? ⟨b,41+j,U⟩=R (I J (s.at_.getD j 0)):=λj X W G=>by rw[<-V.out];refine(H.next G).top.cell (41+j) (s7 hk.eB ?_);rw[dD,b6 (by rw[hk.gH];exact X)];rfl
  have ac:=C n;rcases D with e|⟨j,ay,Y,ad,e,_⟩;·subst e;rw[aj (by decide)];clear H hk hp o z q A d t E F u K n;go_enter func17,ntmps17;go_wp2_with fail;refine a.mono ?_;rintro e y ⟨rfl,rfl⟩;go_wp2_with fail;refine l.mono ?_;rintro e M ⟨rfl,f⟩;have v:=C f;clear f;go_wp2_with fail;go_ret;exact⟨rfl,v⟩
  ·obtain⟨h,rfl⟩:=dW Y;subst e;rw[z0 (by omega),cd];have Z:h<64:=(by omega);have aB:(h:Int)<64:=(by omega);have az:(h:Int).toNat=h:=(by omega);obtain⟨x,N⟩:∃x,s.at_.getD h 0=x:=⟨_,rfl⟩;have O:=C (n h Z);rw[N] at O⊢;clear H hk hp o z q A d t E F u K n N;go_enter func17,ntmps17;go_wp2_with fail;refine a.mono ?_;rintro e y ⟨rfl,rfl⟩;go_wp2_with fail;refine l.mono ?_;rintro e M ⟨rfl,f⟩;have aC:=O M f;have v:=C f;clear f;go_wp2_with fail;go_ret;exact⟨rfl,v⟩
end
section
variable {aq w:ab} {S:Nat->Prop} {L:bu} {s:aa} {k:Nat}
theorem A4 (j:s.tasks[n]?=R t) (i:Nat) (u:i<s.c.aR) (H:aw aq S L s w) (hk:s.Ok k):Calls au 36 #[aY L.b,aY (L.tk n),I J (i:Int)] w λe w'=>e=aK (I J (s.least t i))∧∃a,w'=w.drewN a:=by
 obtain⟨g,cap,B,y,l⟩:=H.A2 hk u;have f:=hk.eu (p:=(i:Int)) (by omega) (by omega);rw[cd] at f;obtain⟨T,z⟩:=H.a1 f;have d:=C (λa=>Calls.quiet_of_same (n:=a) (wH T (L.hk i) (s.a1 i) (s.ax t.g).h.idx (w.drewN a) (z.frame ((Mod.refl (λ_=>False) w).drewN a) (λ_ _=>id)) (hk.a1 i _ f).1));have o:=(H.task j).cell 5 (v:=aY (L.gk t.g)) rfl;have q:=(H.ax (hk.jT j)).cell 1 (v:=I J (s.ax t.g).h.idx) rfl;have A:(i:Int)<(s.c.aR:Int):=by omega
 have D:(i:Int).toNat=i:=by omega
 have E:(0:Int)<=(i:Int):=by omega
 unfold aa.least;generalize F:s.c.aR=m at l A;generalize G:L.hk i=K at y d;generalize M:L.b=b at l⊢;generalize N:L.tk n=bX at o⊢;generalize O:L.gk t.g=gb at o q;generalize P:(s.ax t.g).h.idx=x at q d⊢;generalize Q:(s.a1 (i:Int)).minOf x=r at d⊢;unfold aY at*;go_enter func36,ntmps36;go_wp2_with fail;go_quiet ((go_at_call 76;with_reducible exact d.out _));go_wp2_with fail;go_ret;exact⟨rfl,nq,rfl⟩
end
variable {al:Nat->Prop} {W':ab} {v1:Value} {ai:Int->Nat}
theorem A8 (s:aa) (h:aG) (p:Int) (l:List ex) (t:ex):ha s h p (l++[t])=if om s h p t then ha s h p l+t.w else ha s h p l:=by unfold ha;rw[r2];rfl
theorem Jb {s:aa} {h:aG} {p:Int} {l:List ex} (e:l[i]?=R t):ha s h p (l.take (i+1))=if om s h p t then ha s h p (l.take i)+t.w else ha s h p (l.take i):=by rw[gE,e,lI,A8]
theorem A9 {s:aa} {h:aG} {p:Int} (c:Nat) (l:List ex):(∀t∈l,t.w<=c)->ha s h p l<=l.length*c:=by
 refine vs (P:=λl=>(∀t∈l,t.w<=c)->ha s h p l<=l.length*c) (λ_=>hq _) (λl t e a=>?_) l;have b:=e (λx f=>a x (List.mem_append_left _ f));have g:=a t (by simp);rw[A8,eZ,nP,Nat.succ_mul];by_cases d:om s h p t=true;·rw[aj d];exact Nat.add_le_add b g
 ·rw[z0 d];exact cJ b (Nat.le_add_right _ _)
section
variable {aq w:ab} {S:Nat->Prop} {L:bu} {s:aa} {k:Nat}
theorem tl (u:Nat) (bc:u<s.groups.length) (p:Int) (H:aw aq S L s w) (hk:s.Ok k) (bL:k<=100000):Calls au 31 #[aY L.b,aY (L.gk u),I J p] w λe w'=>e=aK (I ah (s.load u p:Nat))∧Below w.heap.size w w':=by
 have ad:=H.top.cell 7 pL;have O:=H.top.cell 5 jX;obtain⟨T,D⟩:=H.fk .fx;obtain⟨a,cap,aj⟩:=dJ.form D;rw[aj,oL] at ad;have bf:=C aj;unfold aa.load;obtain⟨n,ap⟩:=aX s.tasks.length;have P:=C ap;rw[ap] at ad;have aN:=hk.eA.1;have bi:n<=100000:=by omega
 obtain⟨b,aB⟩:=aX L.b;rw[aB] at ad O⊢;unfold aY;have bg:=C (λ(i:Nat) (t:ex) (y:s.tasks[i]?=R t) (W:ab) (az:Below w.heap.size w W)=>(H.next az).task y);have an:=hk.oo bc;generalize bk:(s.ax u).h=d;have bl:=C (λ(W:ab) (az:Below w.heap.size w W)=>(H.next az).ax an);have bn:=C bk;go_enter func31,ntmps31;go_wp2_with fail;go_loopw [7,15] (λv i W=>∃j:Nat,j<=n∧i=I J (j:Int)∧v=I ah (ha s d p (s.tasks.take j):Nat)∧Below w.heap.size w W) (λ_ i _=>n-(intOf i).toNat);case atStart=>exact⟨0,by omega,rfl,rfl,Below.refl _ _⟩
 case round=>
  obtain⟨j,bP,rfl,rfl,m⟩:=hrel;by_cases aO:j<n;·obtain⟨t,y⟩:∃t,s.tasks[j]?=R t:=⟨_,b6 (by rw[P.out];exact aO)⟩;have Q:=Jb (s:=s) (h:=d) (p:=p) y;obtain⟨bR,aQ⟩:=(H.next m).fk .fx;obtain⟨g,bU,aC,aS,aA,bp,bq⟩:=dJ.cell aQ (td (L:=L) (s:=s) (by rw[P.out];exact aO));rw[bf.out,oL,P.out] at aC;simp only[Value.slice.injEq] at aC;obtain⟨rfl,_,rfl⟩:=aC;have E:=bg j t y wr m;have F:=E.cell 3 (v:=aE t.on) rfl;have G:=E.cell 4 (v:=I J t.p) rfl;have K:=E.cell 5 (v:=aY (L.gk t.g)) rfl;have V:=E.cell 7 (v:=I ah t.w) rfl;have bY:(j:Int)<(n:Int):=(by omega);have al:(0:Int)<=(j:Int):=(by omega);have bZ:(j:Int).toNat=j:=(by omega);unfold c8 aY at aS;cases M:t.on with
   |false=>
    have q:=C (show ha s d p (s.tasks.take (j+1))=ha s d p (s.tasks.take j) by rw[Q];unfold om;rw[M];rfl);rw[M] at F;go_wp2_with fail;go_quiet (fail);go_wp2_with fail;go_roundw;case rel=>exact⟨j+1,by omega,by go_num,by rw[q.out],m.trans (((Mod.refl (λ_=>False) wr).drewN nq).toBelow.mono m.size)⟩
    case measure=>simp[intOf];omega
   |true=>
    rw[M] at F;by_cases z:t.p=p;·have aF:=(H.next m).ax (hk.jT y);have u1:=aF.cell 1 (v:=I J (s.ax t.g).h.idx) rfl;have u2:=aF.cell 2 (v:=I J (s.ax t.g).h.gen) rfl;have am:=bl wr m;have v1:=am.cell 1 (v:=I J (s.ax u).h.idx) rfl;have X:=am.cell 2 (v:=I J (s.ax u).h.gen) rfl;rw[bn.out] at v1 X;obtain⟨ai,aU⟩:=(H.next m).tree;have N:=C (tj ai L.eF s.tree (s.ax t.g).h d wr.drew (aU.next (Below.refl _ _).drew) hk.tree);obtain⟨r,D⟩:∃r,ae.di s.tree (s.ax t.g).h d=r:=⟨_,rfl⟩;have q:=C (show ha s d p (s.tasks.take (j+1))=if r then ha s d p (s.tasks.take j)+t.w else ha s d p (s.tasks.take j) by rw[Q];unfold om;rw[M,D,decide_eq_true z];rfl);have Y:=(m.cell (p:=⟨b,5,U⟩) (ig O)).trans O;have Z:=C m;have aP:=A9 (s:=s) (h:=d) (p:=p) 262144 (s.tasks.take j) (λx br=>by obtain⟨a0,bw⟩:=mm.1 (List.mem_of_mem_take br);exact(hk.task a0 x bw).w.2);rw[ix] at aP;have a2:=(hk.task j t y).w.2;have ao:IntKind.u64.wrap ((ha s d p (s.tasks.take j):Int)+(t.w:Int))=((ha s d p (s.tasks.take j)+t.w:Nat):Int):=(by rw[nT];have:=o5 262144 (Nat.min_le_left j s.tasks.length);omega);obtain⟨ac,aT⟩:∃x,(s.ax t.g).h=x:=⟨_,rfl⟩;rw[D] at N;rw[aT] at u1 u2 N;rw[z] at G;unfold aY at K Y;obtain⟨A,aV⟩:∃x,L.gk t.g=x:=⟨_,rfl⟩;rw[aV] at K u1 u2;obtain⟨ay,aZ⟩:∃x,L.gk u=x:=⟨_,rfl⟩;rw[aZ] at v1 X⊢;obtain⟨ak,a6⟩:∃x,L.eF=x:=⟨_,rfl⟩;rw[a6] at Y N;obtain⟨B,a8⟩:∃x,L.tk j=x:=⟨_,rfl⟩;rw[a8] at aS F G K V;obtain⟨b2,a_⟩:∃x,t.w=x:=⟨_,rfl⟩;rw[a_] at V q ao;obtain⟨bQ,av⟩:∃x,ha s d p (s.tasks.take j)=x:=⟨_,rfl⟩;rw[av] at q ao⊢;have a3:=C ao;clear Q y aQ aA bp bq E m M z aF am aU D aP a2 aT aV aZ a6 a8 a_ av O ao;have a4:(p==p)=true:=(by simp);have l:=C (λ(W':ab) (ba o:Nat) (ag:Value) (aB:Below wr.drew.heap.size wr.drew W') (bb:wr.cell? ⟨ba,o,U⟩=R ag)=>show W'.cell? ⟨ba,o,U⟩=R ag from(zF9 aB).cell (b7 bb) (ig bb) id);go_wp2_with fail;cases r with
     |false=>go_region_held3 (λW'=>W'.cell? ⟨b,5,U⟩=R (af (R ⟨ak,0,U⟩))∧W'.cell? ⟨B,3,U⟩=R (aE true)∧W'.cell? ⟨B,4,U⟩=R (I J p)∧W'.cell? ⟨B,5,U⟩=R (af (R ⟨A,0,U⟩))∧W'.cell? ⟨A,1,U⟩=R (I J ac.idx)∧W'.cell? ⟨A,2,U⟩=R (I J ac.gen)∧W'.cell? ⟨ay,1,U⟩=R (I J d.idx)∧W'.cell? ⟨ay,2,U⟩=R (I J d.gen)) ((refine⟨?_,?_,?_,?_,?_,?_,?_,?_⟩)<;>(repeat(first|assumption|(with_reducible refine b7 ?_)))) (first|(go_at_call 70;refine N.mono ?_;rintro e f ⟨rfl,c⟩;have a5:=l f _ _ _ c Y;have bC:=l f _ _ _ c F;have aR:=l f _ _ _ c G;have a9:=l f _ _ _ c K;have aD:=l f _ _ _ c u1;have bG:=l f _ _ _ c u2;have bH:=l f _ _ _ c v1;have bd:=l f _ _ _ c X;have be:=l f _ _ _ c V;have aM:=C (Z.drew.trans (c.mono Z.size));clear c));all_goals
      go_wp2_with fail;go_roundw;case rel=>exact⟨j+1,by omega,by go_num,by rw[q.out];rfl,aM⟩
      case measure=>simp[intOf];omega
     |true=>go_region_held3 (λW'=>W'.cell? ⟨b,5,U⟩=R (af (R ⟨ak,0,U⟩))∧W'.cell? ⟨B,3,U⟩=R (aE true)∧W'.cell? ⟨B,4,U⟩=R (I J p)∧W'.cell? ⟨B,5,U⟩=R (af (R ⟨A,0,U⟩))∧W'.cell? ⟨A,1,U⟩=R (I J ac.idx)∧W'.cell? ⟨A,2,U⟩=R (I J ac.gen)∧W'.cell? ⟨ay,1,U⟩=R (I J d.idx)∧W'.cell? ⟨ay,2,U⟩=R (I J d.gen)) ((refine⟨?_,?_,?_,?_,?_,?_,?_,?_⟩)<;>(repeat(first|assumption|(with_reducible refine b7 ?_)))) (first|(go_at_call 70;refine N.mono ?_;rintro e f ⟨rfl,c⟩;have a5:=l f _ _ _ c Y;have bC:=l f _ _ _ c F;have aR:=l f _ _ _ c G;have a9:=l f _ _ _ c K;have aD:=l f _ _ _ c u1;have bG:=l f _ _ _ c u2;have bH:=l f _ _ _ c v1;have bd:=l f _ _ _ c X;have be:=l f _ _ _ c V;have aM:=C (Z.drew.trans (c.mono Z.size));clear c));all_goals
      go_wp2_with fail;go_roundw;case rel=>exact⟨j+1,by omega,by go_num,by rw[q.out];exact congrArg (I ah) a3,aM⟩
      case measure=>simp[intOf];omega
    ·have q:=C (show ha s d p (s.tasks.take (j+1))=ha s d p (s.tasks.take j) by rw[Q];unfold om;rw[decide_eq_false z];simp);generalize bs:t.p=nX at G z;have a4:(nX==p)=false:=(by simp[z]);go_wp2_with fail;go_quiet (fail);go_wp2_with fail;go_roundw;case rel=>exact⟨j+1,by omega,by go_num,by rw[q.out],m.trans (((Mod.refl (λ_=>False) wr).drewN nq).toBelow.mono m.size)⟩
     case measure=>simp[intOf];omega
  ·obtain rfl:j=n:=by omega
   have bK:=C (show s.tasks.take j=s.tasks by rw[<-P.out,h3]);rw[bK.out];go_wp2_with fail;go_ret;exact⟨rfl,m⟩
end
theorem Bf:ij dr 64 65 8:=⟨underlying64,⟨.pointer U,by kernel_rfl,rfl⟩,by decide⟩
section
variable {aq w:ab} {S:Nat->Prop} {L:bu} {s:aa} {k:Nat}
theorem aa.Ok.Ji (hk:s.Ok k) {h:aG} {i:Int} (f:i∈ae.path s.tree h):0<=i∧i<32∧∃g:Nat,s.places[i.toNat]?=R (R g)∧g<s.groups.length:=by
 obtain⟨_,⟨y,rfl,b⟩,_⟩:=hk.tree.zk f;obtain⟨g,G,c,j,rfl⟩:=hk.get y b;have d:=(hk.there g G c j).2;have l:=(bE.1 d).1;rw[hk.eB] at l;obtain⟨n,a⟩:=gP.1 b;have m:0<=G.h.idx:=by
  unfold ae.get at a;cases e:an.at s.tree G.h with
  |none=>rw[e] at a;cases a
  |some q=>exact(an.dp e).1
 exact⟨m,by omega,g,d,(bE.1 c).1⟩
end
def Jj (L:bu) (l:List (Option Nat)) (w:ab) (e:Ending) (w':ab):Prop:=∃v,e=aK v∧Own dr w' w.heap.size 65 v l.length (l.map λo=>o.map L.gk)∧Below w.heap.size w w'
section
variable {aq w:ab} {S:Nat->Prop} {L:bu} {s:aa} {k:Nat}
theorem Bg (d:Nat) {G:cc} (E:s.groups[d]?=R G) (aB:G.there=true) (H:aw aq S L s w) (hk:s.Ok k):Calls au 108 #[aY L.b,aY (L.gk d)] w (Jj L (s.cF d) w):=by
 have az:s.ax d=G:=aa.l2 E;obtain⟨bq,aC⟩:=gP.1 (hk.there d G E aB).1;have r:=H.top.cell 5 jX;have M:=H.ax E;have v1:=M.cell 1 (v:=I J G.h.idx) rfl;have z:=M.cell 2 (v:=I J G.h.gen) rfl;obtain⟨ab,aF⟩:=H.tree;have A:=C (Jh ab L.eF s.tree G.h w.drew (aF.next (Below.refl _ _).drew) hk.tree aC);have am:s.cF d=(ae.path s.tree G.h).map λi=>s.places.getD i.toNat U:=by unfold aa.cF;rw[az]
 rw[am];have N:=C (λ(i:Int) (aM:i∈ae.path s.tree G.h)=>hk.Ji aM);have f:(ae.path s.tree G.h).length<=1000000:=by rw[Bb,ug];have ai:=Ba (ae.fq s.tree 10 G.h);have br:=wJ s.tree 10 G.h;omega
 obtain⟨l,O⟩:∃l,ae.path s.tree G.h=l:=⟨_,rfl⟩;rw[O] at f;have aj:=C f;rw[O] at A N⊢;generalize aE:G.h=P at v1 z A;unfold aY at r;unfold aY;obtain⟨b,Q⟩:=aX L.b;have ap:=C Q;rw[Q] at r⊢;generalize a0:L.gk d=T at v1 z⊢;generalize bw:L.eF=eF at r A;go_enter func108,ntmps108;go_wp2_with fail;go_region_held3 (λW'=>W'.cell? ⟨b,5,U⟩=R (af (R ⟨eF,0,U⟩))∧W'.cell? ⟨T,1,U⟩=R (I J P.idx)∧W'.cell? ⟨T,2,U⟩=R (I J P.gen)) ((refine⟨?_,?_,?_⟩)<;>(repeat(first|assumption|(with_reducible refine b7 ?_)))) (first|(go_at_call 158;refine A.mono ?_;rintro e c ⟨v,rfl,aO,B⟩;obtain⟨a2,a3,a4,rfl,a5,aK,bC,ah⟩:=aO.rd;have aR:=(zF9 B).cell (b7 r) (ig r) id;have a9:=(zF9 B).cell (b7 v1) (ig v1) id;have aD:=(zF9 B).cell (b7 z) (ig z) id;have V:=C ah;have t:=C (show Below w.heap.size w c from(Below.refl _ _).drew.trans B)));all_goals
  go_wp2_with fail;obtain⟨n,D⟩:=aX l.length;have F:=C D;rw[D] at V;have bG:n<=1000000:=by rw[<-D];exact aj.out
  rw[D];have aQ:=C (λ(j:Nat) (x:Int) (y:l[j]?=R x)=>show((l.map λi=>s.places.getD i.toNat U).take (j+1)).map (λo=>o.map L.gk)=((l.map λi=>s.places.getD i.toNat U).take j).map (λo=>o.map L.gk)++[(s.places.getD x.toNat U).map L.gk] from by rw[gE,dP,y,h4];rfl);go_loopw [7,9,24] (λv u i W=>∃j:Nat,j<=n∧i=I J (j:Int)∧Own dr W c.heap.size 65 v j (((l.map λi=>s.places.getD i.toNat U).take j).map λo=>o.map L.gk)∧Below c.heap.size c W) (λ_ _ i _=>n-(intOf i).toNat);case atStart=>exact⟨0,by omega,by rfl,Own.nil _ _ _,Below.refl _ _⟩
  case round=>
   obtain⟨j,bH,rfl,K,m⟩:=hrel;by_cases X:j<n
   ·obtain⟨x,y⟩:∃x,l[j]?=R x:=⟨_,b6 (by rw[F.out];exact X)⟩;obtain⟨aS,bd,g,f,be⟩:=N.out x (ea y);obtain⟨a,rfl⟩:=dW aS;rw[cd] at f;have Y:a<32:=(by omega);have aU:s.places.getD a U=R g:=(by rw[dD,f];rfl);have Z:=aQ.out j _ y;rw[cd,aU] at Z;have aP:=C Z;have aT:Below w.heap.size w wr:=t.trans (m.mono t.size);have ao:=(H.next aT).top.cell (9+a) (pM hk.eB f);rw[ap.out] at ao;obtain⟨q,ac⟩:=aX (L.gk g);obtain⟨aV,aZ,rfl,ak,a6⟩:=V.ints (by omega);have a8:=(m.cell (p:=⟨aV,aZ+j,U⟩) ak).trans (a6 j X);have a_:rat l j=(a:Int):=(by unfold rat;rw[y];rfl);rw[a_] at a8;simp only[iS,c8,aY,ac] at ao;have bK:(j:Int)<(n:Int):=(by omega);have bL:(0:Int)<=(j:Int):=(by omega);have aN:(j:Int).toNat=j:=(by omega);have bi:(a:Int).toNat=a:=(by omega);have bP:=m.size;have ay:=C (K.alloc (av #[af (R ⟨q,0,U⟩)] 65));have ad:c.heap.size<=(wr.alloc (av #[af (R ⟨q,0,U⟩)] 65)).heap.size:=(by simp;omega);have ba:j<=10000000:=(by omega);have ag:=C (show∀a u,(dr.e (R q))[a]?=R u->(wr.alloc (av #[af (R ⟨q,0,U⟩)] 65)).cell? ⟨wr.heap.size,a,U⟩=R u fromλa u Y=>dE.trans (by rw[<-Y];show([af (R ⟨q,0,U⟩)]:List Value).toArray[a]?=_;rw[ff];rfl));have bb:=C ac;go_wp2_with ((at_builtin;refine jv Bf rfl _ _ rfl c.heap.size _ j _ rfl ay.out wr.heap.size _ (R q) rfl ag.out ba ad ?_;intro bc u bf bg an;have bk:=C bf;have bl:=C (show Grow _ u _ bc from Grow.gK bg an);have bn:=C (show Below c.heap.size c u from(m.alloc m.size _).trans (bl.below ad (λaA x=>(ay.lt aA x).1)))));go_roundw;case rel=>exact⟨j+1,by omega,by go_num,by rw[aP.out,iS,bb.out];exact bk.out,bn.out⟩
    case measure=>simp[intOf];omega
   ·obtain rfl:j=n:=by omega
    have bp:(l.map λi=>s.places.getD i.toNat U).take j=l.map λi=>s.places.getD i.toNat U:=(by rw[ub];simp[F.out]);rw[bp] at K;go_wp2_with fail;go_ret;refine⟨_,rfl,?_,t.trans (m.mono t.size)⟩;rw[ep,F.out];exact K.lower t.size
end
theorem Bk (n:Int) (x:Int):∀(l:List Int) (f:Int->Int),gj n (l++[x]) f=fG (gj n l f) x n
 |[],f=>rfl
 |k::l,f=>Bk n x l (fG f k n)
theorem Jw (n:Int) (l:List Int) {k:Nat} (h:k<l.length) (f:Int->Int):gj n (l.take (k+1)) f=fG (gj n (l.take k) f) (bj l k) n:=by rw[Ah h,Bk]
def Jx (S:Nat->Prop) (b:Nat) (B:fF) (v:Value) (w:ab) (e:Ending) (w':ab):Prop:=e=aK v∧fJ w' S b B∧Mod S w w'
theorem Jy (S:Nat->Prop) (b:Nat) (B:fF) (a:Option Addr) (cap:Nat) (c:List Int) (task ns:Int) (w:ab) (H:fJ w S b B) (M:c.length<=1000000) (hI:pi w.heap.size w (aA a c.length cap) c) (ae:∀G N,a=R ⟨G,N,U⟩->¬S G):Calls au 109 #[af (R ⟨b,0,U⟩),aA a c.length cap,I J task,I J ns] w (Jx S b (B.b4 c task ns) (I J (B.gx c task ns)) w):=by
 have q:=C (HM a cap c w M hI);have K:=C H;have A:B.gx c task ns≠0->B.b4 c task ns=B:=λe=>by unfold fF.b4;rw[z0 e]
 generalize O:kf c=ag at q;by_cases am:ns<0
 ·have d:B.gx c task ns=1:=by unfold fF.gx;rw[aj (.inl am)]
  rw[A (by rw[d];decide),d];go_enter func109,ntmps109;go_wp2_with fail;go_ret;exact⟨rfl,K,Mod.refl _ _⟩
 by_cases aM:task<0
 ·have d:B.gx c task ns=1:=by unfold fF.gx;rw[aj (.inr (.inl aM))]
  rw[A (by rw[d];decide),d];go_enter func109,ntmps109;go_wp2_with fail;go_ret;exact⟨rfl,K,Mod.refl _ _⟩
 cases ag with
 |false=>
  have d:B.gx c task ns=1:=by unfold fF.gx;rw[aj (.inr (.inr O))]
  rw[A (by rw[d];decide),d];generalize s:c.length=n at q⊢;go_enter func109,ntmps109;go_wp2_with (go_at_call 159;refine q.mono ?_;rintro e t ⟨rfl,f⟩;have h:=C f;clear f);go_ret;exact⟨rfl,K.next h,Mod.below h⟩
 |true=>
  have P:¬(ns<0∨task<0∨kf c=false):=by
   rintro(u|u|u);·exact am u
   ·exact aM u
   ·rw[O] at u;cases u
  obtain⟨g,o,D,ap,aO,bb,aw,bc,bf,bg,an⟩:=H.e;obtain⟨l,y⟩:=aX B.total;by_cases ah:wrap64 (9223372036854775807-l)<ns;·have d:B.gx c task ns=3:=(by unfold fF.gx;rw[z0 P,y,aj (show cM (9223372036854775807-l)<ns from ah)]);rw[A (by rw[d];decide),d];rw[y] at D;have E:=C D;clear H hI ae A d O M P ap aO D y;obtain⟨n,s⟩:∃n,c.length=n:=⟨_,rfl⟩;rw[s] at q⊢;clear s;go_enter func109,ntmps109;go_wp2_with (go_at_call 159;refine q.out.mono ?_;rintro e t ⟨rfl,f⟩;have ax:=(E.out.next f).cell 2 (v:=I J l) rfl;have h:=C f;clear f);go_ret;exact⟨rfl,K.next h,Mod.below h⟩
  ·have d:B.gx c task ns=0:=(by unfold fF.gx;rw[z0 P,y,z0 (show¬cM (9223372036854775807-l)<ns from ah)]);have bk:B.b4 c task ns=⟨fG B.tasks task ns,gj ns c B.groups,cM (l+ns)⟩:=(by unfold fF.b4;rw[aj d,y]);rw[bk,d];rw[y] at D;obtain⟨n,s⟩:=aX c.length;have E:=C D;have bl:=C ap;have bn:=C aO;have aQ:=C hI;have bp:=C ae;have L:=C s;have z:=C (bx bb (bx aw bc));have r:=C (bx bf (bx bg an));rw[s] at q aQ M⊢;unfold cM;go_enter func109,ntmps109;go_upto_region 6 with(go_at_call 159;refine q.mono ?_;rintro e t ⟨rfl,f⟩;have ax:=(E.next f).cell 2 (v:=I J l) rfl;have bL:=(E.next f).free 2;have h:=C f;clear f);generalize aS:t.setCell ⟨b,2,U⟩ (I J (wrap64 (l+ns)))=m;have Q:Mod (λk=>k=b) t m:=aS▸Mod.one t b 2 _;have aU:ak m b #[.map (R g),.map (R o),I J (wrap64 (l+ns))] 118:=aS▸(E.next h).set 2 (I J (wrap64 (l+ns)));have bq:Mod S w t:=Mod.below h;have aP:jh m g B.tasks:=(bl.mod (Mod.below (S:=λ_=>False) h) id).mod Q (λe=>r.1 e.symm);have ai:jh m o B.groups:=(bn.mod (Mod.below (S:=λ_=>False) h) id).mod Q (λe=>r.2.1 e.symm);have br:Mod S w m:=bq.trans Q (λi _ e=>by cases e;exact z.1);obtain⟨aT,T⟩:=aX (wrap64 (B.tasks task+ns));have aE:=aP.look task;obtain⟨V,aV,aZ⟩:=aP.put task aT;generalize a0:B.tasks task=tk at aE T;have aN:=aU.cell 0 (v:=.map (R g)) rfl;have X:(λi=>if i=task then aT else B.tasks i)=fG B.tasks task ns:=(by funext i;unfold fG;rw[a0];show _=if i=task then wrap64 (tk+ns) else B.tasks i;rw[T]);rw[X] at aZ;have bw:=C aU;have a2:=C ai;have a6:=C aZ;have a3:=C br;have a4:=C T;have bi:(Instr.mapUpdate 116 (.map (R g)) (I J task) (I J (wrap64 (tk+ns)))).run au m= .ok () (ed m g V):=(by rw[a4.out];exact aV);go_upto_region 7 with fail;generalize a5:ed m g V=aK at a6⊢;have Y:Mod (λk=>k=g) m aK:=a5▸qW m g V;have bC:=C (bw.mod Y r.1);have aR:=C (a2.mod Y (λe=>r.2.2 e.symm));have a9:=C (a3.trans Y (λi _ e=>by cases e;exact z.2.1));go_wp2_with fail;go_loopw [53] (λZ W=>∃j:Nat,j<=n∧Z=I J (j:Int)∧ak W b #[.map (R g),.map (R o),I J (wrap64 (l+ns))] 118∧jh W g (fG B.tasks task ns)∧jh W o (gj ns (c.take j) B.groups)∧Mod S w W) (λZ _=>n-(intOf Z).toNat);case atStart=>exact⟨0,by omega,rfl,bC,a6,aR,a9⟩
   case round=>
    obtain⟨j,bP,rfl,aa,a8,F,ao⟩:=hrel;by_cases ac:j<n
    ·have aY:(j:Int)<(n:Int):=(by omega);obtain⟨G,N,aD,bG,bH⟩:=aQ.cells (p:=j) (by rw[L.out];exact ac);subst aD;have bd:=ao.cell (bH j (by rw[L.out];exact ac)) bG (bp G N rfl);have ay:=Jw ns c (k:=j) (by rw[L.out];exact ac) B.groups;generalize bR:gj ns (c.take j) B.groups=gf at F ay;generalize bU:bj c j=x at bd ay;obtain⟨a_,av⟩:=aX (gf x);have be:=F.look x;rw[av] at be;obtain⟨aq,aV,ba⟩:=F.put x (wrap64 (a_+ns));have bY:=aa.cell 1 (v:=.map (R o)) rfl;have X:(λi=>if i=x then wrap64 (a_+ns) else gf i)=fG gf x ns:=(by funext i;unfold fG;rw[av];rfl);rw[X,<-ay] at ba;have ad:Mod (λk=>k=o) wr (ed wr o aq):=qW wr o aq;have aB:=C (aa.mod ad r.2.1);have az:=C (a8.mod ad r.2.2);have aC:=C (ao.trans ad (λi _ e=>by cases e;exact z.2.2));have aF:=C ba;go_wp2_with fail;go_roundw;case rel=>exact⟨j+1,by omega,by go_num,aB,az,aF,aC⟩
     case measure=>simp[intOf];omega
    ·obtain rfl:j=n:=by omega
     have bK:c.take j=c:=(by rw[<-L.out,h3]);rw[bK] at F;have aB:=C aa;have az:=C a8;have aC:=C ao;have aF:=C F;go_wp2_with fail;go_ret;exact⟨rfl,⟨g,o,aB,az,aF,z.1,z.2.1,z.2.2,r⟩,aC⟩
variable {ar:Array Value}
section
variable {aq w w':ab} {S:Nat->Prop} {L:bu} {s:aa} {k:Nat}
theorem Jz (p:Nat) (h:ad):hS L (s.bO p h)=hS L s:=by unfold hS aa.bO;simp
theorem JA (p:Nat) (h:cI):hT L (s.dM p h)=hT L s:=by unfold hT aa.dM;simp
theorem JB (p:Nat) (h:ex):hf L (s.cl p h)=hf L s:=by unfold hf aa.cl;simp
theorem JC {G G':cc} (a:s.groups[g]?=R G) (b:G'.there=G.there):fL L (s.b0 g G')=fL L s:=by
 unfold fL aa.b0;dsimp only;apply p9;intro i;rw[dP,dP,nR,nR];by_cases e:i=g;·subst e;rw[cZ (bE.1 a).1,a];simp[b]
 ·rw[dK (Ne.symm e)]
def eG (s:aa):Prop:=s.hiers.length=s.c.aR∧s.clocks.length=s.c.aR∧s.places.length=32∧s.at_.length=64
theorem aa.Ok.lens (h:s.Ok k):eG s:=⟨h.hlen,h.je,h.eB,h.gH⟩
theorem aw.iJ (H:aw aq S L s w) (hk:eG s) (a:p<s.c.aR):∃g cap,L.hv=aA (R ⟨g,0,U⟩) s.c.aR cap∧w.cell? ⟨g,p,U⟩=R (aY (L.hk p))∧w.cell? ⟨L.b,105,U⟩=R (aA (R ⟨g,0,U⟩) s.c.aR cap):=by obtain⟨T,d⟩:=H.fk .fY;obtain⟨g,cap,e,f,h,j,k⟩:=dJ.cell d (A1 (i:=p) (by rw[hk.1];exact a));rw[rh,hk.1] at e;refine⟨g,cap,e,f,?_⟩;have:=H.top.cell 105 ((lv (L:=L) hk.2.2.1 hk.2.2.2 0).trans (show[L.hv,L.cv,aY L.fc][0]?=R L.hv from rfl));rw[e] at this;exact this
theorem aw.tn (H:aw aq S L s w) (hk:eG s) (a:p<s.c.aR):∃g cap,L.cv=aA (R ⟨g,0,U⟩) s.c.aR cap∧w.cell? ⟨g,p,U⟩=R (aY (L.ck p))∧w.cell? ⟨L.b,106,U⟩=R (aA (R ⟨g,0,U⟩) s.c.aR cap):=by obtain⟨T,d⟩:=H.fk .gm;obtain⟨g,cap,e,f,h,j,k⟩:=dJ.cell d (I_ (i:=p) (by rw[hk.2.1];exact a));rw[tf,hk.2.1] at e;refine⟨g,cap,e,f,?_⟩;have:=H.top.cell 106 ((lv (L:=L) hk.2.2.1 hk.2.2.2 1).trans (show[L.hv,L.cv,aY L.fc][1]?=R L.cv from rfl));rw[e] at this;exact this
theorem aw.JD (H:aw aq S L s w) {h:ad} (c:s.hiers[p]?=R h):∃T,cQ w T (L.hk p) h∧∀(w':ab) (b:ad),cQ w' (c6 T w) (L.hk p) b->Mod T w w'->aw aq S L (s.bO p b) w':=by
 obtain⟨T,d,f⟩:=H.part (.a1 p) (by simp);have g:=(bE.1 c).1;refine⟨T,d h c,λw' b i j=>f w' L _ j ?_ ?_⟩;·intro x a;unfold aa.bO at a;dsimp only at a;rw[cd,cZ g] at a;cases a;exact i
 ·intro r k v T h;cases r with
  |fY=>show dJ _ _ _ _ (hS L (s.bO p b));rw[Jz];exact h
  |a1 q=>intro x a;unfold aa.bO at a;dsimp only at a;rw[cd,dK (λe=>k (by rw[e]))] at a;exact h x a
  |_=>exact h
theorem aw.JE (H:aw aq S L s w) {c:cI} (d:s.clocks[p]?=R c) {c':cI} (g:dt w' (L.ck p) c') (h:Mod (λk=>k=L.ck p) w w'):aw aq S L (s.dM p c') w':=by
 obtain⟨T,i,j⟩:=H.part (.gM p) (by simp);have l:=(bE.1 d).1;have f:=(i c d).2;refine j w' L _ (h.mono (λk _ e=>e▸f)) ?_ ?_;·intro x a;unfold aa.dM at a;dsimp only at a;rw[cd,cZ l] at a;cases a;exact⟨g,.inl f⟩
 ·intro r m v T b;cases r with
  |gm=>show dJ _ _ _ _ (hT L (s.dM p c'));rw[JA];exact b
  |gM q=>intro x a;unfold aa.dM at a;dsimp only at a;rw[cd,dK (λe=>m (by rw[e]))] at a;exact b x a
  |_=>exact b
theorem aw.Bl (H:aw aq S L s w) (c:s.tasks[n]?=R t) {t':ex} (f:ak w' (L.tk n) (kM L t') 81) (g:Mod (λk=>k=L.tk n) w w'):aw aq S L (s.cl n t') w':=by
 obtain⟨T,h,i⟩:=H.part (.task n) (by simp);have j:=(bE.1 c).1;have d:=(h t c).2;refine i w' L _ (g.mono (λk _ e=>e▸d)) ?_ ?_;·intro x a;unfold aa.cl at a;dsimp only at a;rw[cZ j] at a;cases a;exact⟨f,.inl d⟩
 ·intro r l v T b;cases r with
  |fx=>show dJ _ _ _ _ (hf L (s.cl n t'));rw[JB];exact b
  |task q=>intro x a;unfold aa.cl at a;dsimp only at a;rw[dK (λe=>l (by rw[e]))] at a;exact b x a
  |_=>exact b
theorem wK {G G':cc} {r:Part} {v:ab} {T:Nat->Prop} (c:s.groups[g]?=R G) (i:G'.there=G.there) (k:r= .ax g->hg L g G'=hg L g G) (l:r= .band g->G'.band=G.band) (m:r= .line g->G'.line=G.line) (h:fZ v T L s r):fZ v T L (s.b0 g G') r:=by
 have o:=(bE.1 c).1;have f:∀(j:Nat) a,(s.b0 g G').groups[j]?=R a->(j=g∧a=G')∨(j≠g∧s.groups[j]?=R a):=by
  intro j a b;unfold aa.b0 at b;dsimp only at b;by_cases e:j=g;·subst e;rw[cZ o] at b;cases b;exact .inl ⟨rfl,rfl⟩
  ·rw[dK (Ne.symm e)] at b;exact .inr ⟨e,b⟩
 cases r with
 |eX=>show dJ _ _ _ _ (fL L (s.b0 g G'));rw[JC c i];exact h
 |ax n=>
  intro a b;rcases f n a b with⟨rfl,rfl⟩|⟨_,e⟩;·rw[k rfl];exact h G c
  ·exact h a e
 |band n=>
  intro a B b d;rcases f n a b with⟨rfl,rfl⟩|⟨_,e⟩;·exact h G B c (by rw[<-l rfl];exact d)
  ·exact h a B e d
 |line n=>
  intro a B b d;rcases f n a b with⟨rfl,rfl⟩|⟨_,e⟩;·exact h G B c (by rw[<-m rfl];exact d)
  ·exact h a B e d
 |_=>exact h
theorem aw.JF (H:aw aq S L s w) {G:cc} {B c:aN} (b:s.groups[g]?=R G) (d:G.band=R B) (h:cx w' (L.bd g) c) (i:Mod (λk=>k=L.bd g) w w'):aw aq S L (s.b0 g {G with band:=R c}) w':=by
 obtain⟨T,j,l⟩:=H.part (.band g) (by simp);have m:=(bE.1 b).1;have f:=(j G B b d).2;refine l w' L _ (i.mono (λk _ e=>e▸f)) ?_ ?_;·intro q ar a n;unfold aa.b0 at a;dsimp only at a;rw[cZ m] at a;cases a;cases n;exact⟨h,.inl f⟩
 ·intro r o v T p;exact wK b rfl (λ_=>by unfold hg;rw[d];rfl) (λe=>absurd e o) (λ_=>rfl) p
theorem aw.JG (H:aw aq S L s w) {G:cc} {l':List Int} (b:s.groups[g]?=R G) (c:G.line=R l) (f:gI w' (L.ln g) l') (h:Mod (λk=>k=L.ln g) w w'):aw aq S L (s.b0 g {G with line:=R l'}) w':=by
 obtain⟨T,i,j⟩:=H.part (.line g) (by simp);have m:=(bE.1 b).1;have d:=(i G l b c).2;refine j w' L _ (h.mono (λk _ e=>e▸d)) ?_ ?_;·intro q ar a n;unfold aa.b0 at a;dsimp only at a;rw[cZ m] at a;cases a;cases n;exact⟨f,.inl d⟩
 ·intro r o v T p;exact wK b rfl (λ_=>by unfold hg;rw[c];rfl) (λ_=>rfl) (λe=>absurd e o) p
theorem aw.JH (H:aw aq S L s w) {G G':cc} (b:s.groups[g]?=R G) (d:G'.there=G.there) (f:G'.band=G.band) (h:G'.line=G.line) (i:ak w' (L.gk g) (hg L g G') 85) (j:Mod (λk=>k=L.gk g) w w'):aw aq S L (s.b0 g G') w':=by
 obtain⟨T,l,m⟩:=H.part (.ax g) (by simp);have n:=(bE.1 b).1;have c:=(l G b).2;refine m w' L _ (j.mono (λk _ e=>e▸c)) ?_ ?_;·intro q a;unfold aa.b0 at a;dsimp only at a;rw[cZ n] at a;cases a;exact⟨i,.inl c⟩
 ·intro r o v T p;exact wK b d (λe=>absurd e o) (λ_=>f) (λ_=>h) p
theorem aw.Bm (H:aw aq S L s w):∃T,gL w T L.km 64 s.pool∧∀(w':ab) (a:an Int),gL w' (c6 T w) L.km 64 a->Mod T w w'->aw aq S L {s with pool:=a} w':=by
 obtain⟨T,b,c⟩:=H.part .pool (by simp);refine⟨T,b,λw' a d e=>c w' L _ e d ?_⟩;intro r f v T g;cases r with
 |pool=>exact absurd rfl f
 |_=>exact g
theorem aw.Bn (H:aw aq S L s w):∃T,cX w T L.eF s.tree∧∀(w':ab) (a:ae),cX w' (c6 T w) L.eF a->Mod T w w'->aw aq S L {s with tree:=a} w':=by
 obtain⟨T,b,c⟩:=H.part .tree (by simp);refine⟨T,b,λw' a d e=>c w' L _ e d ?_⟩;intro r f v T g;cases r with
 |tree=>exact absurd rfl f
 |_=>exact g
theorem aw.JI (H:aw aq S L s w) {places:List (Option Nat)} {at_:List Int} (c:ak w' L.b (cY L {s with places:=places,at_:=at_}) 72) (d:Mod (λk=>k=L.b) w w'):aw aq S L {s with places:=places,at_:=at_} w':=by
 obtain⟨T,a,f⟩:=H.part .top (by simp);refine f w' L _ (d.mono (λk _ e=>e▸a.2)) ⟨c,.inl a.2⟩ ?_;intro r g v T h;cases r with
 |top=>exact absurd rfl g
 |_=>exact h
theorem aw.wL (H:aw aq S L s w) {h:ad} (f:s.hiers[p]?=R h):∃T,cQ w T (L.hk p) h∧∀(V:Value) (d:ad) (e:Ending) (w':ab),dA T (L.hk p) V d w e w'->e=aK V∧aw aq S L (s.bO p d) w':=by obtain⟨T,g,i⟩:=H.JD f;exact⟨T,g,λV d e w' ⟨a,b,c⟩=>⟨a,i w' d b c⟩⟩
theorem aw.rn (H:aw aq S L s w) {c c':cI} (a:s.clocks[p]?=R c) {V:Value} {e:Ending} (h:qU (L.ck p) c' V w e w'):e=aK V∧aw aq S L (s.dM p c') w':=⟨h.1,H.JE a h.2.1 h.2.2⟩
theorem aw.oQ (H:aw aq S L s w) {G:cc} {B a:aN} (b:s.groups[g]?=R G) (c:G.band=R B) {V:Value} {e:Ending} (h:pG (L.bd g) a V w e w'):e=aK V∧aw aq S L (s.b0 g {G with band:=R a}) w':=⟨h.1,H.JF b c h.2.1 h.2.2⟩
theorem aw.pP (H:aw aq S L s w) {G:cc} {l':List Int} (a:s.groups[g]?=R G) (b:G.line=R l) (c:gI w' (L.ln g) l') (h:w.grownBy w' (R (L.ln g))):aw aq S L (s.b0 g {G with line:=R l'}) w':=H.JG a b c ⟨h.os,h.tape,h.output,h.size,λk d f=>h.block k d (λe=>f (Option.some.inj e))⟩
end
theorem Bo {w:ab} {x:Value} (h:o≠i) (a:w.cell? ⟨b,o,U⟩=R v):(w.setCell ⟨b,i,U⟩ x).cell? ⟨b,o,U⟩=R v:=(jz w ⟨b,i,U⟩ ⟨b,o,U⟩ x (λe=>h (by injection e with d c f;exact c.symm))).trans a
section
variable {aq w:ab} {S:Nat->Prop} {L:bu} {s:aa} {k:Nat}
theorem aw.tags (H:aw aq S L s w):∃a:Nat->Part,a L.b= .top∧(∀n,n<s.tasks.length->a (L.tk n)= .task n)∧(∀n,n<s.groups.length->a (L.gk n)= .ax n)∧(∀g n c,L.hv=aA (R ⟨g,0,U⟩) n c->a g= .fY)∧(∀g n c,L.cv=aA (R ⟨g,0,U⟩) n c->a g= .gm)∧(∀g n c,L.tv=aA (R ⟨g,0,U⟩) n c->a g= .fx)∧(∀g n c,L.gv=aA (R ⟨g,0,U⟩) n c->a g= .eX):=by
 obtain⟨f,a,H⟩:=H;refine⟨a,(H.part .top).2,λn d=>?_,λn d=>?_,λg n c e=>?_,λg n c e=>?_,λg n c e=>?_,λg n c e=>?_⟩;·exact(H.part (.task n) _ (b6 d)).2
 ·exact(H.part (.ax n) _ (b6 d)).2
 ·exact(H.part .fY).2 g (by rw[e];rfl)
 ·exact(H.part .gm).2 g (by rw[e];rfl)
 ·exact(H.part .fx).2 g (by rw[e];rfl)
 ·exact(H.part .eX).2 g (by rw[e];rfl)
theorem aw.fN (H:aw aq S L s w) (a:eG s) (d:p<s.c.aR) (hv:L.hv=aA (R ⟨g,0,U⟩) m cap):w.cell? ⟨g,p,U⟩=R (af (R ⟨L.hk p,0,U⟩))∧w.cell? ⟨L.b,105,U⟩=R (aA (R ⟨g,0,U⟩) m cap):=by obtain⟨i,j,e,f,h⟩:=H.iJ a d;rw[hv] at e;simp only[Value.slice.injEq,Option.some.injEq,Addr.mk.injEq] at e;obtain⟨⟨rfl,_⟩,rfl,rfl⟩:=e;exact⟨f,h⟩
theorem aw.oR (H:aw aq S L s w) (a:eG s) (d:p<s.c.aR) (hv:L.cv=aA (R ⟨g,0,U⟩) m cap):w.cell? ⟨g,p,U⟩=R (af (R ⟨L.ck p,0,U⟩))∧w.cell? ⟨L.b,106,U⟩=R (aA (R ⟨g,0,U⟩) m cap):=by obtain⟨i,j,e,f,h⟩:=H.tn a d;rw[hv] at e;simp only[Value.slice.injEq,Option.some.injEq,Addr.mk.injEq] at e;obtain⟨⟨rfl,_⟩,rfl,rfl⟩:=e;exact⟨f,h⟩
theorem aw.ek (H:aw aq S L s w) (c:s.tasks[n]?=R t) {a:Nat} (e:L.tk n=a):w.cell? ⟨a,0,U⟩=R (I J t.h.idx)∧w.cell? ⟨a,1,U⟩=R (I J t.h.gen)∧w.cell? ⟨a,2,U⟩=R (aE t.dead)∧w.cell? ⟨a,3,U⟩=R (aE t.on)∧w.cell? ⟨a,4,U⟩=R (I J t.p)∧w.cell? ⟨a,5,U⟩=R (af (R ⟨L.gk t.g,0,U⟩))∧w.cell? ⟨a,6,U⟩=R (I J t.nice)∧w.cell? ⟨a,7,U⟩=R (I ah t.w)∧w.cell? ⟨a,8,U⟩=R (I ah t.mask)∧w.cell? ⟨a,9,U⟩=R (I J t.e.id)∧w.cell? ⟨a,10,U⟩=R (I ah t.e.wt)∧w.cell? ⟨a,11,U⟩=R (I J t.e.v)∧w.cell? ⟨a,12,U⟩=R (I ah t.e.rem)∧w.cell? ⟨a,13,U⟩=R (I J t.mn)∧∀i,w.frozen? ⟨a,i,U⟩=false:=by subst e;have b:=H.task c;exact⟨b.cell 0 rfl,b.cell 1 rfl,b.cell 2 rfl,b.cell 3 rfl,b.cell 4 rfl,b.cell 5 rfl,b.cell 6 rfl,b.cell 7 rfl,b.cell 8 rfl,b.cell 9 rfl,b.cell 10 rfl,b.cell 11 rfl,b.cell 12 rfl,b.cell 13 rfl,λi=>b.free i⟩
theorem apart {tag:Nat->Part} {a:Nat} {p q:Part} (c:tag a=p) (d:tag b=q) (h:p≠q):a≠b:=λe=>h (by rw[<-c,<-d,e])
end
section
variable {aq w:ab} {S:Nat->Prop} {L:bu} {s:aa} {k:Nat}
theorem aa.nC (s:aa) (n:Nat) (a b:ex):(s.cl n a).cl n b=s.cl n b:=by unfold aa.cl;dsimp only;rw[List.set_set]
theorem aa.JJ (s:aa) (n:Nat) (a b:ex) (p:Int) (x:ad):((s.cl n a).bO p x).cl n b=(s.bO p x).cl n b:=by unfold aa.cl aa.bO;dsimp only;rw[List.set_set]
theorem aa.j2 (b:s.tasks[n]?=R t) (a:ex):(s.cl n a).tasks[n]?=R a:=cZ (bE.1 b).1
theorem eG.cl (h:eG s) (n:Nat) (t:ex):eG (s.cl n t):=⟨h.1,h.2.1,h.2.2.1,h.2.2.2⟩
theorem eG.bO (h:eG s) (p:Int) (x:ad):eG (s.bO p x):=⟨by unfold aa.bO;simp;exact h.1,h.2.1,h.2.2.1,h.2.2.2⟩
theorem aw.JK (H:aw aq S L s w) (b:s.tasks[n]?=R t) (e:aI) {a:Nat} (h:L.tk n=a):aw aq S L (s.cl n {t with e:=e}) ((((w.setCell ⟨a,9,U⟩ (I J e.id)).setCell ⟨a,10,U⟩ (I ah e.wt)).setCell ⟨a,11,U⟩ (I J e.v)).setCell ⟨a,12,U⟩ (I ah e.rem)):=by
 subst h;refine H.Bl b (t':={t with e:=e}) ?_ ?_;·exact((((H.task b).set 9 (I J e.id)).set 10 (I ah e.wt)).set 11 (I J e.v)).set 12 (I ah e.rem)
 ·exact((((Mod.refl _ w).setCell (by rfl) _).setCell (by rfl) _).setCell (by rfl) _).setCell (by rfl) _
theorem aw.ji {t':ex} (H:aw aq S L s w) (a:s.tasks[n]?=R t) (i:Nat) (v:Value) (c:(kM L t).setIfInBounds i v=kM L t') {b:Nat} (h:L.tk n=b):aw aq S L (s.cl n t') (w.setCell ⟨b,i,U⟩ v):=by subst h;refine H.Bl a (t':=t') ?_ (Mod.one _ _ _ _);rw[<-c];exact(H.task a).set i v
theorem wM (j:s.tasks[n]?=R t) (bj:t.on=true) (H:aw aq S L s w) (hk:s.Ok k):Calls au 103 #[aY L.b,aY (L.tk n)] w λe w'=>e=aK (bD #[])∧aw aq S L (s.leave n) w':=by
 have ay:=hk.task n t j;obtain⟨i,O⟩:=dW ay.p.1;have P:i<s.c.aR:=by have:=ay.p.2;omega
 have Q:=hk.eu (p:=(i:Int)) (by omega) (by omega);rw[cd] at Q;have ad:=hk.jT j;obtain⟨g,cap,V,_,_⟩:=H.iJ hk.lens P;obtain⟨cO,bp,X,bq,ai,_⟩:=H.tags;have Y:=(bE.1 j).1;have aB:=apart bp (X n Y) (by simp);have br:=apart (ai g _ _ V) (X n Y) (by simp);have az:=apart (bq t.g (bE.1 ad).1) (X n Y) (by simp);have a0:=C (hk.a1 i _ Q).1;have D:=C (A4 j i P H hk);have bw:=C (aa.sD j);obtain⟨a2,hF⟩:=aX (s.leave n);have a3:=C hF;rw[hF];have a4:=C j;have aC:=C O;obtain⟨aF,ae⟩:=aX (s.least t i);have a5:=C ae;rw[ae] at D;obtain⟨a,E⟩:=aX ({t with mn:=aF}:ex);have am:=C E;have bC:a.p=(i:Int):=by rw[<-E];exact O
 have aM:a.g=t.g:=by rw[<-E]
 obtain⟨l,r⟩:=aX (s.cl n a);have aj:=C r;have ap:l.tasks[n]?=R a:=r▸aa.j2 j a;have aO:l.groups[a.g]?=R (s.ax t.g):=by rw[<-r,aM];exact ad
 have a9:l.hiers[i]?=R (s.a1 (i:Int)):=r▸Q;have aQ:eG l:=r▸hk.lens.cl n a;have aD:l.c.aR=s.c.aR:=by rw[<-r];rfl
 have aS:i<l.c.aR:=by rw[aD];exact P
 obtain⟨Z,aU⟩:=aX ((s.a1 (i:Int)).drop (s.ax t.g).h.idx t.h.idx);have bG:=C aU;obtain⟨x,y⟩:=aX (l.bO (i:Int) Z);have aP:=C y;have bH:x.tasks[n]?=R a:=y▸ap;have bd:x.groups[a.g]?=R (s.ax t.g):=y▸aO;have be:eG x:=y▸aQ.bO i Z;have bK:i<x.c.aR:=by rw[<-y];exact aS
 have A:=C (bx ap (bx aO (bx a9 (bx aQ aS))));have B:=C (bx bH (bx bd (bx be bK)));have bL:a.h.idx=t.h.idx:=by rw[<-E]
 obtain⟨d,aT⟩:=aX ((s.a1 (i:Int)).er (s.ax t.g).h.idx t.h.idx);have aN:=C aT;obtain⟨bi,bP⟩:=aX ((s.a1 (i:Int)).e5 (s.ax t.g).h.idx t.h.idx);have z:=C (λ(T:Nat->Prop) (W:ab) (F:cQ W T (L.hk i) (s.a1 (i:Int)))=>I8 T (L.hk i) (s.a1 (i:Int)) (s.ax t.g).h.idx t.h.idx W F a0);rw[aU,aT,bP] at z;obtain⟨m,bR⟩:=aX s.c.aR;have cS:(i:Int)<(m:Int):=by omega
 rw[bR] at V;have aV:=C V;obtain⟨cT,cU,aI,cR,aZ,c7,bh,bI,dc,df,b_,dj,dv,bU,f⟩:=H.ek j rfl;have bY:=f 13;rw[O] at aZ;have bo:(i:Int).toNat=i:=by omega
 have dw:(0:Int)<=(i:Int):=by omega
 have o:=C (bx bC (bx aM bL));unfold aY at*;obtain⟨b,ak⟩:=aX L.b;have a6:=C ak;rw[ak] at D aB⊢;obtain⟨q,a8⟩:=aX (L.tk n);have u:=C a8;rw[a8] at aZ bU bY D aB br az⊢;obtain⟨al,a_⟩:=aX (L.hk i);have G:=C a_;rw[a_] at z;obtain⟨av,ba⟩:=aX (L.gk t.g);have K:=C ba;rw[ba] at az;obtain⟨bZ,ag⟩:=aX ((s.ax t.g).h.idx);have bb:=C ag;rw[ag] at z;obtain⟨b2,bc⟩:=aX t.h.idx;have bf:=C bc;rw[bc] at z;go_enter func103,ntmps103;go_wp2_with fail;refine D.mono ?_;rintro e dx ⟨rfl,nq,rfl⟩;go_upto_region 1 with fail;generalize bQ:(w.drewN nq).setCell ⟨q,13,U⟩ (I J aF)=bg;have M:aw aq S L l bg:=by rw[<-aj.out,<-bQ];exact(H.next (below_drewN (Below.refl _ _) nq)).ji a4 13 _ (by rw[<-am.out];rfl) u
 obtain⟨bs,b9,bv,a7,cb⟩:=A;obtain⟨cf,cg⟩:=M.fN a7 cb aV;obtain⟨T,F,ch⟩:=M.drew.wL (p:=i) bv;rw[G.out] at F;have an:=C (z T bg.drew F);have ao:=C (ch (bD #[bm (dn d),I J bi]) Z);rw[aP.out,G.out] at ao;obtain⟨cj,dy,bz,dF,cn,b5,dL,dQ,ce,dR,bu,dX,ci,ee,f⟩:=M.ek bs u;have cp:=(M.ax b9).cell 1 (v:=I J (s.ax t.g).h.idx) rfl;rw[o.out.1] at cn;rw[o.out.2.1,K.out] at b5;rw[o.out.2.2,bf.out] at cj;rw[o.out.2.1,K.out,bb.out] at cp;rw[G.out] at cf;rw[a6.out] at cg;unfold dn at an ao;go_region_held3 (λW'=>W'.cell? ⟨b,105,U⟩=R (aA (R ⟨g,0,U⟩) m cap)∧W'.cell? ⟨g,i,U⟩=R (af (R ⟨al,0,U⟩))∧W'.cell? ⟨q,4,U⟩=R (I J i)∧W'.cell? ⟨q,5,U⟩=R (af (R ⟨av,0,U⟩))∧W'.cell? ⟨q,0,U⟩=R (I J b2)∧W'.cell? ⟨av,1,U⟩=R (I J bZ)) ((refine⟨?_,?_,?_,?_,?_,?_⟩)<;>(with_reducible repeat(first|assumption|refine b7 ?_|refine jV (by with_reducible assumption) ?_|refine Bo (by decide) ?_))) (first|(go_at_call 152;refine an.mono ?_;rintro e bk bB;obtain⟨rfl,N⟩:=ao e bk bB;obtain⟨bX,ck,en,eo,cr,cu,ew,co,eH,eI,eL,cs,eT,eU,f⟩:=N.ek B.1 u;have cv:=f 9;have eY:=f 10;have bA:=f 11;have e2:=f 12;have cy:=(N.ax B.2.1).cell 1 (v:=I J (s.ax t.g).h.idx) rfl;obtain⟨cE,b8⟩:=N.fN B.2.2.1 B.2.2.2 aV;rw[o.out.1] at cr;rw[o.out.2.1,K.out] at cu;rw[o.out.2.2,bf.out] at bX;rw[o.out.2.1,K.out,bb.out] at cy;rw[G.out] at cE;rw[a6.out] at b8;have cq:=C N));all_goals
  obtain⟨e3,bl⟩:=aX ((((bk.setCell ⟨q,9,U⟩ (I J d.id)).setCell ⟨q,10,U⟩ (I ah (d.wt:Int))).setCell ⟨q,11,U⟩ (I J d.v)).setCell ⟨q,12,U⟩ (I ah (d.rem:Int)));have ac:=cq.JK B.1 d u;rw[bl] at ac;rw[bl];have bn:=aa.j2 B.1 {a with e:=d};have cH:=ac.ji (t':={a with e:=d,on:=false}) bn 3 (aE false) rfl u;obtain⟨_,_,_,fl,_,_,_,_,_,_,_,_,_,_,f⟩:=ac.ek bn u;have bJ:=f 3;go_wp2_with fail;go_end0;refine⟨rfl,?_⟩;have ar:a2=((x.cl n {a with e:=d}).cl n {a with e:=d,on:=false}):=by rw[<-a3.out,bw.out,aa.nC,<-aP.out,<-aj.out,aa.JJ,aC.out,bG.out,aN.out,a5.out,<-am.out,aC.out]
  rw[ar];exact cH
end
section
variable {aq w:ab} {S:Nat->Prop} {L:bu} {s:aa} {k:Nat}
theorem aa.JL (a:s.tasks[n]?=R t):s.cl n t=s:=by
 obtain⟨b,c⟩:=bE.1 a;unfold aa.cl;have:s.tasks.set n t=s.tasks:=by rw[<-c];exact List.set_getElem_self b
 rw[this]
theorem JM (i:Nat) (z:i<s.c.aR) (a:ex) (A:a.g=t.g) (q:s.tasks[n]?=R t) (hk:s.Ok k) (W:ab) (f:aw aq S L (s.cl n a) W):Calls au 36 #[aY L.b,aY (L.tk n),I J (i:Int)] W λe w'=>e=aK (I J (s.least t i))∧∃d,w'=W.drewN d:=by
 have l:=hk.eu (p:=(i:Int)) (by omega) (by omega);rw[cd] at l;obtain⟨g,cap,P,B,u⟩:=f.iJ (hk.lens.cl n a) z;obtain⟨T,D⟩:=f.a1 (p:=i) (h:=s.a1 (i:Int)) l;have j:=C (λd=>Calls.quiet_of_same (n:=d) (wH T (L.hk i) (s.a1 (i:Int)) (s.ax t.g).h.idx (W.drewN d) (D.frame ((Mod.refl (λ_=>False) W).drewN d) (λ_ _=>id)) (hk.a1 i _ l).1));have E:=hk.jT q;have o:=(f.task (aa.j2 q a)).cell 5 (v:=aY (L.gk a.g)) rfl;rw[A] at o;have w:=(f.ax (n:=t.g) E).cell 1 (v:=I J (s.ax t.g).h.idx) rfl;have F:(i:Int)<(s.c.aR:Int):=by omega
 have Q:(i:Int).toNat=i:=by omega
 have U:(0:Int)<=(i:Int):=by omega
 unfold aa.least;obtain⟨m,y⟩:∃m,s.c.aR=m:=⟨_,rfl⟩;rw[show(s.cl n a).c.aR=s.c.aR from rfl,y] at u;rw[y] at F;obtain⟨V,G⟩:∃x,L.hk i=x:=⟨_,rfl⟩;rw[G] at B j;obtain⟨b,H⟩:∃b,L.b=b:=⟨_,rfl⟩;rw[H] at u⊢;obtain⟨X,K⟩:∃b,L.tk n=b:=⟨_,rfl⟩;rw[K] at o⊢;obtain⟨Y,M⟩:∃b,L.gk t.g=b:=⟨_,rfl⟩;rw[M] at o w;obtain⟨x,N⟩:∃x,(s.ax t.g).h.idx=x:=⟨_,rfl⟩;rw[N] at w j⊢;obtain⟨r,O⟩:∃r,(s.a1 (i:Int)).minOf x=r:=⟨_,rfl⟩;rw[O] at j⊢;unfold aY at*;go_enter func36,ntmps36;go_wp2_with fail;go_quiet ((go_at_call 76;with_reducible exact j.out _));go_wp2_with fail;go_ret;exact⟨rfl,nq,rfl⟩
theorem tp (F:s.tasks[n]?=R t) (bH:t.on=false) (bd:t.dead=false) (i:Nat) (aQ:i<s.c.aR) (j:Bool) (H:aw aq S L s w) (hk:s.Ok k):Calls au 100 #[aY L.b,aY (L.tk n),I J (i:Int),aE j] w λe w'=>e=aK (bD #[])∧aw aq S L (s.put n i j) w':=by
 have be:=C (aa.put_eq F (i:Int) j);obtain⟨ad,hF⟩:∃ad,s.put n i j=ad:=⟨_,rfl⟩;have bK:=C hF;rw[hF];have cO:=C (hk.ze F bH bd (p:=(i:Int)) (by omega) (by omega) j);have aB:=hk.eu (p:=(i:Int)) (by omega) (by omega);rw[cd] at aB;have bL:=C aB;have aN:=hk.jT F;have aS:=C aN;have bi:=C (hk.a1 i _ aB).1;have q:=C F;have V:=C aQ;have az:=C H;have W:=C hk;obtain⟨g,cap,aU,_,_⟩:=H.iJ hk.lens aQ;obtain⟨m,aP⟩:∃m,s.c.aR=m:=⟨_,rfl⟩;have cS:(i:Int)<(m:Int):=by omega
 have cT:=C aP;rw[aP] at aU;have aT:=C aU;have cU:(i:Int).toNat=i:=by omega
 have aI:(0:Int)<=(i:Int):=by omega
 obtain⟨bP,bR,bU,bY,aV,al,bZ,b2,bQ,bs,b9,aC,bv,aZ,l⟩:=H.ek F rfl;unfold aY at*;obtain⟨b,ak⟩:∃b,L.b=b:=⟨_,rfl⟩;have G:=C ak;rw[ak];obtain⟨r,a6⟩:∃b,L.tk n=b:=⟨_,rfl⟩;have f:=C a6;rw[a6] at aV aC aZ⊢;go_enter func100,ntmps100;go_upto_if 13 with(fail);go_cut [13] from 14 to 34 (λ_ ab=>aw aq S L (s.cl n {t with e:=s.lk t i}) ab);case first=>
  by_cases X:(i:Int)=t.p;·have Y:s.lk t i=t.e:=(by unfold aa.lk;rw[if_pos X]);have Z:((i:Int)!=t.p)=false:=(by simp[X]);have u:=C (show s.cl n {t with e:=s.lk t i}=s by rw[Y];exact aa.JL q.out);go_wp2_with fail;go_meet;case rel=>rw[u.out];exact az.out
  ·have Y:s.lk t i={t.e with v:=(kC t.e.v t.mn (s.least t i)).1}:=(by unfold aa.lk;rw[if_neg X]);have Z:((i:Int)!=t.p)=true:=(by simp[X]);have y:=C (A4 q.out i V.out az.out.drew W.out);unfold aY at y;rw[G.out,f.out] at y;obtain⟨z,aF⟩:∃x,s.least t i=x:=⟨_,rfl⟩;rw[aF] at y Y;have u:=C Y;go_wp2_with fail;go_region_with (first|(go_at_call 36;refine y.out.mono ?_;rintro e a7 ⟨rfl,nq,rfl⟩)|(go_at_call 141;refine(Ad t.e.v t.mn z _).mono ?_;rintro e K ⟨rfl,M⟩;have N:=az.out.next (w':=K) (by first|exact(below_drewN (Below.refl _ _) _).trans M|exact(below_drewN (Below.refl _ _).drew _).trans M);obtain⟨_,_,_,_,_,_,_,_,_,_,_,cb,_,_,l⟩:=N.ek q.out f.out;have cf:=l 11;have ae:=C N));all_goals obtain⟨A,D⟩:∃A,K.setCell ⟨r,11,U⟩ (I J (kC t.e.v t.mn z).1)=A:=⟨_,rfl⟩;rw[D];have d:=ae.out.ji (t':={t with e:={t.e with v:=(kC t.e.v t.mn z).1}}) q.out 11 (I J (kC t.e.v t.mn z).1) rfl f.out;rw[D] at d;rw[<-u.out] at d;have am:=C d;go_wp2_with fail;go_meet;case rel=>exact am.out
 case rest=>
  obtain⟨a,a8⟩:∃a:ex,{t with e:=s.lk t i}=a:=⟨_,rfl⟩;rw[a8] at hcut;have O:=C a8;have P:=C hcut;go_upto_if 35 with(fail);go_cut [35] from 36 to 54 (λ_ ab=>aw aq S L (s.cl n {a with e:=s.gz t i j}) ab);case first=>
   cases j with
   |false=>have u:=C (show({a with e:=s.gz t i false}:ex)=a by rw[<-O.out];rfl);go_wp2_with fail;go_meet;case rel=>rw[u.out];exact P.out
   |true=>have y:=C (JM i V.out a (by rw[<-O.out]) q.out W.out wc.drew P.out.drew);unfold aY at y;rw[G.out,f.out] at y;have u:=C (show s.gz t i true={a.e with v:=h7 a.e.v (s.least t i) s.c.b4} by rw[<-O.out];rfl);obtain⟨z,aF⟩:∃x,s.least t i=x:=⟨_,rfl⟩;rw[aF] at y u;have a_:=P.out.top.cell 3 Is;rw[G.out,show(s.cl n a).c.b4=s.c.b4 from rfl] at a_;obtain⟨ao,cg⟩:∃x,s.c.b4=x:=⟨_,rfl⟩;rw[cg] at a_ u;have aM:=C (aa.j2 q.out a);obtain⟨_,_,_,_,_,_,_,_,_,_,_,aC,_,_,l⟩:=P.out.ek aM.out f.out;go_wp2_with fail;go_region_with (first|(go_at_call 36;refine y.out.mono ?_;rintro e a7 ⟨rfl,nq,rfl⟩)|(go_at_call 146;refine(Ac a.e.v z ao _).mono ?_;rintro e K ⟨rfl,M⟩;have N:=P.out.next (w':=K) (by first|exact(below_drewN (Below.refl _ _) _).trans M|exact(below_drewN (Below.refl _ _).drew _).trans M);obtain⟨_,_,_,_,_,_,_,_,_,_,_,cb,_,_,l⟩:=N.ek aM.out f.out;have cf:=l 11;have ae:=C N));all_goals obtain⟨A,D⟩:∃A,K.setCell ⟨r,11,U⟩ (I J (h7 a.e.v z ao))=A:=⟨_,rfl⟩;rw[D];have d:=ae.out.ji (t':={a with e:={a.e with v:=h7 a.e.v z ao}}) aM.out 11 (I J (h7 a.e.v z ao)) rfl f.out;rw[D,aa.nC,<-u.out] at d;have am:=C d;go_wp2_with fail;go_meet;case rel=>exact am.out
  case rest=>obtain⟨E,av⟩:∃E:ex,{a with e:=s.gz t i j}=E:=⟨_,rfl⟩;rw[av] at hcut;have aj:=C av;have ap:=C (aa.j2 q.out E);obtain⟨bP,bR,bU,bY,aV,al,bZ,b2,bQ,bs,b9,aC,bv,aZ,l⟩:=hcut.ek ap.out f.out;have cR:=l 4;have c7:=l 3;have ch:=C hcut;go_upto_region 5 with fail;obtain⟨A,D⟩:∃A,(wc.setCell ⟨r,4,U⟩ (I J (i:Int))).setCell ⟨r,3,U⟩ (aE true)=A:=⟨_,rfl⟩;rw[D];have cj:=ch.out.ji (t':={E with p:=(i:Int)}) ap.out 4 (I J (i:Int)) rfl f.out;have d:=cj.ji (t':={E with p:=(i:Int),on:=true}) (aa.j2 ap.out _) 3 (aE true) rfl f.out;rw[D,aa.nC,aa.nC] at d;obtain⟨B,ac⟩:∃B:ex,{E with p:=(i:Int),on:=true}=B:=⟨_,rfl⟩;rw[ac] at d;have cn:=C ac;have b5:=aa.j2 q.out B;have ba:B.g=t.g:=(by rw[<-ac,<-aj.out,<-O.out]);have ag:B.e=s.gz t i j:=(by rw[<-ac,<-aj.out]);obtain⟨bh,bI,dc,df,b_,bb,dj,dv,bo,cp,bB,bX,cr,dw,l⟩:=d.ek b5 f.out;obtain⟨cu,cy⟩:=d.fN (W.out.lens.cl n B) V.out aT.out;have bc:=(d.ax (n:=t.g) aS.out).cell 1 (v:=I J (s.ax t.g).h.idx) rfl;obtain⟨T,bf,cE⟩:=d.drew.wL (p:=i) bL.out;have bg:=C (bx ba ag);obtain⟨o,an⟩:∃o,s.gz t i j=o:=⟨_,rfl⟩;have aO:=C an;rw[ba] at bb;rw[ag,an] at cp bB bX cr;rw[G.out] at cy;obtain⟨Z,bk⟩:∃x,L.hk i=x:=⟨_,rfl⟩;rw[bk] at cu bf;have bl:=C bk;obtain⟨bn,bp⟩:∃x,L.gk t.g=x:=⟨_,rfl⟩;rw[bp] at bb bc;have bq:=C bp;obtain⟨Q,ai⟩:∃x,(s.ax t.g).h.idx=x:=⟨_,rfl⟩;rw[ai] at bc;have br:=C ai;have a0:=C (I6 T Z (s.a1 (i:Int)) Q o A.drew bf bi.out);obtain⟨bm,b8⟩:∃x,(s.a1 (i:Int)).dI Q o=x:=⟨_,rfl⟩;rw[b8] at a0;have bw:=C (cE (I J bm) ((s.a1 (i:Int)).put Q o));rw[bl.out] at bw;go_region_held3 (λW'=>W'.cell? ⟨b,105,U⟩=R (aA (R ⟨g,0,U⟩) m cap)∧W'.cell? ⟨g,i,U⟩=R (af (R ⟨Z,0,U⟩))∧W'.cell? ⟨r,5,U⟩=R (af (R ⟨bn,0,U⟩))∧W'.cell? ⟨bn,1,U⟩=R (I J Q)∧W'.cell? ⟨r,9,U⟩=R (I J o.id)∧W'.cell? ⟨r,10,U⟩=R (I ah o.wt)∧W'.cell? ⟨r,11,U⟩=R (I J o.v)∧W'.cell? ⟨r,12,U⟩=R (I ah o.rem)) ((refine⟨?_,?_,?_,?_,?_,?_,?_,?_⟩)<;>(with_reducible repeat(first|assumption|refine b7 ?_))) (first|(go_at_call 147;refine a0.out.mono ?_;rintro e cq cH;obtain⟨rfl,ay⟩:=bw.out e cq cH;obtain⟨dx,dy,bz,dF,dL,a2,dQ,ce,dR,a3,a4,a5,bC,bu,l⟩:=ay.ek (aa.j2 q.out B) f.out;have a9:=(ay.ax (n:=t.g) aS.out).cell 1 (v:=I J (s.ax t.g).h.idx) rfl;obtain⟨aD,bG⟩:=ay.fN ((W.out.lens.cl n B).bO _ _) V.out aT.out;rw[bg.out.1,bq.out] at a2;rw[bg.out.2,aO.out] at a3 a4 a5 bC;rw[bq.out,br.out] at a9;rw[bl.out] at aD;rw[G.out] at bG;have ar:=C ay));all_goals clear a2 a3 a4 a5 bC a9 aD bG;go_wp2_with fail;go_end0;refine⟨rfl,?_⟩;have bj:ad=(s.cl n B).bO (i:Int) ((s.a1 (i:Int)).put Q o):=(by rw[<-bK.out,be.out,br.out,aO.out,<-cn.out,<-aj.out,<-O.out,aO.out]);rw[bj];exact ar.out
end
variable {n₀:Nat} {zs:List Int}
def JN (L:bu) (l:List Nat) (w:ab) (e:Ending) (w':ab):Prop:=∃v,e=aK v∧Own dr w' w.heap.size 65 v l.length (l.map λg=>R (L.gk g))∧Below w.heap.size w w'
def rp (s:aa):Option Nat->List Nat
 |none=>[]
 |some g=>if(s.ax g).limited then[g] else[]
theorem aa.JO (s:aa) (l:List (Option Nat)) (o:Option Nat):s.limited (l++[o])=s.limited l++rp s o:=by
 unfold aa.limited;rw[List.filterMap_append];congr 1;cases o with
 |none=>rfl
 |some g=>
  by_cases h:(s.ax g).limited=true;·simp[h,rp]
  ·simp[h,rp]
theorem aa.JP {s:aa} {l:List (Option Nat)} {o:Option Nat} (e:l[j]?=R o):s.limited (l.take (j+1))=s.limited (l.take j)++rp s o:=by rw[gE,e,lI,aa.JO]
theorem aa.JQ (s:aa) (l:List (Option Nat)):(s.limited l).length<=l.length:=by unfold aa.limited;exact List.length_filterMap_le _ _
theorem Rd.pQ {zs:List (Option Nat)} (h:Rd dr n₀ W a n zs) (f:0<n):∃b d,a=R ⟨b,d,U⟩∧b<n₀∧∀j c,zs[j]?=R c->W.cell? ⟨b,d+j,U⟩=R (c8 c):=by obtain⟨b,d,e,g,i⟩:=h.cells f;refine⟨b,d,e,g,λj c k=>?_⟩;have:=i j c k 0 (c8 c) rfl;simpa[dr] using this
section
variable {aq w:ab} {S:Nat->Prop} {L:bu} {s:aa} {k:Nat}
theorem wN (a:Option Addr) (cap:Nat) (l:List (Option Nat)) (H:aw aq S L s w) (M:Rd dr w.heap.size w a l.length (l.map λo=>o.map L.gk)) (Z:l.length<=1000000) (ao:∀g,R g∈l->g<s.groups.length):Calls au 61 #[aA a l.length cap] w (JN L (s.limited l) w):=by
 have ac:=C ao;obtain⟨n,N⟩:=aX l.length;have O:=C N;rw[N] at Z M⊢;go_enter func61,ntmps61;go_wp2_with fail;go_loopw [3,5,8] (λv u i W=>∃j:Nat,j<=n∧i=I J (j:Int)∧Own dr W w.heap.size 65 v (s.limited (l.take j)).length ((s.limited (l.take j)).map λg=>R (L.gk g))∧Below w.heap.size w W) (λ_ _ i _=>n-(intOf i).toNat);case atStart=>exact⟨0,by omega,rfl,Own.nil _ _ _,Below.refl _ _⟩
 case round=>
  obtain⟨j,a6,rfl,h,b⟩:=hrel;by_cases ay:j<n;·obtain⟨o,A⟩:∃o,l[j]?=R o:=⟨_,b6 (by rw[O.out];exact ay)⟩;have r:=aa.JP (s:=s) A;obtain⟨ad,aB,az,aC,ab⟩:=M.pQ (by omega);subst az;have t:=(b.cell (p:=⟨ad,aB+j,U⟩) aC).trans (ab j (o.map L.gk) (by rw[dP,A];rfl));have a8:(j:Int)<(n:Int):=(by omega);have a_:(0:Int)<=(j:Int):=(by omega);have ba:(j:Int).toNat=j:=(by omega);cases o with
   |none=>
    have c:=C (show s.limited (l.take (j+1))=s.limited (l.take j) by rw[r];simp[rp]);simp only[Option.map_none,c8] at t;go_wp2_with fail;go_roundw;case rel=>exact⟨j+1,by omega,by go_num,by rw[c.out];exact h,b⟩
    case measure=>simp[intOf];omega
   |some g=>
    have aF:=ac g (ea A);obtain⟨G,D⟩:∃G,s.groups[g]?=R G:=⟨_,b6 aF⟩;have P:s.ax g=G:=aa.l2 D;have Q:=H.next b;have d:=(Q.ax D).cell 5 (v:=c8 (G.band.map λ_=>L.bd g)) rfl;simp only[iS,c8,aY] at t;cases k:G.band with
    |none=>
     have c:=C (show s.limited (l.take (j+1))=s.limited (l.take j) by rw[r];show s.limited (l.take j)++(if(s.ax g).limited then[g] else[])=_;rw[P];unfold cc.limited;rw[k];simp);rw[k] at d;simp only[Option.map_none,c8] at d;generalize E:L.gk g=f at t d;go_wp2_with fail;refine(zT _).mono ?_;rintro e F ⟨rfl,rfl⟩;go_wp2_with fail;go_roundw;case rel=>exact⟨j+1,by omega,by go_num,by rw[c.out];exact h,b⟩
     case measure=>simp[intOf];omega
    |some B=>
     have q:=C (zS (Q.band D k));have T:(s.ax g).limited=B.limited:=(by rw[P];unfold cc.limited;rw[k]);rw[k] at d;simp only[iS,c8,aY] at d;obtain⟨f,E⟩:=aX (L.gk g);have ae:=C E;rw[E] at t d;generalize ag:L.bd g=bb at d q;cases y:B.limited with
     |false=>
      have c:=C (show s.limited (l.take (j+1))=s.limited (l.take j) by rw[r];show s.limited (l.take j)++(if(s.ax g).limited then[g] else[])=_;rw[T,y];simp);rw[y] at q;go_wp2_with fail;refine q.mono ?_;rintro e F ⟨rfl,rfl⟩;go_wp2_with fail;go_roundw;case rel=>exact⟨j+1,by omega,by go_num,by rw[c.out];exact h,b⟩
      case measure=>simp[intOf];omega
     |true=>
      have c:=C (show s.limited (l.take (j+1))=s.limited (l.take j)++[g] by rw[r];show s.limited (l.take j)++(if(s.ax g).limited then[g] else[])=_;rw[T,y];simp);rw[y] at q;have K:=C (h.alloc (av #[af (R ⟨f,0,U⟩)] 65));have V:w.heap.size<=(wr.alloc (av #[af (R ⟨f,0,U⟩)] 65)).heap.size:=(by have:=b.size;simp;omega);have X:(s.limited (l.take j)).length<=10000000:=(by have am:=s.JQ (l.take j);rw[ix] at am;omega);have aM:=C (show∀z u,(dr.e (R f))[z]?=R u->(wr.alloc (av #[af (R ⟨f,0,U⟩)] 65)).cell? ⟨wr.heap.size,z,U⟩=R u fromλz u aj=>dE.trans (by rw[<-aj];show([af (R ⟨f,0,U⟩)]:List Value).toArray[z]?=_;rw[ff];rfl));obtain⟨m,Y⟩:=aX ((s.limited (l.take j)).length);have ap:=C Y;rw[Y] at K X;go_wp2_with fail;refine q.mono ?_;rintro e F ⟨rfl,aO⟩;subst aO;go_wp2_with ((at_builtin;refine jv Bf rfl _ _ rfl w.heap.size _ m _ rfl K F.heap.size _ (R f) rfl aM X V ?_;intro ah u aQ aS aU;have aP:=C aQ;have aT:=C (show Grow _ u _ ah from Grow.gK aS aU);have aV:=C (show Below w.heap.size w u from(b.alloc b.size _).trans (aT.below V (λaZ x=>(K.lt aZ x).1)))));go_roundw;case rel=>exact⟨j+1,by omega,by go_num,by rw[c.out,eZ,nP,ap.out,h4,List.map_singleton,ae.out];exact aP,aV⟩
      case measure=>simp[intOf];omega
  ·obtain rfl:j=n:=by omega
   have ak:l.take j=l:=(by rw[ub];rw[O.out];exact bM _);rw[ak] at h;go_wp2_with fail;go_ret;exact⟨_,rfl,h,b⟩
end
section
variable {aq w W:ab} {S:Nat->Prop} {L:bu} {s:aa} {k:Nat}
theorem aw.rq (H:aw aq S L s w) (b:Below w.heap.size w W):∃c:Nat->Prop,(∀k,c k->k<w.heap.size)∧aw W c L s W∧∀(d:bu) (f:aa) (w':ab),aw W c d f w'->aw aq S d f w':=by
 obtain⟨h,tag,H⟩:=H;refine⟨λk=>tag k≠ .no∧k<w.heap.size,λk a=>a.2,?_,?_⟩
 ·refine hU.start (tag:=fT w tag .no) ⟨(H.next b).part,λk j e=>?_⟩;unfold fT at e;split at e;·rename_i a;exact⟨e,a⟩
  ·exact absurd rfl e
 ·rintro d f w' ⟨m,n,l⟩;refine⟨?_,n,l.part,λk j e=>?_⟩
  ·refine(h.ju b).trans m (λi o a=>?_);rcases H.own i a.2 a.1 with g|g;·exact g
   ·exact absurd o (by omega)
  ·rcases l.own k j e with a|a;·exact H.own k a.2 a.1
   ·exact .inr (cJ h.size (cJ b.size a))
theorem aw.kept {a:Nat->Prop} (H:aw W a L s W') (d:∀k,a k->k<n₀) (c:W.cell? ⟨b,o,U⟩=R v) (f:n₀<=b):W'.cell? ⟨b,o,U⟩=R v:=H.1.cell c (ig c) (λe=>by have:=d b e;omega)
theorem aw.size {W':ab} (H:aw aq S L s W'):aq.heap.size<=W'.heap.size:=H.1.size
theorem aw.kP {h h':ad} {f:Nat} {args:Array Value} {V:Value} (H:aw aq S L s w) (a:s.hiers[i]?=R h) (b:∀T,cQ w T (L.hk i) h->Calls au f args w (dA T (L.hk i) V h' w)):Calls au f args w λe w'=>e=aK V∧aw aq S L (s.bO i h') w':=by obtain⟨T,c,d⟩:=H.wL a;exact(b T c).mono (λe w' g=>d V h' e w' g)
theorem aw.dB (H:aw aq S L s w) {G:cc} (b:s.groups[g]?=R G) {gb:Nat} (e:L.gk g=gb):w.cell? ⟨gb,0,U⟩=R (I J g)∧w.cell? ⟨gb,1,U⟩=R (I J G.h.idx)∧w.cell? ⟨gb,2,U⟩=R (I J G.h.gen)∧w.cell? ⟨gb,3,U⟩=R (I ah G.shares)∧w.cell? ⟨gb,4,U⟩=R (I J G.quota)∧w.cell? ⟨gb,5,U⟩=R (c8 (G.band.map λ_=>L.bd g))∧w.cell? ⟨gb,6,U⟩=R (c8 (G.line.map λ_=>L.ln g))∧∀i,w.frozen? ⟨gb,i,U⟩=false:=by subst e;have a:=H.ax b;exact⟨a.cell 0 rfl,a.cell 1 rfl,a.cell 2 rfl,a.cell 3 rfl,a.cell 4 rfl,a.cell 5 rfl,a.cell 6 rfl,λi=>a.free i⟩
end
section
variable {aq w:ab} {S:Nat->Prop} {L:bu} {s:aa} {k:Nat}
def tr (s:aa) (g:Nat) (r:aa) (x:Nat×Nat):aa:=if 0<s.load g x.1 then r.bO x.1 ((r.a1 x.1).bV (s.ax g).h.idx x.2) else r
def kQ (s:aa) (g j:Nat):aa:=((s.l0 g).take j).foldl (tr s g) s
theorem aa.J2 (s:aa) (g:Nat):s.bV g=kQ s g (s.l0 g).length:=by unfold kQ;rw[h3];rfl
theorem J3 {x:Nat×Nat} (e:(s.l0 g)[j]?=R x):kQ s g (j+1)=tr s g (kQ s g j) x:=by unfold kQ;rw[gE,e,lI,r2];rfl
theorem aa.J4 (s:aa) (g:Nat):(s.l0 g).length=s.c.aR:=by unfold aa.l0 jP;simp
theorem aa.Ok.kQ (h:s.Ok k) (g j:Nat):cL k s (kQ s g j):=by
 unfold Go.Proofs.YtddbkdjcjoofpaaGreatDoor.kQ;refine lp _ _ s h ?_;intro x e r d;have o:x.1<s.c.aR:=by have e:=List.mem_of_mem_take e;unfold aa.l0 at e;have:=(List.of_mem_zip (a:=x.1) (b:=x.2) e).1;simpa using this
 unfold tr;split
 ·have f:(0:Int)<=(x.1:Int):=by omega
  have m:(x.1:Int)<r.c.aR:=by rw[d.dH.c];omega
  have l:=d.ok.eu f m;have n:=d.ok.a1 _ _ l;exact⟨d.ok.bO f l (n.1.bV _ _) (ad.yH _ _ _) (λj i=>(ad.y6 _ _ _ j _).1),cG.bO _ _ _⟩
 ·exact cL.refl d.ok
theorem aa.Ok.wQ (h:s.Ok k) (g:Nat) (p:Int):s.load g p<=k*262144:=by unfold aa.load;refine cJ (A9 262144 _ λt a=>?_) (o5 _ h.eA.1);obtain⟨n,b⟩:=mm.1 a;exact(h.task n t b).w.2
def hh (s:aa) (g j:Nat):List Nat:=(gh j).map λp:Nat=>s.load g p
theorem Br (s:aa) (g j:Nat):hh s g (j+1)=hh s g j++[s.load g (j:Int)]:=by unfold hh;rw[nU,h4];rfl
theorem tt (s:aa) (g j:Nat):(hh s g j).length=j:=by unfold hh;simp
theorem J5 (s:aa) (g:Nat) (h:i<j):nat (hh s g j) i=s.load g (i:Int):=by unfold nat hh;rw[dP,uh h];rfl
theorem J6 (s:aa) (g:Nat) (h:j<s.c.aR):(s.l0 g)[j]?=R (j,nat (jP (s.ax g).shares (hh s g s.c.aR)) j):=by
 have a:(jP (s.ax g).shares (hh s g s.c.aR)).length=s.c.aR:=by unfold jP;rw[ep,tt]
 unfold aa.l0;rw[List.getElem?_zip_eq_some];refine⟨uh h,?_⟩;exact ru (l:=jP (s.ax g).shares (hh s g s.c.aR)) (by rw[a];exact h)
theorem Bs (c:Nat):∀l:List Nat,(∀n∈l,n<=c)->l.sum<=l.length*c
 |[],_=>hq _
 |a::l,h=>by have d:=Bs c l (λn b=>h n (gD _ b));have e:=h a ey;rw[List.sum_cons,dY,Nat.succ_mul];omega
theorem J7 (g:Nat) (G:g<s.groups.length) (bw:g≠0) (H:aw aq S L s w) (hk:s.Ok k) (aB:k<=100000):Calls au 60 #[aY L.b,aY (L.gk g)] w λe w'=>e=aK (bD #[])∧aw aq S L (s.bV g) w':=by
 obtain⟨a2,hF⟩:=aX (s.bV g);have a3:=C hF;rw[hF];have az:=hk.oo G;have a4:=C az;have a5:=C (hk.ax g _ az bw).shares;have aC:=H.top.cell 0 oD;obtain⟨m,aF⟩:=aX s.c.aR;have y:=C aF;have aI:m<=64:=by have:=hk.aR;omega
 rw[aF] at aC;have K:=C (λ(W:ab) (M:Below w.heap.size w W) (p:Int)=>tl g G p (H.next M) hk aB);unfold aY at*;obtain⟨b,ae⟩:=aX L.b;have am:=C ae;rw[ae] at aC K⊢;obtain⟨bC,aM⟩:=aX (L.gk g);have N:=C aM;rw[aM] at K⊢;go_enter func60,ntmps60;go_wp2_with fail;go_loopw [4,5,13] (λv u i W=>∃j:Nat,j<=m∧i=I J (j:Int)∧Own jj W w.heap.size 31 v j (hh s g j)∧Below w.heap.size w W) (λ_ _ i _=>m-(intOf i).toNat);case atStart=>exact⟨0,by omega,rfl,Own.nil _ _ _,Below.refl _ _⟩
 case round=>
  obtain⟨j,cR,rfl,O,t⟩:=hrel;by_cases c7:j<m
  ·have a9:(j:Int)<(m:Int):=(by omega);have bh:(j:Int).toNat=j:=(by omega);have aj:=C (K wr t (j:Int));have ap:=C (Br s g j);generalize aD:s.load g (j:Int)=cB at aj ap;go_wp2_with fail;refine aj.mono ?_;rintro e z ⟨rfl,aO⟩;have P:Below w.heap.size w z:=t.trans (aO.mono t.size);have aQ:=C ((O.next' aO).alloc (av #[I ah (cB:Int)] 31));have aS:w.heap.size<=(z.alloc (av #[I ah (cB:Int)] 31)).heap.size:=(by have:=P.size;simp;omega);have bG:j<=10000000:=(by omega);have bH:=C (show∀a u,(jj.e cB)[a]?=R u->(z.alloc (av #[I ah (cB:Int)] 31)).cell? ⟨z.heap.size,a,U⟩=R u fromλa u aU=>dE.trans (by rw[<-aU];show([I ah (cB:Int)]:List Value).toArray[a]?=_;rw[ff];rfl));go_wp2_with ((at_builtin;refine jv wO rfl _ _ rfl w.heap.size _ j _ rfl aQ z.heap.size _ cB rfl bH bG aS ?_;intro bd u be bK bL;have aN:=C be;have bi:=C (show Grow _ u _ bd from Grow.gK bK bL);have bP:=C (show Below w.heap.size w u from(P.alloc P.size _).trans (bi.below aS (λbR x=>(aQ.lt bR x).1)))));go_roundw;case rel=>exact⟨j+1,by omega,by go_num,by rw[ap.out];exact aN,bP⟩
   case measure=>simp[intOf];omega
  ·obtain rfl:j=m:=by omega
   obtain⟨A,aP,bU,rfl,bI,dc,df,bY⟩:=O.rd;have aT:∀n∈hh s g j,n<=100000*262144:=λn B=>by unfold hh at B;obtain⟨p,_,rfl⟩:=e0.1 B;exact cJ (hk.wQ g (p:Int)) (o5 _ aB)
   have al:=Bs _ _ aT;rw[A] at al;have Q:=C (J0 aP bU (hh s g j) (s.ax g).shares a5.2 wr (by rw[A];exact bY) (by rw[A];omega) (λn B=>by have:=aT n B;omega) (by omega));rw[A] at Q;obtain⟨bZ,aV,b2,aZ,bQ,bs,b9,ak⟩:=(H.next t).dB a4 N;obtain⟨V,a6⟩:=aX ((s.ax g).shares);have bv:=C a6;rw[a6] at aZ Q;have a7:=C O;have cb:(jP V (hh s g j)).length=j:=(by unfold jP;rw[ep,A]);have cf:=C cb;go_wp2_with fail;refine Q.mono ?_;rintro e X ⟨b_,rfl,Y,a8⟩;rw[cf.out] at Y;obtain⟨_,cg,dj,rfl,_,_,_,ch⟩:=Y.rd;have cj:Below w.heap.size w X:=t.trans (a8.mono t.size);obtain⟨a_,cn,ba,b5⟩:=H.rq cj;have ag:=C cn;have cp:=C b5;have bb:=a7.next' a8;obtain⟨_,_,_,bc,_,_,_,bB⟩:=bb.rd;simp only[Value.slice.injEq] at bc;obtain⟨rfl,_,rfl⟩:=bc;have bX:=C (show∀(i:Nat),i<j->∀(W:ab) (r:aa),aw X a_ L r W->(∃f o,aP=R ⟨f,o,U⟩∧W.cell? ⟨f,o+i,U⟩=R (I ah (nat (hh s g j) i:Nat)))∧(∃f o,cg=R ⟨f,o,U⟩∧W.cell? ⟨f,o+i,U⟩=R (I ah (nat (jP V (hh s g j)) i:Nat))) fromλi bf W r d=>by obtain⟨f,o,rfl,dv,cr⟩:=bB.rv (by omega);obtain⟨Z,bg,rfl,bo,cu⟩:=ch.rv (by omega);have cy:=(bb.lt f rfl).1;have dw:=(Y.lt Z rfl).1;exact⟨⟨f,o,rfl,d.kept ag (cr i bf) cy⟩,⟨Z,bg,rfl,d.kept ag (cu i bf) (by have:=t.size;omega)⟩⟩);obtain⟨an,cap,bk,_,_⟩:=ba.iJ hk.lens (p:=0) (by have:=hk.aR;omega);rw[y.out] at bk;have bl:=C bk;obtain⟨D,E⟩:=aX ((s.ax g).h.idx);have bn:=C E;go_wp2_with fail;go_loopw [6,7,31] (λv u i W=>∃a:Nat,a<=j∧i=I J (a:Int)∧aw X a_ L (kQ s g a) W) (λ_ _ i _=>j-(intOf i).toNat);case atStart=>exact⟨0,by omega,rfl,ba⟩
   case round=>
    obtain⟨a,aU,rfl,d⟩:=hrel;by_cases ao:a<j
    ·have a9:(a:Int)<(j:Int):=(by omega);have dx:(0:Int)<=(a:Int):=(by omega);have dy:(a:Int).toNat=a:=(by omega);obtain⟨⟨f,o,rfl,bp⟩,⟨Z,bg,rfl,cE⟩⟩:=bX a ao wr _ d;have q:=J3 (J6 s g (j:=a) (by rw[y.out];exact ao));rw[y.out,bv.out] at q;unfold tr at q;dsimp only at q;rw[bn.out] at q;rw[J5 s g ao] at bp;have l:=hk.kQ g a;generalize bz:kQ s g a=r at d q l;generalize dF:nat (jP V (hh s g j)) a=bq at cE q;generalize aD:s.load g (a:Int)=cB at bp q;have ai:=C q;by_cases br:0<cB;·have dL:(0:Int)<(cB:Int):=(by omega);have dQ:r.c.aR=j:=(by rw[l.dH.c];exact y);have ac:=l.ok.eu (p:=(a:Int)) (by omega) (by omega);rw[cd] at ac;have ay:=C (d.drew.kP ac (λT bm=>J1 T (L.hk a) (r.a1 (a:Int)) D bq wr.drew bm (l.ok.a1 a _ ac).1));have aE:r.groups[g]?=R (r.ax g):=l.ok.oo (by rw[l.dH.len];exact G);have E:(r.ax g).h.idx=D:=(by rw[l.dH.h];exact bn);obtain⟨bZ,aV,b2,aZ,bQ,bs,b9,ak⟩:=d.dB aE N;obtain⟨b8,cq⟩:=d.fN l.ok.lens (p:=a) (by omega) bl;have F:=C (bx l.ok.lens (bx aE (bx E (show a<r.c.aR by omega))));rw[E] at aV;rw[am.out] at cq;obtain⟨M,a0⟩:∃x,L.hk a=x:=⟨_,rfl⟩;have cH:=C a0;rw[a0] at b8 ay;obtain⟨ce,ar⟩:∃x,(r.a1 (a:Int)).fP D bq=x:=⟨_,rfl⟩;rw[ar] at ay;have dR:(j:Int)<=64:=(by omega);go_wp2_with fail;go_region_held3 (λW'=>W'.cell? ⟨b,105,U⟩=R (aA (R ⟨an,0,U⟩) j cap)∧W'.cell? ⟨an,a,U⟩=R (af (R ⟨M,0,U⟩))∧W'.cell? ⟨bC,1,U⟩=R (I J D)) ((refine⟨?_,?_,?_⟩)<;>(repeat(first|(with_reducible assumption)|(with_reducible refine b7 ?_)))) (first|(go_at_call 116;refine ay.mono ?_;rintro e bu ⟨rfl,ad⟩;obtain⟨dX,bj,ci,ee,ck,en,eo,ak⟩:=ad.dB (g:=g) F.2.1 N;obtain⟨cO,cS⟩:=ad.fN (F.1.bO _ _) (p:=a) F.2.2.2 bl;rw[F.out.2.2.1] at bj;rw[cH.out] at cO;rw[am.out] at cS;have cT:=C ad));all_goals
      go_wp2_with fail;go_roundw;case rel=>exact⟨a+1,by omega,by go_num,by rw[ai.out,if_pos br];exact cT⟩
      case measure=>simp[intOf];omega
     ·have ew:cB=0:=(by omega);go_wp2_with fail;go_roundw;case rel=>exact⟨a+1,by omega,by go_num,by rw[ai.out,if_neg br];exact d⟩
      case measure=>simp[intOf];omega
    ·obtain rfl:a=j:=by omega
     go_wp2_with fail;go_end0;refine⟨rfl,cp _ _ _ ?_⟩;have cU:a2=kQ s g a:=(by rw[<-a3.out,aa.J2,aa.J4,y.out]);rw[cU];exact d
end
section
variable {aq w:ab} {S:Nat->Prop} {L:bu} {s:aa} {k:Nat}
def oS (g:Nat) (r:aa) (p:Nat):aa:=if r.load g p=0 then r.bW g (λb=>b.ret p) else r
def gn (s:aa) (g j:Nat):aa:=(gh j).foldl (oS g) s
theorem aa.J9 (s:aa) (g:Nat):s.returns g=gn s g s.c.aR:=rfl
theorem wT (s:aa) (g j:Nat):gn s g (j+1)=oS g (gn s g j) j:=by unfold gn;rw[nU,r2];rfl
theorem aa.Ok.gn (h:s.Ok k) (g j:Nat):cL k s (gn s g j):=by
 unfold Go.Proofs.YtddbkdjcjoofpaaGreatDoor.gn;refine lp _ _ s h ?_;intro x c r a;unfold oS;split;·exact⟨a.ok.bW _ _ (λb=>b.zg _),cG.bW _ _ _⟩
 ·exact cL.refl a.ok
theorem bA.gn {c:Int} (h:bA c s.groups) (h0:0<=c) (d:c<=1000000000000000) (g j:Nat):bA c (gn s g j).groups:=by
 unfold Go.Proofs.YtddbkdjcjoofpaaGreatDoor.gn;refine nD _ (λr x a=>?_) _ s h;unfold oS;split;·exact a.bW (hL _) g λb e=>e.ret h0 d _
 ·exact a
def ds (s:aa) (g:Nat):Prop:=∃b,(s.ax g).band=R b∧0<b.quota
theorem ds.congr {r:aa} (h:ds s g) (e:r.groups=s.groups):ds r g:=by unfold ds aa.ax at h⊢;rw[e];exact h
theorem ds.bW {g:Nat} (h:ds s g) {f:aN->aN} (a:∀b,(f b).quota=b.quota):ds (s.bW g f) g:=by obtain⟨b,c,d⟩:=h;exact⟨f b,by rw[aa.rA c],by rw[a];exact d⟩
theorem ds.ca {g:Nat} (h:ds s g) (f:List Int->List Int):ds (s.ca g f) g:=by
 obtain⟨b,a,c⟩:=h;cases aP:(s.ax g).line with
 |none=>unfold aa.ca;rw[aP];exact⟨b,a,c⟩
 |some l=>exact⟨b,by rw[aa.tB aP];exact a,c⟩
theorem aN.wU (b:aN) (p:Int):(b.cV p).quota=b.quota:=by unfold aN.cV;split<;>(try split)<;>(try split)<;>rfl
theorem aN.Bw (b:aN) (p:Int):(b.ret p).quota=b.quota:=by unfold aN.ret;split<;>rfl
theorem ds.gn {g:Nat} (h:ds s g):∀j,ds (gn s g j) g
 |0=>h
 |j+1=>by
  rw[wT];unfold oS;split;·exact(ds.gn h j).bW λb=>b.Bw _
  ·exact ds.gn h j
theorem ds.eM {g:Nat} (h:ds s g) (p:Int) (l:List Int):ds (eM s g p l) g:=by
 unfold Go.Proofs.YtddbkdjcjoofpaaGreatDoor.eM;split;·have:ds (((s.ca g λ_=>l).bW g (λb=>b.cV p))) g:=(h.ca _).bW λb=>b.wU p;exact this.congr rfl
 ·exact((h.ca _).bW λb=>b.wU p).ca _
theorem bA.eM {c:Int} (h:bA c s.groups) (d:c<=1000000000000000) (g:Nat) (p:Int) (l:List Int):bA c (eM s g p l).groups:=by
 unfold Go.Proofs.YtddbkdjcjoofpaaGreatDoor.eM;have a:bA c ((s.ca g λ_=>l).bW g (λb=>b.cV p)).groups:=(h.ca g _).bW (hL _) g λb e=>e.cV d p;split;·exact a
 ·exact a.ca g _
theorem aa.Ok.eM (h:s.Ok k) {g:Nat} {p:Int} {l:List Int} (q:s.ib g=p::l):cL k s (eM s g p l):=by
 have i:=aa.vG q;obtain⟨u,v,w,e,x⟩:=h.qG i;have f:=e p ey;have j:cL k s (s.ca g λ_=>l):=⟨h.ca g _ λm n a b=>by rw[i] at n;cases n;exact⟨λr t=>a r (gD _ t),(iT.1 b).2⟩,cG.ca _ _ _⟩;have d:=j.trans ⟨j.ok.bW g (λb=>b.cV p) (λb=>b.qH p),cG.bW _ _ _⟩;have o:p<(((s.ca g λ_=>l).bW g (λb=>b.cV p)).c.aR:Int):=by rw[d.dH.c];exact f.2
 unfold Go.Proofs.YtddbkdjcjoofpaaGreatDoor.eM;split;·exact d.trans ⟨d.ok.stop g f.1 o false,cG.stop _ _ _ _⟩
 ·exact d.trans ⟨d.ok.sE g f.1 o,cG.ca _ _ _⟩
theorem Bx {c:Int} (a:c<=1000000000000000) (g:Nat):∀(n m:Nat) (s:aa),s.Ok k->bA c s.groups->ds s g->iK s g<n->iK s g<m->aa.hand n s g=aa.hand m s g
 |0,_,s,_,_,_,h,_=>by omega
 |_+1,0,s,_,_,_,_,h=>by omega
 |n+1,m+1,s,h,d,aP,ao,az=>by
  rw[aa.pR,aa.pR];split;·rfl
  ·rename_i j;split;·rfl
   ·rename_i p l e;obtain⟨b,f,i⟩:=aP;have o:=Bv h d a f i e j;exact Bx a g n m _ (h.eM e).ok (d.eM a g p l) (ds.eM ⟨b,f,i⟩ p l) (by omega) (by omega)
theorem aa.Ok.J_ (h:s.Ok k) (a:∀l,(s.ax g).line=R l->l.length<=64):iK s g<=65:=by
 unfold iK aa.ib;split;·omega
 ·cases aP:(s.ax g).line with
  |none=>simp
  |some l=>have:=a l aP;simp;omega
theorem Ka {c:Int} (a:c<=1000000000000000) {p:Int} (h:s.Ok k) (e:bA c s.groups) (m:ds s g) (d:s.ib g=p::l) (f:¬(s.ic g).pool<=0) (o:iK s g<=65):aa.hand 66 s g=aa.hand 66 (eM s g p l) g∧iK (eM s g p l) g<iK s g:=by obtain⟨b,i,j⟩:=m;have n:=Bv h e a i j d f;refine⟨?_,n⟩;rw[aa.pR 65,z0 f,d];exact Bx a g 65 66 _ (h.eM d).ok (e.eM a g p l) (ds.eM ⟨b,i,j⟩ p l) (by omega) (by omega)
end
variable {aH:Value}
section
variable {aq w:ab} {S:Nat->Prop} {L:bu} {s:aa} {k:Nat}
theorem aa.pS {b:aN} (h:(s.ax g).band=R b) (f:aN->aN):s.bW g f=s.b0 g {s.ax g with band:=R (f b)}:=by unfold aa.bW;rw[h]
theorem aa.tC (h:(s.ax g).line=R l) (f:List Int->List Int):s.ca g f=s.b0 g {s.ax g with line:=R (f l)}:=by unfold aa.ca;rw[h]
theorem aa.By {G:cc} (h:s.groups[g]?=R G):s.b0 g G=s:=by
 obtain⟨a,b⟩:=bE.1 h;unfold aa.b0;have:s.groups.set g G=s.groups:=by rw[<-b];exact List.set_getElem_self a
 rw[this]
theorem Bz (ag:List Int) (p:Int):(if jg ag p=true then ag++[p] else ag)=fX ag p:=by
 have h:jg ag p=true↔0<=p∧ag.length≠64∧p∉ag:=by unfold jg;simp only[iy,decide_eq_true_eq,bne_iff_ne,ne_eq,r3];rw[<-Bool.not_eq_true,G2]
 unfold fX;by_cases q:jg ag p=true;·rw[if_pos q,if_pos (h.1 q)]
 ·rw[if_neg q,if_neg (λz=>q (h.2 z))]
theorem aa.Ok.lim (h:s.Ok k) (a:ds s g):∃b l,s.groups[g]?=R (s.ax g)∧(s.ax g).band=R b∧(s.ax g).line=R l∧s.ic g=b∧s.ib g=l∧0<b.quota∧(∀p∈l,0<=p∧p<(s.c.aR:Int))∧b.loc.length=s.c.aR:=by obtain⟨b,d,f⟩:=a;obtain⟨i,n,j,e⟩:=h.vF d;obtain⟨l,a,m,o⟩:=j.line;exact⟨b,l,i,d,a,by unfold aa.ic;rw[d];rfl,by unfold aa.ib;rw[a];rfl,f,m,e⟩
theorem Kb (g:Nat) (cj:g<s.groups.length) (cn:ds s g) {c:Int} (aO:bA c s.groups) (h0:0<=c) (b5:c<=1000000000000000) (H:aw aq S L s w) (hk:s.Ok k) (cp:k<=100000):Calls au 62 #[aY L.b,aY (L.gk g)] w λe w'=>e=aK (bD #[])∧aw aq S L (s.share g) w':=by
 obtain⟨az,hF⟩:=aX (s.share g);have bB:=C hF;rw[hF];have bX:=C cj;have br:=C cn;have cr:=C aO;have cu:=C h0;have aC:=C b5;have aE:=C hk;have cy:=C cp;have cE:=C H;have a0:=H.top.cell 0 oD;obtain⟨m,ah⟩:=aX s.c.aR;have bw:=C ah;have cs:m<=64:=by have:=hk.aR;omega
 rw[ah] at a0;obtain⟨a2,cap,a3,_,_⟩:=H.iJ hk.lens (p:=0) (by have:=hk.aR;omega);rw[ah] at a3;have a4:=C a3;unfold aY at*;obtain⟨b,a5⟩:=aX L.b;have aQ:=C a5;rw[a5] at a0⊢;obtain⟨bm,bC⟩:=aX (L.gk g);have M:=C bC;rw[bC];obtain⟨eT,b8⟩:=aX (L.bd g);have A:=C b8;obtain⟨a9,cq⟩:=aX (L.ln g);have q:=C cq;go_enter func62,ntmps62;go_wp2_with fail;go_loopw [4,12] (λu i W=>∃j:Nat,j<=m∧i=I J (j:Int)∧aw aq S L (gn s g j) W) (λ_ i _=>m-(intOf i).toNat);case atStart=>exact⟨0,by omega,rfl,cE⟩
 case round=>
  obtain⟨j,eU,rfl,o⟩:=hrel;by_cases cv:j<m
  ·have eY:(j:Int)<(m:Int):=(by omega);have e2:(0:Int)<=(j:Int):=(by omega);have e3:(j:Int).toNat=j:=(by omega);have d:=aE.gn g j;have z:=br.gn j;have aS:=wT s g j;generalize fl:gn s g j=r at o d z aS;unfold oS at aS;have F:=C aS;have cH:g<r.groups.length:=(by rw[d.dH.len];exact bX);have Z:=C (tl g cH (j:Int) o d.ok cy);unfold aY at Z;rw[aQ.out,M.out] at Z;have N:=C o;have O:=C d;have ab:=C z;generalize ar:r.load g (j:Int)=cB at Z;have aD:=C ar;by_cases bG:cB=0
   ·subst bG;go_wp2_with fail;apply Z.mono;rintro e aF ⟨rfl,aU⟩;have t:=N.next aU;obtain⟨B,l,y,D,E,_⟩:=O.ok.lim ab;obtain⟨aP,bH,aT,aV,aZ,G,ae,am⟩:=t.dB y M;rw[D] at G;simp only[iS,c8,aY] at G;rw[A.out] at G;have be:=C (Jm (j:Int) (t.band y D));rw[A.out] at be;have ao:=C t;have n:=C (bx y D);go_wp2_with fail;apply be.mono;rintro e bj bK;rw[<-A.out] at bK;obtain⟨rfl,ak⟩:=ao.oQ n.1 n.2 bK;have a6:=C ak;go_wp2_with fail;go_roundw;case rel=>exact⟨j+1,by omega,by go_num,by rw[F.out,if_pos aD.out,aa.pS n.out.2];exact a6⟩
    case measure=>simp[intOf];omega
   ·have bJ:((cB:Int)==0)=false:=(by simp;omega);go_wp2_with fail;apply Z.mono;rintro e aF ⟨rfl,aU⟩;have ao:=C (N.next aU);go_wp2_with fail;go_roundw;case rel=>exact⟨j+1,by omega,by go_num,by rw[F.out,if_neg (by rw[aD.out];exact bG)];exact ao⟩
    case measure=>simp[intOf];omega
  ·obtain rfl:j=m:=by omega
   have cO:az=aa.hand 66 (gn s g j) g:=(by rw[<-bB.out,<-bw.out];rfl);have bL:=C cO;have d:=aE.gn g j;have z:=br.gn j;have ac:=cr.gn cu aC g j;generalize fy:gn s g j=s1 at o d z ac bL;have F:=C (bx o (bx d (bx z ac)));go_wp2_with fail;go_loopg [5,6] (iK s1 g) (λcS v u W=>∃r,cS=iK r g∧cL k s r∧bA c r.groups∧ds r g∧aa.hand 66 r g=az∧aw aq S L r W);case atStart=>exact⟨s1,rfl,F.2.1,F.2.2.2,F.2.2.1,bL.symm,F.1⟩
   case round=>
    obtain⟨r,cT,d,ac,z,hF,o⟩:=hrel;obtain⟨B,l,y,D,E,P,a8,fz,aN,cU⟩:=d.ok.lim z;obtain⟨aP,bH,aT,aV,aZ,G,ae,am⟩:=o.dB y M;rw[D] at G;rw[E] at ae;simp only[iS,c8,aY] at G ae;rw[A.out] at G;rw[q.out] at ae;have aM:=C (zU (o.band y D));rw[A.out] at aM;have n:=C (bx y (bx D (bx E (bx P (bx a8 (bx aN cU))))));have N:=C o;have O:=C d;have bi:=C ac;have ab:=C z;have bP:=C hF;have bR:=C cT;by_cases a_:B.pool<=0;·have av:az=r:=(by rw[<-hF,aa.pR 65,if_pos (by rw[P];exact a_)]);have ba:=C av;have aI:¬(0:Int)<B.pool:=(by omega);go_wp2_with fail;refine aM.mono ?_;rintro e bU ⟨rfl,rfl⟩;go_wp2_with fail;go_end0;exact⟨rfl,by rw[ba.out];exact N⟩
    ·have aI:(0:Int)<B.pool:=(by omega);have bY:=C (vZ a9 l wr (by rw[<-q.out];exact o.line y E));have cR:=(o.line y E).le;have c7:=C (λ(p:Int) (l':List Int) (e:l=p::l')=>Ka aC d.ok ac z (a8.trans e) (by rw[P];exact a_) (d.ok.J_ (λfA al=>by rw[E] at al;cases al;exact cR)));cases l with
     |nil=>
      have av:az=r:=(by rw[<-hF,aa.pR 65,if_neg (by rw[P];exact a_),a8]);have ba:=C av;go_wp2_with fail;apply aM.mono;rintro e bU ⟨rfl,rfl⟩;go_wp2_with fail;apply bY.mono;rintro e bh ⟨rfl,ag,bb⟩;have Q:=N.pP n.1 n.2.2.1 (l':=[]) (by rw[q.out];exact ag) (by rw[q.out];exact bb);have bc:=C Q;rw[show(!([]:List Int).isEmpty)=false from rfl];go_wp2_with fail;first|go_end0|refine bodyPost_ret (results_none rfl _ _ _) rfl ?_
      refine⟨rfl,?_⟩;have:=bc.out;rw[show({r.ax g with line:=R []}:cc)=r.ax g by have:=n.out.2.2.1;cases bI:r.ax g;rw[bI] at this;simp only at this;subst this;rfl,aa.By n.out.1] at this;rw[ba.out];exact this
     |cons p l'=>
      obtain⟨dc,df⟩:=c7 p l' rfl;have aj:=C (bx dc df);have b_:=aN p ey;have fB:(r.c.aR:Int)=(j:Int):=(by have:=d.dH.c;rw[this];exact congrArg Int.ofNat bw);obtain⟨i,rfl⟩:=dW b_.1;have fC:i<j:=(by omega);have fO:(i:Int)<(j:Int):=(by omega);have bF:(0:Int)<=(i:Int):=(by omega);have aL:(i:Int).toNat=i:=(by omega);obtain⟨ay,bf⟩:=aX (r.ca g (λ_=>l'));have V:=aa.tC E (λ_=>l');rw[bf] at V;have ad:=aa.tB E (λ_=>l');rw[bf] at ad;have bZ:ay.groups[g]?=R (ay.ax g):=(by have:g<ay.groups.length:=(by rw[V];unfold aa.b0;simp;exact(bE.1 y).1);unfold aa.ax;rw[dD,b6 this];rfl);have bg:(ay.ax g).band=R B:=(by rw[ad];exact D);obtain⟨a,an⟩:=aX (ay.bW g (λb=>b.cV (i:Int)));have X:=aa.pS bg (λb=>b.cV (i:Int));rw[an] at X;have bk:=aa.rA bg (λb=>b.cV (i:Int));rw[an] at bk;have dj:a.groups[g]?=R (a.ax g):=(by have:g<a.groups.length:=(by rw[X];unfold aa.b0;simp;exact(bE.1 bZ).1);unfold aa.ax;rw[dD,b6 this];rfl);have dv:(a.ax g).line=R l':=(by rw[bk,ad]);have bo:(a.ax g).h=(r.ax g).h:=(by rw[bk,ad]);have fU:r.ic g=B:=P;have dw:eM r g (i:Int) l'=if B.hx (i:Int) then a.stop g (i:Int) false else a.ca g (λl=>fX l (i:Int)):=(by unfold eM;rw[P,bf,an]);have b2:a.hiers=r.hiers:=(by rw[X,V];rfl);have dx:a.c=r.c:=(by rw[X,V];rfl);have dy:eG a:=(by have:=d.ok.lens;rw[X,V];exact this);have bz:a.hiers[i]?=R (a.a1 (i:Int)):=(by have Y:=d.ok.eu (p:=(i:Int)) (by omega) (by omega);rw[cd] at Y;unfold aa.a1 at Y⊢;rw[b2];exact Y);have dF:(a.a1 (i:Int)).Ok:=(by have Y:=d.ok.eu (p:=(i:Int)) (by omega) (by omega);rw[cd] at Y;have bQ:=(d.ok.a1 i _ Y).1;unfold aa.a1 at bQ⊢;rw[b2];exact bQ);have K:=C (bx V (bx bZ bg));have f:=C (bx X (bx dj (bx dv (bx bo (bx dy (bx bz dF))))));have bl:=C dw;have bs:=C (show i<a.c.aR by rw[dx];omega);have fV:=C ad;generalize dL:B.hx (i:Int)=dQ at bl;have ce:=C dL;go_wp2_with fail;apply aM.mono;rintro e bU ⟨rfl,rfl⟩;go_wp2_with fail;apply bY.mono;rintro e bh ⟨rfl,ag,bb⟩;have Q:=N.pP n.1 n.2.2.1 (l':=l') (by rw[q.out];exact ag) (by rw[q.out];exact bb);rw[<-K.out.1] at Q;obtain⟨aP,bH,aT,aV,aZ,bn,dA,am⟩:=Q.dB K.2.1 M;rw[K.out.2.2] at bn;simp only[iS,c8,aY] at bn;rw[A.out] at bn;have b9:=C (sM (i:Int) (Q.band K.2.1 K.2.2));rw[A.out,ce.out] at b9;have bc:=C Q;rw[show sQ ((i:Int)::l')=(i:Int) from rfl,show(!((i:Int)::l').isEmpty)=true from rfl];go_wp2_with fail;apply b9.mono;rintro e aF bv;rw[<-A.out] at bv;obtain⟨rfl,t⟩:=bc.oQ K.2.1 K.2.2 bv;rw[<-f.out.1] at t;obtain⟨aP,dR,aT,aV,aZ,f_,bp,am⟩:=t.dB f.2.1 M;rw[f.out.2.2.1] at bp;simp only[iS,c8,aY] at bp;rw[q.out] at bp;have ao:=C t;cases dQ with
      |true=>have aB:=bl.out;rw[if_pos rfl] at aB;have bq:=C aB;have ap:=C (t.drew.kP f.2.2.2.2.2.1 (λT bu=>wG T (L.hk i) (a.a1 (i:Int)) (a.ax g).h.idx false aF.drew bu f.2.2.2.2.2.2));obtain⟨dX,ci⟩:=t.fN f.2.2.2.2.1 bs a4;rw[aQ.out] at ci;obtain⟨aO,a7⟩:∃x,L.hk i=x:=⟨_,rfl⟩;have ee:=C a7;rw[a7] at dX ap;obtain⟨cb,cf⟩:∃x,(a.ax g).h.idx=x:=⟨_,rfl⟩;have cg:=C cf;rw[cf] at dR ap;obtain⟨aH,ck⟩:∃x:Int,(if((a.a1 (i:Int)).linked cb).isSome then 0 else 1)=x:=⟨_,rfl⟩;rw[ck] at ap;go_wp2_with fail;go_region_held3 (λW'=>W'.cell? ⟨b,105,U⟩=R (aA (R ⟨a2,0,U⟩) j cap)∧W'.cell? ⟨a2,i,U⟩=R (af (R ⟨aO,0,U⟩))∧W'.cell? ⟨bm,1,U⟩=R (I J cb)) ((refine⟨?_,?_,?_⟩)<;>(with_reducible repeat(first|assumption|refine b7 ?_))) (first|(go_at_call 94;refine ap.mono ?_;rintro e gq ⟨rfl,ai⟩;obtain⟨gr,en,b4,gB,gN,bN,hi,am⟩:=ai.dB (g:=g) f.2.1 M;obtain⟨eo,ew⟩:=ai.fN (f.2.2.2.2.1.bO _ _) (p:=i) bs a4;rw[cg.out] at en;rw[ee.out] at eo;rw[aQ.out] at ew;have co:=C ai));all_goals
       go_wp2_with fail;go_roundg (iK (eM r g (i:Int) l') g);case measure=>rw[bR.out];exact aj.2
       case rel=>refine⟨eM r g (i:Int) l',rfl,O.trans (O.ok.eM n.2.2.2.2.1),bi.eM aC g _ _,ab.eM _ _,by rw[<-aj.out.1];exact bP,?_⟩;rw[bq.out];unfold aa.stop;rw[cg.out];exact co
      |false=>
       have aB:=bl.out;rw[if_neg (by decide)] at aB;have bq:=C aB;have ch:=C (z_ a9 l' (i:Int) aF (by rw[<-q.out];exact t.line f.2.1 f.2.2.1));obtain⟨hj,eH⟩:=aX (jg l' (i:Int));rw[Bz,eH] at ch;go_wp2_with fail;apply ch.mono;rintro e bj ⟨rfl,eI,eL⟩;have ak:=ao.pP f.2.1 f.2.2.1 (l':=fX l' (i:Int)) (by rw[q.out];exact eI) (by rw[q.out];exact eL);have a6:=C ak;go_wp2_with fail;go_roundg (iK (eM r g (i:Int) l') g);case measure=>rw[bR.out];exact aj.2
       case rel=>refine⟨eM r g (i:Int) l',rfl,O.trans (O.ok.eM n.2.2.2.2.1),bi.eM aC g _ _,ab.eM _ _,by rw[<-aj.out.1];exact bP,?_⟩;rw[bq.out,aa.tC f.out.2.2.1];exact a6
end
variable {aJ:Bool}
section
variable {aq w:ab} {S:Nat->Prop} {L:bu} {s:aa} {k:Nat}
theorem aw.rC (H:aw aq S L s w) (a:n<s.tasks.length):∃g cap,L.tv=aA (R ⟨g,0,U⟩) s.tasks.length cap∧w.cell? ⟨g,n,U⟩=R (af (R ⟨L.tk n,0,U⟩))∧w.cell? ⟨L.b,7,U⟩=R (aA (R ⟨g,0,U⟩) s.tasks.length cap):=by obtain⟨T,c⟩:=H.fk .fx;obtain⟨g,cap,e,d,f,h,i⟩:=dJ.cell c (td a);rw[oL] at e;refine⟨g,cap,e,d,?_⟩;have:=H.top.cell 7 pL;rw[e] at this;exact this
theorem aw.rD {B:aN} (H:aw aq S L s w) (b:s.groups[g]?=R (s.ax g)) (c:(s.ax g).band=R B) {gb bd:Nat} (d:L.gk g=gb) (e:L.bd g=bd):w.cell? ⟨gb,5,U⟩=R (af (R ⟨bd,0,U⟩)):=by obtain⟨f,h,i,j,k,a,l,m⟩:=H.dB b d;rw[c] at a;subst e;exact a
theorem aw.BA (H:aw aq S L s w) (b:s.groups[g]?=R (s.ax g)) (c:(s.ax g).line=R l) {gb bd:Nat} (d:L.gk g=gb) (e:L.ln g=bd):w.cell? ⟨gb,6,U⟩=R (af (R ⟨bd,0,U⟩)):=by obtain⟨f,h,i,j,k,m,a,n⟩:=H.dB b d;rw[c] at a;subst e;exact a
theorem aa.Kf (p:Int) (ls:List Nat) (r:aa) (h:ls[j]?=R g):aa.asks p (ls.drop j) r=if(r.ic g).hx p then aa.asks p (ls.drop (j+1)) (r.bW g λb=>b.cV p) else(r.bW g λb=>b.cV p,R g):=by obtain⟨a,c⟩:=bE.1 h;rw[o3 a,c];rfl
theorem aa.nG (h:g<s.groups.length):s.groups[g]?=R (s.ax g):=by unfold aa.ax;rw[dD,b6 h];rfl
theorem Kg (i:Nat) (bG:i<s.c.aR) (H:aw aq S L s w) (hk:s.Ok k):Calls au 63 #[aY L.b,I J (i:Int)] w λe w'=>e=aK (aE (s.fI i).2)∧aw aq S L (s.fI i).1 w':=by
 obtain⟨Z,bH⟩:=aX ((s.fI i).1);obtain⟨c0,be⟩:=aX ((s.fI i).2);have a_:=C bH;have av:=C be;have ae:=C (aa.vH s i);rw[bH,be];have X:=hk.eu (p:=(i:Int)) (by omega) (by omega);rw[cd] at X;have dv:=(hk.a1 i _ X).1;obtain⟨bK,cap,bL,ba,am⟩:=H.iJ hk.lens bG;obtain⟨bS,c2,aN,aM,Y⟩:=H.tn hk.lens bG;have ag:=C (H.kP X (λT bb=>wV T (L.hk i) (s.a1 (i:Int)) w bb dv));have bi:=hk.fH (p:=(i:Int)) (by omega) (by omega);obtain⟨f,K⟩:=aX (s.fH (i:Int));have bo:s.bO (i:Int) (s.a1 (i:Int)).pick=f:=K;rw[bo] at ag;rw[K] at bi;have bP:cG s f:=by rw[<-K];exact cG.bO _ _ _
 rw[K] at ae;have z:=C bi;have c3:=C bP;obtain⟨m,bR⟩:=aX s.c.aR;have ao:=C (show f.c.aR=m by rw[bP.c];exact bR);have dw:(i:Int)<(m:Int):=by omega
 have aj:=C (show i<m by omega);rw[bR] at bL am aN Y;have bU:=C bL;have bY:=C aN;have c4:(i:Int).toNat=i:=by omega
 have dx:(0:Int)<=(i:Int):=by omega
 unfold aY at*;obtain⟨b,al⟩:=aX L.b;have N:=C al;rw[al] at am⊢;obtain⟨dy,bZ⟩:=aX (L.hk i);have b2:=C bZ;rw[bZ] at ba ag;go_enter func63,ntmps63;go_wp2_with fail;apply ag.mono;rintro e c5 ⟨rfl,K⟩;have O:=C (oM (i:Int) K z);unfold aY at O;rw[N.out] at O;have bQ:=C K;rcases z.runs (i:Int) with ac|⟨n,t,ac,ap,bz,iq,_,_,_⟩;·rw[ac] at O;have aO:=C ac;go_wp2_with fail;refine O.mono ?_;rintro e bc ⟨rfl,bf⟩;have E:=bQ.next bf;have M:=z.px (p:=(i:Int)) (by omega) (by have:=ao.out;have:=aj.out;omega);rw[cd] at M;obtain⟨aM,Y⟩:=E.oR z.lens (p:=i) (by have:=ao.out;have:=aj.out;omega) bY;have ay:=C (wg (-1) (E.gM M));rw[N.out] at Y;obtain⟨dF,ad⟩:∃b,L.ck i=b:=⟨_,rfl⟩;have bg:=C ad;rw[ad] at aM ay;have an:=C M;have ah:=C E;go_wp2_with fail;refine ay.mono ?_;rintro e dL bs;rw[<-bg.out] at bs;obtain⟨rfl,bk⟩:=ah.rn an bs;have dQ:=C bk;go_wp2_with fail;go_ret;have d:=ae.out;rw[if_pos aO.out] at d;refine⟨by rw[<-av.out,d];rfl,?_⟩;rw[<-a_.out,d];exact dQ
 ·rw[ac] at O;have aO:=C ac;have bl:=C ap;have aQ:=(bE.1 ap).1;have b9:=z.task n t ap;have ce:=C (b9.live (b9.kJ bz)).1;have dR:=C (z.jT ap);have bv:=C aQ;have ir:=C z.eA;have c9:(0:Int)<=(n:Int):=by omega
  have iu:(n:Int).toNat=n:=by omega
  have db:((n:Int)==-1)=false:=by simp
  go_wp2_with fail;apply O.mono;rintro e bc ⟨rfl,bf⟩;have E:=bQ.next bf;obtain⟨iL,iM,iN,y,q⟩:=E.rC bv;obtain⟨bT,dg,jk,jl,jy,a7,dl,j3,j4,j5,kq,bV,eE,kR,cb⟩:=E.ek bl rfl;have aB:=C (Bg t.g dR ce E z);unfold aY at aB;rw[N.out] at q aB;generalize fK:L.tk n=bX at y a7;generalize kS:L.gk t.g=gb at a7 aB;generalize kT:f.tasks.length=bu at q;have kU:(n:Int)<(bu:Int):=by have:=bv.out;omega
  obtain⟨wy,aS⟩:=aX (f.cF t.g);have cf:=C aS;rw[aS] at aB;have dX:∀g,R g∈wy->g<f.groups.length∧g≠0:=λg P=>by rw[<-aS] at P;obtain⟨j,kV,ci,a,b,c,b1⟩:=z.vI P;cases ci;refine⟨(bE.1 a).1,?_⟩;rintro rfl;obtain⟨r,A,_,X,_⟩:=z.root;rw[a] at A;cases A;exact c (by rw[X];rfl)
  have ee:wy.length<=10:=by rw[<-aS];exact aa.tz _ _
  have cg:=C dX;have ch:=C ee;have ah:=C E;go_wp2_with fail;apply aB.mono;rintro e dL ⟨kW,rfl,en,cj⟩;have bk:=ah.next cj;obtain⟨kX,eo,ew,rfl,_,_,_,co⟩:=en.rd;have cn:=C (wN eo ew wy bk co (by have:=ch.out;omega) (λg P=>(cg g P).1));have b5:∀g,g∈f.limited wy->g<f.groups.length∧g≠0:=λg P=>cg g (aa.sF P).1;have cp:(f.limited wy).length<=10:=cJ (aa.rz _ _) ch;obtain⟨F,bB⟩:=aX (f.limited wy);have cr:=C bB;rw[bB] at cn b5 cp;have eH:=C b5;have bn:=C cj;go_wp2_with fail;apply cn.mono;rintro e bp ⟨kY,rfl,cu,eI⟩;have eL:Below bc.heap.size bc bp:=bn.trans (eI.mono bn.size);obtain⟨cy,cs,eT,eU⟩:=ah.rq eL;have cE:=C eU;obtain⟨aJ,cv,kZ,rfl,_,_,_,eY⟩:=cu.rd;have bA:=C (show∀(j g:Nat),F[j]?=R g->∀(W:ab) (r:aa),aw bp cy L r W->∃Q az,cv=R ⟨Q,az,U⟩∧W.cell? ⟨Q,az+j,U⟩=R (af (R ⟨L.gk g,0,U⟩)) fromλj g bq W r A=>by have k0:=(bE.1 bq).1;obtain⟨Q,az,rfl,k1,e2⟩:=eY.pQ (by omega);have ai:=(cu.lt Q rfl).1;exact⟨Q,az,rfl,A.kept cs (e2 j (R (L.gk g)) (by rw[dP,bq];rfl)) (by have:=bn.out.size;omega)⟩);have e3:=C eT;obtain⟨aC,aQ⟩:=aX F.length;have bm:=C aQ;rw[aQ] at cp⊢;go_wp2_with fail;go_loopw [7,43] (λv u W=>∃(j:Nat) (r:aa),j<=aC∧u=I J (j:Int)∧aa.asks (i:Int) F f=aa.asks (i:Int) (F.drop j) r∧cL k f r∧aw bp cy L r W) (λ_ u _=>aC-(intOf u).toNat);case atStart=>exact⟨0,f,by omega,rfl,rfl,cL.refl z,e3⟩
  case round=>
   obtain⟨j,r,bq,rfl,fl,G,A⟩:=hrel;have br:=C fl;have bJ:=C G;have b8:=C A;by_cases bD:j<aC;·obtain⟨g,a0⟩:∃g,F[j]?=R g:=⟨_,b6 (by rw[bm.out];exact bD)⟩;have k2:(j:Int)<(aC:Int):=(by omega);have lB:(0:Int)<=(j:Int):=(by omega);have lC:(j:Int).toNat=j:=(by omega);obtain⟨cq,fy⟩:=eH g (ea a0);have aU:r.groups[g]?=R (r.ax g):=aa.nG (by rw[G.dH.len];exact cq);obtain⟨⟨B,V,lD⟩,⟨l,fz,b0,lE⟩,_⟩:=G.ok.ax g _ aU fy;have fA:r.ic g=B:=(by unfold aa.ic;rw[V];rfl);obtain⟨Q,az,rfl,fB⟩:=bA j g a0 wr r A;obtain⟨cB,bw⟩:∃b,L.gk g=b:=⟨_,rfl⟩;have a2:=C bw;rw[bw] at fB;obtain⟨l7,a3⟩:∃b,L.bd g=b:=⟨_,rfl⟩;have fC:=C a3;obtain⟨fO,bF⟩:∃b,L.ln g=b:=⟨_,rfl⟩;have aP:=C bF;have l8:=A.rD aU V bw a3;have a4:=C (sM (i:Int) (A.band aU V));rw[a3] at a4;obtain⟨aL,cH⟩:∃x,B.hx (i:Int)=x:=⟨_,rfl⟩;rw[cH] at a4;have ar:=C (aa.Kf (i:Int) F r a0);have aT:=C (bx cH fA);obtain⟨y,aV⟩:∃y,r.bW g (λb=>b.cV (i:Int))=y:=⟨_,rfl⟩;have bj:=aa.pS V (λb=>b.cV (i:Int));rw[aV] at bj;have ai:=aa.rA V (λb=>b.cV (i:Int));rw[aV] at ai;have a5:cL k f y:=G.trans (by rw[<-aV];exact⟨G.ok.bW g _ (λb=>b.qH _),cG.bW _ _ _⟩);have fU:y.groups[g]?=R (y.ax g):=aa.nG (by rw[a5.dH.len];exact cq);have fV:(y.ax g).line=R l:=(by rw[ai];exact fz);have dA:y.c.aR=m:=(by rw[a5.dH.c];exact ao);have cO:=C (bx aU V);have o:=C (bx aV (bx bj (bx a5 (bx fU (bx fV dA)))));have l9:=bJ.out;go_wp2_with fail;refine a4.mono ?_;rintro e f_ cS;rw[<-fC.out] at cS;obtain⟨rfl,cT⟩:=b8.oQ cO.1 cO.2 cS;rw[<-o.out.2.1] at cT;have aZ:=C cT;cases aL with
    |true=>
     go_wp2_with fail;go_roundw;case rel=>refine⟨j+1,y,by omega,by go_num,?_,o.2.2.1,aZ⟩;rw[br.out,ar.out,aT.out.2,aT.out.1,if_pos rfl,o.out.1]
     case measure=>simp[intOf];omega
    |false=>have b3:=aZ.BA o.2.2.2.1 o.2.2.2.2.1 a2 aP;have cU:=C (z_ fO l (i:Int) f_ (by rw[<-aP.out];exact aZ.line o.2.2.2.1 o.2.2.2.2.1));obtain⟨l_,gq⟩:∃x,jg l (i:Int)=x:=⟨_,rfl⟩;rw[Bz,gq] at cU;obtain⟨q,bC⟩:∃q,y.ca g (λl=>fX l (i:Int))=q:=⟨_,rfl⟩;have aI:=aa.tC o.2.2.2.2.1 (λl=>fX l (i:Int));rw[bC] at aI;have ak:cL k f q:=o.2.2.1.trans (by rw[<-bC];exact⟨o.2.2.1.ok.sE g dx (by rw[o.out.2.2.2.2.2];exact dw),cG.ca _ _ _⟩);have gr:q.groups[g]?=R (q.ax g):=aa.nG (by rw[ak.dH.len,<-o.out.2.2.1.dH.len];exact(bE.1 o.2.2.2.1).1);have b4:i<q.c.aR:=(by rw[ak.dH.c,ao.out];exact aj);have cR:=ak.ok.eu (p:=(i:Int)) (by omega) (by omega);rw[cd] at cR;have D:=C (bx bC (bx aI (bx ak (bx gr (bx b4 cR)))));go_wp2_with fail;refine cU.mono ?_;rintro e gB ⟨rfl,gN,bN⟩;have a6:=aZ.pP o.2.2.2.1 o.2.2.2.2.1 (l':=fX l (i:Int)) (by rw[aP.out];exact gN) (by rw[aP.out];exact bN);rw[<-D.out.2.1] at a6;have a8:=C (a6.drew.kP D.2.2.2.2.2 (λT bb=>wG T (L.hk i) (q.a1 (i:Int)) (q.ax g).h.idx true gB.drew bb (D.2.2.1.ok.a1 i _ D.2.2.2.2.2).1));obtain⟨ba,am⟩:=a6.fN D.2.2.1.ok.lens D.2.2.2.2.1 bU;obtain⟨ma,hi,mb,mc,me,mf,mg,cb⟩:=a6.dB D.2.2.2.1 a2;rw[N.out] at am;rw[b2.out] at ba a8;obtain⟨c7,bh⟩:∃x,(q.ax g).h.idx=x:=⟨_,rfl⟩;have bI:=C bh;rw[bh] at hi a8;obtain⟨aH,hj⟩:∃x:Int,(if((q.a1 (i:Int)).linked c7).isSome then 0 else 1)=x:=⟨_,rfl⟩;rw[hj] at a8;go_wp2_with fail;go_region_held3 (λW'=>W'.cell? ⟨b,105,U⟩=R (aA (R ⟨bK,0,U⟩) m cap)∧W'.cell? ⟨bK,i,U⟩=R (af (R ⟨dy,0,U⟩))∧W'.cell? ⟨cB,1,U⟩=R (I J c7)) ((refine⟨?_,?_,?_⟩)<;>(with_reducible repeat(first|assumption|refine b7 ?_))) (first|(go_at_call 94;refine a8.mono ?_;rintro e hG ⟨rfl,aF⟩;obtain⟨d0,dc,d1,d2,d3,d4,d5,cb⟩:=aF.dB (g:=g) D.2.2.2.1 a2;obtain⟨df,b_⟩:=aF.fN (D.2.2.1.ok.lens.bO _ _) (p:=i) D.2.2.2.2.1 bU;rw[bI.out] at dc;rw[b2.out] at df;rw[N.out] at b_;have a9:=C aF));all_goals clear dc df b_;go_wp2_with fail;go_ret;have d:=ae.out;have aD:aa.asks (i:Int) F f=(y,R g):=(by rw[br.out,ar.out,aT.out.2,aT.out.1,if_neg (by decide),o.out.1]);rw[aO.out,if_neg (by omega),cd,bl.out] at d;dsimp only at d;rw[cf.out,cr.out,aD] at d;dsimp only at d;rw[D.out.1] at d;refine⟨by rw[<-av.out,d];rfl,cE _ _ _ ?_⟩;rw[<-a_.out,d];unfold aa.stop;rw[bI.out];exact a9
   ·obtain rfl:j=aC:=by omega
    have hH:i<r.c.aR:=(by rw[G.dH.c,ao.out];exact aj);have M:=G.ok.px (p:=(i:Int)) (by omega) (by omega);rw[cd] at M;obtain⟨aM,Y⟩:=A.oR G.ok.lens hH bY;have ay:=C (wg (n:Int) (A.gM M));rw[N.out] at Y;obtain⟨dF,ad⟩:=aX (L.ck i);have bg:=C ad;rw[ad] at aM ay;have an:=C M;go_wp2_with fail;apply ay.mono;rintro e hG dj;rw[<-bg.out] at dj;obtain⟨rfl,aF⟩:=b8.rn an dj;have a9:=C aF;go_wp2_with fail;go_ret;have d:=ae.out;have aD:aa.asks (i:Int) F f=(r,U):=(by rw[br.out,List.drop_of_length_le (by rw[bm.out];exact bM _)];rfl);rw[aO.out,if_neg (by omega),cd,bl.out] at d;dsimp only at d;rw[cf.out,cr.out,aD] at d;dsimp only at d;refine⟨by rw[<-av.out,d];rfl,cE _ _ _ ?_⟩;rw[<-a_.out,d];exact a9
end
theorem Ki (L:List Value) (k:Nat) (v:Value) (hk:k<32) (hv:L[k]?=R v) (w:ab):(Instr.index 66 (bm L.toArray) (I J (k:Int))).run au w= .ok v w:=BC (i:=(prog.info? 65).get (by kernel_rfl)) underlying66 (by kernel_rfl) (by kernel_rfl) underlying65 rfl L k v hk hv w
section
variable {aq w:ab} {S:Nat->Prop} {L:bu} {s:aa} {k:Nat}
def wW (r:aa) (o:Option Nat):aa:=match o with|none=>r|some g=>r.bV g
def fm (s:aa) (j:Nat):aa:=((s.places.take j).drop 1).foldl wW s
theorem Kj {o:Option Nat} (a:0<j) (e:s.places[j]?=R o):fm s (j+1)=wW (fm s j) o:=by unfold fm;have b:=(bE.1 e).1;rw[gE,e,lI,List.drop_append_of_le_length (by rw[ix];omega),r2];rfl
theorem Kk (s:aa) (o:Option Nat) (e:s.places[0]?=R o):fm s 1=s:=by unfold fm;have:(s.places.take 1).drop 1=[]:=List.drop_eq_nil_of_le (by rw[ix];omega);rw[this];rfl
theorem aa.Ok.fm (h:s.Ok k) (j:Nat):cL k s (fm s j):=by
 unfold Go.Proofs.YtddbkdjcjoofpaaGreatDoor.fm;refine lp _ _ s h λo _ r a=>?_;cases o with
 |none=>exact cL.refl a.ok
 |some g=>exact a.ok.bV g
theorem Kl (s:aa) (g:Nat):(s.bV g).groups=s.groups:=by
 unfold aa.bV;have:∀(l:List (Nat×Nat)) (r:aa),(l.foldl (λr x=>if 0<s.load g x.1 then r.bO x.1 ((r.a1 x.1).bV (s.ax g).h.idx x.2) else r) r).groups=r.groups:=by
  intro l;induction l with
  |nil=>intro r;rfl
  |cons x l a=>intro r;rw[nV,a];split<;>rfl
 exact this _ _
theorem Km (s:aa) (j:Nat):(fm s j).groups=s.groups:=by
 unfold fm;have:∀(l:List (Option Nat)) (r:aa),(l.foldl wW r).groups=r.groups:=by
  intro l;induction l with
  |nil=>intro r;rfl
  |cons x l a=>
   intro r;rw[nV,a];cases x with
   |none=>rfl
   |some g=>exact Kl r g
 exact this _ _
theorem ds.BD {g':Nat} (h:ds s g) {f:aN->aN} (c:∀b,(f b).quota=b.quota):ds (s.bW g' f) g:=by
 by_cases e:g'=g;·rw[e];exact h.bW c
 ·obtain⟨b,a,d⟩:=h;refine⟨b,?_,d⟩;unfold aa.bW;cases j:(s.ax g').band with
  |none=>exact a
  |some k=>dsimp only;rw[aa.l3,z0 (λi=>e i.1.symm)];exact a
theorem ds.BE {g':Nat} (h:ds s g) (f:List Int->List Int):ds (s.ca g' f) g:=by
 by_cases e:g'=g;·rw[e];exact h.ca f
 ·obtain⟨b,a,c⟩:=h;refine⟨b,?_,c⟩;unfold aa.ca;cases i:(s.ax g').line with
  |none=>exact a
  |some j=>dsimp only;rw[aa.l3,z0 (λd=>e d.1.symm)];exact a
theorem ds.hand {g g':Nat}:∀(n:Nat) (s:aa),ds s g->ds (aa.hand n s g') g
 |0,s,h=>h
 |n+1,s,h=>by
  rw[aa.pR];split;·exact h
  ·split;·exact h
   ·rename_i p l c;apply ds.hand n _;unfold Go.Proofs.YtddbkdjcjoofpaaGreatDoor.eM;have a:ds (((s.ca g' λ_=>l).bW g' (λb=>b.cV p))) g:=(h.BE _).BD λb=>b.wU p;split;·exact a.congr rfl
    ·exact a.BE _
theorem ds.share {g g':Nat} (h:ds s g):ds (s.share g') g:=by
 apply ds.hand 66 _;rw[aa.J9];have:∀j,ds (Go.Proofs.YtddbkdjcjoofpaaGreatDoor.gn s g' j) g:=by
  intro j;induction j with
  |zero=>exact h
  |succ j a=>
   rw[wT];unfold oS;split;·exact a.BD λb=>b.Bw _
   ·exact a
 exact this _
def hl (s:aa) (ls:List Nat) (j:Nat):aa:=(ls.take j).foldl (λr g=>r.share g) s
theorem Kn {ls:List Nat} (e:ls[j]?=R g):hl s ls (j+1)=(hl s ls j).share g:=by unfold hl;rw[gE,e,lI,r2];rfl
theorem aa.Ok.hl (h:s.Ok k) (ls:List Nat) (j:Nat):cL k s (hl s ls j):=by unfold Go.Proofs.YtddbkdjcjoofpaaGreatDoor.hl;exact lp _ _ s h λg _ r a=>a.ok.share g
theorem ds.hl {ls:List Nat} {g:Nat} (h:ds s g):∀j,ds (hl s ls j) g:=by
 intro j;unfold Go.Proofs.YtddbkdjcjoofpaaGreatDoor.hl;have:∀(l:List Nat) (r:aa),ds r g->ds (l.foldl (λr g=>r.share g) r) g:=by
  intro l;induction l with
  |nil=>intro r a;exact a
  |cons x l b=>intro r a;rw[nV];exact b _ a.share
 exact this _ _ h
theorem bA.hl {c:Int} (h:bA c s.groups) (h0:0<=c) (a:c<=1000000000000000) (ls:List Nat) (j:Nat):bA c (hl s ls j).groups:=by unfold Go.Proofs.YtddbkdjcjoofpaaGreatDoor.hl;exact nD _ (λr g b=>b.share h0 a g) _ s h
def kr (s:aa) (j:Nat):aa:=(gh j).foldl (λr (p:Nat)=>aa.hb 40 r p) s
theorem Ko (s:aa) (j:Nat):kr s (j+1)=aa.hb 40 (kr s j) j:=by unfold kr;rw[nU,r2];rfl
theorem aa.Ok.kr (h:s.Ok k) {j:Nat} (d:j<=s.c.aR):cL k s (kr s j):=by unfold Go.Proofs.YtddbkdjcjoofpaaGreatDoor.kr;refine lp _ _ s h λp b r a=>?_;rw[o9] at b;exact aa.Ok.hb 40 r a.ok (by omega) (by rw[a.dH.c];omega)
theorem aa.Kp (s:aa):s.settle=kr (hl (fm s s.places.length) ((fm s s.places.length).limited ((fm s s.places.length).places.drop 1)) ((fm s s.places.length).limited ((fm s s.places.length).places.drop 1)).length) (hl (fm s s.places.length) ((fm s s.places.length).limited ((fm s s.places.length).places.drop 1)) ((fm s s.places.length).limited ((fm s s.places.length).places.drop 1)).length).c.aR:=by unfold aa.settle kr hl fm;rw[h3];dsimp only;rw[h3];rfl
theorem aa.Ok.BF (h:s.Ok k) (f:0<i) (e:s.places[i]?=R (R g)):g<s.groups.length∧g≠0:=by obtain⟨G,a,j,c⟩:=h.place i g e;refine⟨(bE.1 a).1,?_⟩;rintro rfl;obtain⟨r,b,_,d,_⟩:=h.root;rw[a] at b;cases b;rw[d] at c;have:(bS.idx:Int)=0:=rfl;omega
def oT (L:bu) (s:aa):List Value:=s.places.map λo=>c8 (o.map L.gk)
theorem aw.places (H:aw aq S L s w) (hk:eG s) (e:L.b=b):w.rangeAt b 9 (oT L s):=λj v a=>by subst e;unfold oT at a;rw[dP] at a;obtain⟨o,c,rfl⟩:=h1.1 a;exact H.top.cell (9+j) (pM hk.2.2.1 c)
theorem Kq {c:Int} (aA:bA c s.groups) (h0:0<=c) (aU:c<=1000000000000000) (H:aw aq S L s w) (hk:s.Ok k) (aP:k<=100000):Calls au 20 #[aY L.b] w λe w'=>e=aK (bD #[])∧aw aq S L s.settle w':=by
 generalize hF:s.settle=F;have bp:=C hF;have aT:=C hk.eB;obtain⟨m,bq⟩:=aX s.c.aR;have ai:=C bq;have cy:m<=64:=by have:=hk.aR;omega
 have aV:(oT L s).length=32:=by unfold oT;rw[ep];exact hk.eB
 have aZ:∀(i:Nat) (o:Option Nat),s.places[i]?=R o->(oT L s)[i]?=R (c8 (o.map L.gk)):=λi o br=>by unfold oT;rw[dP,br];rfl
 obtain⟨b,ad⟩:=aX L.b;have t:=C ad;have z:=C (H.places hk.lens ad);generalize cE:oT L s=V at z aV aZ;have aE:=C aV;have a0:=C aZ;unfold aY at*;rw[ad];go_enter func20,ntmps20;go_wp2_with ((refine wpList_load_mid rfl _ _ rfl b 9 rfl V _ z underlying66 rfl (by rw[aE.out];kernel_rfl) ?_));go_loopw [2,3,11] (λu v i W=>∃j:Nat,j<=32∧i=I J (j:Int)∧aw aq S L (fm s j) W) (λ_ _ i _=>32-(intOf i).toNat);case atStart=>exact⟨0,by omega,rfl,H⟩
 case round=>
  obtain⟨j,aB,rfl,f⟩:=hrel;have Q:=C f;by_cases ak:j<32
  ·have a6:(j:Int)<32:=(by omega);have bw:(0:Int)<=(j:Int):=(by omega);have a2:(j:Int).toNat=j:=(by omega);obtain⟨o,A⟩:∃o,s.places[j]?=R o:=⟨_,b6 (by rw[aT.out];exact ak)⟩;have M:=Ki V j _ ak (a0 j o A) wr;by_cases l:0<j;·have b8:(0:Int)<(j:Int):=(by omega);have n:=Kj l A;cases o with
    |none=>
     have h:=C (show fm s (j+1)=fm s j from n);simp only[Option.map_none,c8] at M;go_wp2_with fail;go_roundw;case rel=>exact⟨j+1,by omega,by go_num,by rw[h.out];exact Q⟩
     case measure=>simp[intOf];omega
    |some g=>
     have h:=C (show fm s (j+1)=(fm s j).bV g from n);obtain⟨az,a3⟩:=hk.BF l A;have d:=hk.fm j;have T:=C (J7 g (by rw[d.dH.len];exact az) a3 Q d.ok aP);unfold aY at T;rw[t.out] at T;simp only[iS,c8,aY] at M;generalize a4:L.gk g=gb at T M;go_wp2_with fail;apply T.mono;rintro e N ⟨rfl,a5⟩;go_wp2_with fail;go_roundw;case rel=>exact⟨j+1,by omega,by go_num,by rw[h.out];exact a5⟩
     case measure=>simp[intOf];omega
   ·obtain rfl:j=0:=by omega
    have h:=C (Kk s o A);generalize X:c8 (o.map L.gk)=v at M;have cq:(Instr.index 66 (bm V.toArray) (I J 0)).run au wr= .ok v wr:=M;go_wp2_with fail;go_roundw;case rel=>exact⟨1,by omega,by go_num,by rw[h.out];exact Q⟩
    case measure=>simp[intOf]
  ·obtain rfl:j=32:=by omega
   have d:=hk.fm 32;have a8:=Km s 32;have Y:=aa.Kp s;rw[aT.out] at Y;generalize bC:fm s 32=s1 at d a8 Y;have q:=Q.out;rw[bC] at q;have a9:bA c s1.groups:=(by rw[a8];exact aA);have a_:(s1.places.drop 1).length=31:=(by rw[List.length_drop,d.ok.eB]);have av:∀g,R g∈s1.places.drop 1->g<s1.groups.length∧g≠0:=λg D=>by obtain⟨i,ba⟩:=mm.1 D;rw[List.getElem?_drop] at ba;exact d.ok.BF (by omega) ba
   have aD:Rd dr wr.heap.size wr (R ⟨b,10,U⟩) (s1.places.drop 1).length ((s1.places.drop 1).map λo=>o.map L.gk):=(by refine⟨by rw[ep],λ_=>⟨b,10,rfl,by rw[<-t.out];exact q.top.lt,λa cH l i v X=>?_⟩⟩;rw[dP,List.getElem?_drop] at l;obtain⟨o,A,rfl⟩:=h1.1 l;have bG:i=0:=(by have:=(bE.1 X).1;have ag:(dr.e (o.map L.gk)).length=1:=dr.len _;omega);subst bG;have bH:v=c8 (o.map L.gk):=(by have:(dr.e (o.map L.gk))[0]?=R (c8 (o.map L.gk)):=rfl;rw[this] at X;exact(Option.some.inj X).symm);subst bH;have:=q.top.cell (9+(1+a)) (pM d.ok.eB A);rw[t.out] at this;rw[show 10+(a*dr.c+0)=9+(1+a) by show 10+(a*1+0)=_;omega];exact this);have aC:=C (wN (R ⟨b,10,U⟩) 31 (s1.places.drop 1) q aD (by omega) (λg D=>(av g D).1));rw[a_] at aC;generalize bb:s1.limited (s1.places.drop 1)=ls at aC Y;have bd:=C (show∀g,g∈ls->g<s1.groups.length∧ds s1 g fromλg D=>by
    rw[<-bb] at D;obtain⟨ag,E⟩:=aa.sF D;refine⟨(av g ag).1,?_⟩;unfold cc.limited at E;cases aF:(s1.ax g).band with
    |none=>rw[aF] at E;cases E
    |some B=>rw[aF] at E;exact⟨B,aF,by unfold aN.limited at E;simpa using E⟩)
   have be:=C (show ls.length<=31 by rw[<-bb,<-a_];exact aa.rz _ _);have ae:=C d;have am:=C Y;have bK:=C q;go_wp2_with fail;apply aC.mono;rintro e N ⟨ar,rfl,bc,bL⟩;obtain⟨ao,bi,bP,bR⟩:=bK.rq bL;have bU:=C bR;obtain⟨bj,bY,cO,rfl,_,_,_,al⟩:=bc.rd;have bZ:=C (show∀(j g:Nat),ls[j]?=R g->∀(W:ab) (r:aa),aw N ao L r W->∃G O,bY=R ⟨G,O,U⟩∧W.cell? ⟨G,O+j,U⟩=R (af (R ⟨L.gk g,0,U⟩)) fromλj g aB W r f=>by have cS:=(bE.1 aB).1;obtain⟨G,O,rfl,cT,b2⟩:=al.pQ (by omega);have bQ:=(bc.lt G rfl).1;exact⟨G,O,rfl,f.kept bi (b2 j (R (L.gk g)) (by rw[dP,aB];rfl)) bQ⟩);obtain⟨K,ac⟩:=aX ls.length;have bs:=C ac;have cU:K<=31:=(by rw[<-ac];exact be);rw[ac] at am;rw[ac];go_wp2_with fail;go_loopw [5,31] (λv u W=>∃j:Nat,j<=K∧u=I J (j:Int)∧aw N ao L (hl s1 ls j) W) (λ_ u _=>K-(intOf u).toNat);case atStart=>exact⟨0,by omega,rfl,bP⟩
   case round=>
    obtain⟨j,a2,rfl,f⟩:=hrel;by_cases b9:j<K
    ·obtain⟨g,aM⟩:∃g,ls[j]?=R g:=⟨_,b6 (by rw[bs.out];exact b9)⟩;have a6:(j:Int)<(K:Int):=(by omega);have bw:(0:Int)<=(j:Int):=(by omega);have aI:(j:Int).toNat=j:=(by omega);obtain⟨az,bv⟩:=bd g (ea aM);have d:=ae.ok.hl ls j;have n:=Kn (s:=s1) aM;have h:=C n;have ay:=C (Kb g (by rw[d.dH.len];exact az) (bv.hl (ls:=ls) j) (a9.hl h0 aU ls j) h0 aU f d.ok aP);unfold aY at ay;rw[t.out] at ay;obtain⟨G,O,rfl,a7⟩:=bZ j g aM wr _ f;generalize a4:L.gk g=gb at ay a7;go_wp2_with fail;apply ay.mono;rintro e cR ⟨rfl,cb⟩;go_wp2_with fail;go_roundw;case rel=>exact⟨j+1,by omega,by go_num,by rw[h.out];exact cb⟩
     case measure=>simp[intOf];omega
    ·obtain rfl:j=K:=by omega
     have ap:=ae.trans (ae.ok.hl ls j);generalize c7:hl s1 ls j=s2 at f ap am;have bf:s2.c.aR=m:=(by rw[ap.dH.c];exact ai);have aO:=C bf;have cf:=C f;have cg:=f.top.cell 0 oD;rw[t.out,bf] at cg;go_wp2_with fail;go_loopw [6,44] (λv u W=>∃a:Nat,a<=m∧u=I J (a:Int)∧aw N ao L (kr s2 a) W) (λ_ u _=>m-(intOf u).toNat);case atStart=>exact⟨0,by omega,rfl,cf⟩
     case round=>
      obtain⟨a,bh,rfl,f⟩:=hrel;by_cases bI:a<m
      ·have a6:(a:Int)<(m:Int):=(by omega);have bg:(0:Int)<=(a:Int):=(by omega);have dc:(a:Int).toNat=a:=(by omega);have d:=ap.ok.kr (j:=a) (by rw[aO.out];omega);have n:=Ko s2 a;generalize df:kr s2 a=an at f d n;have h:=C n;have z:=C f;have ch:=C d;obtain⟨Z,bk⟩:=aX (kr s2 (a+1));have cj:=C bk;rw[bk] at h;go_wp2_with fail;go_loopg [47,48,49,50] ((an.a1 (a:Int)).going) (λcn v u x y W=>∃r,cn=(r.a1 (a:Int)).going∧cL k s2 r∧aa.hb 40 r (a:Int)=Z∧aw N ao L r W);case atStart=>exact⟨an,rfl,ch,h.symm,z⟩
       case round=>
        obtain⟨r,b5,d,l,f⟩:=hrel;have b_:r.c.aR=m:=(by rw[d.dH.c];exact aO);have P:=C (Kg a (by omega) f d.ok);unfold aY at P;rw[t.out] at P;have ah:=C (d.ok.FW (p:=(a:Int)) bg (by omega));have aQ:=C (d.ok.fI (p:=(a:Int)) bg (by omega));have cp:=C b5;have bl:=C l;obtain⟨bn,q⟩:=aX ((r.fI (a:Int)).1);obtain⟨bB,bX⟩:=aX ((r.fI (a:Int)).2);rw[q,bX] at P ah aQ;cases bB with
        |true=>
         go_wp2_with fail;apply P.mono;rintro e cr ⟨rfl,aS⟩;go_wp2_with fail;go_roundw;case rel=>refine⟨a+1,by omega,by go_num,?_⟩;rw[cj.out,<-bl.out,ah.out,aj (by trivial)];exact aS
         case measure=>simp[intOf];omega
        |false=>
         go_wp2_with fail;apply P.mono;rintro e cr ⟨rfl,aS⟩;go_wp2_with fail;go_roundg ((bn.a1 (a:Int)).going);case measure=>rw[cp.out];exact aQ.2 (by trivial)
         case rel=>refine⟨bn,rfl,d.trans aQ.1,?_,aS⟩;rw[<-bl.out,ah.out,z0 (by first|decide|simp)]
      ·obtain rfl:a=m:=by omega
       have z:=C f;go_wp2_with fail;go_end0;refine⟨rfl,bU _ _ _ ?_⟩;have cu:F=kr s2 a:=(by rw[<-bp.out,am.out,aO.out]);rw[cu];exact z
end
def cD (c a b n m d:Int):Array Value:=#[I J c,I J a,I J b,I J n,I J m,I ah d]
def mh (aq:ab) (S:Nat->Prop) (L:bu) (d:c1) (e:Ending) (w':ab):Prop:=e=aK (bD #[I J d.2.1,I J d.2.2])∧∃a,a.b=L.b∧aw aq S a d.1 w'
section
variable {aq w:ab} {S:Nat->Prop} {L:bu} {s:aa} {k:Nat}
theorem mU {a:aa} {n b:Int} (h:aw aq S L a w'):mh aq S L (a,n,b) (aK (bD #[I J n,I J b])) w':=⟨rfl,L,rfl,h⟩
theorem wX (n:Int) (w:ab):Calls au 83 #[I J n] w λe w'=>e=aK (aE (kg n))∧w'=w:=by
 unfold kg;by_cases a:2<=n
 ·by_cases b:n<=262144;·rw[show(decide (2<=n)&&decide (n<=262144))=true by simp[a,b]];go_enter func83,ntmps83;go_wp2;go_ret;exact⟨rfl,rfl⟩
  ·rw[show(decide (2<=n)&&decide (n<=262144))=false by simp[b]];go_enter func83,ntmps83;go_wp2;go_ret;exact⟨rfl,rfl⟩
 ·rw[show(decide (2<=n)&&decide (n<=262144))=false by simp[a]];go_enter func83,ntmps83;go_wp2;go_ret;exact⟨rfl,rfl⟩
theorem aw.enter (H:aw aq S L s w) (O:Obj) {V:ab} (d:w.alloc O=V):∃a:Nat->Prop,(∀k,a k->k<w.heap.size)∧aw V a L s V∧(∀(b:bu) (c:aa) (w':ab),aw V a b c w'->aw aq S b c w')∧V.heap[w.heap.size]?=R O:=by subst d;obtain⟨a,e,f,g⟩:=H.rq (bz w O);exact⟨a,e,f,g,lL w O⟩
theorem aa.mV {a:Int} (h:s.group a=U):kp L s a=af U:=by unfold kp;rw[h]
theorem aa.k3 {a:Int} {G:cc} (h:s.group a=R G):kp L s a=af (R ⟨L.gk a.toNat,0,U⟩):=by unfold kp;rw[h];rfl
theorem aw.BG {t t':cc} (H:aw aq S L s w) (a:s.groups[n]?=R t) (i:Nat) (v:Value) (c:t'.there=t.there) (d:t'.band=t.band) (e:t'.line=t.line) (f:(hg L n t).setIfInBounds i v=hg L n t') {b:Nat} (h:L.gk n=b):aw aq S L (s.b0 n t') (w.setCell ⟨b,i,U⟩ v):=by subst h;refine H.JH a c d e ?_ (Mod.one _ _ _ _);rw[<-f];exact(H.ax a).set i v
theorem Kr (t a b n m u:Int) (H:aw aq S L s w) (hk:s.Ok k):Calls au 48 #[aY L.b,bm (cD t a b n m u)] w (mh aq S L (s.shares a n)):=by
 obtain⟨V,x⟩:=aX (w.alloc (av (cD t a b n m u) 33));obtain⟨W,X,l,E,A⟩:=H.enter _ x;have h:=C x;have o:=C E;have y:=C l;have F:=bN (i:=1) A (v:=I J a) rfl;have Y:=bN (i:=3) A (v:=I J n) rfl;have d:=C (kO a l);generalize c:s.shares a n=Z;unfold aa.shares at c;unfold aY at*;obtain⟨ao,B⟩:=aX L.b;have ac:=C B;rw[B] at d⊢;unfold cD at h⊢;cases j:s.group a with
 |none=>rw[j] at c;have f:=C c;rw[aa.mV j] at d;go_enter func48,ntmps48;go_upto_region 1 with fail;rw[h.out];go_wp2_with fail;refine d.mono ?_;rintro e z ⟨rfl,rfl⟩;go_wp2_with fail;go_ret2;rw[<-f.out];exact mU (o _ _ _ y)
 |some G=>
  obtain⟨K,p,ay⟩:=aa.hc j;rw[j] at c;dsimp only at c;rw[aa.k3 j] at d;obtain⟨g,rfl⟩:=dW K;rw[cd] at d p c;obtain⟨ad,q⟩:=aX (L.gk g);have aB:=C q;rw[q] at d;obtain⟨az,aC,ab,aF,af,ae,am,M⟩:=l.dB p q;have aM:=M 3;have ap:=C p;have r:=C (wX n V);by_cases D:(g:Int)=0
  ·rw[aj D] at c;have f:=C c;obtain rfl:g=0:=by omega
   have N:=C (show w.alloc (av #[I J t,I J 0,I J b,I J n,I J m,I ah u] 33)=V from x);have aO:V.cell? ⟨w.heap.size,1,U⟩=R (I J 0):=F;go_enter func48,ntmps48;go_upto_region 1 with fail;first|rw[h.out]|rw[N.out]
   go_wp2_with fail;refine d.mono ?_;rintro e z ⟨rfl,rfl⟩;go_wp2_with fail;go_ret2;rw[<-f.out];exact mU (o _ _ _ y)
  ·rw[z0 D] at c;cases hw:kg n with
   |false=>rw[hw,aj rfl] at c;have f:=C c;rw[hw] at r;go_enter func48,ntmps48;go_upto_region 1 with fail;rw[h.out];go_wp2_with fail;refine d.mono ?_;rintro e z ⟨rfl,rfl⟩;go_wp2_with fail;refine r.mono ?_;rintro e O ⟨rfl,rfl⟩;go_wp2_with fail;go_ret2;rw[<-f.out];exact mU (o _ _ _ y)
   |true=>rw[hw,z0 (by decide)] at c;have f:=C c;rw[hw] at r;obtain⟨aQ,aS⟩:=qI.1 hw;have aU:IntKind.u64.wrap n=n:=(by rw[nT];omega);have P:=C (show((n.toNat:Nat):Int)=n by omega);have Q:=l.BG (t':={G with shares:=n.toNat}) p 3 (I ah n) rfl rfl rfl (by unfold hg;rw[P.out];rfl) q;have T:=C Q;go_enter func48,ntmps48;go_upto_region 1 with fail;rw[h.out];go_wp2_with fail;refine d.mono ?_;rintro e z ⟨rfl,rfl⟩;go_wp2_with fail;refine r.mono ?_;rintro e O ⟨rfl,rfl⟩;go_wp2_with fail;go_ret2;rw[<-f.out];exact mU (o _ _ _ T)
theorem Ks (D a b n m E:Int) (H:aw aq S L s w) (hk:s.Ok k):Calls au 50 #[aY L.b,bm (cD D a b n m E)] w (mh aq S L (s.fR a)):=by
 obtain⟨V,F⟩:=aX (w.alloc (av (cD D a b n m E) 33));obtain⟨ay,ad,l,R,T⟩:=H.enter _ F;have o:=C F;have t:=C R;have u:=C l;have aB:=bN (i:=1) T (v:=I J a) rfl;have d:=C (kO a l);generalize c:s.fR a=Z;unfold aa.fR at c;unfold aY at*;obtain⟨az,K⟩:=aX L.b;have aC:=C K;rw[K] at d⊢;unfold cD at o⊢;cases p:s.group a with
 |none=>rw[p] at c;have h:=C c;rw[aa.mV p] at d;go_enter func50,ntmps50;go_upto_region 1 with fail;rw[o.out];go_wp2_with fail;refine d.mono ?_;rintro e y ⟨rfl,rfl⟩;go_wp2_with fail;go_ret2;rw[<-h.out];exact mU (t _ _ _ u)
 |some G=>
  obtain⟨U,j,ab⟩:=aa.hc p;rw[p] at c;dsimp only at c;rw[aa.k3 p] at d;obtain⟨g,rfl⟩:=dW U;rw[cd] at d j c;obtain⟨aF,z⟩:=aX (L.gk g);have af:=C z;rw[z] at d;obtain⟨ae,am,aM,ap,aO,q,ah,aQ⟩:=l.dB j z;have W:=C j;cases f:G.band with
  |none=>have A:G.limited=false:=(by unfold cc.limited;rw[f]);rw[A,aj rfl] at c;have h:=C c;rw[f] at q;simp only[Option.map_none,c8] at q;go_enter func50,ntmps50;go_upto_region 1 with fail;rw[o.out];go_wp2_with fail;refine d.mono ?_;rintro e y ⟨rfl,rfl⟩;go_wp2_with fail;refine(zT _).mono ?_;rintro e M ⟨rfl,rfl⟩;go_wp2_with fail;go_ret2;rw[<-h.out];exact mU (t _ _ _ u)
  |some B=>
   have A:G.limited=B.limited:=(by unfold cc.limited;rw[f]);rw[f] at q;simp only[iS,c8,aY] at q;have r:=C (zS (l.band j f));have N:=C (Jq (l.band j f));obtain⟨aS,O⟩:=aX (L.bd g);have X:=C O;rw[O] at q r N;have Y:=C f;rw[A] at c;cases x:B.limited with
   |false=>rw[x,aj rfl] at c;have h:=C c;rw[x] at r;go_enter func50,ntmps50;go_upto_region 1 with fail;rw[o.out];go_wp2_with fail;refine d.mono ?_;rintro e y ⟨rfl,rfl⟩;go_wp2_with fail;refine r.mono ?_;rintro e M ⟨rfl,rfl⟩;go_wp2_with fail;go_ret2;rw[<-h.out];exact mU (t _ _ _ u)
   |true=>have P:s.ax g=G:=aa.l2 j;rw[x,z0 (by decide),aa.pS (by rw[P];exact f),P] at c;have h:=C c;rw[x] at r;go_enter func50,ntmps50;go_upto_region 1 with fail;rw[o.out];go_wp2_with fail;refine d.mono ?_;rintro e y ⟨rfl,rfl⟩;go_wp2_with fail;refine r.mono ?_;rintro e M ⟨rfl,rfl⟩;go_wp2_with fail;refine N.mono ?_;rintro e aU Q;rw[<-X.out] at Q;obtain⟨rfl,ao⟩:=u.oQ W Y Q;have ac:=C ao;go_wp2_with fail;go_ret2;rw[<-h.out];exact mU (t _ _ _ ac)
end
def iv (aq:ab) (S:Nat->Prop) (L:bu) (d:c1) (e:Ending) (w':ab):Prop:=e=aK (bD #[I J d.2.1,I J d.2.2])∧aw aq S L d.1 w'
section
variable {aq w:ab} {S:Nat->Prop} {L:bu} {s:aa} {k:Nat}
theorem dk {a:aa} {n b:Int} (h:aw aq S L a w'):iv aq S L (a,n,b) (aK (bD #[I J n,I J b])) w':=⟨rfl,h⟩
theorem iv.ks {d:c1} {e:Ending} (h:iv aq S L d e w'):mh aq S L d e w':=⟨h.1,L,rfl,h.2⟩
def pT (s:aa) (a:Int):Int×Int:=if s.e8 a=false then(0,1) else if s.running a=-1 then(0,7) else(s.running a,0)
theorem BK (p a b n m q:Int) (H:aw aq S L s w) (hk:s.Ok k):Calls au 104 #[aY L.b,bm (cD p a b n m q)] w λe w'=>e=aK (bD #[I J (pT s a).1,I J (pT s a).2])∧Below w.heap.size w w':=by
 obtain⟨V,j⟩:=aX (w.alloc (av (cD p a b n m q) 33));obtain⟨A,B,t,D,x⟩:=H.enter _ j;have h:=C j;have d:=C (show Below w.heap.size w V from j▸bz w _);have E:=bN (i:=1) x (v:=I J a) rfl;have c:=C (re a t);have f:=C (oM a t hk);unfold pT;unfold aY at*;generalize F:L.b=G at c f⊢;unfold cD at h⊢;cases hp:s.e8 a with
 |false=>rw[hp] at c;rw[aj rfl];go_enter func104,ntmps104;go_upto_region 1 with fail;rw[h.out];go_wp2_with fail;refine c.mono ?_;rintro e u ⟨rfl,rfl⟩;go_wp2_with fail;go_ret2;exact⟨rfl,d⟩
 |true=>
  rw[hp] at c;rw[z0 (by decide)];by_cases g:s.running a=-1;·rw[aj g];rw[g] at f;go_enter func104,ntmps104;go_upto_region 1 with fail;rw[h.out];go_wp2_with fail;refine c.mono ?_;rintro e u ⟨rfl,rfl⟩;go_wp2_with fail;refine f.mono ?_;rintro e y ⟨rfl,l⟩;have o:=C l;go_wp2_with fail;go_ret2;exact⟨rfl,d.trans (o.mono d.size)⟩
  ·rw[z0 g];obtain⟨r,z⟩:∃r,s.running a=r:=⟨_,rfl⟩;rw[z] at f g⊢;have K:(r==-1)=false:=(by simp[g]);go_enter func104,ntmps104;go_upto_region 1 with fail;rw[h.out];go_wp2_with fail;refine c.mono ?_;rintro e u ⟨rfl,rfl⟩;go_wp2_with fail;refine f.mono ?_;rintro e y ⟨rfl,l⟩;have o:=C l;go_wp2_with fail;go_ret2;exact⟨rfl,d.trans (o.mono d.size)⟩
theorem wY (hk:s.Ok k) (a:Int):(∃f,f≠0∧pT s a=(0,f)∧s.block a=(s,0,f)∧s.exit a=(s,0,f)∧s.yield a=(s,0,f))∨∃(i n:Nat) (t:ex),a=i∧i<s.c.aR∧pT s a=((n:Int),0)∧s.running a=n∧s.tasks[n]?=R t∧t.on=true∧s.e8 a=true:=by
 unfold pT aa.block aa.exit aa.yield;cases hp:s.e8 a with
 |false=>exact .inl ⟨1,by decide,by rw[aj rfl],by rw[aj rfl],by rw[aj rfl],by rw[aj rfl]⟩
 |true=>
  obtain⟨b,h⟩:=aa.mE.1 hp;rcases hk.runs a with e|⟨n,t,e,d,g,_⟩;·exact .inl ⟨7,by decide,by rw[z0 (by decide),aj e],by rw[z0 (by decide),aj e],by rw[z0 (by decide),aj e],by rw[z0 (by decide),aj e]⟩
  ·obtain⟨i,rfl⟩:=dW b;exact .inr ⟨i,n,t,rfl,by omega,by rw[z0 (by decide),z0 (by omega),e],e,d,g,rfl⟩
theorem aa.BL {a:Int} (b:s.e8 a=true) (c:s.running a=n):s.block a=(s.leave n,(n:Int),0):=by unfold aa.block;rw[z0 (by rw[b];decide),z0 (by omega),c];rfl
theorem BM (h a b n m j:Int) (H:aw aq S L s w) (hk:s.Ok k):Calls au 55 #[aY L.b,bm (cD h a b n m j)] w (iv aq S L (s.block a)):=by
 obtain⟨V,x⟩:=aX (w.alloc (av (cD h a b n m j) 33));obtain⟨X,Y,o,F,c⟩:=H.enter _ x;have p:=C x;have y:=C F;have Z:=bN (i:=0) c (v:=I J h) rfl;have ao:=bN (i:=1) c (v:=I J a) rfl;have ac:=bN (i:=2) c (v:=I J b) rfl;have ay:=bN (i:=3) c (v:=I J n) rfl;have ad:=bN (i:=4) c (v:=I J m) rfl;have aB:=bN (i:=5) c (v:=I ah j) rfl;have d:=C (BK h a b n m j o hk);unfold aY at*;obtain⟨az,z⟩:=aX L.b;have G:=C z;rw[z] at d⊢;unfold cD at p d⊢;rcases wY hk a with⟨f,K,q,r,_⟩|⟨i,g,t,rfl,aC,q,r,A,M,N⟩
 ·rw[q] at d;rw[r];have ab:(f==0)=false:=by simp[K]
  go_enter func55,ntmps55;go_upto_region 1 with fail;rw[p.out];go_wp2_with fail;apply d.mono;rintro e O ⟨rfl,u⟩;have P:=C (o.next u);go_wp2_with fail;go_ret2;exact dk (y _ _ _ P)
 ·rw[q] at d;rw[aa.BL N r];have Q:=C A;have R:=C M;have B:=(bE.1 A).1;have aF:(0:Int)<=(g:Int):=by omega
  have af:(g:Int).toNat=g:=by omega
  go_enter func55,ntmps55;go_upto_region 1 with fail;rw[p.out];go_wp2_with fail;apply d.mono;rintro e O ⟨rfl,u⟩;have D:=o.next u;obtain⟨ae,am,aM,T,E⟩:=D.rC B;have l:=C (wM Q R D hk);unfold aY at l;rw[G.out] at E l;generalize aj:L.tk g=bX at T l;generalize ap:s.tasks.length=U at E;have aO:(g:Int)<(U:Int):=by have:=B;omega
  go_wp2_with fail;apply l.mono;rintro e aQ ⟨rfl,W⟩;go_wp2_with fail;go_ret2;exact dk (y _ _ _ W)
end
section
variable {aq w:ab} {S:Nat->Prop} {L:bu} {s:aa} {k:Nat}
theorem aa.Kv {a:Int} (b:s.e8 a=true) (c:s.running a=n) (d:(s.leave n).tasks[n]?=R t):s.exit a=({(s.leave n).cl n {t with dead:=true} with pool:=an.free 0 (s.leave n).pool t.h},(n:Int),0):=by unfold aa.exit;rw[if_neg (by rw[b];decide),if_neg (by omega),c,cd,d]
theorem aw.BN (H:aw aq S L s w) (e:L.b=b):w.cell? ⟨b,6,U⟩=R (af (R ⟨L.km,0,U⟩)):=by subst e;exact H.top.cell 6 AH
theorem aw.BO (H:aw aq S L s w) (a:n<s.tasks.length) (hv:L.tv=aA (R ⟨g,0,U⟩) m c):w.cell? ⟨g,n,U⟩=R (af (R ⟨L.tk n,0,U⟩))∧w.cell? ⟨L.b,7,U⟩=R (aA (R ⟨g,0,U⟩) m c):=by obtain⟨h,i,e,d,f⟩:=H.rC a;rw[hv] at e;simp only[Value.slice.injEq,Option.some.injEq,Addr.mk.injEq] at e;obtain⟨⟨rfl,_⟩,rfl,rfl⟩:=e;exact⟨d,f⟩
theorem Kw (x a b n m y:Int) (H:aw aq S L s w) (hk:s.Ok k):Calls au 56 #[aY L.b,bm (cD x a b n m y)] w (iv aq S L (s.exit a)):=by
 obtain⟨V,N⟩:=aX (w.alloc (av (cD x a b n m y) 33));obtain⟨bL,aN,ap,aO,j⟩:=H.enter _ N;have E:=C N;have O:=C aO;have bi:=bN (i:=0) j (v:=I J x) rfl;have bP:=bN (i:=1) j (v:=I J a) rfl;have bR:=bN (i:=2) j (v:=I J b) rfl;have bU:=bN (i:=3) j (v:=I J n) rfl;have bY:=bN (i:=4) j (v:=I J m) rfl;have al:=bN (i:=5) j (v:=I ah y) rfl;have d:=C (BM x a b n m y ap hk);unfold aY at*;obtain⟨P,Q⟩:=aX L.b;have q:=C Q;rw[Q] at d⊢;unfold cD at E d⊢;rcases wY hk a with⟨f,aQ,aS,z,aU,_⟩|⟨i,c,t,rfl,bZ,aS,z,aP,b2,W⟩
 ·rw[z] at d;rw[aU];have bQ:(f==0)=false:=by simp[aQ]
  go_enter func56,ntmps56;go_upto_region 1 with fail;rw[E.out];go_wp2_with fail;refine d.mono ?_;rintro e X ⟨rfl,l⟩;go_wp2_with fail;go_ret2;exact dk (O _ _ _ l)
 ·rw[aa.BL W z] at d;have r:=aa.pz (s:=s) aP;have A:=C (aa.Kv W z r);generalize bs:({t with mn:=s.least t t.p,e:=(s.a1 t.p).er (s.ax t.g).h.idx t.h.idx,on:=false}:ex)=t1 at r A;generalize b9:s.leave c=s1 at r A d;generalize bv:s.exit (i:Int)=Z at A⊢;have F:=C r;have G:=(bE.1 r).1;have a7:(0:Int)<=(c:Int):=by omega
  have cb:(c:Int).toNat=c:=by omega
  go_enter func56,ntmps56;go_upto_region 1 with fail;rw[E.out];go_wp2_with fail;refine d.mono ?_;rintro e X ⟨rfl,l⟩;dsimp only at l;obtain⟨Y,aT,ao,aV,ac⟩:=l.rC G;obtain⟨aZ,ak,a6,a8,a_,ba,ag,bb,bc,bf,bg,bk,bl,bn,K⟩:=l.ek F rfl;have bp:=K 2;generalize cf:s1.tasks.length=ay at ac ao;have ad:=C ao;have cg:(c:Int)<(ay:Int):=by have:=G;omega
  rw[q.out] at ac;obtain⟨B,aB⟩:=aX (L.tk c);have u:=C aB;rw[aB] at aV a6 bp;go_upto_region 4 with fail;generalize bq:X.setCell ⟨B,2,U⟩ (aE true)=M;have o:=l.ji (t':={t1 with dead:=true}) F 2 (aE true) rfl u;rw[bq] at o;generalize ai:({t1 with dead:=true}:ex)=t2 at o;have az:=aa.j2 F t2;obtain⟨aZ,ak,ch,a8,a_,ba,ag,bb,bc,bf,bg,bk,bl,bn,K⟩:=o.ek az u;have aC:c<(s1.cl c t2).tasks.length:=by unfold aa.cl;simp;exact G
  obtain⟨br,a0⟩:=o.BO aC ad;have bw:=o.BN q;rw[u.out] at br;rw[q.out] at a0;obtain⟨T,a2,a3⟩:=o.drew.Bm;have ab:=C (Ij T L.km 64 s1.pool t2.h M.drew a2);have aF:=C (λw' (a4:gL w' (c6 T M.drew) L.km 64 (an.free 0 s1.pool t2.h)) (a5:Mod T M.drew w')=>a3 w' (an.free 0 s1.pool t2.h) a4 a5);have aK:=C az;have bC:=C ai;obtain⟨aR,ae⟩:=aX L.km;have a9:=C ae;rw[ae] at bw ab aF;go_region_held3 (λW'=>W'.cell? ⟨P,6,U⟩=R (af (R ⟨aR,0,U⟩))∧W'.cell? ⟨P,7,U⟩=R (aA (R ⟨Y,0,U⟩) ay aT)∧W'.cell? ⟨Y,c,U⟩=R (af (R ⟨B,0,U⟩))∧W'.cell? ⟨B,0,U⟩=R (I J t2.h.idx)∧W'.cell? ⟨B,1,U⟩=R (I J t2.h.gen)) ((refine⟨?_,?_,?_,?_,?_⟩)<;>(with_reducible repeat(first|assumption|refine b7 ?_))) (first|(go_at_call 105;refine ab.mono ?_;rintro e aD ⟨⟨cj,rfl⟩,bG,bH⟩;have D:=aF aD bG bH;obtain⟨bd,be,cn,b5,cp,bB,bX,cr,cu,cy,cE,b8,cq,cH,K⟩:=D.ek (n:=c) aK u;obtain⟨am,aM⟩:=D.BO aC ad;have aj:=D.BN q;rw[u.out] at am;rw[q.out] at aM;rw[a9.out] at aj;have bK:=C D));all_goals clear bd be am aM aj;go_wp2_with fail;go_ret2;rw[A.out];refine dk (O _ _ _ ?_);have:=bK.out;rw[<-bC.out] at this;exact this
theorem Kx (l a b n m q:Int) (H:aw aq S L s w) (hk:s.Ok k):Calls au 57 #[aY L.b,bm (cD l a b n m q)] w (iv aq S L (s.yield a)):=by
 obtain⟨V,N⟩:=aX (w.alloc (av (cD l a b n m q) 33));obtain⟨aj,ap,u,aO,d⟩:=H.enter _ N;have B:=C N;have O:=C aO;have bl:=bN (i:=0) d (v:=I J l) rfl;have P:=bN (i:=1) d (v:=I J a) rfl;have bn:=bN (i:=2) d (v:=I J b) rfl;have bp:=bN (i:=3) d (v:=I J n) rfl;have bq:=bN (i:=4) d (v:=I J m) rfl;have ai:=bN (i:=5) d (v:=I ah q) rfl;have h:=C (BK l a b n m q u hk);have Q:=C (λ(W:ab) (r:aa) (o:Nat) (v:Value) (aQ:aw V aj L r W) (aS:V.cell? ⟨w.heap.size,o,U⟩=R v)=>aQ.kept ap aS zK9);unfold aY at*;obtain⟨X,Y⟩:=aX L.b;have Z:=C Y;rw[Y] at h⊢;unfold cD at B h⊢;rcases wY hk a with⟨f,aU,D,_,_,x⟩|⟨i,br,t,rfl,ao,D,x,aE,a0,ac⟩
 ·rw[D] at h;rw[x];have bw:(f !=0)=true:=by simp[aU]
  go_enter func57,ntmps57;go_upto_region 1 with fail;rw[B.out];go_wp2_with fail;refine h.mono ?_;rintro e E ⟨rfl,F⟩;have aP:=C (u.next F);go_wp2_with fail;go_ret2;exact dk (O _ _ _ aP)
 ·rw[D] at h;have G:=hk.eu (p:=(i:Int)) (by omega) (by omega);rw[cd] at G;have ay:=(hk.a1 i _ G).1;have aT:(s.a1 (i:Int)).running≠-1:=by intro aV;unfold aa.running at x;rw[if_neg (by rw[ac];decide),aV,if_pos (by decide)] at x;omega
  obtain⟨aZ,a2⟩:=ay.FN aT;obtain⟨y,ad⟩:=dW aZ;have ak:s.yield (i:Int)=(s.bO (i:Int) (s.a1 (i:Int)).yield,s.at_.getD y 0,0):=by unfold aa.yield;rw[if_neg (by rw[ac];decide),if_neg (by omega),ad,cd]
  rw[ak];have a6:y<64:=by omega
  have a3:(y:Int)<64:=by omega
  have a4:(y:Int).toNat=y:=by omega
  have a5:(0:Int)<=(y:Int):=by omega
  have K:=C (show s.at_[y]?=R (s.at_.getD y 0) by rw[dD,b6 (by rw[hk.gH];exact a6)];rfl);obtain⟨g,cap,aB,_,_⟩:=u.iJ hk.lens ao;obtain⟨az,a8⟩:=aX s.c.aR;have aK:(i:Int)<(az:Int):=by omega
  rw[a8] at aB;have aC:=C aB;have j:=C (bx G (bx ay (bx ao ad)));have bC:(i:Int).toNat=i:=by omega
  have a9:(0:Int)<=(i:Int):=by omega
  generalize aD:s.at_.getD y 0=a_ at K⊢;go_enter func57,ntmps57;go_upto_region 1 with fail;rw[B.out];go_wp2_with fail;refine h.mono ?_;rintro e E ⟨rfl,F⟩;have z:=u.next F;have bG:=Q E s 1 _ z P;obtain⟨ba,ag⟩:=z.fN hk.lens j.2.2.1 aC;have M:=C (z.drew.kP j.1 (λT bb=>BJ T (L.hk i) (s.a1 (i:Int)) E.drew bb j.2.1));rw[j.out.2.2.2] at M;have bc:=z.top.cell (41+y) (s7 hk.eB K);rw[Z.out] at ag bc;obtain⟨bf,aF⟩:=aX (L.hk i);have bg:=C aF;rw[aF] at ba M;go_wp2_with fail;go_region_held3 (λW'=>W'.cell? ⟨X,105,U⟩=R (aA (R ⟨g,0,U⟩) az cap)∧W'.cell? ⟨g,i,U⟩=R (af (R ⟨bf,0,U⟩))∧W'.cell? ⟨w.heap.size,1,U⟩=R (I J i)∧W'.cell? ⟨X,41+y,U⟩=R (I J a_)) ((refine⟨?_,?_,?_,?_⟩)<;>(with_reducible repeat(first|assumption|refine b7 ?_))) (first|(go_at_call 106;refine M.mono ?_;rintro e an ⟨rfl,A⟩;obtain⟨ae,am⟩:=A.fN (hk.lens.bO _ _) j.2.2.1 aC;have ax:=Q an _ 1 _ A P;have aM:=A.top.cell (41+y) (s7 (s:=s.bO (i:Int) (s.a1 (i:Int)).yield) hk.eB K);rw[bg.out] at ae;rw[Z.out] at am aM;have bk:=C A));all_goals clear ae am ax aM;go_wp2_with fail;go_ret2;exact dk (O _ _ _ bk)
end
def rE:cm Bool:=⟨1,λx=>[aE x],λ_=>rfl,λ_ u h=>by simp at h;subst h;rfl,by decide⟩
theorem KC:ij rE 43 4 1:=⟨underlying43,⟨.bool false,by kernel_rfl,rfl⟩,by decide⟩
section
variable {aq w:ab} {S:Nat->Prop} {L:bu} {s:aa} {k:Nat}
theorem aw.BP (H:aw aq S L s w) (hk:s.Ok k):∃g c,L.gv=aA (R ⟨g,0,U⟩) s.groups.length c∧w.cell? ⟨g,0,U⟩=R (af (R ⟨L.gk 0,0,U⟩))∧w.cell? ⟨L.b,8,U⟩=R (aA (R ⟨g,0,U⟩) s.groups.length c)∧0<s.groups.length:=by obtain⟨T,f⟩:=H.fk .eX;obtain⟨r,a,h,_⟩:=hk.root;have d:=rf (L:=L) a;rw[h] at d;obtain⟨g,cap,e,i,j,l,m⟩:=dJ.cell f d;rw[te] at e;have:=H.top.cell 8 oE;rw[e] at this;exact⟨g,cap,e,i,this,(bE.1 a).1⟩
def ml (s:aa) (j:Nat):List Nat:=hh s 0 j
theorem BQ (s:aa):s.iF=(ml s s.c.aR).map λn:Nat=>(n:Int):=by unfold aa.iF ml hh;rw[List.map_map];rfl
theorem BR (H:aw aq S L s w) (hk:s.Ok k) (F:k<=100000):Calls au 14 #[aY L.b] w (tq (ml s s.c.aR) w):=by
 obtain⟨G,ao,ac,l,f,q⟩:=H.BP hk;have r:=H.top.cell 0 oD;obtain⟨m,t⟩:=aX s.c.aR;have ay:=C t;have ad:m<=64:=by have:=hk.aR;omega
 rw[t] at r⊢;have n:=C (λ(W:ab) (g:Below w.heap.size w W) (p:Int)=>tl 0 q p (H.next g) hk F);generalize aB:s.groups.length=l4 at f q;unfold aY at*;generalize az:L.b=b at r f n⊢;generalize aC:L.gk 0=kE at l n;have K:=C (λ(W:ab) (g:Below w.heap.size w W)=>bx ((g.cell (p:=⟨G,0,U⟩) (ig l)).trans l) ((g.cell (p:=⟨b,8,U⟩) (ig f)).trans f));go_enter func14,ntmps14;go_wp2_with fail;go_loopw [3,4,12] (λv u i W=>∃j:Nat,j<=m∧i=I J (j:Int)∧Own jj W w.heap.size 31 v j (ml s j)∧Below w.heap.size w W) (λ_ _ i _=>m-(intOf i).toNat);case atStart=>exact⟨0,by omega,rfl,Own.nil _ _ _,Below.refl _ _⟩
 case round=>
  obtain⟨j,aF,rfl,y,a⟩:=hrel;by_cases af:j<m
  ·have ae:(j:Int)<(m:Int):=(by omega);have am:(j:Int).toNat=j:=(by omega);obtain⟨aM,aj⟩:=K wr a;have z:=C (n wr a (j:Int));have A:=C (Br s 0 j);generalize ap:s.load 0 (j:Int)=cB at z A;go_wp2_with fail;refine z.mono ?_;rintro e d ⟨rfl,B⟩;have o:Below w.heap.size w d:=a.trans (B.mono a.size);have D:=C ((y.next' B).alloc (av #[I ah (cB:Int)] 31));have E:w.heap.size<=(d.alloc (av #[I ah (cB:Int)] 31)).heap.size:=(by have:=o.size;simp;omega);have M:j<=10000000:=(by omega);have N:=C (show∀h u,(jj.e cB)[h]?=R u->(d.alloc (av #[I ah (cB:Int)] 31)).cell? ⟨d.heap.size,h,U⟩=R u fromλh u O=>dE.trans (by rw[<-O];show([I ah (cB:Int)]:List Value).toArray[h]?=_;rw[ff];rfl));go_wp2_with ((at_builtin;refine jv wO rfl _ _ rfl w.heap.size _ j _ rfl D d.heap.size _ cB rfl N M E ?_;intro P u Q T V;have X:=C Q;have Y:=C (show Grow _ u _ P from Grow.gK T V);have Z:=C (show Below w.heap.size w u from(o.alloc o.size _).trans (Y.below E (λaa x=>(D.lt aa x).1)))));go_roundw;case rel=>exact⟨j+1,by omega,by go_num,by show Own jj _ _ _ _ _ (hh s 0 (j+1));rw[A.out];exact X,Z⟩
   case measure=>simp[intOf];omega
  ·obtain rfl:j=m:=by omega
   go_wp2_with fail;go_ret;refine⟨_,rfl,?_,a⟩;rw[show(ml s j).length=j from tt s 0 j];exact y
theorem Rd.BS {zs:List Nat} (h:Rd jj n₀ W a n zs):gJ n₀ W (aA a n cap) (zs.map λn:Nat=>(n:Int)):=by
 have c:=h.1;by_cases e:0<n;·obtain⟨b,f,rfl,g,i⟩:=h.rv e;refine .inr ⟨b,f,cap,by rw[ep,c],g,λj d=>?_⟩;rw[ep] at d;rw[i j (by omega)];unfold bj nat;rw[dP,b6 d];rfl
 ·obtain rfl:n=0:=by omega
  exact .inl ⟨⟨a,cap,rfl⟩,by rw[nM.1 c];rfl⟩
theorem Rd.KD {zs:List Bool} (h:Rd rE n₀ W a n zs):j6 n₀ W (aA a n cap) zs:=by
 have c:=h.1;by_cases e:0<n;·obtain⟨b,f,rfl,g,i⟩:=h.cells e;refine .inr ⟨b,f,cap,by rw[c],g,λj d=>?_⟩;have:=i j _ (b6 d) 0 (aE zs[j]) rfl;unfold qC;rw[b6 d];simpa[rE] using this
 ·obtain rfl:n=0:=by omega
  exact .inl ⟨⟨a,cap,rfl⟩,nM.1 c⟩
def nH (s:aa) (j:Nat):List Bool:=(gh j).map λp:Nat=>decide (s.running p≠-1)
theorem KE (s:aa) (j:Nat):nH s (j+1)=nH s j++[decide (s.running (j:Int)≠-1)]:=by unfold nH;rw[nU,h4];rfl
theorem KF (s:aa) (j:Nat):(nH s j).length=j:=by unfold nH;simp
theorem rF (prev mask:Int) (H:aw aq S L s w) (hk:s.Ok k) (ao:k<=100000):Calls au 98 #[aY L.b,I J prev,I ah mask] w λe w'=>e=aK (bD #[I J (s.free prev mask).1,aE (decide ((s.free prev mask).2=0))])∧Below w.heap.size w w':=by
 have E:=H.top.cell 0 oD;obtain⟨m,l⟩:=aX s.c.aR;have ac:=C l;have aV:m<=64:=by have:=hk.aR;omega
 rw[l] at E;have F:=C (λ(W:ab) (o:Below w.heap.size w W) (p:Int)=>oM p (H.next o) hk);have G:=C (λ(W:ab) (o:Below w.heap.size w W)=>BR (H.next o) hk ao);have K:=C (show choose ((ml s m).map λn:Nat=>(n:Int)) (nH s m) prev mask=s.free prev mask by unfold aa.free aa.runs;rw[BQ,l];rfl);generalize aZ:s.free prev mask=fr at K⊢;unfold aY at*;generalize M:L.b=b at E F G⊢;go_enter func98,ntmps98;go_wp2_with fail;go_loopw [8,9,17] (λv u i W=>∃j:Nat,j<=m∧i=I J (j:Int)∧Own rE W w.heap.size 4 v j (nH s j)∧Below w.heap.size w W) (λ_ _ i _=>m-(intOf i).toNat);case atStart=>exact⟨0,by omega,rfl,Own.nil _ _ _,Below.refl _ _⟩
 case round=>
  obtain⟨j,ak,rfl,N,d⟩:=hrel;by_cases a6:j<m
  ·have a8:(j:Int)<(m:Int):=(by omega);have a_:(j:Int).toNat=j:=(by omega);have O:=C (F wr d (j:Int));have q:=C (KE s j);generalize ba:s.running (j:Int)=r at O q;generalize M:(decide (r≠-1))=a at q;have ag:(r !=-1)=a:=(by rw[<-M];by_cases t:r=-1<;>simp[t]);go_wp2_with fail;refine O.mono ?_;rintro e f ⟨rfl,P⟩;have y:Below w.heap.size w f:=d.trans (P.mono d.size);have Q:=C ((N.next' P).alloc (av #[aE a] 4));have T:w.heap.size<=(f.alloc (av #[aE a] 4)).heap.size:=(by have:=y.size;simp;omega);have ay:j<=10000000:=(by omega);have ad:=C (show∀g u,(rE.e a)[g]?=R u->(f.alloc (av #[aE a] 4)).cell? ⟨f.heap.size,g,U⟩=R u fromλg u aB=>dE.trans (by rw[<-aB];show([aE a]:List Value).toArray[g]?=_;rw[ff];rfl));go_wp2_with ((at_builtin;refine jv KC rfl _ _ rfl w.heap.size _ j _ rfl Q f.heap.size _ a rfl ad ay T ?_;intro az u aC aF af;have ae:=C aC;have am:=C (show Grow _ u _ az from Grow.gK aF af);have h:=C (show Below w.heap.size w u from(y.alloc y.size _).trans (am.below T (λaM x=>(Q.lt aM x).1)))));go_roundw;case rel=>exact⟨j+1,by omega,by go_num,by rw[q.out];exact ae,h⟩
   case measure=>simp[intOf];omega
  ·obtain rfl:j=m:=by omega
   obtain⟨bb,aj,ap,rfl,_,_,_,aO⟩:=N.rd;have aQ:=C (G wr d);go_wp2_with fail;refine aQ.mono ?_;rintro e V ⟨bc,rfl,z,X⟩;rw[ac.out] at z;have Y:(ml s j).length=j:=tt s 0 j;rw[Y] at z;obtain⟨_,aS,Z,rfl,_,_,_,aU⟩:=z.rd;have A:((ml s j).map λn:Nat=>(n:Int)).length=j:=(by rw[ep,Y]);have aP:=aU.BS (cap:=Z);have B:=C (KB aS Z aj j ap ((ml s j).map λn:Nat=>(n:Int)) (nH s j) prev mask V (by rw[A];exact aP) ((aO.wP X).KD) (KF s j) (by rw[A];omega) (by omega));rw[A,K.out] at B;have h:=C (show Below w.heap.size w V from d.trans (X.mono d.size));obtain⟨bf,D⟩:=fr;dsimp only at B;have bg:(D==0)=decide (D=0):=(by by_cases t:D=0<;>simp[t]);go_wp2_with fail;refine B.mono ?_;rintro e an ⟨rfl,aT⟩;go_wp2_with fail;go_ret2;exact⟨rfl,h.trans (aT.mono h.size)⟩
end
theorem KR {m:Int} (k:Nat) (h0:0<=m) (f:m<18446744073709551616):(bits BinOp.and ah (m/2^k) 1==0)=!bX m k:=by
 obtain⟨n,rfl⟩:=dW h0;have e:((n:Int)/2^k)=((n/2^k:Nat):Int):=by simp
 have c:n/2^k<18446744073709551616:=o6 (Nat.div_le_self _ _) (by omega);have a:=u64_and_nat (n/2^k) 1 c (by decide);have d:((1:Nat):Int)=1:=rfl;rw[d] at a;rw[KH n k (by omega),e,a,nat_mask1];rcases Nat.mod_two_eq_zero_or_one (n/2^k) with b|b<;>simp[b]
section
variable {aq w:ab} {S:Nat->Prop} {L:bu} {s:aa} {k:Nat}
theorem aa.w1 {a:Int} (h:s.task a=U):jx L s a=af U:=by unfold jx;rw[h]
theorem aa.w2 {a:Int} (h:s.task a=R t):jx L s a=af (R ⟨L.tk a.toNat,0,U⟩):=by unfold jx;rw[h];rfl
theorem KS (D a b n m E:Int) (H:aw aq S L s w) (hk:s.Ok k) (W:k<=100000):Calls au 52 #[aY L.b,bm (cD D a b n m E)] w (iv aq S L (s.js a)):=by
 obtain⟨V,F⟩:=aX (w.alloc (av (cD D a b n m E) 33));obtain⟨ap,aO,l,X,Y⟩:=H.enter _ F;have o:=C F;have r:=C X;have u:=C l;have ao:=C hk;have aQ:=bN (i:=1) Y (v:=I J a) rfl;have f:=C (tg a l);generalize d:s.js a=Z;unfold aa.js at d;unfold aY at*;obtain⟨aS,y⟩:=aX L.b;have ac:=C y;rw[y] at f⊢;unfold cD at o⊢;cases g:s.task a with
 |none=>rw[g] at d;have h:=C d;rw[aa.w1 g] at f;go_enter func52,ntmps52;go_upto_region 1 with fail;rw[o.out];go_wp2_with fail;refine f.mono ?_;rintro e G ⟨rfl,rfl⟩;go_wp2_with fail;go_ret2;rw[<-h.out];exact dk (r _ _ _ u)
 |some t=>
  obtain⟨ay,z,ad⟩:=aa.mF g;rw[g] at d;dsimp only at d;rw[aa.w2 g] at f;obtain⟨aB,rfl⟩:=dW ay;rw[cd] at f z d;obtain⟨K,A⟩:=aX (L.tk aB);have M:=C A;rw[A] at f;obtain⟨aU,aP,aT,N,aV,aZ,ak,a6,a8,a_,ba,ag,bb,bc,az⟩:=l.ek z A;cases j:t.on with
  |true=>rw[j,if_pos rfl] at d;have h:=C d;rw[j] at N;go_enter func52,ntmps52;go_upto_region 1 with fail;rw[o.out];go_wp2_with fail;refine f.mono ?_;rintro e G ⟨rfl,rfl⟩;go_wp2_with fail;go_ret2;rw[<-h.out];exact dk (r _ _ _ u)
  |false=>rw[j,if_neg (by decide)] at d;have h:=C d;rw[j] at N;have q:=C (rF t.p t.mask l.drew hk W);unfold aY at q;rw[y] at q;obtain⟨aC,bf⟩:=hk.py t.p t.mask;obtain⟨p,O⟩:=dW aC;have ab:=C O;have aF:=C (show p<s.c.aR by omega);have P:=C z;have Q:=C (bx j ad);obtain⟨bg,af⟩:∃x,decide ((s.free t.p t.mask).2=0)=x:=⟨_,rfl⟩;rw[O,af] at q;go_enter func52,ntmps52;go_upto_region 1 with fail;rw[o.out];go_wp2_with fail;refine f.mono ?_;rintro e G ⟨rfl,rfl⟩;go_wp2_with fail;go_region_held3 (λW'=>W'.cell? ⟨K,4,U⟩=R (I J t.p)∧W'.cell? ⟨K,8,U⟩=R (I ah t.mask)) ((refine⟨?_,?_⟩)<;>(with_reducible repeat(first|assumption|refine b7 ?_))) (first|(go_at_call 98;refine q.mono ?_;rintro e an ⟨rfl,ae⟩;have T:=u.drew.next ae;obtain⟨ax,bk,bl,bn,aA,bp,bq,ai,br,aE,a0,bw,a2,a3,az⟩:=T.ek P M;have am:=C T));all_goals have B:=C (tp P Q.1 Q.2 p aF true am ao);unfold aY at B;rw[ac.out,M.out] at B;go_wp2_with fail;refine B.mono ?_;rintro e a4 ⟨rfl,aM⟩;have aj:=C aM;go_wp2_with fail;go_ret2;rw[<-h.out,ab.out];exact dk (r _ _ _ aj)
end
section
variable {aq w:ab} {S:Nat->Prop} {L:bu} {s:aa} {k:Nat}
theorem KT (ag a b n m d:Int) (aO:0<=d∧d<18446744073709551616) (H:aw aq S L s w) (hk:s.Ok k) (bb:k<=100000):Calls au 54 #[aY L.b,bm (cD ag a b n m d)] w (iv aq S L (s.mask a d)):=by
 obtain⟨V,bc⟩:=aX (w.alloc (av (cD ag a b n m d) 33));obtain⟨a4,a5,af,aK,bf⟩:=H.enter _ bc;have K:=C bc;have X:=C aK;have Y:=C af;have bv:=C hk;have a7:=bN (i:=1) bf (v:=I J a) rfl;have M:=bN (i:=5) bf (v:=I ah d) rfl;have N:=C (λ(W:ab) (r:aa) (o:Nat) (v:Value) (bC:aw V a4 L r W) (a9:V.cell? ⟨w.heap.size,o,U⟩=R v)=>bC.kept a5 a9 zK9);have q:=C (tg a af);have A:=C (rF (-1) d af hk bb);generalize f:s.mask a d=Z;unfold aa.mask at f;unfold aY at*;obtain⟨cb,bg⟩:=aX L.b;have aQ:=C bg;rw[bg] at q A⊢;unfold cD at K⊢;cases ao:s.task a with
 |none=>rw[ao] at f;have y:=C f;rw[aa.w1 ao] at q;go_enter func54,ntmps54;go_upto_region 1 with fail;rw[K.out];go_wp2_with fail;refine q.mono ?_;rintro e ae ⟨rfl,rfl⟩;go_wp2_with fail;go_ret2;rw[<-y.out];exact dk (X _ _ _ Y)
 |some t=>
  obtain⟨aD,O,an⟩:=aa.mF ao;rw[ao] at f;dsimp only at f;rw[aa.w2 ao] at q;obtain⟨ac,rfl⟩:=dW aD;rw[cd] at q O f;obtain⟨aS,aU⟩:=aX (L.tk ac);have h:=C aU;rw[aU] at q;obtain⟨cf,bG⟩:=aX ((s.free (-1) d).1);obtain⟨bH,ax⟩:=aX ((s.free (-1) d).2);rw[bG,ax] at A;rw[ax] at f;by_cases aP:bH=0;·subst aP;rw[show decide ((0:Int)=0)=true from rfl] at A;rw[z0 (by decide)] at f;obtain⟨j,P⟩:∃j:ex,{t with mask:=d}=j:=⟨_,rfl⟩;have aT:=C P;have aV:=hk.task ac t O;have bk:(s.cl ac j).Ok k:=(by rw[<-P];exact hk.cl (t':={t with mask:=d}) O rfl rfl rfl rfl rfl aV.w aV.e aO);have bl:=aa.j2 O j;rw[P] at f;obtain⟨ay,bn⟩:∃ay,s.cl ac j=ay:=⟨_,rfl⟩;rw[bn] at f bk bl;have aZ:=C bn;have aA:=C bk;have D:=C bl;have Q:=C O;have cg:=C an;have bd:=aV.p;obtain⟨i,bp⟩:=dW bd.1;have ch:=hk.aR;have cj:(i:Int)<64:=(by omega);have cn:i<64:=(by omega);have bq:=C (show j.p=(i:Int) by rw[<-P];exact bp);have ad:=C (show j.on=t.on by rw[<-P]);have be:=C (show j.dead=t.dead by rw[<-P]);have ai:=KR i aO.1 aO.2;have bK:=C bb;rw[bp,cd] at f;have b5:IntKind.u64.wrap (i:Int)=(i:Int):=(by rw[nT];omega);have cp:(0:Int)<=(i:Int):=(by omega);have bB:(i:Int).toNat=i:=(by omega);obtain⟨cr,cu,cy,cE,b8,cq,cH,ar,bj,cO,cS,cT,cU,aI,E⟩:=af.ek O aU;have cR:=E 8;cases T:t.on with
   |false=>rw[T,Bool.false_and,z0 (by decide)] at f;have y:=C f;have aB:=C T;go_enter func54,ntmps54;go_upto_region 1 with fail;rw[K.out];go_wp2_with fail;refine q.mono ?_;rintro e ae ⟨rfl,rfl⟩;go_wp2_with fail;refine A.mono ?_;rintro e z ⟨rfl,F⟩;have l:=Y.next F;have br:=N z s 5 _ l M;obtain⟨_,_,_,_,_,_,_,_,aE,_,_,_,_,_,E⟩:=l.ek Q h;have a0:=E 8;have G:=C l;go_upto_region 8 with fail;obtain⟨u,B⟩:∃u,z.setCell ⟨aS,8,U⟩ (I ah d)=u:=⟨_,rfl⟩;rw[B];have g:=G.ji (t':=j) Q 8 (I ah d) (by rw[<-aT.out];rfl) h;rw[B,aZ.out] at g;obtain⟨_,_,_,az,_,_,_,_,_,_,_,_,_,_,_⟩:=g.ek D h;rw[ad.out,aB.out] at az;have aC:=C g;go_quiet (fail);go_wp2_with fail;go_ret2;rw[<-y.out];exact dk (X _ _ _ (aC.next (below_drewN (Below.refl _ _) _)))
   |true=>
    have aB:=C T;cases am:bX d i with
    |true=>rw[T,am,z0 (by decide)] at f;rw[am] at ai;have y:=C f;go_enter func54,ntmps54;go_upto_region 1 with fail;rw[K.out];go_wp2_with fail;refine q.mono ?_;rintro e ae ⟨rfl,rfl⟩;go_wp2_with fail;refine A.mono ?_;rintro e z ⟨rfl,F⟩;have l:=Y.next F;have br:=N z s 5 _ l M;obtain⟨_,_,_,_,_,_,_,_,aE,_,_,_,_,_,E⟩:=l.ek Q h;have a0:=E 8;have G:=C l;go_upto_region 8 with fail;obtain⟨u,B⟩:∃u,z.setCell ⟨aS,8,U⟩ (I ah d)=u:=⟨_,rfl⟩;rw[B];have g:=G.ji (t':=j) Q 8 (I ah d) (by rw[<-aT.out];rfl) h;rw[B,aZ.out] at g;obtain⟨_,_,_,az,ak,_,_,_,_,_,_,_,_,_,_⟩:=g.ek D h;rw[ad.out,aB.out] at az;rw[bq.out] at ak;have bL:=N u ay 5 _ g M;have aC:=C g;go_quiet (fail);go_wp2_with fail;go_ret2;rw[<-y.out];exact dk (X _ _ _ (aC.next (below_drewN (Below.refl _ _) _)))
    |false=>rw[T,am,aj (by decide)] at f;rw[am] at ai;have a6:=aA.leave D (ad.trans T);have bw:=aa.pz D;have aN:=aa.sG D;obtain⟨aF,a2⟩:∃aF,ay.leave ac=aF:=⟨_,rfl⟩;rw[a2] at f a6 bw aN;have aM:=C (bx a2 (bx a6 bw));obtain⟨bi,c7⟩:=a6.py (-1) d;obtain⟨p,a3⟩:=dW bi;rw[a3] at f;have bP:=C a3;have bR:=C (show p<aF.c.aR by omega);have y:=C f;obtain⟨bh,bU⟩:∃x,decide ((aF.free (-1) d).2=0)=x:=⟨_,rfl⟩;have bY:=C bU;have al:=C (be.trans an);go_enter func54,ntmps54;go_upto_region 1 with fail;rw[K.out];go_wp2_with fail;refine q.mono ?_;rintro e ae ⟨rfl,rfl⟩;go_wp2_with fail;refine A.mono ?_;rintro e z ⟨rfl,F⟩;have l:=Y.next F;have br:=N z s 5 _ l M;obtain⟨_,_,_,_,_,_,_,_,aE,_,_,_,_,_,E⟩:=l.ek Q h;have a0:=E 8;have G:=C l;go_upto_region 8 with fail;obtain⟨u,B⟩:∃u,z.setCell ⟨aS,8,U⟩ (I ah d)=u:=⟨_,rfl⟩;rw[B];have g:=G.ji (t':=j) Q 8 (I ah d) (by rw[<-aT.out];rfl) h;rw[B,aZ.out] at g;obtain⟨_,_,_,az,ak,_,_,_,_,_,_,_,_,_,_⟩:=g.ek D h;rw[ad.out,aB.out] at az;rw[bq.out] at ak;have bL:=N u ay 5 _ g M;have aC:=C g;go_quiet (fail);have bZ:=aC.next (below_drewN (Below.refl _ _) nq);have a8:=C (wM D (ad.trans aB) bZ aA);unfold aY at a8;rw[aQ.out,h.out] at a8;go_wp2_with fail;refine a8.mono ?_;rintro e b2 ⟨rfl,ap⟩;rw[aM.out.1] at ap;have bI:=N b2 aF 5 _ ap M;have a_:=C (rF (-1) d ap aM.2.1 bK);unfold aY at a_;rw[aQ.out,bP.out,bY.out] at a_;have bQ:=C ap;go_wp2_with fail;refine a_.mono ?_;rintro e dc ⟨rfl,bs⟩;have ba:=C (tp aM.2.2 rfl al p bR false (bQ.next bs) aM.2.1);unfold aY at ba;rw[aQ.out,h.out] at ba;go_wp2_with fail;refine ba.mono ?_;rintro e df ⟨rfl,b9⟩;have a1:=C b9;go_wp2_with fail;go_ret2;rw[<-y.out];exact dk (X _ _ _ a1)
  ·rw[decide_eq_false aP] at A;rw[aj aP] at f;have y:=C f;go_enter func54,ntmps54;go_upto_region 1 with fail;rw[K.out];go_wp2_with fail;refine q.mono ?_;rintro e ae ⟨rfl,rfl⟩;go_wp2_with fail;refine A.mono ?_;rintro e z ⟨rfl,F⟩;have G:=C (Y.next F);go_wp2_with fail;go_ret2;rw[<-y.out];exact dk (X _ _ _ G)
end
theorem w3 (n:Int):IntKind.i8.wrap n=(n+128)%256-128:=by simp[IntKind.wrap,IntKind.bits,IntKind.signed];split<;>omega
theorem w4 (n:Int):∃c:Int,IntKind.i8.wrap n=c∧IntKind.i64.wrap c=c∧(n==c)=kh n∧(n !=c)=!kh n:=by
 refine⟨_,rfl,?_,?_,?_⟩;·rw[w3];exact IntWalk.i64_in _ (by omega)
 ·rw[w3,hK];unfold kh;simp;omega
 ·rw[w3,hK];unfold kh;simp;omega
section
variable {aq w:ab} {S:Nat->Prop} {L:bu} {s:aa} {k:Nat}
theorem KU (a8 a b n m a_:Int) (H:aw aq S L s w) (hk:s.Ok k):Calls au 53 #[aY L.b,bm (cD a8 a b n m a_)] w (iv aq S L (s.nice a n)):=by
 obtain⟨V,ba⟩:=aX (w.alloc (av (cD a8 a b n m a_) 33));obtain⟨bR,bU,ae,bY,ag⟩:=H.enter _ ba;have G:=C ba;have N:=C bY;have O:=C ae;have bb:=C hk;have dj:=bN (i:=1) ag (v:=I J a) rfl;have bc:=bN (i:=3) ag (v:=I J n) rfl;have bf:=C (λ(W:ab) (r:aa) (o:Nat) (v:Value) (am:aw V bR L r W) (al:V.cell? ⟨w.heap.size,o,U⟩=R v)=>am.kept bU al zK9);have q:=C (tg a ae);generalize d:s.nice a n=Z;unfold aa.nice at d;unfold aY at*;obtain⟨bZ,bg⟩:=aX L.b;have an:=C bg;rw[bg] at q⊢;unfold cD at G⊢;obtain⟨dv,bo,dw,_,ay⟩:=w4 n;cases B:s.task a with
 |none=>rw[B] at d;have y:=C d;rw[aa.w1 B] at q;go_enter func53,ntmps53;go_upto_region 1 with fail;rw[G.out];go_wp2_with fail;refine q.mono ?_;rintro e ad ⟨rfl,rfl⟩;go_wp2_with fail;go_ret2;rw[<-y.out];exact dk (N _ _ _ O)
 |some t=>
  obtain⟨b2,aB,dx⟩:=aa.mF B;rw[B] at d;dsimp only at d;rw[aa.w2 B] at q;obtain⟨z,rfl⟩:=dW b2;rw[cd] at q aB d;obtain⟨P,bk⟩:=aX (L.tk z);have j:=C bk;rw[bk] at q;cases bl:kh n with
  |false=>rw[bl] at ay d;rw[if_pos rfl] at d;rw[show(!false)=true from rfl] at ay;have y:=C d;go_enter func53,ntmps53;go_upto_region 1 with fail;rw[G.out];go_wp2_with fail;refine q.mono ?_;rintro e ad ⟨rfl,rfl⟩;go_wp2_with fail;go_ret2;rw[<-y.out];exact dk (N _ _ _ O)
  |true=>
   rw[bl] at ay d;rw[if_neg (by decide)] at d;rw[show(!true)=false from rfl] at ay;have D:=C (wa n V);unfold nv at D;generalize bQ:e7 n=bn at D d;by_cases aM:bn=0;·subst aM;rw[if_neg (by decide)] at d;have bs:=vA n bQ;obtain⟨f,aj⟩:∃x,ei n=x:=⟨_,rfl⟩;rw[aj] at D d bs;have K:=hk.task z t aB;have A:=C aB;obtain⟨i,bp⟩:=dW K.p.1;have bq:i<s.c.aR:=(by have:=K.p.2;omega);have az:=C bp;rw[bp] at d;have ap:=hk.eu (p:=(i:Int)) (by omega) (by omega);rw[cd] at ap;have b9:=(hk.a1 i _ ap).1;have bv:=hk.jT aB;obtain⟨g,cap,ai,_,_⟩:=ae.iJ hk.lens bq;obtain⟨br,a7⟩:∃m,s.c.aR=m:=⟨_,rfl⟩;have dy:(i:Int)<(br:Int):=(by omega);rw[a7] at ai;have aE:=C ai;have M:=C (bx ap (bx b9 (bx bq bv)));have bz:(i:Int).toNat=i:=(by omega);have dF:(0:Int)<=(i:Int):=(by omega);have dL:=C K.e;cases aC:t.on with
    |true=>rw[aC,if_pos rfl] at d;have y:=C d;have Q:=C aC;go_enter func53,ntmps53;go_upto_region 1 with fail;rw[G.out];go_wp2_with fail;refine q.mono ?_;rintro e ad ⟨rfl,rfl⟩;go_wp2_with fail;refine D.mono ?_;rintro e aO ⟨rfl,X⟩;have E:=O.next X;obtain⟨a0,cb,cf,aQ,bw,a2,cg,ch,cj,cn,b5,cp,bB,bX,l⟩:=E.ek A j;rw[Q.out] at aQ;rw[az.out] at bw;obtain⟨cr,cu⟩:=E.fN bb.lens M.2.2.1 aE;have aS:=(E.ax M.2.2.2).cell 1 (v:=I J (s.ax t.g).h.idx) rfl;have Y:=C (E.drew.kP M.1 (λT B=>Ja T (L.hk i) (s.a1 (i:Int)) (s.ax t.g).h.idx t.h.idx f aO.drew B M.2.1));rw[an.out] at cu;obtain⟨cy,a3⟩:∃x,L.hk i=x:=⟨_,rfl⟩;have cE:=C a3;rw[a3] at cr Y;obtain⟨a4,a5⟩:∃x,L.gk t.g=x:=⟨_,rfl⟩;have aK:=C a5;rw[a5] at a2 aS;obtain⟨aU,bC⟩:∃x,(s.ax t.g).h.idx=x:=⟨_,rfl⟩;have a9:=C bC;rw[bC] at aS Y;obtain⟨aP,aD⟩:∃x,t.h.idx=x:=⟨_,rfl⟩;have bG:=C aD;rw[aD] at a0 Y;obtain⟨dQ,b8⟩:∃x,(s.a1 (i:Int)).e7 aU aP f=x:=⟨_,rfl⟩;rw[b8] at Y;go_wp2_with fail;go_region_held3 (λW'=>W'.cell? ⟨bZ,105,U⟩=R (aA (R ⟨g,0,U⟩) br cap)∧W'.cell? ⟨g,i,U⟩=R (af (R ⟨cy,0,U⟩))∧W'.cell? ⟨P,4,U⟩=R (I J i)∧W'.cell? ⟨P,5,U⟩=R (af (R ⟨a4,0,U⟩))∧W'.cell? ⟨P,0,U⟩=R (I J aP)∧W'.cell? ⟨a4,1,U⟩=R (I J aU)) ((refine⟨?_,?_,?_,?_,?_,?_⟩)<;>(with_reducible repeat(first|assumption|refine b7 ?_))) (first|(go_at_call 101;refine Y.mono ?_;rintro e aF ⟨rfl,ao⟩;obtain⟨cq,ce,dR,bu,cH,ar,dX,ci,ee,ck,en,eo,ew,co,l⟩:=ao.ek (n:=z) A j;have eH:=l 6;have eI:=l 7;have bj:=(ao.ax (n:=t.g) M.2.2.2).cell 1 (v:=I J (s.ax t.g).h.idx) rfl;obtain⟨cO,cS⟩:=ao.fN (bb.lens.bO _ _) M.2.2.1 aE;have cT:=bf aF _ 3 _ ao bc;rw[az.out] at cH;rw[aK.out] at ar;rw[bG.out] at cq;rw[aK.out,a9.out] at bj;rw[cE.out] at cO;rw[an.out] at cS;have aT:=C ao));all_goals have ac:=aT.ji (n:=z) (t':={t with nice:=n}) A 6 (I J n) rfl j;have F:=ac.ji (n:=z) (t':={t with nice:=n,w:=f}) (aa.j2 (s:=s.bO (i:Int) ((s.a1 (i:Int)).nice aU aP f)) A _) 7 (I ah f) rfl j;rw[aa.nC] at F;have cU:=C F;go_wp2_with fail;go_ret2;rw[<-y.out,a9.out,bG.out];have:=cU.out;rw[Q.out,az.out] at this;exact dk (N _ _ _ this)
    |false=>rw[aC,if_neg (by decide)] at d;have y:=C d;have Q:=C aC;have bH:=C (λ(W:ab)=>oA t.e.rem f t.e.wt (by have:=K.e;omega) (by omega) (by have aS:t.e.rem*f<=262144*262144:=qc (by have:=K.e;omega) (by omega);omega) (by have:=K.e;omega) W);obtain⟨u,bd⟩:∃u,t.e.rem*f/t.e.wt=u:=⟨_,rfl⟩;obtain⟨r,am⟩:∃r,t.e.rem*f%t.e.wt=r:=⟨_,rfl⟩;rw[bd,am] at bH;have aI:=C bd;go_enter func53,ntmps53;go_upto_region 1 with fail;rw[G.out];go_wp2_with fail;refine q.mono ?_;rintro e ad ⟨rfl,rfl⟩;go_wp2_with fail;refine D.mono ?_;rintro e aO ⟨rfl,X⟩;have E:=O.next X;obtain⟨a0,cb,cf,aQ,bw,a2,cg,ch,cj,cn,b5,cp,bB,bX,l⟩:=E.ek A j;rw[Q.out] at aQ;have aV:=C E;go_wp2_with fail;go_region_with (first|(go_at_call 102;refine(bH _).mono ?_;rintro e aF ⟨rfl,be⟩;have bK:=aV.next (w':=aF) (by first|exact(below_drewN (Below.refl _ _) _).trans be|exact(Below.refl _ _).drew.trans be);obtain⟨_,_,_,_,_,_,cR,c7,_,_,bh,_,eL,_,l⟩:=bK.ek A j;have cs:=l 12;have aT:=C bK));all_goals obtain⟨aZ,bL⟩:∃aZ,aF.setCell ⟨P,12,U⟩ (I ah u)=aZ:=⟨_,rfl⟩;rw[bL];have ac:=aT.ji (n:=z) (t':={t with e:={t.e with rem:=u}}) A 12 (I ah u) rfl j;rw[bL] at ac;have aN:=aa.j2 A {t with e:={t.e with rem:=u}};obtain⟨_,_,_,_,_,_,_,_,_,_,bh,_,_,_,l⟩:=ac.ek aN j;have eT:=l 10;have bI:=C ac;have dc:=C aN;go_upto_region 13 with fail;obtain⟨ak,bi⟩:∃ak,aZ.setCell ⟨P,10,U⟩ (I ah f)=ak:=⟨_,rfl⟩;rw[bi];have F:=bI.ji (n:=z) (t':={t with e:={t.e with rem:=u,wt:=f}}) dc 10 (I ah f) rfl j;rw[bi,aa.nC] at F;have a6:=aa.j2 A {t with e:={t.e with rem:=u,wt:=f}};obtain⟨_,_,_,_,_,_,cR,c7,_,_,_,_,_,_,l⟩:=F.ek a6 j;have eU:=l 6;have cv:=l 7;have cT:=bf ak _ 3 _ F bc;have df:=F.ji (n:=z) (t':={t with e:={t.e with rem:=u,wt:=f},nice:=n}) a6 6 (I J n) rfl j;have bP:=df.ji (n:=z) (t':={t with e:={t.e with rem:=u,wt:=f},nice:=n,w:=f}) (aa.j2 a6 _) 7 (I ah f) rfl j;rw[aa.nC,aa.nC] at bP;have b_:=C bP;go_wp2_with fail;go_ret2;rw[<-y.out];unfold vB;rw[aI.out];have:=b_.out;rw[Q.out,az.out] at this;exact dk (N _ _ _ this)
   ·have eY:(bn !=0)=true:=(by simp[aM]);rw[if_pos aM] at d;have y:=C d;obtain⟨f,aj⟩:∃x,ei n=x:=⟨_,rfl⟩;rw[aj] at D;go_enter func53,ntmps53;go_upto_region 1 with fail;rw[G.out];go_wp2_with fail;refine q.mono ?_;rintro e ad ⟨rfl,rfl⟩;go_wp2_with fail;refine D.mono ?_;rintro e aO ⟨rfl,X⟩;have aV:=C (O.next X);go_wp2_with fail;go_ret2;rw[<-y.out];exact dk (N _ _ _ aV)
end
section
variable {aq w:ab} {S:Nat->Prop} {L:bu} {s:aa} {k:Nat}
theorem aa.BX (g:Nat):∀(l:List Int) (s:aa),(aa.et g l s).groups=s.groups
 |[],s=>rfl
 |p::l,s=>by unfold aa.et;rw[aa.BX g l];rfl
theorem aa.BY (g:Nat) (p:Int):∀(l:List Int) (s:aa),aa.et g (l++[p]) s=(aa.et g l s).stop g p false
 |[],s=>rfl
 |q::l,s=>by rw[gQ];show aa.et g (l++[p]) (s.stop g q false)=(aa.et g l (s.stop g q false)).stop g p false;exact aa.BY g p l _
theorem aa.KV (s:aa) (g:Nat) (p:Int) (is:Bool) {G:cc} (a:G.h=(s.ax g).h):(s.b0 g G).stop g p is=(s.stop g p is).b0 g G:=by
 unfold aa.stop;have e:((s.b0 g G).ax g).h=(s.ax g).h:=by
  rw[aa.l3];split;·exact a
  ·rfl
 rw[e];rfl
theorem aa.BZ (g:Nat) {G:cc}:∀(l:List Int) (s:aa),G.h=(s.ax g).h->aa.et g l (s.b0 g G)=(aa.et g l s).b0 g G
 |[],s,_=>rfl
 |p::l,s,a=>by unfold aa.et;rw[aa.KV s g p false a];exact aa.BZ g l _ a
theorem aa.KW {t:cc} (b:s.groups[n]?=R t) (a:cc):(s.b0 n a).groups[n]?=R a:=cZ (bE.1 b).1
theorem eG.b0 (h:eG s) (n:Nat) (t:cc):eG (s.b0 n t):=⟨h.1,h.2.1,h.2.2.1,h.2.2.2⟩
theorem KX (bf a b n m bg:Int) (H:aw aq S L s w) (hk:s.Ok k):Calls au 49 #[aY L.b,bm (cD bf a b n m bg)] w (iv aq S L (s.jS a n m)):=by
 obtain⟨V,an⟩:=aX (w.alloc (av (cD bf a b n m bg) 33));obtain⟨bK,ar,ao,bj,bk⟩:=H.enter _ an;have ac:=C an;have ae:=C bj;have am:=C ao;have bJ:=C hk;have cO:=bN (i:=1) bk (v:=I J a) rfl;have bL:=bN (i:=3) bk (v:=I J n) rfl;have bi:=bN (i:=4) bk (v:=I J m) rfl;have aM:=C (λ(W:ab) (r:aa) (o:Nat) (v:Value) (E:aw V bK L r W) (cS:V.cell? ⟨w.heap.size,o,U⟩=R v)=>E.kept ar cS zK9);have A:=C (kO a ao);generalize t:s.jS a n m=Z;rw[aa.zo] at t;unfold aY at*;obtain⟨cT,bP⟩:=aX L.b;have bR:=C bP;rw[bP] at A⊢;unfold cD at ac⊢;cases M:s.group a with
 |none=>rw[M] at t;have N:=C t;rw[aa.mV M] at A;go_enter func49,ntmps49;go_upto_region 1 with fail;rw[ac.out];go_wp2_with fail;refine A.mono ?_;rintro e aj ⟨rfl,rfl⟩;go_wp2_with fail;go_ret2;rw[<-N.out];exact dk (ae _ _ _ am)
 |some G=>
  obtain⟨cU,F,bD⟩:=aa.hc M;rw[M] at t;dsimp only at t;rw[aa.k3 M] at A;obtain⟨g,rfl⟩:=dW cU;rw[cd] at A F t;obtain⟨ap,bl⟩:=aX (L.gk g);have O:=C bl;rw[bl] at A;by_cases bU:(g:Int)=0
  ·rw[if_pos bU] at t;have N:=C t;obtain rfl:g=0:=by omega
   have aI:=C (show w.alloc (av #[I J bf,I J 0,I J b,I J n,I J m,I ah bg] 33)=V from an);have fy:V.cell? ⟨w.heap.size,1,U⟩=R (I J 0):=cO;go_enter func49,ntmps49;go_upto_region 1 with fail;first|rw[ac.out]|rw[aI.out]
   go_wp2_with fail;apply A.mono;rintro e aj ⟨rfl,rfl⟩;go_wp2_with fail;go_ret2;rw[<-N.out];exact dk (ae _ _ _ am)
  ·rw[if_neg bU] at t;have ay:g≠0:=(by omega);obtain⟨⟨B,P,fz⟩,⟨l,bn,cR,fA⟩,_⟩:=hk.ax g G F ay;have aO:s.ax g=G:=aa.l2 F;obtain⟨bY,bp⟩:=aX (L.bd g);have aQ:=C bp;obtain⟨al,c7⟩:=aX (L.ln g);have K:=C c7;have bq:=C F;have ad:=C (bx P (bx bn aO));have bh:0<B.loc.length:=(by have:=hk.aR;omega);have aB:=C (Jt n m (ao.drew.band F P) bh);rw[bp] at aB;obtain⟨fB,cB,fC,fO,bF,ai,aL,Q⟩:=ao.dB F bl;rw[P] at ai;simp only[iS,c8,aY] at ai;rw[bp] at ai;generalize bI:aN.hP n m=bZ at aB t;by_cases aS:bZ=0;·subst aS;rw[if_neg (by decide)] at t;have aU:=(bE.1 F).1;obtain⟨z,br⟩:∃z,s.bW g (λb=>b.set n m)=z:=⟨_,rfl⟩;have a0:=aa.pS (s:=s) (g:=g) (by rw[aO];exact P) (λb=>b.set n m);rw[br,aO] at a0;have b2:z.ax g={G with band:=R (B.set n m)}:=(by rw[a0,aa.l3,if_pos ⟨rfl,aU⟩]);have az:cL k s z:=(by rw[<-br];exact⟨hk.bW g _ (λb=>b.md n m),cG.bW _ _ _⟩);have bw:z.groups[g]?=R (z.ax g):=aa.nG (by rw[az.dH.len];exact aU);obtain⟨d,aP⟩:∃d,z.b0 g {z.ax g with quota:=n}=d:=⟨_,rfl⟩;have a2:=az.ok.ax g _ bw ay;have a3:cL k s d:=az.trans (by rw[<-aP];exact⟨az.ok.b0 bw rfl rfl (λ_=>⟨a2.band,a2.line,a2.shares⟩) (λe=>absurd e ay),cG.b0 z g rfl rfl rfl⟩);have bQ:d.ax g={G with band:=R (B.set n m),quota:=n}:=(by rw[<-aP,aa.l3,if_pos ⟨rfl,by rw[az.dH.len];exact aU⟩,b2]);have dc:d.groups[g]?=R (d.ax g):=aa.nG (by rw[a3.dH.len];exact aU);have bs:(d.ax g).line=R l:=(by rw[bQ];exact bn);have df:s.ib g=l:=(by unfold aa.ib;rw[aO,bn];rfl);have b_:s.oq g n m=d.b0 g {d.ax g with line:=R []}:=(by unfold aa.oq;rw[br,aP,aa.tC bs]);rw[df,b_,aa.BZ g (G:={d.ax g with line:=R []}) l d rfl] at t;have N:=C t;have j:=C (bx a0 (bx b2 (bx bw (bx aP (bx a3 (bx bQ (bx dc bs)))))));have a4:d.c.aR=s.c.aR:=(by rw[a3.dH.c]);have a5:=C (show∀p∈l,0<=p∧p<(d.c.aR:Int) by rw[a4];exact cR);obtain⟨b9,cap,bv,_,_⟩:=ao.iJ hk.lens (p:=0) (by have:=hk.aR;omega);obtain⟨aT,dj⟩:∃m,s.c.aR=m:=⟨_,rfl⟩;rw[dj] at bv a4;have a7:=C bv;have cb:=C a4;obtain⟨aV,dv⟩:∃x,(d.ax g).h.idx=x:=⟨_,rfl⟩;have aK:=C dv;go_enter func49,ntmps49;go_upto_region 1 with fail;rw[ac.out];go_wp2_with fail;refine A.mono ?_;rintro e aj ⟨rfl,rfl⟩;have bo:((g:Int)==0)=false:=(by simp;exact ay);go_wp2_with fail;go_region_held3 (λW'=>W'.cell? ⟨ap,5,U⟩=R (af (R ⟨bY,0,U⟩))∧W'.cell? ⟨w.heap.size,3,U⟩=R (I J n)∧W'.cell? ⟨w.heap.size,4,U⟩=R (I J m)) ((refine⟨?_,?_,?_⟩)<;>(with_reducible repeat(first|assumption|refine b7 ?_))) (first|(go_at_call 92;refine aB.mono ?_;rintro e X aC;rw[<-aQ.out] at aC;obtain⟨rfl,y⟩:=am.drew.oQ bq ad.1 aC;rw[<-j.out.1] at y;have aZ:=y.rD j.2.2.1 (by rw[j.out.2.1]) O aQ;have ak:=aM X _ 3 _ y bL;have a6:=aM X _ 4 _ y bi;obtain⟨cf,cg,ch,cj,cn,b5,cp,Q⟩:=y.dB j.2.2.1 O;have fU:=Q 4;have bC:=C y));all_goals
    go_upto_region 10 with fail;generalize dw:X.setCell ⟨ap,4,U⟩ (I J n)=dx;have a8:=bC.BG (t':={z.ax g with quota:=n}) j.2.2.1 4 (I J n) rfl rfl rfl rfl O;rw[dw,j.out.2.2.2.1] at a8;have fV:=a8.BA j.2.2.2.2.2.2.1 j.2.2.2.2.2.2.2 O K;have dy:=C (vZ al l dx (by rw[<-K.out];exact a8.line j.2.2.2.2.2.2.1 j.2.2.2.2.2.2.2));have bz:=C a8;go_wp2_with fail;apply dy.mono;rintro e dA ⟨rfl,dF,dL⟩;have dQ:=bz.pP j.2.2.2.2.2.2.1 j.2.2.2.2.2.2.2 (l':=l.tail) (by rw[K.out];exact dF) (by rw[K.out];exact dL);have ce:=C dQ;go_wp2_with fail;go_loopg [8,9] l.length (λdR v u W=>∃(q f:List Int),dR=f.length∧l=q++f∧v=I J (sQ f)∧u=aE (!f.isEmpty)∧aw aj bK L ((aa.et g q d).b0 g {d.ax g with line:=R f.tail}) W);case atStart=>exact⟨[],l,rfl,rfl,rfl,rfl,ce⟩
    case round=>
     obtain⟨q,f,a9,Y,rfl,rfl,E⟩:=hrel;have bu:=C E;have bB:=C Y;have dX:=C a9;have aF:=j.2.2.2.2.1.trans (aa.Ok.et g q d j.2.2.2.2.1.ok λp aD=>a5 p (by rw[Y];exact List.mem_append_left _ aD));have a_:(aa.et g q d).groups[g]?=R (d.ax g):=(by rw[aa.BX];exact j.2.2.2.2.2.2.1);have bG:=aa.KW a_ {d.ax g with line:=R f.tail};cases f with
     |nil=>clear E Y a9 aF a_ bG;rw[show(!([]:List Int).isEmpty)=false from rfl];go_wp2_with fail;go_ret2;rw[<-N.out];refine dk (ae _ _ _ ?_);have:=bu.out;rw[show l=q by rw[bB.out,qa]];exact this
     |cons p f=>have bX:=a5 p (by rw[Y];simp);obtain⟨i,rfl⟩:=dW bX.1;have ci:i<aT:=(by have:=cb.out;omega);have ee:(i:Int)<(aT:Int):=(by omega);have ck:(0:Int)<=(i:Int):=(by omega);have f_:(i:Int).toNat=i:=(by omega);have bH:(aa.et g q d).c.aR=aT:=(by rw[(aa.Ok.et g q d j.out.2.2.2.2.1.ok λp aD=>a5.out p (by rw[Y];exact List.mem_append_left _ aD)).dH.c];exact cb);have ba:=aF.ok.eu (p:=(i:Int)) ck (by rw[bH];exact ee);rw[cd] at ba;have D:=C (bx ba (bx (aF.ok.a1 i _ ba).1 (bx a_ (bx bG aF.ok.lens))));have cr:=C (show i<(aa.et g q d).c.aR by rw[bH];exact ci);have ag:=C (E.drew.kP (i:=i) D.1 (λT M=>wG T (L.hk i) ((aa.et g q d).a1 (i:Int)) (d.ax g).h.idx false wr.drew M D.2.1));obtain⟨cu,cy⟩:=E.fN (D.2.2.2.2.b0 _ _) cr a7;obtain⟨cf,cE,ch,cj,cn,b5,cp,Q⟩:=E.dB D.2.2.2.1 O;rw[bR.out] at cy;obtain⟨en,be⟩:∃x,L.hk i=x:=⟨_,rfl⟩;have eo:=C be;rw[be] at cu ag;rw[aK.out] at cE ag;obtain⟨aH,b8⟩:∃x:Int,(if(((aa.et g q d).a1 (i:Int)).linked aV).isSome then 0 else 1)=x:=⟨_,rfl⟩;rw[b8] at ag;clear E Y a9 aF a_ bG bX bH ba cf ch cj cn b5 cp Q be b8;rw[show sQ ((i:Int)::f)=(i:Int) from rfl,show(!((i:Int)::f).isEmpty)=true from rfl];go_wp2_with fail;go_region_held3 (λW'=>W'.cell? ⟨cT,105,U⟩=R (aA (R ⟨b9,0,U⟩) aT cap)∧W'.cell? ⟨b9,i,U⟩=R (af (R ⟨en,0,U⟩))∧W'.cell? ⟨ap,1,U⟩=R (I J aV)) ((refine⟨?_,?_,?_⟩)<;>(with_reducible repeat(first|assumption|refine b7 ?_))) (first|(go_at_call 94;refine ag.mono ?_;rintro e ew ⟨rfl,bb⟩;obtain⟨co,eH,eI,ak,a6,aZ,cq,Q⟩:=bb.dB (g:=g) D.2.2.2.1 O;obtain⟨eL,cs⟩:=bb.fN ((D.2.2.2.2.b0 _ _).bO _ _) (p:=i) cr a7;rw[aK.out] at eH;rw[eo.out] at eL;rw[bR.out] at cs;simp only[iS,c8,aY] at cq;rw[K.out] at cq;have cH:=C bb;clear bb cu cy cE co eI ak a6 aZ Q));all_goals
      have eT:=C (vZ al f ew (by rw[<-K.out];exact cH.line (G:={d.ax g with line:=R f}) D.2.2.2.1 rfl));go_wp2_with fail;apply eT.mono;rintro e gq ⟨rfl,eU,cv⟩;have eY:=cH.pP (G:={d.ax g with line:=R f}) D.2.2.2.1 rfl (l':=f.tail) (by rw[K.out];exact eU) (by rw[K.out];exact cv);have bA:=C eY;go_wp2_with fail;go_roundg f.length;case measure=>rw[dX.out,dY];omega
      case rel=>refine⟨q++[(i:Int)],f,rfl,by rw[bB.out];simp,rfl,rfl,?_⟩;rw[aa.BY];have bc:=bA.out;have cg:((aa.et g q d).stop g (i:Int) false)=(aa.et g q d).bO (i:Int) (((aa.et g q d).a1 (i:Int)).stop aV false):=(by unfold aa.stop;rw[show((aa.et g q d).ax g).h.idx=aV by rw[aa.l2 D.out.2.2.1];exact aK.out]);rw[cg];unfold aa.b0 aa.bO at bc⊢;dsimp only at bc⊢;rw[List.set_set] at bc;exact bc
   ·have gr:(bZ !=0)=true:=(by simp[aS]);rw[if_pos aS] at t;have N:=C t;have e2:B.set n m=B:=(by unfold aN.set;rw[if_neg (by rw[bI];exact aS)]);rw[e2] at aB;have e3:s.b0 g {G with band:=R B}=s:=(by have:({G with band:=R B}:cc)=G:=(by cases G;simp only at P;subst P;rfl);rw[this];exact aa.By F);have fl:=C e3;go_enter func49,ntmps49;go_upto_region 1 with fail;rw[ac.out];go_wp2_with fail;refine A.mono ?_;rintro e aj ⟨rfl,rfl⟩;have bo:((g:Int)==0)=false:=(by simp;exact ay);go_wp2_with fail;go_region_held3 (λW'=>W'.cell? ⟨ap,5,U⟩=R (af (R ⟨bY,0,U⟩))∧W'.cell? ⟨w.heap.size,3,U⟩=R (I J n)∧W'.cell? ⟨w.heap.size,4,U⟩=R (I J m)) ((refine⟨?_,?_,?_⟩)<;>(with_reducible repeat(first|assumption|refine b7 ?_))) (first|(go_at_call 92;refine aB.mono ?_;rintro e X aC;rw[<-aQ.out] at aC;obtain⟨rfl,y⟩:=am.drew.oQ bq ad.1 aC;rw[fl.out] at y;have aZ:=y.rD (by rw[ad.out.2.2];exact bq) (by rw[ad.out.2.2];exact ad.1) O aQ;have ak:=aM X _ 3 _ y bL;have a6:=aM X _ 4 _ y bi;have bC:=C y));all_goals clear aZ a6 ak;go_wp2_with fail;go_ret2;rw[<-N.out];exact dk (ae _ _ _ bC)
end
variable {tmps:Array Value} {gp:Int->Nat} {fn:Func}
section
open Go.Shelf
attribute [local go_sem] Oper.semAt_some
def iw (ns:Nat) (h:ad) (g:Int):ad:=match h.at g with|none=>h|some x=>h.set g (R {x with q:=x.q.b3 ns})
theorem aD.KY (q:aD) (ns:Nat):(q.b3 ns).cur=q.cur:=by
 unfold aD.b3;split;·rfl
 ·split<;>rfl
def pU (h:ad) (g:Int):Option Int:=(h.at g).map (·.q.cur)
theorem KZ (ns:Nat) (h:ad) (g:Int):pU (iw ns h g)=pU h:=by
 funext k;unfold pU iw;cases a:h.at g with
 |none=>rfl
 |some x=>
  dsimp only;rw[ad.dq a];unfold cP;split;·rename_i e;rw[e,a];show R (x.q.b3 ns).cur=R x.q.cur;rw[aD.KY]
  ·rfl
theorem B0 {h h':ad} (e:pU h'=pU h):∀(k:Nat) (g:Int),h'.cF k g=h.cF k g
 |0,g=>rfl
 |k+1,g=>by
  have a:=congrFun e g;unfold pU at a;unfold ad.cF;cases ao:h.at g with
  |none=>
   rw[ao] at a;cases az:h'.at g with
   |none=>rfl
   |some y=>rw[az] at a;cases a
  |some x=>
   rw[ao] at a;cases az:h'.at g with
   |none=>rw[az] at a;cases a
   |some y=>rw[az] at a;have b:y.q.cur=x.q.cur:=Option.some.inj a;dsimp only;rw[b,B0 e k]
theorem B1 (ns:Nat) (g:Int) (l:List Int) (h:ad):ad.dU ns (g::l) h=ad.dU ns l (iw ns h g):=by
 conv=>lhs;unfold ad.dU
 unfold iw;cases h.at g<;>rfl
theorem B2 (ns:Nat):∀(k:Nat) (a:ad) (g:Int),kN (iw ns) k a g=(ad.dU ns (a.cF k g).1 a,(a.cF k g).2)
 |0,a,g=>rfl
 |k+1,a,g=>by
  unfold kN ad.cF;cases b:a.at g with
  |none=>rfl
  |some x=>
   dsimp only;split;·rw[B1];rfl
   ·rw[B2 ns k,B0 (KZ ns a g),B1]
theorem K0 {h:ad} (hk:h.Ok) (ns:Nat) (g:Int):(iw ns h g).Ok∧(iw ns h g).a7=h.a7:=by
 unfold iw;cases a:h.at g with
 |none=>exact⟨hk,rfl⟩
 |some x=>exact⟨hk.same a ((hk.g.q g x a).b3 ns) (aD.sl (hk.g.q g x a) ns),ad.jN a rfl rfl⟩
theorem b_.K1 {a d:Nat->Prop} {c:ab} {h:ad} (H:b_ b gp ai a d c h W) (i:∀k,a k->d k) (j:∀k,a k->k<c.heap.size) (l:c.heap.size+2<=W.heap.size) {g:Int} (f:h.at g=R G) (m:G.q.Ok) (ns:Nat) (n:ns<=1000000000):Calls au 160 #[af (R ⟨ai g,0,U⟩),I ah (ns:Int)] W λe w'=>(∃v,e=aK v)∧b_ b gp ai a d c (iw ns h g) w'∧Mod (λk=>a k∨c.heap.size+2<=k) W w':=by obtain⟨T,o,p,s⟩:=H.q i j l f;refine(IM T (ai g) G.q ns W o m n).mono λe w' r=>⟨⟨_,r.1⟩,?_,r.2.2.mono (λk _ t=>p k t)⟩;have:=(s w' _ r.2.1 r.2.2).1;unfold iw;rw[f];exact this
def oX (a c:Nat) (w:ab) (b ns:Nat) (W:ab):Prop:=W.cell? ⟨a,0,U⟩=R (af (R ⟨b,0,U⟩))∧W.cell? ⟨c,0,U⟩=R (.func (.func 79) #[] #[])∧W.cell? ⟨w.heap.size,0,U⟩=R (I ah (ns:Int))
theorem oX.mod {a c:Nat} {ns:Nat} (h:oX a c w b ns W) (d:Mod Z W W') (e:¬Z a) (f:¬Z c) (g:¬Z w.heap.size):oX a c w b ns W':=⟨d.cell h.1 (j0 h.1) e,d.cell h.2.1 (j0 h.2.1) f,d.cell h.2.2 (j0 h.2.2) g⟩
theorem K2 (S:Nat->Prop) (b:Nat) (h:ad) (ns:Nat) (w:ab) (H:cQ w S b h) (hk:h.Ok):Calls au 110 #[af (R ⟨b,0,U⟩),I ah (ns:Int)] w (dA S b (I J (h.e6 ns)) (h.b3 ns) w):=by
 have a8:=C H.trim;obtain⟨L,O⟩:∃L,w.alloc (av #[I ah (ns:Int)] 31)=L:=⟨_,rfl⟩;have t:Below w.heap.size w L:=O▸bz _ _;have X:ak L w.heap.size #[I ah (ns:Int)] 31:=O▸ak.new w _ _;have Y:=C O;have P:=C (oK (n:=9) (wF S b h L (H.next t) hk));obtain⟨r,u⟩:∃r,h.running=r:=⟨_,rfl⟩;rw[u] at P;have M:h.e6 ns≠0->h.b3 ns=h:=λe=>by unfold ad.b3;rw[z0 e]
 clear O;by_cases aa:r=-1
 ·have d:h.e6 ns=7:=by unfold ad.e6;rw[u,aj aa]
  rw[M (by rw[d];decide),d];clear d M u;refine callsIn_wide (n:=10).1 ?_;refine callsIn_of_wp_marks func110 rfl trivial ?_ rfl;simp only[ntmps110,jE,dY,hJ,jH,jG,jB,jA,jF,jC,iU,gQ];have aC:Fence.wide.fn 38:=trivial;have aF:Fence.wide.fn 78:=trivial;gi_wp2_with (gi_at_call 38;rw[Y.out];refine P.out.mono ?_;rintro e c ⟨rfl,f⟩;have E:=C f;clear f);have o:=t.trans (E.out.mono t.size);exact⟨_,results_tmp rfl _ _ _,rfl,(H.next o).mono (λ_ _ a=>.inl a),Mod.below o⟩
 by_cases ae:1000000000<ns
 ·have d:h.e6 ns=8:=by unfold ad.e6;rw[u,z0 aa,aj ae]
  rw[M (by rw[d];decide),d];have a_:(1000000000:Int)<(ns:Int):=by omega
  clear d M u;refine callsIn_wide (n:=10).1 ?_;refine callsIn_of_wp_marks func110 rfl trivial ?_ rfl;simp only[ntmps110,jE,dY,hJ,jH,jG,jB,jA,jF,jC,iU,gQ];have aC:Fence.wide.fn 38:=trivial;have aF:Fence.wide.fn 78:=trivial;gi_wp2_with (gi_at_call 38;rw[Y.out];refine P.out.mono ?_;rintro e c ⟨rfl,f⟩;have E:=C f;have ao:=(X.next f).cell 0 (v:=I ah (ns:Int)) rfl;clear f);have o:=t.trans (E.out.mono t.size);exact⟨_,results_tmp rfl _ _ _,rfl,(H.next o).mono (λ_ _ a=>.inl a),Mod.below o⟩
 ·have d:h.e6 ns=0:=by unfold ad.e6;rw[u,z0 aa,z0 ae]
  have N:h.b3 ns=(kN (iw ns) 10 h 0).1:=by unfold ad.b3;rw[aj d,B2]
  rw[d,N];have a_:¬(1000000000:Int)<(ns:Int):=by omega
  clear d N M u;refine callsIn_wide (n:=10).1 ?_;refine callsIn_of_wp_marks func110 rfl trivial ?_ rfl;simp only[ntmps110,jE,dY,hJ,jH,jG,jB,jA,jF,jC,iU,gQ];have aC:Fence.wide.fn 38:=trivial;have aF:Fence.wide.fn 78:=trivial;gi_wp2_with (gi_at_call 38;rw[Y.out];refine P.out.mono ?_;rintro e c ⟨rfl,f⟩;have E:=C f;have ao:=(X.next f).cell 0 (v:=I ah (ns:Int)) rfl;clear f);refine(tc 9 b _ _ c).mono ?_;rintro e j ⟨rfl,Q⟩;have am:j.heap.size=c.heap.size+2:=by rw[Q];simp
  have aq:Below c.heap.size c j:=by rw[Q];exact(bz _ _).alloc (by simp) _
  have T:w.heap.size<c.heap.size:=dm X.lt E.out.size;have aM:oX c.heap.size (c.heap.size+1) w b ns j:=by have d:=(ak.new c #[af (R ⟨b,0,U⟩)] 90);have N:=(ak.new (c.alloc (av #[af (R ⟨b,0,U⟩)] 90)) #[.func (.func 79) #[] #[]] 148);rw[show(c.alloc (av #[af (R ⟨b,0,U⟩)] 90)).heap.size=c.heap.size+1 by simp] at N;rw[Q];exact⟨(d.alloc _).cell 0 rfl,N.cell 0 rfl,fo _ (by simp;omega) (fo _ (by omega) ao)⟩
  have y:=C am;have ba:=C aM;have p:=C T;clear Q am aM T ao;gi_wp2;obtain⟨gp,ai,bb,ap⟩:=a8.out;have aw:=C ap;clear ap;have o:Below w.heap.size w j:=t.trans ((E.out.mono t.size).trans (aq.mono (by have:=p.out;omega)));refine wA rfl (by omega) (gf:=133) (lb:=#[af (R ⟨c.heap.size,0,U⟩),af (R ⟨c.heap.size+1,0,U⟩)]) rfl trivial (enters_of func133 (by kernel_rfl) rfl) (encs:=lx ai) (λ_=>rfl) (ko b gp ai (λk=>S k∧k<w.heap.size) (λk=>S k∧k<w.heap.size) j h.a7 (iw ns) (λ_ _ _=>True) (kN (iw ns) 10 h 0) (λ_=>oX c.heap.size (c.heap.size+1) w b ns)) (oJ b gp ai (λk=>S k∧k<w.heap.size) (λk=>S k∧k<w.heap.size) j h.a7 (iw ns) (λ_ _ _=>True) (kN (iw ns) 10 h 0) (λ_=>oX c.heap.size (c.heap.size+1) w b ns)) (λag=>hE ag=true) ?hI ?hI' ?h0 ?hiter (λx=>{tmps:=#[af (R ⟨b,0,U⟩),I ah (ns:Int),undef,af (R ⟨w.heap.size,0,U⟩),I J 0,af (R ⟨ai x.1,0,U⟩),aE false,af (R ⟨b,0,U⟩),aE false,aE false,af (R ⟨b,0,U⟩),I J r,aE false,aE (decide ((1000000000:Int)<(ns:Int))),I ah (ns:Int),aE (decide ((1000000000:Int)<(ns:Int))),af (R ⟨b,0,U⟩),.func (.func 133) #[] #[af (R ⟨c.heap.size,0,U⟩),af (R ⟨c.heap.size+1,0,U⟩)],af (R ⟨ai x.1,0,U⟩),I J x.2,undef,undef,undef],defers:=[]}) ?assign ?body ?done;case hI=>intro ag A bc F z;have s:=p.out;have D:=y.out;exact F.stay (λk a e=>by have:=a.2;omega) (λk a e=>by omega) (λk a e=>by omega) z (λm=>m.mod z (by omega) (by omega) (by omega))
  case hI'=>intro ag x A bc F z;have s:=p.out;have D:=y.out;exact F.stay (λk a e=>by have:=a.2;omega) (λk a e=>by omega) (λk a e=>by omega) z (λm=>m.mod z (by omega) (by omega) (by omega))
  case h0=>obtain⟨bf,bg,bd,be⟩:=hk.g.root;refine⟨ba.out,.inr ⟨rfl,h,10,bf,⟨⟨Mod.refl _ _,bb,?_⟩,hk,rfl,bg,by omega,rfl,trivial⟩⟩⟩;exact(aw.out.frame (Mod.below (S:=λ_=>False) o) (λ_ _=>id)).mono (λk _ a=>.inl a)
  case hiter=>intro l B an bK ax bL bk bl bn;have s:=p.out;have D:=y.out;exact wC 9 (by omega) b gp ai (λk=>S k∧k<w.heap.size) (λk=>S k∧k<w.heap.size) j h.a7 (iw ns) (λ_ _ _=>True) (kN (iw ns) 10 h 0) (λ_=>oX c.heap.size (c.heap.size+1) w b ns) l c.heap.size (c.heap.size+1) B an (λk a=>by have:=a.2;omega) (λag W m=>⟨m.1,m.2.1⟩) bk bl ax bn
  case assign=>intro l x W aN V;simp only[lx];gi_wp2;exact V
  case body=>
   rintro l bi ⟨g,x⟩ W ⟨m,aA,bp,s,k,G,K,aO⟩ aQ;clear aA bp;have bP:=m.2.2;have aY:Fence.wide.fn 160:=trivial;have T:=p.out;have D:=y.out;have aS:=C (oK (n:=7) (K.aP.K1 (λk a=>a) (λk a=>by have:=a.2;omega) aQ K.at_ (K.ok.g.q _ _ K.at_) ns (by omega)));have ac:=C K;have bq:=C m;have br:=C aO;clear m K aO T D;dsimp only at aS;gi_wp2;refine(CallsIn.inRound l aS.out).mono ?_;rintro e a0 ⟨⟨bR,rfl⟩,aU,ay⟩;have bw:=C aU;clear aU;gi_wp2;have s:=p.out;have D:=y.out;have bU:=aQ;refine⟨⟨ay.block _ (by omega) (λe=>by rcases e with e|e;have:=e.2;omega;omega),ay.block _ (by omega) (λe=>by rcases e with e|e;have:=e.2;omega;omega)⟩,bq.out.mod ay (λe=>by rcases e with e|e;have:=e.2;omega;omega) (λe=>by rcases e with e|e;have:=e.2;omega;omega) (λe=>by rcases e with e|e;have:=e.2;omega;omega),?_⟩;have aT:=K0 ac.out.ok ns g;have aV:=ac.out.step (W':=a0) rfl bw.out aT.1 (aT.2.trans ac.out.a7) (λ_ _ _=>trivial);rw[mP,pN];have a2:G.q.cur=x:=br.out;rw[a2] at aV;rcases aV with⟨aB,az,a3⟩|⟨aB,a4,a5,az⟩;·exact .inl ⟨aB,az,(g,x),by rw[nQ];rfl,a3⟩
   ·exact .inr ⟨aB,_,a4,a5,az⟩
  case done=>
   rintro ag W aK F V;have aZ:b_ b gp ai (λk=>S k∧k<w.heap.size) (λk=>S k∧k<w.heap.size) j (kN (iw ns) 10 h 0).1 W:=by
    rcases F.2 with⟨_,bC,D⟩|⟨s,_⟩;·exact bC
    ·rw[aK] at s;cases s
   have a6:=aZ.stay (Z:=λk=>k=j.heap.size) (W':=W.putObj j.heap.size (.deferred U)) (λk a e=>by have:=a.2;have:=p.out;have:=y.out;omega) (λk a e=>by omega) (λk a e=>by omega) ⟨rfl,rfl,rfl,by simp,λk hk aR=>p5 aR⟩;have a9:=C a6;have aD:=C V;clear aZ a6 V F;gi_wp2;refine⟨by simp,.inl ⟨_,_,rfl,run_takeDeferred aD.out,?_⟩⟩;refine⟨_,results_tmp rfl _ _ _,rfl,?_⟩;obtain⟨z,bG,bH⟩:=a9.out;have s:=p.out;have D:=y.out;exact⟨⟨gp,ai,bG,bH.mono (λk _ a=>by rcases a with a|a;exact .inl a.1;exact .inr (by omega))⟩,(Mod.below (S:=S) o).trans z (λi _ e=>e.1)⟩
end
section
variable {aq w:ab} {S:Nat->Prop} {L:bu} {s:aa} {k:Nat}
theorem aw.K3 (H:aw aq S L s w) (q:Part) (h0:q≠ .no):∃T,fZ w T L s q∧(∀(w':ab) (a:bu) (b:aa),Mod T w w'->fZ w' (c6 T w) a b q->(∀r,r≠q->∀(v:ab) (T:Nat->Prop),fZ v T L s r->fZ v T a b r)->aw aq S a b w')∧∀k,k<w.heap.size->T k->c6 S aq k:=by
 obtain⟨d,f,H⟩:=H;refine⟨λk=>f k=q,H.part q,λw' a b h l m=>⟨?_,fT w f q,?_⟩,λk n e=>H.own k n (λc=>h0 (e.symm.trans c))⟩
 ·refine d.trans h (λi j e=>?_);rcases H.own i (dm j d.size) (λc=>h0 (e.symm.trans c)) with g|g;·exact g
  ·exact absurd j (by omega)
 ·refine(H.nr q h l (λr o T=>m r o w' T)).mono (λk e=>?_);rcases e with e|e;·exact e
  ·exact .inr (cJ d.size e)
theorem aw.K4 (H:aw aq S L s w):∃T,fJ w T L.fc s.book∧(∀(w':ab) (a:fF),fJ w' (c6 T w) L.fc a->Mod T w w'->aw aq S L {s with book:=a} w')∧∀k,k<w.heap.size->T k->c6 S aq k:=by
 obtain⟨T,b,c,d⟩:=H.K3 .book (by simp);refine⟨T,b,λw' a e f=>c w' L _ f e ?_,d⟩;intro r g v T h;cases r with
 |book=>exact absurd rfl g
 |_=>exact h
theorem Own.K5 (w:ab) (n:Int) (T:TypeId):Own encI (w.alloc (av #[I J n] T)) w.heap.size T (aA (R ⟨w.heap.size,0,U⟩) 1 1) 1 [n]:=⟨rfl,.inr ⟨w.heap.size,1,#[I J n],rfl,bM _,lL w _,bM _,by unfold maxLen;omega,rfl,rfl⟩⟩
theorem Rd.K6 (h:Rd encI n₀ W a n zs):pi n₀ W (aA a n cap) zs:=by
 have c:=h.1;by_cases e:0<n;·obtain⟨b,f,rfl,g,i⟩:=h.cells e;refine .inr ⟨b,f,cap,by rw[c],g,λj d=>?_⟩;have:=i j _ (b6 d) 0 (I J zs[j]) rfl;unfold bj;rw[b6 d];simpa[encI] using this
 ·obtain rfl:n=0:=by omega
  exact .inl ⟨⟨a,cap,rfl⟩,nM.1 c⟩
theorem aa.K7 {a n:Int} (h:s.e8 a=false):s.tick a n=(s,0,1):=by unfold aa.tick;rw[if_pos h]
theorem aa.K8 {a n:Int} (h:s.e8 a=true) (b:n<0∨s.c.tick<n):s.tick a n=(s,0,8):=by unfold aa.tick;rw[z0 (by rw[h];decide),if_pos b]
theorem aa.K9 {a n:Int} (h:s.e8 a=true) (b:¬(n<0∨s.c.tick<n)) (d:s.running a=-1):s.tick a n=(s.dM a ((s.clock a).tick n.toNat),-1,0):=by unfold aa.tick;rw[z0 (by rw[h];decide),z0 b,if_pos d]
theorem w5 (K a b n m M:Int) (H:aw aq S L s w) (hk:s.Ok k) (aO:s.e8 a=false∨(s.e8 a=true∧(n<0∨s.c.tick<n))∨(s.e8 a=true∧¬(n<0∨s.c.tick<n)∧s.running a=-1)):Calls au 58 #[aY L.b,bm (cD K a b n m M)] w (iv aq S L (s.tick a n)):=by
 obtain⟨V,N⟩:=aX (w.alloc (av (cD K a b n m M) 33));obtain⟨ah,aQ,g,aS,O⟩:=H.enter _ N;have h:=C N;have t:=C aS;have u:=C g;have j:=C hk;have P:=bN (i:=1) O (v:=I J a) rfl;have Q:=bN (i:=3) O (v:=I J n) rfl;have x:=C (λ(W:ab) (r:aa) (o:Nat) (v:Value) (aU:aw V ah L r W) (aP:V.cell? ⟨w.heap.size,o,U⟩=R v)=>aU.kept aQ aP zK9);have f:=C (re a g);have A:=g.top.cell 1 AG;unfold aY at*;obtain⟨aT,B⟩:=aX L.b;have T:=C B;rw[B] at f A⊢;unfold cD at h⊢;rcases aO with d|⟨d,D⟩|⟨d,X,Y⟩;·rw[aa.K7 d];rw[d] at f;go_enter func58,ntmps58;go_upto_region 1 with fail;rw[h.out];go_wp2_with fail;refine f.mono ?_;rintro e E ⟨rfl,rfl⟩;go_wp2_with fail;go_ret2;exact dk (t _ _ _ u)
 ·rw[aa.K8 d D];rw[d] at f;generalize aV:s.c.tick=tk at A D;by_cases bp:n<0;·clear D;go_enter func58,ntmps58;go_upto_region 1 with fail;rw[h.out];go_wp2_with fail;refine f.mono ?_;rintro e E ⟨rfl,rfl⟩;go_wp2_with fail;go_quiet (fail);go_wp2_with fail;go_ret2;exact dk (t _ _ _ (u.next (below_drewN (Below.refl _ _) _)))
  ·have aZ:tk<n:=(by omega);go_enter func58,ntmps58;go_upto_region 1 with fail;rw[h.out];go_wp2_with fail;refine f.mono ?_;rintro e E ⟨rfl,rfl⟩;go_wp2_with fail;go_quiet (fail);go_wp2_with fail;go_ret2;exact dk (t _ _ _ (u.next (below_drewN (Below.refl _ _) _)))
 ·rw[aa.K9 d X Y];rw[d] at f;obtain⟨Z,ak⟩:=aa.mE.1 d;obtain⟨i,rfl⟩:=dW Z;have ao:i<s.c.aR:=by omega
  have aV:=hk.tick;have a6:=hk.ie;have F:=C (λ(a8:Nat)=>oM (i:Int) (g.next (below_drewN (Below.refl _ _) a8)) hk);unfold aY at F;rw[B,Y] at F;have G:=hk.px (p:=(i:Int)) Z ak;rw[cd] at G;have a_:=hk.iG _ _ G;obtain⟨ac,ba,ay,_,_⟩:=g.tn hk.lens ao;generalize bq:s.c.aR=ad at ay;have aB:=C ay;have ai:(i:Int)<(ad:Int):=by omega
  have br:(i:Int).toNat=i:=by omega
  have aE:IntKind.u64.wrap n=n:=by rw[nT];omega
  have ag:=C (show((n.toNat:Nat):Int)=n by omega);have bb:=C (show n.toNat<=1000000000 by omega);have l:=C (bx G (bx ao (show(s.clock (i:Int)).hC<=1000000000 by rw[a_];exact a6)));generalize a0:s.c.tick=tk at A X;have bw:¬n<0:=by omega
  have aZ:¬tk<n:=by omega
  go_enter func58,ntmps58;go_upto_region 1 with fail;rw[h.out];go_wp2_with fail;refine f.mono ?_;rintro e E ⟨rfl,rfl⟩;go_wp2_with fail;go_quiet (fail);go_wp2_with fail;refine(F nq).mono ?_;rintro e az ⟨rfl,bc⟩;have q:=(u.next (below_drewN (Below.refl _ _) nq)).next bc;have a2:=x az s 1 _ q P;have a3:=x az s 3 _ q Q;obtain⟨bf,bg⟩:=q.oR j.lens l.2.1 aB;have y:=C (Bh n.toNat 0 0 bb l.2.2 (by omega) (by omega) (q.drew.gM l.1));rw[ag.out] at y;rw[T.out] at bg;obtain⟨an,aC⟩:=aX (L.ck i);have aF:=C aC;rw[aC] at bf y;generalize a4:(s.clock (i:Int)).due n.toNat 0 0=a5 at y;have ax:=C q;have ae:=C (bx P Q);go_wp2_with fail;go_region_held3 (λW'=>W'.cell? ⟨aT,106,U⟩=R (aA (R ⟨ac,0,U⟩) ad ba)∧W'.cell? ⟨ac,i,U⟩=R (af (R ⟨an,0,U⟩))∧W'.cell? ⟨w.heap.size,1,U⟩=R (I J i)∧W'.cell? ⟨w.heap.size,3,U⟩=R (I J n)) ((refine⟨?_,?_,?_,?_⟩)<;>(with_reducible repeat(first|assumption|refine b7 ?_))) (first|(go_at_call 107;refine y.mono ?_;rintro e am aM;rw[<-aF.out] at aM;obtain⟨rfl,z⟩:=ax.drew.rn l.1 aM;have bk:=x am _ 1 _ z ae.1;have bl:=x am _ 3 _ z ae.2;obtain⟨aj,ap⟩:=z.oR (show eG (s.dM (i:Int) ((s.clock (i:Int)).tick n.toNat)) from⟨j.hlen,by unfold aa.dM;simp;exact j.je,j.eB,j.gH⟩) (p:=i) l.2.1 aB;rw[aF.out] at aj;rw[T.out] at ap;have bn:=C z));all_goals clear bk bl aj ap;go_wp2_with fail;go_ret2;exact dk (t _ _ _ bn)
end
section
variable {aq w W:ab} {S:Nat->Prop} {L:bu} {s:aa} {k:Nat}
theorem aw.w6 (H:aw aq S L s w) (b:Below w.heap.size w W):∃c:Nat->Prop,(∀k,c k->k<w.heap.size∧c6 S aq k)∧aw W c L s W∧∀(d:bu) (f:aa) (w':ab),aw W c d f w'->aw aq S d f w':=by
 obtain⟨h,tag,H⟩:=H;refine⟨λk=>tag k≠ .no∧k<w.heap.size,λk a=>⟨a.2,H.own k a.2 a.1⟩,?_,?_⟩
 ·refine hU.start (tag:=fT w tag .no) ⟨(H.next b).part,λk j e=>?_⟩;unfold fT at e;split at e;·rename_i a;exact⟨e,a⟩
  ·exact absurd rfl e
 ·rintro d f w' ⟨m,n,l⟩;refine⟨?_,n,l.part,λk j e=>?_⟩
  ·refine(h.ju b).trans m (λi o a=>?_);rcases H.own i a.2 a.1 with g|g;·exact g
   ·exact absurd o (by omega)
  ·rcases l.own k j e with a|a;·exact H.own k a.2 a.1
   ·exact .inr (cJ h.size (cJ b.size a))
theorem aw.iW {a:Nat->Prop} (H:aw W a L s W') (c:W.cell? ⟨b,o,U⟩=R v) (d:¬a b):W'.cell? ⟨b,o,U⟩=R v:=H.1.cell c (ig c) d
def numOf (o:Option Nat):Int:=match o with|none=>0|some n=>(n:Int)
theorem aa.K_ (s:aa) (g:Nat):s.numbers g=0::(s.cF g).map numOf:=rfl
def tF (s:aa) (i:Int) (n:Int) (q:Nat) (t:ex) (a:aa):c1:=if(a.clock i).due n.toNat t.w (a.load 0 i) then(((a.dM i ((a.clock i).tick n.toNat)).bO i ((a.dM i ((a.clock i).tick n.toNat)).a1 i).yield).begin i (-1),q,0) else(a.dM i ((a.clock i).tick n.toNat),q,0)
theorem aa.La {i:Int} {n:Int} {q:Nat} (h:s.e8 i=true) (a:¬(n<0∨s.c.tick<n)) (b:s.running i=q) (d:s.tasks[q]?=R t):s.tick i n=if s.book.gx (s.numbers t.g) q n≠0 then(s,0,s.book.gx (s.numbers t.g) q n) else tF s i n q t (aa.dU i n ((({s with book:=s.book.b4 (s.numbers t.g) q n}:aa).bO i ((s.a1 i).b3 n.toNat)).limited (s.cF t.g)) (({s with book:=s.book.b4 (s.numbers t.g) q n}:aa).bO i ((s.a1 i).b3 n.toNat))):=by unfold aa.tick tF;rw[z0 (by rw[h];decide),z0 a,z0 (by omega),b,cd,d];rfl
theorem eG.dM {s:aa} (h:eG s) (p:Int) (c:cI):eG (s.dM p c):=⟨h.1,by show(s.clocks.set p.toNat c).length=s.c.aR;rw[ef];exact h.2.1,h.2.2⟩
theorem aa.Lb {s:aa} {c:cI} (h:s.clocks[i]?=R c) (m:Int):s.begin (i:Int) m=s.dM (i:Int) (c.begin m):=by unfold aa.begin aa.clock;rw[cd,dD,h];rfl
theorem aa.Lc (p n:Int) (ls:List Nat) (r:aa) (h:ls[j]?=R g):aa.dU p n (ls.drop j) r=aa.dU p n (ls.drop (j+1)) (r.bW g λb=>b.b3 p n):=by obtain⟨a,c⟩:=bE.1 h;rw[o3 a,c];rfl
end
section
variable {aq w:ab} {S:Nat->Prop} {L:bu} {s:aa} {k:Nat}
theorem Ld (bF a b n m aL:Int) (H:aw aq S L s w) (hk:s.Ok k) (cl:k<=100000) {q:Nat} (rO:a=i) (bc:s.e8 a=true) (fU:¬(n<0∨s.c.tick<n)) (fV:s.running a=q) (bf:s.tasks[q]?=R t) (eq:t.on=true):Calls au 58 #[aY L.b,bm (cD bF a b n m aL)] w (iv aq S L (s.tick a n)):=by
 subst rO;have cu:=C (aa.La bc fU fV bf);obtain⟨V,bC⟩:=aX (w.alloc (av (cD bF (i:Int) b n m aL) 33));obtain⟨f9,LF,aU,gc,bg⟩:=H.enter _ bC;have dA:=C bC;have f_:=C (show Below w.heap.size w V from bC▸bz w _);have M:=C (show w.heap.size<V.heap.size by rw[<-bC];simp);have gq:=C aU;have cm:=C H;have aP:=C hk;have gr:=C cl;have gB:=bN (i:=1) bg (v:=I J (i:Int)) rfl;have gN:=bN (i:=3) bg (v:=I J n) rfl;have cy:=C (re (i:Int) aU);have hi:=aU.top.cell 1 AG;generalize hj:s.tick (i:Int) n=Z at cu⊢;unfold aY at*;obtain⟨Y,cE⟩:=aX L.b;have E:=C cE;rw[cE] at cy hi⊢;unfold cD at dA⊢;rw[bc] at cy;obtain⟨es,tG⟩:=aa.mE.1 bc;have b8:i<s.c.aR:=by omega
 have di:=hk.tick;have cq:=C (λ(r:Nat)=>oM (i:Int) (aU.next (below_drewN (Below.refl _ _) r)) hk);unfold aY at cq;rw[cE,fV] at cq;have hG:=C bf;have a9:=(bE.1 bf).1;have hH:=C a9;have cH:=hk.task q t bf;have tH:=C (cH.live (cH.kJ eq)).1;have cx:=C cH.w;have ct:=C (hk.jT bf);have an:=hk.eu (p:=(i:Int)) es tG;rw[cd] at an;have aT:=C (bx an (bx (hk.a1 i _ an).1 b8));obtain⟨aD,cap,c0,_,_⟩:=aU.iJ hk.lens b8;obtain⟨aV,ar,bS,_,_⟩:=aU.tn hk.lens b8;generalize bj:s.c.aR=ae at c0 bS;have bG:=C c0;have cO:=C bS;have ge:=C bj;have gf:(i:Int)<(ae:Int):=by omega
 have NP:=C (show i<ae by omega);have bH:(0:Int)<=(i:Int):=by omega
 have NQ:(i:Int).toNat=i:=by omega
 have dn:(0:Int)<=(q:Int):=by omega
 have dp:(q:Int).toNat=q:=by omega
 have dq:((q:Int)==-1)=false:=by simp
 have go:IntKind.u64.wrap n=n:=by rw[nT];omega
 have c2:=C (show((n.toNat:Nat):Int)=n by omega);have ex:=C (show n.toNat<=1000000000 by omega);have gp:=C hk.ie;obtain⟨wy,be⟩:=aX (s.cF t.g);have c3:=aa.K_ s t.g;rw[be] at c3;have cS:=C (bx be c3);have w7:∀o,o∈wy->∃g,o=R g∧g<s.groups.length∧g≠0:=λo aZ=>by rw[<-be] at aZ;obtain⟨j,NR,w8,a,b,c,ds⟩:=hk.vI aZ;refine⟨j,w8,(bE.1 a).1,?_⟩;rintro rfl;obtain⟨r,d,_,an,_⟩:=hk.root;rw[a] at d;cases d;exact c (by rw[an];rfl)
 have c4:wy.length<=10:=by rw[<-be];exact aa.tz _ _
 have cT:=C w7;obtain⟨bk,c5⟩:=aX wy.length;have N:=C c5;rw[c5] at c4;generalize gs:s.c.tick=tk at hi fU;have gt:¬n<0:=by omega
 have NS:¬tk<n:=by omega
 go_enter func58,ntmps58;go_upto_region 1 with fail;rw[dA.out];go_wp2_with fail;apply cy.mono;rintro e O ⟨rfl,rfl⟩;go_wp2_with fail;go_quiet (fail);go_wp2_with fail;apply(cq nq).mono;rintro e cU ⟨rfl,aI⟩;have bK:Below O.heap.size O cU:=(below_drewN (Below.refl _ _) nq).trans aI;have cR:=gq.next bK;obtain⟨gv,NT,dt,P,iq⟩:=cR.rC hH;obtain⟨eF,du,NU,NV,NW,c7,mM,NX,NY,NZ,N0,dC,N1,dG,cw⟩:=cR.ek hG rfl;have bL:=C (Bg t.g ct tH cR aP);unfold aY at bL;rw[E.out,cS.out.1] at bL;rw[E.out] at iq;obtain⟨ir,c9⟩:=aX (L.tk q);have iu:=C c9;rw[c9] at P c7;generalize N2:L.gk t.g=gb at c7 bL;generalize N3:s.tasks.length=w9 at iq;have N4:(q:Int)<(w9:Int):=by have:=hH.out;omega
 have bh:=(bK.cell (p:=⟨w.heap.size,1,U⟩) M).trans gB;have N5:=(bK.cell (p:=⟨w.heap.size,3,U⟩) M).trans gN;have bI:=C bK;have db:=C (bx gB gN);go_wp2_with fail;apply bL.mono;rintro e f ⟨N6,rfl,iL,iM⟩;obtain⟨N7,iN,w_,rfl,_,_,_,aN⟩:=iL.rd;have xa:=C iL;have bT:=C aN;have bi:=C (show Below O.heap.size O f from bI.trans (iM.mono bI.size));have bl:=C (show O.heap.size<=cU.heap.size from bI.size);have bP:=C (show cU.heap.size<=f.heap.size from iM.size);rw[N.out];go_upto_region 12 with fail;obtain⟨dg,dc⟩:=aX (f.alloc (av #[I J 0] 3));have xb:=C (show Own encI dg f.heap.size 3 (aA (R ⟨f.heap.size,0,U⟩) 1 1) 1 [0] from dc▸Own.K5 f 0 3);have cz:=C (show Below f.heap.size f dg from dc▸bz f _);rw[dc];go_wp2_with fail;go_loopw [9,11,71] (λv x u W=>∃j:Nat,j<=bk∧u=I J (j:Int)∧Own encI W f.heap.size 3 v (j+1) (0::(wy.take j).map numOf)∧Below f.heap.size f W) (λ_ _ u _=>bk-(intOf u).toNat);case atStart=>exact⟨0,by omega,rfl,xb,cz⟩
 case round=>
  obtain⟨j,bR,rfl,bn,am⟩:=hrel;have kE:=C bn;have bp:=C am;by_cases df:j<bk
  ·obtain⟨o,b_⟩:∃o,wy[j]?=R o:=⟨_,b6 (by rw[N.out];exact df)⟩;obtain⟨g,rfl,ao,bq⟩:=cT o (ea b_);have cC:(j:Int)<(bk:Int):=(by omega);have xc:(0:Int)<=(j:Int):=(by omega);have xd:(j:Int).toNat=j:=(by omega);have jk:=bT.out;rw[N.out] at jk;obtain⟨z,A,rfl,bU,Q⟩:=jk.pQ (by omega);have bY:=(am.cell (p:=⟨z,A+j,U⟩) bU).trans (Q j (R (L.gk g)) (by rw[dP,b_];rfl));have bt:Below O.heap.size O wr:=bi.trans (am.mono bi.size);obtain⟨B3,_⟩:=(gq.next bt).dB (aa.nG ao) rfl;simp only[c8,aY] at bY;generalize al:L.gk g=aH at bY B3;have cI:=C (show(0::(wy.take (j+1)).map numOf:List Int)=(0::(wy.take j).map numOf)++[(g:Int)] by rw[gE,b_,h4];rfl);have jl:=C (bn.alloc (av #[I J (g:Int)] 3));have jy:f.heap.size<=(wr.alloc (av #[I J (g:Int)] 3)).heap.size:=(by have:=am.size;simp;omega);have B4:j+1<=10000000:=(by omega);have B5:=C (show∀q u,(encI.e (g:Int))[q]?=R u->(wr.alloc (av #[I J (g:Int)] 3)).cell? ⟨wr.heap.size,q,U⟩=R u fromλq u ai=>dE.trans (by rw[<-ai];show([I J (g:Int)]:List Value).toArray[q]?=_;rw[ff];rfl));go_wp2_with ((at_builtin;refine jv A_ rfl _ _ rfl f.heap.size _ (j+1) _ rfl jl wr.heap.size _ (g:Int) rfl B5 B4 jy ?_;intro cN u B6 B7 B8;have B9:=C B6;have B_:=C (show Grow _ u _ cN from Grow.gK B7 B8);have Ca:=C (show Below f.heap.size f u from(bp.alloc bp.size _).trans (B_.below jy (λak x=>(jl.lt ak x).1)))));go_roundw;case rel=>exact⟨j+1,by omega,by go_num,by rw[cI.out];exact B9,Ca⟩
   case measure=>simp[intOf];omega
  ·obtain rfl:j=bk:=by omega
   have Cb:wy.take j=wy:=(by rw[ub];rw[N.out];exact bM _);rw[Cb,<-cS.out.2] at bn;have dj:Below O.heap.size O wr:=bi.trans (am.mono bi.size);have Cc:Below w.heap.size w wr:=f_.trans (dj.mono f_.size);obtain⟨dl,j3,dv,cK⟩:=cm.w6 Cc;have j4:=C j3;have bo:=C cK;have dI:=C dv;have aM:=C (λ(W:ab) (r:aa) (dw o:Nat) (v:Value) (d:aw wr dl L r W) (Cd:wr.cell? ⟨dw,o,U⟩=R v) (j5:w.heap.size<=dw)=>d.iW Cd (λq=>by have:=(j3 dw q).1;omega));have bY:=(dj.cell (p:=⟨w.heap.size,1,U⟩) M).trans db.1;have Ce:=(dj.cell (p:=⟨w.heap.size,3,U⟩) M).trans db.2;have a6:=C (bx bY Ce);have aN:=bT.out;rw[N.out] at aN;have Cf:=C (show∀(W:ab) (r:aa),aw wr dl L r W->Rd dr W.heap.size W iN wy.length (wy.map λo=>o.map L.gk) fromλW r d=>by refine⟨by rw[ep],λdx=>?_⟩;obtain⟨z,A,rfl,bU,Q⟩:=aN.pQ (by rw[<-N.out];exact dx);have N8:=(xa.lt z rfl).1;refine⟨z,A,rfl,by have:=d.size;have:=am.size;omega,λe h aj c u dy=>?_⟩;have Cg:c=0:=(by have:=(bE.1 dy).1;have F:(dr.e h).length=1:=dr.len _;omega);subst Cg;have Ch:u=c8 h:=(by have:(dr.e h)[0]?=R (c8 h):=rfl;rw[this] at dy;exact(Option.some.inj dy).symm);subst Ch;rw[show A+(e*dr.c+0)=A+e by show A+(e*1+0)=_;omega];exact aM W r z _ _ d ((am.cell (p:=⟨z,A+e,U⟩) bU).trans (Q e h aj)) (by have:=bl.out;have:=M.out;omega));obtain⟨bZ,a8,cM,kq,_,_,_,dz⟩:=bn.rd;obtain⟨T,br,Ci,cW⟩:=dv.drew.K4;have ao:=(λac dF (aE:a8=R ⟨ac,dF,U⟩)=>bn.lt ac (by rw[kq,aE];rfl));have b2:=C (Jy T L.fc s.book a8 cM (s.numbers t.g) (q:Int) n wr.drew br (by rw[bZ];omega) (by rw[bZ];exact(dz.K6)) (λac dF aE Cj=>by
    obtain⟨a_,bQ⟩:=ao ac dF aE;have:=bl.out;have:=M.out;have dL:=bP.out;rcases cW ac (by show ac<wr.heap.size;exact bQ) Cj with h|h;·have:=(j4 ac h).1;omega
    ·have:wr.heap.size<=ac:=h;omega))
   rw[bZ] at b2;have bV:=C (λw' (bc:fJ w' T L.fc (s.book.b4 (s.numbers t.g) (q:Int) n)) (bj:Mod T wr.drew w')=>Ci w' _ (fJ.mono bc (λk _ aE=>.inl aE)) bj);have dQ:=dv.top.cell 107 ((lv (L:=L) aP.eB aP.gH 2).trans (show[L.hv,L.cv,aY L.fc][2]?=R (aY L.fc) from rfl));unfold aY at dQ;rw[E.out] at dQ;obtain⟨Ck,bg⟩:=aX L.fc;have fd:=C bg;rw[bg] at dQ b2 bV;obtain⟨eE,kR⟩:=aX (s.book.gx (s.numbers t.g) (q:Int) n);have ce:=C kR;rw[kR] at b2;subst kq;go_wp2_with fail;go_region_held3 (λW'=>W'.cell? ⟨Y,107,U⟩=R (af (R ⟨Ck,0,U⟩))∧W'.cell? ⟨w.heap.size,3,U⟩=R (I J n)) ((refine⟨?_,?_⟩)<;>(with_reducible repeat(first|assumption|refine b7 ?_))) (first|(go_at_call 109;refine b2.mono ?_;rintro e bs ⟨rfl,Cl,Cm⟩;have K:=bV bs Cl Cm;have u7:=K.top.cell 107 ((lv (L:=L) (s:=({s with book:=s.book.b4 (s.numbers t.g) (q:Int) n}:aa)) aP.eB aP.gH 2).trans (show[L.hv,L.cv,aY L.fc][2]?=R (aY L.fc) from rfl));unfold aY at u7;rw[E.out,fd.out] at u7;have u3:=aM bs _ _ _ _ K a6.2 zK9;have dR:=C K));all_goals
    by_cases aj:eE=0;·obtain⟨ay,aB⟩:∃ay:aa,{s with book:=s.book.b4 (s.numbers t.g) (q:Int) n}=ay:=⟨_,rfl⟩;have b9:ay.Ok k:=(by rw[<-aB];exact aP.zb _);have dh:ay.hiers[i]?=R (s.a1 (i:Int)):=(by rw[<-aB];exact aT.1);have bu:ay.c=s.c:=(by rw[<-aB]);have K:=dR.out;rw[aB] at K;have Cn:ay.a1 (i:Int)=s.a1 (i:Int):=(by rw[<-aB];rfl);have dX:(ay.bO (i:Int) ((s.a1 (i:Int)).b3 n.toNat)).Ok k:=(by have ai:=b9.eu (p:=(i:Int)) bH (by rw[bu];have:=aT.2.2;omega);have ci:=b9.a1 _ _ ai;rw[Cn] at ai ci;exact b9.bO bH ai (ci.1.b3 _) (ad.yI _ _) (λj i=>(ci.1.y8 _ j _).1));obtain⟨y,ba⟩:∃y,ay.bO (i:Int) ((s.a1 (i:Int)).b3 n.toNat)=y:=⟨_,rfl⟩;rw[ba] at dX;have cP:y.c=s.c:=(by rw[<-ba];exact bu);have ee:y.groups=s.groups:=(by rw[<-ba,<-aB];rfl);have Co:y.tasks=s.tasks:=(by rw[<-ba,<-aB];rfl);have Le:=C dX;have en:=C (bx cP (bx ee Co));have fK:=cu.out;rw[ce.out,z0 (by simp[aj]),aB,ba,cS.out.1] at fK;have kS:=C fK;have bv:=C (K.drew.kP dh (λT br=>K2 T (L.hk i) (s.a1 (i:Int)) n.toNat bs.drew br aT.2.1));rw[ba,c2.out] at bv;obtain⟨eo,ew⟩:=K.fN b9.lens (p:=i) (by rw[bu];exact aT.2.2) bG;rw[E.out] at ew;obtain⟨j5,kT⟩:∃x,L.hk i=x:=⟨_,rfl⟩;have Lf:=C kT;rw[kT] at eo bv;obtain⟨N9,cQ⟩:∃x,(s.a1 (i:Int)).e6 n.toNat=x:=⟨_,rfl⟩;rw[cQ] at bv;have u1:=aM bs _ _ _ _ dR a6.1 zK9;have kU:=C (show∀g,g∈y.limited wy->g<y.groups.length∧g≠0 fromλg aZ=>by obtain⟨kV,a7,cb,co⟩:=cT _ (aa.sF aZ).1;cases a7;rw[ee];exact⟨cb,co⟩);have fn:=C (show∀g,R g∈wy->g<y.groups.length fromλg aZ=>by obtain⟨kV,a7,cb,co⟩:=cT _ aZ;cases a7;rw[ee];exact cb);have b1:(y.limited wy).length<=10:=cJ (aa.rz _ _) (by rw[N.out];exact c4);obtain⟨ag,kW⟩:∃x,y.limited wy=x:=⟨_,rfl⟩;rw[kW] at kS kU b1;have Lg:=C kW;have Lh:=C (show eG y from dX.lens);subst aj;go_wp2_with fail;go_region_held3 (λW'=>W'.cell? ⟨Y,105,U⟩=R (aA (R ⟨aD,0,U⟩) ae cap)∧W'.cell? ⟨aD,i,U⟩=R (af (R ⟨j5,0,U⟩))∧W'.cell? ⟨w.heap.size,1,U⟩=R (I J i)∧W'.cell? ⟨w.heap.size,3,U⟩=R (I J n)) ((refine⟨?_,?_,?_,?_⟩)<;>(with_reducible repeat(first|assumption|refine b7 ?_))) (first|(go_at_call 110;refine bv.mono ?_;rintro e ap ⟨rfl,cf⟩;obtain⟨Q,eH⟩:=cf.fN Lh (p:=i) (by rw[en.out.1];exact aT.2.2) bG;rw[Lf.out] at Q;rw[E.out] at eH;have cV:=aM ap _ _ _ _ cf a6.1 zK9;have g0:=aM ap _ _ _ _ cf a6.2 zK9;have aO:=C cf));all_goals
     have kX:=C (wN iN w_ wy aO (Cf ap _ aO) (by rw[N.out];omega) fn);rw[N.out,Lg.out] at kX;go_wp2_with fail;apply kX.mono;rintro e cg ⟨g1,rfl,kY,eI⟩;obtain⟨a0,aJ,fr,c1⟩:=aO.w6 eI;have kZ:=C c1;have az:=C (show¬a0 w.heap.size fromλh=>by
      rcases(aJ _ h).2 with h|h;·have:=(j4 _ h).1;omega
      ·have F:=bp.out.size;have k0:=bl.out;have k1:=bP.out;have dL:=M.out;omega)
     have aC:=C (bx ((eI.cell (p:=⟨w.heap.size,1,U⟩) (by show w.heap.size<ap.heap.size;have dx:=aO.out.size;have F:=bp.out.size;have k0:=bl.out;have k1:=bP.out;have dL:=M.out;omega)).trans (aM ap _ _ _ _ aO a6.1 zK9)) ((eI.cell (p:=⟨w.heap.size,3,U⟩) (by show w.heap.size<ap.heap.size;have dx:=aO.out.size;have F:=bp.out.size;have k0:=bl.out;have k1:=bP.out;have dL:=M.out;omega)).trans (aM ap _ _ _ _ aO a6.2 zK9)));obtain⟨bZ,bw,g2,rfl,_,_,_,Li⟩:=kY.rd;have fu:=C (show∀(j g:Nat),ag[j]?=R g->∀(W:ab) (r:aa),aw cg a0 L r W->∃z A,bw=R ⟨z,A,U⟩∧W.cell? ⟨z,A+j,U⟩=R (af (R ⟨L.gk g,0,U⟩)) fromλj g bR W r d=>by have g3:=(bE.1 bR).1;obtain⟨z,A,rfl,bU,Q⟩:=Li.pQ (by omega);have a_:=(kY.lt z rfl).1;exact⟨z,A,rfl,d.iW (Q j (R (L.gk g)) (by rw[dP,bR];rfl)) (λh=>by have:=(aJ _ h).1;omega)⟩);have Lj:=C fr;obtain⟨a2,a9⟩:=aX ag.length;have k2:=C a9;rw[a9] at b1⊢;go_wp2_with fail;go_loopw [14,110] (λv u W=>∃(j:Nat) (r:aa),j<=a2∧u=I J (j:Int)∧aa.dU (i:Int) n ag y=aa.dU (i:Int) n (ag.drop j) r∧cL k y r∧aw cg a0 L r W) (λ_ u _=>a2-(intOf u).toNat);case atStart=>exact⟨0,y,by omega,rfl,rfl,cL.refl Le,Lj⟩
     case round=>
      obtain⟨j,r,bR,rfl,Lk,l,d⟩:=hrel;have lB:=C Lk;have g4:=C l;have lC:=C d;have v1:=d.iW aC.1 az;have g5:=d.iW aC.2 az;by_cases df:j<a2;·obtain⟨g,eL⟩:∃g,ag[j]?=R g:=⟨_,b6 (by rw[k2.out];exact df)⟩;have cC:(j:Int)<(a2:Int):=(by omega);have xc:(0:Int)<=(j:Int):=(by omega);have xd:(j:Int).toNat=j:=(by omega);obtain⟨ao,bq⟩:=kU g (ea eL);have ch:r.groups[g]?=R (r.ax g):=aa.nG (by rw[l.dH.len];exact ao);obtain⟨⟨B,a3,g6⟩,_,_⟩:=l.ok.ax g _ ch bq;obtain⟨z,A,rfl,c6⟩:=fu j g eL wr r d;obtain⟨aH,al⟩:∃b,L.gk g=b:=⟨_,rfl⟩;have Ll:=C al;rw[al] at c6;obtain⟨cY,cs⟩:∃b,L.bd g=b:=⟨_,rfl⟩;have lD:=C cs;have c7:=d.rD ch a3 al cs;have eT:=C (Jl (i:Int) n (d.drew.band ch a3));rw[cs] at eT;obtain⟨g7,Lm⟩:∃x,(if B.e6 (i:Int) n=0 then(B.oP (i:Int) n).hx (i:Int) else false)=x:=⟨_,rfl⟩;obtain⟨g8,Ln⟩:∃x,B.e6 (i:Int) n=x:=⟨_,rfl⟩;rw[Lm,Ln] at eT;have Lo:=C (aa.Lc (i:Int) n ag r eL);obtain⟨P,cj⟩:∃P,r.bW g (λb=>b.b3 (i:Int) n)=P:=⟨_,rfl⟩;have b0:=aa.pS a3 (λb=>b.b3 (i:Int) n);rw[cj] at b0;have lE:cL k y P:=l.trans (by rw[<-cj];exact⟨l.ok.bW g _ (λb=>b.zf _ _),cG.bW _ _ _⟩);have a_:=aa.rA a3 (λb=>b.b3 (i:Int) n);rw[cj] at a_;have Lp:P.groups[g]?=R (P.ax g):=aa.nG (by rw[lE.dH.len];exact ao);have Lq:(P.ax g).band=R (B.b3 (i:Int) n):=(by rw[a_]);have l7:=C (bx ch a3);have a4:=C (bx cj (bx b0 (bx lE (bx Lp Lq))));go_wp2_with fail;go_region_held3 (λW'=>W'.cell? ⟨aH,5,U⟩=R (af (R ⟨cY,0,U⟩))∧W'.cell? ⟨w.heap.size,1,U⟩=R (I J i)∧W'.cell? ⟨w.heap.size,3,U⟩=R (I J n)) ((refine⟨?_,?_,?_⟩)<;>(with_reducible repeat(first|assumption|refine b7 ?_))) (first|(go_at_call 111;refine eT.mono ?_;rintro e g9 l8;rw[<-lD.out] at l8;obtain⟨rfl,a5⟩:=lC.drew.oQ l7.1 l7.2 l8;rw[<-a4.out.2.1] at a5;have l9:=a5.iW aC.1 az;have l_:=a5.iW aC.2 az;have eU:=a5.rD a4.2.2.2.1 a4.2.2.2.2 Ll lD;have Lr:=C a5));all_goals
       go_wp2_with fail;go_roundw;case rel=>exact⟨j+1,P,by omega,by go_num,by rw[lB.out,Lo.out,a4.out.1],a4.2.2.1,Lr⟩
       case measure=>simp[intOf];omega
      ·obtain rfl:j=a2:=by omega
       have ma:=lB.out;rw[List.drop_of_length_le (by rw[k2.out];exact bM _)] at ma;have Ls:=C (show Z=tF s (i:Int) n q t r by rw[kS.out,ma];rfl);have eY:i<r.c.aR:=(by rw[l.dH.c,en.out.1];exact aT.2.2);have aK:=l.ok.px (p:=(i:Int)) bH (by omega);rw[cd] at aK;have mb:(r.clock (i:Int)).hC<=1000000000:=(by rw[l.ok.iG _ _ aK];exact l.ok.ie);have bA:r.tasks[q]?=R t:=(by rw[l.dH.tasks,en.out.2.2];exact hG);obtain⟨eo,ew⟩:=d.oR l.ok.lens eY cO;obtain⟨N_,a7,cb,co,dN,dO,Oa,he,Ob,Oc,Od,Oe,dZ,dS,cw⟩:=d.ek bA iu;obtain⟨ak,mc,me,a_,bQ,mf⟩:=d.BP l.ok;have cn:=C (tl 0 mf (i:Int) d.drew l.ok gr);have Lt:=l.ok.wQ 0 (i:Int);obtain⟨e2,e3⟩:=aX (r.load 0 (i:Int));have Lu:=C e3;unfold aY at cn;rw[E.out,e3] at cn;rw[e3] at Lt;have Lv:=C (show e2<18446744073709551616 by have:=gr.out;have:=o5 262144 this;omega);rw[E.out] at ew bQ;obtain⟨fl,b5⟩:=aX (L.ck i);have bb:=C b5;rw[b5] at eo;obtain⟨mg,bq⟩:=aX (L.gk 0);have Lw:=C bq;rw[bq] at a_ cn;generalize ao:r.groups.length=l4 at bQ mf;have hm:(0:Int)<(l4:Int):=(by omega);have X:=C (bx aK (bx eY (bx mb (bx bA l.ok))));obtain⟨D,cp⟩:=aX (r.clock (i:Int));have d_:=C cp;have c_:=C (show r.clocks[i]?=R D by rw[<-cp];exact aK);have bJ:=C (λ(W:ab) (aF:aw cg a0 L r W)=>Bh (T:=D) n.toNat t.w e2 ex (by rw[<-cp];exact mb) cx.2 Lv (by rw[<-cp];exact aF.gM aK));rw[c2.out,bb.out] at bJ;obtain⟨d0,d1⟩:=aX (D.due n.toNat t.w e2);have da:=C d1;rw[d1] at bJ;have bD:=C (show∀(W:ab) (aQ:aa),aw cg a0 L aQ W->aQ.tasks=r.tasks->aQ.groups=r.groups->eG aQ->aQ.c=r.c->W.cell? ⟨Y,106,U⟩=R (aA (R ⟨aV,0,U⟩) ae ar)∧W.cell? ⟨aV,i,U⟩=R (af (R ⟨fl,0,U⟩))∧W.cell? ⟨w.heap.size,1,U⟩=R (I J i)∧W.cell? ⟨w.heap.size,3,U⟩=R (I J n)∧W.cell? ⟨ir,7,U⟩=R (I ah t.w)∧W.cell? ⟨Y,8,U⟩=R (aA (R ⟨ak,0,U⟩) l4 mc)∧W.cell? ⟨ak,0,U⟩=R (af (R ⟨mg,0,U⟩)) fromλW aQ aF Lx Ly jd dd=>by obtain⟨d2,d3⟩:=aF.oR jd (p:=i) (by rw[dd];exact eY) cO;obtain⟨_,_,_,_,_,_,_,jU,_⟩:=aF.ek (by rw[Lx];exact bA) iu;have bw:=aF.top.cell 8 oE;obtain⟨dT,de⟩:=aF.fk .eX;obtain⟨Lz,LA,LB,_⟩:=l.ok.root;have F:=rf (L:=L) (s:=aQ) (i:=0) (G:=Lz) (by rw[Ly];exact LA);rw[LB] at F;obtain⟨kV,Of,fy,a8,_,_,_⟩:=dJ.cell de F;rw[me] at fy;simp only[Value.slice.injEq,Option.some.injEq,Addr.mk.injEq] at fy;obtain⟨⟨rfl,_⟩,_,_⟩:=fy;rw[me,ao] at bw;rw[bb.out] at d2;rw[E.out] at d3 bw;simp only[if_true,c8,aY] at a8;rw[Lw.out] at a8;exact⟨d3,d2,aF.iW aC.1 az,aF.iW aC.2 az,jU,bw,a8⟩);go_wp2_with fail;go_region_held3 (λW'=>W'.cell? ⟨Y,106,U⟩=R (aA (R ⟨aV,0,U⟩) ae ar)∧W'.cell? ⟨aV,i,U⟩=R (af (R ⟨fl,0,U⟩))∧W'.cell? ⟨w.heap.size,1,U⟩=R (I J i)∧W'.cell? ⟨w.heap.size,3,U⟩=R (I J n)∧W'.cell? ⟨ir,7,U⟩=R (I ah t.w)∧W'.cell? ⟨Y,8,U⟩=R (aA (R ⟨ak,0,U⟩) l4 mc)∧W'.cell? ⟨ak,0,U⟩=R (af (R ⟨mg,0,U⟩))) ((refine⟨?_,?_,?_,?_,?_,?_,?_⟩)<;>(with_reducible repeat(first|assumption|refine b7 ?_))) (first|(go_at_call 31;refine cn.mono ?_;rintro e d4 ⟨rfl,LC⟩;have d5:=lC.drew.next LC;obtain⟨l9,LD,l_,d6,eU,d7,d8⟩:=bD d4 r d5 rfl rfl X.2.2.2.2.lens rfl;have d9:=C d5)|(go_at_call 107;refine(bJ d4 d9).mono ?_;rintro e cc ca;rw[<-bb.out] at ca;obtain⟨rfl,pV⟩:=d9.rn c_ ca;have pW:eG (r.dM (i:Int) (D.tick n.toNat)):=X.2.2.2.2.lens.dM _ _;obtain⟨fz,fA,rG,hp,Og,Oh,Oi⟩:=bD cc _ pV rfl rfl pW rfl;have bB:=C pV;have rH:=C pW));all_goals
        have hj:Z=if d0 then(((r.dM (i:Int) (D.tick n.toNat)).bO (i:Int) (r.a1 (i:Int)).yield).begin (i:Int) (-1),(q:Int),0) else(r.dM (i:Int) (D.tick n.toNat),(q:Int),0):=(by rw[Ls.out];unfold tF;rw[d_.out,Lu.out,da.out];rfl);have fB:=C hj;cases d0;·go_wp2_with fail;go_ret2;rw[fB.out,z0 (by decide)];exact dk (bo _ _ _ (kZ _ _ _ bB))
        ·obtain⟨aS,cB⟩:∃x,r.a1 (i:Int)=x:=⟨_,rfl⟩;have rI:r.hiers[i]?=R aS∧aS.Ok:=(by have F:=X.2.2.2.2.eu (p:=(i:Int)) bH (by have:=X.2.1;omega);rw[cd,cB] at F;exact⟨F,(X.2.2.2.2.a1 i _ F).1⟩);obtain⟨Q,eH⟩:=bB.fN rH (p:=i) X.2.1 bG;have cV:=bB.iW aC.1 az;have rJ:=C (bB.drew.kP (i:=i) rI.1 (λT br=>BJ T (L.hk i) aS cc.drew br rI.2));have Oj:=C cB;have rK:eG ((r.dM (i:Int) (D.tick n.toNat)).bO (i:Int) aS.yield):=rH.bO _ _;have rL:=C rK;have f0:((r.dM (i:Int) (D.tick n.toNat)).bO (i:Int) aS.yield).clocks[i]?=R (D.tick n.toNat):=(by have F:=(bE.1 X.1).1;unfold aa.dM aa.bO;simp only[cd,cZ F]);have fC:=C f0;have f1:eG (((r.dM (i:Int) (D.tick n.toNat)).bO (i:Int) aS.yield).dM (i:Int) ((D.tick n.toNat).begin (-1))):=rK.dM _ _;have f2:=C f1;rw[cB] at fB;rw[E.out] at eH;obtain⟨aI,rM⟩:∃x,L.hk i=x:=⟨_,rfl⟩;have f3:=C rM;rw[rM] at Q rJ;go_wp2_with fail;go_region_held3 (λW'=>W'.cell? ⟨Y,105,U⟩=R (aA (R ⟨aD,0,U⟩) ae cap)∧W'.cell? ⟨aD,i,U⟩=R (af (R ⟨aI,0,U⟩))∧W'.cell? ⟨w.heap.size,1,U⟩=R (I J i)) ((refine⟨?_,?_,?_⟩)<;>(with_reducible repeat(first|assumption|refine b7 ?_))) (first|(go_at_call 106;refine rJ.mono ?_;rintro e f4 ⟨rfl,bX⟩;obtain⟨l9,LD,l_,d6,eU,d7,d8⟩:=bD f4 _ bX rfl rfl rL rfl;have el:=C (wg (-1) (bX.drew.gM fC));rw[bb.out] at el;have f5:=C bX;obtain⟨bh,em⟩:=bX.fN rL (p:=i) X.2.1 bG;rw[f3.out] at bh;rw[E.out] at em));all_goals clear d6 eU d7 d8 bh em;go_wp2_with fail;go_region_held3 (λW'=>W'.cell? ⟨Y,106,U⟩=R (aA (R ⟨aV,0,U⟩) ae ar)∧W'.cell? ⟨aV,i,U⟩=R (af (R ⟨fl,0,U⟩))∧W'.cell? ⟨w.heap.size,1,U⟩=R (I J i)) ((refine⟨?_,?_,?_⟩)<;>(with_reducible repeat(first|assumption|refine b7 ?_))) (first|(go_at_call 112;refine el.mono ?_;rintro e hu rN;rw[<-bb.out] at rN;obtain⟨rfl,fO⟩:=f5.drew.rn fC rN;obtain⟨fA,fz⟩:=fO.oR f2 (p:=i) X.2.1 cO;rw[bb.out] at fA;rw[E.out] at fz;have rG:=fO.iW aC.1 az;have f6:=C fO));all_goals clear fz fA rG;go_wp2_with fail;go_ret2;have cr:Z=(((r.dM (i:Int) (D.tick n.toNat)).bO (i:Int) aS.yield).dM (i:Int) ((D.tick n.toNat).begin (-1)),(q:Int),0):=(by rw[fB.out,if_pos trivial];rw[aa.Lb fC.out]);rw[cr];exact dk (bo _ _ _ (kZ _ _ _ f6))
    ·have hw:(eE !=0)=true:=(by simp[aj]);have cr:=cu.out;rw[ce.out,if_pos aj] at cr;have f7:=C cr;have b5:s.book.b4 (s.numbers t.g) (q:Int) n=s.book:=(by unfold fF.b4;rw[z0 (by rw[ce.out];exact aj)]);have K:=dR.out;rw[b5] at K;have f8:=C K;go_wp2_with fail;go_ret2;rw[f7.out];exact dk (bo _ _ _ f8)
end
section
variable {aq w w' W:ab} {S:Nat->Prop} {L:bu} {s:aa} {k:Nat}
theorem aw.pY (H:aw aq S L s w) (c:Below w.heap.size w W):∃d:Nat->Prop,(∀k,d k->k<w.heap.size∧c6 S aq k)∧aw W d L s W∧∀(f:bu) (h:aa) (w':ab),aw W (λk=>d k∨w.heap.size<=k) f h w'->aw aq S f h w':=by
 obtain⟨b,tag,H⟩:=H;refine⟨λk=>tag k≠ .no∧k<w.heap.size,λk a=>⟨a.2,H.own k a.2 a.1⟩,?_,?_⟩
 ·refine hU.start (tag:=fT w tag .no) ⟨(H.next c).part,λk j e=>?_⟩;unfold fT at e;split at e;·rename_i a;exact⟨e,a⟩
  ·exact absurd rfl e
 ·rintro f h w' ⟨n,o,l⟩;refine⟨?_,o,l.part,λk j e=>?_⟩
  ·refine(b.ju c).trans n (λi m a=>?_);rcases a with a|a
   ·rcases H.own i a.2 a.1 with g|g;·exact g
    ·exact absurd m (by omega)
   ·have:=b.size;exact absurd m (by omega)
  ·rcases l.own k j e with(a|a)|a;·exact H.own k a.2 a.1
   ·exact .inr (cJ b.size a)
   ·exact .inr (cJ b.size (cJ c.size a))
theorem aw.na {S':Nat->Prop} (H:aw aq S L s w) (h:∀k,S k->S' k):aw aq S' L s w:=by obtain⟨b,c,H⟩:=H;exact⟨b.mono (λk _ a=>h k a),c,H.mono (λk a=>a.elim (λa=>.inl (h k a)) .inr)⟩
theorem aw.out (H:aw aq S L s w) (d:Mod (λk=>k=b) w w') (m:¬S b) (o:b<aq.heap.size):aw aq (λk=>S k∨k=b) L s w':=by
 obtain⟨h,c,H⟩:=H;have n:c b= .no:=by
  by_cases e:c b= .no;·exact e
  ·have:=h.size;rcases H.own b (by omega) e with a|a;·exact absurd a m
   ·omega
 refine⟨(h.mono (λk _ a=>.inl a)).trans d (λi _ a=>.inr a),fT w c .no,λa=>?_,λk j e=>?_⟩
 ·by_cases l:a= .no;·subst l;trivial
  ·refine(H.part a).frame d (λk e f=>l (by rw[<-e,f,n])) (λk j e=>by unfold fT;rw[aj j];exact e)
 ·unfold fT at e;split at e
  ·rename_i a;rcases H.own k a e with g|g;·exact .inl (.inl g)
   ·exact .inr g
  ·exact absurd rfl e
theorem nI (w:ab) (b i j:Nat) (v u:Value):Mod (λk=>k=b) w ((w.setCell ⟨b,i,U⟩ v).setCell ⟨b,j,U⟩ u):=(Mod.one _ _ _ _).setCell (show b=b from rfl) _
theorem aw.MF (H:aw aq S L s w) (d:Mod (λk=>k=b) w w') (r:¬S b) (x:b<aq.heap.size):∃h:Nat->Prop,(∀k,h k->k<w'.heap.size∧k≠b)∧aw w' h L s w'∧∀(j:bu) (l:aa) (m:ab),aw w' h j l m->aw aq (λk=>S k∨k=b) j l m:=by
 obtain⟨n,tag,H⟩:=H;have y:=n.size;have z:=d.size;have o:tag b= .no:=by
  by_cases e:tag b= .no;·exact e
  ·rcases H.own b (by omega) e with a|a;·exact absurd a r
   ·omega
 refine⟨λk=>tag k≠ .no∧k<w.heap.size,λk a=>⟨by have:=a.2;omega,λe=>a.1 (by rw[e];exact o)⟩,hU.start (tag:=fT w tag .no) ⟨λa=>?_,λk c e=>?_⟩,?_⟩
 ·by_cases p:a= .no;·subst p;trivial
  ·refine(H.part a).frame d (λk e f=>p (by rw[<-e,f,o])) (λk c e=>by unfold fT;rw[aj c];exact e)
 ·unfold fT at e;split at e;·rename_i a;exact⟨e,a⟩
  ·exact absurd rfl e
 ·rintro j l m ⟨t,u,q⟩;refine⟨((n.mono (λk _ a=>.inl a)).trans d (λi _ a=>.inr a)).trans t (λi v a=>?_),u,q.part,λk c e=>?_⟩
  ·rcases H.own i a.2 a.1 with g|g;·exact .inl g
   ·exact absurd v (by omega)
  ·rcases q.own k c e with a|a
   ·rcases H.own k a.2 a.1 with g|g;·exact .inl (.inl g)
    ·exact .inr g
   ·exact .inr (by omega)
end
end Go.Proofs.YtddbkdjcjoofpaaGreatDoor
