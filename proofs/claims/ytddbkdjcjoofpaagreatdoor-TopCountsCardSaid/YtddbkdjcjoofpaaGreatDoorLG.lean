import Derived.Test.YtddbkdjcjoofpaaGreatDoorLA
import Derived.Test.YtddbkdjcjoofpaaGreatDoorLC
import Derived.Test.YtddbkdjcjoofpaaGreatDoorLD
import Derived.Test.YtddbkdjcjoofpaaGreatDoorLE
import Derived.Test.YtddbkdjcjoofpaaGreatDoorLF
namespace Go.Proofs.YtddbkdjcjoofpaaGreatDoor
set_option linter.unusedVariables false
set_option linter.unusedSimpArgs false
set_option maxRecDepth 100000
set_option maxHeartbeats 20000000
open _root_.Go.Proofs.Tryz Go.RowKit
open Go renaming World→ab
open _root_.Go.Proofs.Tryz renaming prog→au
open Option renaming none→U,some→R
open _root_.Go.Value renaming int→I,pointer→af,slice→ay,bool→aD,agg→bk,tuple→bC
open _root_.Go.IntKind renaming i64→J,u64→ah,wrap_u64→ni
open _root_.Go.Obj renaming cells→av
open _root_.Go.Ending renaming returned→aK
open _root_.Nat renaming le_refl→bK,le_trans→cA,lt_of_lt_of_le→dd,mul_le_mul_right→n3,zero_le→gN,lt_of_le_of_lt→n9,mul_le_mul→qx,reduceSub→jM,reduceAdd→jN
open _root_.Array renaming getElem?_eq_some_iff→iZ,replicate_zero→jF,replicate_succ→jG
open _root_.Go.World renaming cell?_of_block→lq,cell?_setCell_other→i_,putObj_heap_other→qq
open _root_.Go renaming World→ab
open _root_.List renaming getElem?_eq_getElem→b5,getElem?_map→dD,length_eq_zero_iff→nY,drop_eq_getElem_cons→px,getElem?_eq_some_iff→bD,length_cons→dX,length_append→eX,getElem?_append_right→gJ,getElem?_append_left→ja,take_of_length_le→uZ,mem_map→eY,cons_append→gM,mem_iff_getElem?→lp,getD_eq_getElem?_getD→dy,getElem?_toArray→fg,mem_of_getElem?→ea,length_map→dY,map_append→iI,append_assoc→h_,nodup_cons→jL,mem_cons_self→e5,mem_cons_of_mem→hK,getElem?_set_self→cV,getElem?_set_ne→dN,range→gi,foldl_cons→nk,mem_range→pB,getElem?_eq_none→gh,length_set→eg,getElem?_zipIdx→n5,take_add_one→gL,getElem?_range→sg,range_succ→oa,length_nil→hM,nil_append→jc,append_toArray→jH,size_toArray→jJ,push_toArray→jK,take_length→hL,length_take→iG,ext_getElem?→qu,append_nil→qw,getLast?_concat→n4,length_singleton→n2,foldl_append→si,length_reverse→vd
open _root_.Bool renaming eq_iff_iff→hN,and_eq_true→jb,false_eq_true→jI,not_eq_true'→sj
open _root_.And renaming intro→br
open _root_.Int renaming toNat_natCast→bZ,le_refl→jw,eq_ofNat_of_zero_le→dS
open _root_.Option renaming isSome_iff_exists→gK,map_eq_some_iff→h9,map_some→iH,toList_some→lY
variable {b n g i j c B m:Nat} {S:Nat->Prop} {w w':ab} {v:Value} {a:Option Addr} {k x:Key} {l:List Int} {e:aI} {r:T}
def jo (w:ab) (m:Nat) (f:Int->Int):Prop:=∃g n,ej w m g n∧∀k,(g k).getD (I J 0)=I J (f k)
structure fD (w:ab) (S:Nat->Prop) (b:Nat) (B:fS):Prop where e:∃mt oQ,ak w b #[.map (R mt),.map (R oQ),I J B.total] 118∧jo w mt B.tasks∧jo w oQ B.groups∧S b∧S mt∧S oQ∧b≠mt∧b≠oQ∧mt≠oQ
section
variable {w w':ab} {m b:Nat} {f:Int->Int} {S:Nat->Prop} {B:fS}
theorem jo.mod {T:Nat->Prop} (h:jo w m f) (a:Mod T w w') (b:¬T m):jo w' m f:=by obtain⟨g,n,h,e⟩:=h;exact⟨g,n,h.mod a b,e⟩
theorem jo.lt (h:jo w m f):m<w.heap.size:=by obtain⟨g,n,h,_⟩:=h;exact h.lt
theorem jo.look (h:jo w m f) (k:Int):(Instr.lookup 116 (.map (R m)) (I J k) false).run au w= .ok (I J (f k)) w:=by obtain⟨g,n,h,e⟩:=h;rw[h.look underlying116 underlying3 (z:=.int .i64 0) (by kernel_rfl) k,e]
theorem jo.put (h:jo w m f) (k v:Int):∃a,(Instr.mapUpdate 116 (.map (R m)) (I J k) (I J v)).run au w= .ok () (ef w m a)∧jo (ef w m a) m (λi=>if i=k then v else f i):=by
 obtain⟨g,n,h,e⟩:=h;obtain⟨a,c,d⟩:=h.put underlying116 underlying3 k (.int .i64 v);refine⟨a,c,_,_,d,λi=>?_⟩;show(nG g k (I J v) i).getD (I J 0)=I J (if i=k then v else f i);unfold nG;by_cases b:i=k;·rw[aj b,aj b];rfl
 ·rw[z0 b,z0 b,e]
theorem fD.mod {T:Nat->Prop} (H:fD w S b B) (a:Mod T w w') (d:∀k,S k->¬T k):fD w' S b B:=by obtain⟨i,j,c,l,m,f,g,h,r⟩:=H.e;exact⟨i,j,c.mod a (d _ f),l.mod a (d _ g),m.mod a (d _ h),f,g,h,r⟩
theorem fD.next (H:fD w S b B) (a:Below w.heap.size w w'):fD w' S b B:=H.mod (Mod.below (S:=λ_=>False) a) (λ_ _=>id)
theorem fD.mono {T:Nat->Prop} (H:fD w S b B) (h:∀k,k<w.heap.size->S k->T k):fD w T b B:=by obtain⟨f,g,c,a,d,i,j,l,r⟩:=H.e;exact⟨f,g,c,a,d,h _ c.lt i,h _ a.lt j,h _ d.lt l,r⟩
theorem ID (n:Int) (H:fD w S b B):Calls au 22 #[af (R ⟨b,0,U⟩),I J n] w λe w'=>e=aK (I J (B.tasks n))∧w'=w:=by obtain⟨f,l,c,a,g,h,i,j,r⟩:=H.e;have m:=c.cell 0 (v:=.map (R f)) rfl;have k:=a.look n;obtain⟨x,d⟩:∃x,B.tasks n=x:=⟨_,rfl⟩;rw[d] at k⊢;clear H a g h i j r c d;go_enter func22,ntmps22;go_wp2;go_ret;exact⟨rfl,rfl⟩
theorem IE (n:Int) (H:fD w S b B):Calls au 23 #[af (R ⟨b,0,U⟩),I J n] w λe w'=>e=aK (I J (B.groups n))∧w'=w:=by obtain⟨l,f,c,g,a,h,i,j,r⟩:=H.e;have m:=c.cell 1 (v:=.map (R f)) rfl;have k:=a.look n;obtain⟨x,d⟩:∃x,B.groups n=x:=⟨_,rfl⟩;rw[d] at k⊢;clear H g a h i j r c d;go_enter func23,ntmps23;go_wp2;go_ret;exact⟨rfl,rfl⟩
end
theorem IF (S:Nat->Prop) (w:ab):Calls au 41 #[] w λe w'=>∃b,e=aK (af (R ⟨b,0,U⟩))∧fD w' (cS S w) b fS.new∧Below w.heap.size w w':=by
 have j:=@run_makeMap au;go_enter func41,ntmps41;go_wp2;go_ret;have d:Below w.heap.size w (((w.alloc (.map #[] 0)).alloc (.map #[] 0)).alloc (av #[.map (R w.heap.size),.map (R (w.heap.size+1)),I J 0] 118)):=((bx w _).alloc (by simp) _).alloc (by simp;omega) _;have f:=(ej.new w).next (bx (w.alloc (.map #[] 0)) (.map #[] 0));have g:=f.next (bx ((w.alloc (.map #[] 0)).alloc (.map #[] 0)) (av #[.map (R w.heap.size),.map (R (w.heap.size+1)),I J 0] 118));have a:=(ej.new (w.alloc (.map #[] 0))).next (bx ((w.alloc (.map #[] 0)).alloc (.map #[] 0)) (av #[.map (R w.heap.size),.map (R (w.heap.size+1)),I J 0] 118));have h:(w.alloc (.map #[] 0)).heap.size=w.heap.size+1:=by simp
 have i:((w.alloc (.map #[] 0)).alloc (.map #[] 0)).heap.size=w.heap.size+1+1:=by simp
 rw[h] at a;have c:=ak.new ((w.alloc (.map #[] 0)).alloc (.map #[] 0)) #[.map (R w.heap.size),.map (R (w.heap.size+1)),I J 0] 118;rw[i] at c;refine⟨w.heap.size+1+1,by simp,⟨w.heap.size,w.heap.size+1,c,⟨_,_,g,λk=>rfl⟩,⟨_,_,a,λk=>rfl⟩,.inr (by omega),.inr (bK _),.inr (by omega),by omega,by omega,by omega⟩,d⟩
variable {p cap o:Nat} {Z:Nat->Prop} {u:Value} {t:ex} {G:aJ} {f:Int->Option aJ} {ag:List (Int×Int)} {s:bp (aF×Int)} {L:List ByteArray}
structure bu where
 b:Nat
 eE:Nat
 kC:Nat
 fc:Nat
 tk:Nat->Nat
 gk:Nat->Nat
 bd:Nat->Nat
 ln:Nat->Nat
 hk:Nat->Nat
 ck:Nat->Nat
 tv:Value
 gv:Value
 hv:Value
 cv:Value
inductive Part
 |no|top|fx|e1|fU|gr|tree|pool|book
 |task (n:Nat)|aw (n:Nat)|band (n:Nat)|line (n:Nat)|aY (p:Nat)|gT (p:Nat) deriving DecidableEq
def aX (b:Nat):Value:=af (R ⟨b,0,U⟩)
def cU:Option Nat->Value
 |none=>af U
 |some b=>aX b
def dp:cd (Option Nat):=⟨1,λo=>[cU o],λ_=>rfl,λo u h=>by simp at h;subst h;cases o<;>rfl,by decide⟩
def hl (L:bu) (s:aa):List (Option Nat):=(gi s.tasks.length).map λn=>R (L.tk n)
def fV (L:bu) (s:aa):List (Option Nat):=s.groups.zipIdx.map λx=>if x.1.there then R (L.gk x.2) else U
def hX (L:bu) (s:aa):List (Option Nat):=(gi s.hiers.length).map λn=>R (L.hk n)
def hY (L:bu) (s:aa):List (Option Nat):=(gi s.clocks.length).map λn=>R (L.ck n)
def cR (L:bu) (s:aa):Array Value:=([I J s.c.aO,I J s.c.tick,I J s.c.bG,I J s.c.ch,I ah s.c.hC,aX L.eE,aX L.kC,L.tv,L.gv]++s.places.map (λo=>cU (o.map L.gk))++s.at_.map (I J)++[L.hv,L.cv,aX L.fc]).toArray
def k3 (L:bu) (t:ex):Array Value:=#[I J t.h.idx,I J t.h.gen,aD t.dead,aD t.on,I J t.p,aX (L.gk t.g),I J t.nice,I ah t.w,I ah t.mask,I J t.e.id,I ah t.e.wt,I J t.e.v,I ah t.e.rem,I J t.mn]
def hn (L:bu) (n:Nat) (G:cb):Array Value:=#[I J n,I J G.h.idx,I J G.h.gen,I ah G.shares,I J G.quota,cU (G.band.map λ_=>L.bd n),cU (G.line.map λ_=>L.ln n)]
def dM (w:ab) (T:Nat->Prop) (E:TypeId) (v:Value) (l:List (Option Nat)):Prop:=Own dp w 0 E v l.length l∧∀g,v.ownBlock=R g->T g
def fW (w:ab) (T:Nat->Prop) (L:bu) (s:aa):Part->Prop
 | .no=>True
 | .top=>ak w L.b (cR L s) 72∧T L.b
 | .fx=>dM w T 73 L.tv (hl L s)
 | .e1=>dM w T 65 L.gv (fV L s)
 | .fU=>dM w T 90 L.hv (hX L s)
 | .gr=>dM w T 109 L.cv (hY L s)
 | .tree=>cT w T L.eE s.tree
 | .pool=>gS w T L.kC 64 s.pool
 | .book=>fD w T L.fc s.book
 | .task n=>∀t,s.tasks[n]?=R t->ak w (L.tk n) (k3 L t) 81∧T (L.tk n)
 | .aw n=>∀G,s.groups[n]?=R G->ak w (L.gk n) (hn L n G) 85∧T (L.gk n)
 | .band n=>∀G B,s.groups[n]?=R G->G.band=R B->ct w (L.bd n) B∧T (L.bd n)
 | .line n=>∀G l,s.groups[n]?=R G->G.line=R l->gQ w (L.ln n) l∧T (L.ln n)
 | .aY p=>∀h,s.hiers[p]?=R h->cO w T (L.hk p) h
 | .gT p=>∀c,s.clocks[p]?=R c->dr w (L.ck p) c∧T (L.ck p)
section
variable {w w':ab} {T tl Z S:Nat->Prop} {L:bu} {s:aa} {E:TypeId} {v:Value} {l:List (Option Nat)}
theorem gQ.mod {ag:List Int} (h:gQ w b ag) (d:Mod Z w w') (g:¬Z b):gQ w' b ag:=by obtain⟨r,f,n,h,e⟩:=h;have c:=d.block b h.lt g;have k:=d.size;have:=h.lt;exact⟨r,f,n,⟨by omega,h.f64,h.n64,λj i=>(lq (a:=⟨b,j,U⟩) c).trans (h.ring j i),(lq (a:=⟨b,64,U⟩) c).trans h.from_,(lq (a:=⟨b,65,U⟩) c).trans h.mR,λj=>(World.frozen?_of_block (a:=⟨b,j,U⟩) c).trans (h.free j)⟩,e⟩
theorem dM.frame (h:dM w T E v l) (d:Mod Z w w') (f:∀k,T k->¬Z k) (i:∀k,k<w.heap.size->T k->tl k):dM w' tl E v l:=by
 obtain⟨a,b⟩:=h;refine⟨?_,λg e=>i g (a.lt g e).2 (b g e)⟩;refine⟨a.1,?_⟩;rcases a.2 with j|⟨g,cap,m,rfl,n,c,o⟩;·exact .inl j
 ·exact .inr ⟨g,cap,m,rfl,n,(d.block g (iZ.1 c).1 (f g (b g rfl))).trans c,o⟩
theorem fW.frame {q:Part} (h:fW w T L s q) (a:Mod Z w w') (b:∀k,T k->¬Z k) (c:∀k,k<w.heap.size->T k->tl k):fW w' tl L s q:=by
 cases q with
 |no=>trivial
 |top=>exact⟨h.1.mod a (b _ h.2),c _ h.1.lt h.2⟩
 |fx=>exact dM.frame h a b c
 |e1=>exact dM.frame h a b c
 |fU=>exact dM.frame h a b c
 |gr=>exact dM.frame h a b c
 |tree=>exact cT.mono (cT.frame (cT.mono h (T:=λk=>T k∧k<w.heap.size) (λk d q=>⟨q,d⟩)) a (λk q=>b k q.1)) (λk _ q=>c k q.2 q.1)
 |pool=>exact gS.mono (gS.frame (gS.mono h (T:=λk=>T k∧k<w.heap.size) (λk d q=>⟨q,d⟩)) a (λk q=>b k q.1)) (λk _ q=>c k q.2 q.1)
 |book=>exact fD.mono (fD.mod (fD.mono h (T:=λk=>T k∧k<w.heap.size) (λk d q=>⟨q,d⟩)) a (λk q=>b k q.1)) (λk _ q=>c k q.2 q.1)
 |task n=>exactλt e=>⟨(h t e).1.mod a (b _ (h t e).2),c _ (h t e).1.lt (h t e).2⟩
 |aw n=>exactλt e=>⟨(h t e).1.mod a (b _ (h t e).2),c _ (h t e).1.lt (h t e).2⟩
 |band n=>exactλG B e f=>⟨(h G B e f).1.mod a (b _ (h G B e f).2),c _ (h G B e f).1.cs.lt (h G B e f).2⟩
 |line n=>exactλG B e f=>⟨(h G B e f).1.mod a (b _ (h G B e f).2),c _ (h G B e f).1.lt (h G B e f).2⟩
 |aY p=>exactλx e=>cO.mono (cO.frame (cO.mono (h x e) (T:=λk=>T k∧k<w.heap.size) (λk d q=>⟨q,d⟩)) a (λk q=>b k q.1)) (λk _ q=>c k q.2 q.1)
 |gT p=>exactλt e=>⟨(h t e).1.mod a (b _ (h t e).2),c _ (h t e).1.cs.lt (h t e).2⟩
end
structure hZ (w:ab) (S:Nat->Prop) (L:bu) (s:aa) (tag:Nat->Part):Prop where
 part:∀q,fW w (λk=>tag k=q) L s q
 own:∀k,k<w.heap.size->tag k≠ .no->S k
def fQ (w:ab) (tag:Nat->Part) (q:Part) (k:Nat):Part:=if k<w.heap.size then tag k else q
section
variable {w w':ab} {S:Nat->Prop} {L:bu} {s:aa} {tag:Nat->Part}
theorem hZ.others (H:hZ w S L s tag) {q:Part} (a:Mod (λk=>tag k=q) w w') {r:Part} (b:r≠q):fW w' (λk=>fQ w tag q k=r) L s r:=(H.part r).frame a (λk e f=>b (e.symm.trans f)) (λk c e=>by unfold fQ;rw[aj c];exact e)
theorem hZ.next (H:hZ w S L s tag) (c:Below w.heap.size w w'):hZ w' S L s (fQ w tag .no):=⟨λa=>(H.part a).frame (Mod.below (S:=λ_=>False) c) (λ_ _=>id) (λk b e=>by unfold fQ;rw[aj b];exact e),λk b e=>by
 unfold fQ at e;split at e;·rename_i a;exact H.own k a e
 ·exact absurd rfl e⟩
theorem hZ.nz (H:hZ w S L s tag) (q:Part) {a:bu} {b:aa} (d:Mod (λk=>tag k=q) w w') (f:fW w' (cS (λk=>tag k=q) w) a b q) (g:∀r,r≠q->∀T,fW w' T L s r->fW w' T a b r):hZ w' (cS S w) a b (fQ w tag q):=by
 have h:∀k,k<w'.heap.size->cS (λk=>tag k=q) w k->fQ w tag q k=q:=λk _ e=>by
  unfold fQ;split
  ·rename_i i;rcases e with e|e;·exact e
   ·omega
  ·rfl
 refine⟨λr=>?_,λk i e=>?_⟩
 ·by_cases c:r=q;·subst c;exact f.frame (Mod.refl (λ_=>False) w') (λ_ _=>id) h
  ·exact g r c _ (H.others d c)
 ·unfold fQ at e;split at e;·rename_i q;exact .inl (H.own k q e)
  ·exact .inr (by omega)
end
def ax (ao:ab) (S:Nat->Prop) (L:bu) (s:aa) (w:ab):Prop:=Mod S ao w∧∃tag,hZ w (cS S ao) L s tag
section
variable {ao w w':ab} {S:Nat->Prop} {L:bu} {s:aa} {tag:Nat->Part}
theorem hZ.mono {T:Nat->Prop} (H:hZ w S L s tag) (h:∀k,S k->T k):hZ w T L s tag:=⟨H.part,λk a e=>h k (H.own k a e)⟩
theorem hZ.start (H:hZ w S L s tag):ax w S L s w:=⟨Mod.refl _ _,tag,H.mono (λk q=>.inl q)⟩
theorem ax.next (H:ax ao S L s w) (a:Below w.heap.size w w'):ax ao S L s w':=by obtain⟨b,tag,H⟩:=H;exact⟨b.hV a,_,H.next a⟩
theorem ax.drew (H:ax ao S L s w):ax ao S L s w.drew:=H.next (Below.refl _ _).drew
theorem ax.part (H:ax ao S L s w) (q:Part) (h0:q≠ .no):∃T,fW w T L s q∧∀(w':ab) (a:bu) (b:aa),Mod T w w'->fW w' (cS T w) a b q->(∀r,r≠q->∀(v:ab) (T:Nat->Prop),fW v T L s r->fW v T a b r)->ax ao S a b w':=by
 obtain⟨d,tag,H⟩:=H;refine⟨λk=>tag k=q,H.part q,λw' a b f j l=>⟨?_,fQ w tag q,?_⟩⟩
 ·refine d.trans f (λi h e=>?_);rcases H.own i (dd h d.size) (λc=>h0 (e.symm.trans c)) with g|g;·exact g
  ·exact absurd h (by omega)
 ·refine(H.nz q f j (λr m T=>l r m w' T)).mono (λk e=>?_);rcases e with e|e;·exact e
  ·exact .inr (cA d.size e)
theorem ax.fy (H:ax ao S L s w) (q:Part):∃T,fW w T L s q:=by obtain⟨a,tag,H⟩:=H;exact⟨_,H.part q⟩
theorem ax.top (H:ax ao S L s w):ak w L.b (cR L s) 72:=by obtain⟨T,h⟩:=H.fy .top;exact h.1
theorem ax.task (H:ax ao S L s w) {n:Nat} {t:ex} (e:s.tasks[n]?=R t):ak w (L.tk n) (k3 L t) 81:=by obtain⟨T,h⟩:=H.fy (.task n);exact(h t e).1
theorem ax.aw (H:ax ao S L s w) {n:Nat} {G:cb} (e:s.groups[n]?=R G):ak w (L.gk n) (hn L n G) 85:=by obtain⟨T,h⟩:=H.fy (.aw n);exact(h G e).1
theorem ax.tree (H:ax ao S L s w):∃T,cT w T L.eE s.tree:=H.fy .tree
theorem ax.book (H:ax ao S L s w):∃T,fD w T L.fc s.book:=H.fy .book
theorem ax.aY (H:ax ao S L s w) {p:Nat} {h:ad} (e:s.hiers[p]?=R h):∃T,cO w T (L.hk p) h:=by obtain⟨T,x⟩:=H.fy (.aY p);exact⟨T,x h e⟩
theorem ax.gT (H:ax ao S L s w) {p:Nat} {c:cD} (e:s.clocks[p]?=R c):dr w (L.ck p) c:=by obtain⟨T,x⟩:=H.fy (.gT p);exact(x c e).1
theorem ax.band (H:ax ao S L s w) {n:Nat} {G:cb} {B:aM} (e:s.groups[n]?=R G) (f:G.band=R B):ct w (L.bd n) B:=by obtain⟨T,x⟩:=H.fy (.band n);exact(x G B e f).1
theorem ax.line (H:ax ao S L s w) {n:Nat} {G:cb} {l:List Int} (e:s.groups[n]?=R G) (f:G.line=R l):gQ w (L.ln n) l:=by obtain⟨T,x⟩:=H.fy (.line n);exact(x G l e f).1
end
section
variable {L:bu} {s:aa}
theorem oS:(cR L s)[0]?=R (I J s.c.aO):=rfl
theorem Bq:(cR L s)[1]?=R (I J s.c.tick):=rfl
theorem I6:(cR L s)[3]?=R (I J s.c.ch):=rfl
theorem j2:(cR L s)[5]?=R (aX L.eE):=rfl
theorem Br:(cR L s)[6]?=R (aX L.kC):=rfl
theorem p4:(cR L s)[7]?=R L.tv:=rfl
theorem p5:(cR L s)[8]?=R L.gv:=rfl
theorem p6 (a:s.places.length=32) {o:Option Nat} (e:s.places[i]?=R o):(cR L s)[9+i]?=R (cU (o.map L.gk)):=by have b:=(bD.1 e).1;unfold cR;rw[fg,h_,h_,gJ (by simp),ja (by simp;omega)];simp[e]
theorem tm (a:s.places.length=32) {x:Int} (e:s.at_[i]?=R x):(cR L s)[41+i]?=R (I J x):=by have b:=(bD.1 e).1;unfold cR;rw[fg,h_,h_,gJ (by simp;omega),gJ (by simp;omega),ja (by simp;omega)];simp only[dY,a,dX,hM,dD];rw[show 41+i-(0+1+1+1+1+1+1+1+1+1)-32=i by omega,e];rfl
theorem lR (a:s.places.length=32) (b:s.at_.length=64) (i:Nat):(cR L s)[105+i]?=[L.hv,L.cv,aX L.fc][i]?:=by unfold cR;rw[fg,gJ (by simp[a,b])];congr 1;simp[a,b]
end
section
variable {ao w:ab} {S:Nat->Prop} {L:bu} {s:aa} {k:Nat}
theorem JK (l:List (Option Nat)):dp.all l=l.map cU:=by
 induction l with
 |nil=>rfl
 |cons a l b=>
  have:dp.all (a::l)=dp.e a++dp.all l:=by simp[cd.all]
  rw[this,b];rfl
theorem dM.cell {T:Nat->Prop} {E:TypeId} {l:List (Option Nat)} (h:dM w T E v l) {o:Option Nat} (e:l[i]?=R o):∃g cap,v=ay (R ⟨g,0,U⟩) l.length cap∧w.cell? ⟨g,i,U⟩=R (cU o)∧w.frozen? ⟨g,i,U⟩=false∧l.length<=cap∧cap<=maxLen:=by
 have m:=(bD.1 e).1;rcases h.1.2 with⟨_,n⟩|⟨g,cap,c,rfl,p,a,d,f,q,j⟩;·omega
 ·refine⟨g,cap,rfl,?_,by simp[World.frozen?,a],d,f⟩;have b:(c.toList.take (l.length*1))[i]?=(dp.all l)[i]?:=by rw[<-j];rfl
  have k:(dp.all l)[i]?=R (cU o):=by rw[JK,dD,e];rfl
  rw[k,List.getElem?_take_of_lt (by omega),Array.getElem?_toList] at b;simp[World.cell?,a,jI,if_false];exact b
theorem dM.form {T:Nat->Prop} {E:TypeId} {l:List (Option Nat)} (h:dM w T E v l):∃a cap,v=ay a l.length cap:=by
 rcases h.1.2 with⟨rfl,b⟩|⟨g,cap,c,rfl,_⟩;·exact⟨U,0,by rw[b]⟩
 ·exact⟨_,_,rfl⟩
theorem rL (p:Int) (H:ax ao S L s w):Calls au 37 #[aX L.b,I J p] w λe w'=>e=aK (aD (s.e0 p))∧w'=w:=by
 have c:=H.top.cell 0 oS;unfold aX aa.e0;obtain⟨b,a⟩:=aW L.b;obtain⟨n,d⟩:=aW s.c.aO;rw[a,d] at c;rw[a,d];clear H a d;by_cases f:0<=p
 ·by_cases g:p<(n:Int);·have e:(decide (0<=p)&&decide (p<(n:Int)))=true:=(by simp[f,g]);rw[e];clear e;go_enter func37,ntmps37;go_wp2;go_ret;exact⟨rfl,rfl⟩
  ·have e:(decide (0<=p)&&decide (p<(n:Int)))=false:=(by simp[g]);rw[e];clear e;go_enter func37,ntmps37;go_wp2;go_ret;exact⟨rfl,rfl⟩
 ·have e:(decide (0<=p)&&decide (p<(n:Int)))=false:=by simp[f]
  rw[e];clear e;go_enter func37,ntmps37;go_wp2;go_ret;exact⟨rfl,rfl⟩
theorem BJ (H:ax ao S L s w):Calls au 9 #[aX L.b] w λe w'=>e=aK (I J s.tasks.length)∧w'=w:=by have c:=H.top.cell 7 p4;obtain⟨T,g⟩:=H.fy .fx;obtain⟨a,cap,h⟩:=dM.form g;rw[h,show(hl L s).length=s.tasks.length by simp[hl]] at c;unfold aX;obtain⟨b,d⟩:∃b,L.b=b:=⟨_,rfl⟩;obtain⟨n,f⟩:∃n,s.tasks.length=n:=⟨_,rfl⟩;rw[d,f] at c;rw[d,f];clear H d f g h;go_enter func9,ntmps9;go_wp2;go_ret;exact⟨rfl,rfl⟩
end
variable {y A:ab}
def kF (L:bu) (s:aa) (n:Int):Value:=match s.group n with|none=>af U|some _=>aX (L.gk n.toNat)
def jD (L:bu) (s:aa) (n:Int):Value:=match s.task n with|none=>af U|some _=>aX (L.tk n.toNat)
section
variable {ao w:ab} {S:Nat->Prop} {L:bu} {s:aa} {k:Nat}
theorem rM {G:cb} (e:s.groups[i]?=R G):(fV L s)[i]?=R (if G.there then R (L.gk i) else U):=by unfold fV;rw[dD,n5,e];simp
theorem tw (e:i<s.tasks.length):(hl L s)[i]?=R (R (L.tk i)):=by unfold hl;rw[dD,sg e];rfl
theorem BK (e:i<s.hiers.length):(hX L s)[i]?=R (R (L.hk i)):=by unfold hX;rw[dD,sg e];rfl
theorem JL (e:i<s.clocks.length):(hY L s)[i]?=R (R (L.ck i)):=by unfold hY;rw[dD,sg e];rfl
theorem tx:(fV L s).length=s.groups.length:=by simp[fV]
theorem oZ:(hl L s).length=s.tasks.length:=by simp[hl]
theorem rN:(hX L s).length=s.hiers.length:=by simp[hX]
theorem tz:(hY L s).length=s.clocks.length:=by simp[hY]
theorem k5 (n:Int) (H:ax ao S L s w):Calls au 24 #[aX L.b,I J n] w λe w'=>e=aK (kF L s n)∧w'=w:=by
 have c:=H.top.cell 8 p5;obtain⟨T,o⟩:=H.fy .e1;obtain⟨a,cap,p⟩:=dM.form o;rw[p,tx] at c;by_cases f:n<0
 ·have e:kF L s n=af U:=by unfold kF aa.group;rw[aj f]
  rw[e];unfold aX;generalize d:L.b=b;go_enter func24,ntmps24;go_wp2;go_ret;exact⟨rfl,rfl⟩
 ·obtain⟨i,rfl⟩:=dS (show 0<=n by omega);by_cases h:i<s.groups.length;·obtain⟨G,q⟩:∃G,s.groups[i]?=R G:=⟨_,b5 h⟩;obtain⟨g,x,j,k,y,z,A⟩:=dM.cell o (rM q);rw[p] at j;have e:kF L s (i:Int)=cU (if G.there then R (L.gk i) else U):=(by unfold kF aa.group;rw[z0 f,bZ,q];dsimp only;cases G.there<;>rfl);rw[e];simp only[Value.slice.injEq] at j;obtain⟨t,B,C⟩:=j;subst t;obtain⟨m,l⟩:∃m,s.groups.length=m:=⟨_,rfl⟩;rw[l] at c h;obtain⟨r,u⟩:∃r:Option Nat,(if G.there then R (L.gk i) else U)=r:=⟨_,rfl⟩;rw[u] at k⊢;have v:(i:Int)<(m:Int):=(by omega);have D:(0:Int)<=(i:Int):=(by omega);have E:(i:Int).toNat=i:=(by omega);unfold aX at*;obtain⟨b,d⟩:∃b,L.b=b:=⟨_,rfl⟩;rw[d] at c⊢;cases r with
   |none=>unfold cU at k⊢;go_enter func24,ntmps24;go_wp2;go_ret;exact⟨rfl,rfl⟩
   |some r=>unfold cU aX at k;unfold cU aX;go_enter func24,ntmps24;go_wp2;go_ret;exact⟨rfl,rfl⟩
  ·have e:kF L s (i:Int)=af U:=(by unfold kF aa.group;rw[z0 f,bZ,gh (by omega)]);rw[e];unfold aX;obtain⟨b,d⟩:∃b,L.b=b:=⟨_,rfl⟩;obtain⟨m,l⟩:∃m,s.groups.length=m:=⟨_,rfl⟩;rw[l] at c h;rw[d] at c⊢;have v:¬(i:Int)<(m:Int):=(by omega);go_enter func24,ntmps24;go_wp2;go_ret;exact⟨rfl,rfl⟩
end
section
variable {ao w:ab} {S:Nat->Prop} {L:bu} {s:aa} {k:Nat}
theorem tA (n:Int) (H:ax ao S L s w):Calls au 21 #[aX L.b,I J n] w λe w'=>e=aK (jD L s n)∧w'=w:=by
 have c:=H.top.cell 7 p4;obtain⟨T,o⟩:=H.fy .fx;obtain⟨a,cap,p⟩:=dM.form o;rw[p,oZ] at c;by_cases h:n<0
 ·have e:jD L s n=af U:=by unfold jD aa.task;rw[aj h]
  rw[e];unfold aX;generalize d:L.b=b;go_enter func21,ntmps21;go_wp2;go_ret;exact⟨rfl,rfl⟩
 ·obtain⟨i,rfl⟩:=dS (show 0<=n by omega);by_cases f:i<s.tasks.length;·obtain⟨t,q⟩:∃t,s.tasks[i]?=R t:=⟨_,b5 f⟩;obtain⟨g,C,j,r,D,E,F⟩:=dM.cell o (tw f);have u:=(H.task q).cell 2 (v:=aD t.dead) rfl;rw[p] at j;have e:jD L s (i:Int)=if t.dead then af U else aX (L.tk i):=(by unfold jD aa.task;rw[z0 h,bZ,q];dsimp only;cases t.dead<;>rfl);rw[e];simp only[Value.slice.injEq] at j;obtain⟨y,G,K⟩:=j;subst y;obtain⟨m,k⟩:∃m,s.tasks.length=m:=⟨_,rfl⟩;rw[k] at c f;have z:(i:Int)<(m:Int):=(by omega);have M:(0:Int)<=(i:Int):=(by omega);have N:(i:Int).toNat=i:=(by omega);unfold cU aX at r;unfold aX;obtain⟨b,d⟩:∃b,L.b=b:=⟨_,rfl⟩;obtain⟨O,A⟩:∃x,L.tk i=x:=⟨_,rfl⟩;rw[d] at c⊢;rw[A] at r u⊢;obtain⟨l,B⟩:∃l,t.dead=l:=⟨_,rfl⟩;rw[B] at u⊢;cases l with
   |true=>rw[aj rfl];go_enter func21,ntmps21;go_wp2;go_ret;exact⟨rfl,rfl⟩
   |false=>rw[z0 (by decide)];go_enter func21,ntmps21;go_wp2;go_ret;exact⟨rfl,rfl⟩
  ·have e:jD L s (i:Int)=af U:=(by unfold jD aa.task;rw[z0 h,bZ,gh (by omega)]);rw[e];unfold aX;obtain⟨b,d⟩:∃b,L.b=b:=⟨_,rfl⟩;obtain⟨m,k⟩:∃m,s.tasks.length=m:=⟨_,rfl⟩;rw[k] at c f;rw[d] at c⊢;have z:¬(i:Int)<(m:Int):=(by omega);go_enter func21,ntmps21;go_wp2;go_ret;exact⟨rfl,rfl⟩
theorem ax.BL (H:ax ao S L s w) (hk:s.Ok k) (a:p<s.c.aO):∃g cap,L.hv=ay (R ⟨g,0,U⟩) s.c.aO cap∧w.cell? ⟨g,p,U⟩=R (aX (L.hk p))∧w.cell? ⟨L.b,105,U⟩=R (ay (R ⟨g,0,U⟩) s.c.aO cap):=by obtain⟨T,d⟩:=H.fy .fU;obtain⟨g,cap,e,f,h,j,l⟩:=dM.cell d (BK (i:=p) (by rw[hk.hlen];exact a));rw[rN,hk.hlen] at e;refine⟨g,cap,e,f,?_⟩;have:=H.top.cell 105 ((lR (L:=L) hk.eB hk.gP 0).trans (show[L.hv,L.cv,aX L.fc][0]?=R L.hv from rfl));rw[e] at this;exact this
end
variable {W:ab} {P:List (List Nat)} {V:List (Int×Int)->ab->Prop}
section
variable {ao w:ab} {S:Nat->Prop} {L:bu} {s:aa} {k:Nat}
theorem o0 (p:Int) (H:ax ao S L s w) (hk:s.Ok k):Calls au 17 #[aX L.b,I J p] w λe w'=>e=aK (I J (s.running p))∧Below w.heap.size w w':=by
 have a:=C (rL p H);unfold aa.running;cases hp:s.e0 p with
 |false=>rw[aj rfl];rw[hp] at a;unfold aX at*;clear H hp;go_enter func17,ntmps17;go_wp2_with fail;refine a.mono ?_;rintro e y ⟨rfl,rfl⟩;go_wp2_with fail;go_ret;exact⟨rfl,Below.refl _ _⟩
 |true=>
  rw[z0 (by decide)];rw[hp] at a;obtain⟨o,z⟩:0<=p∧p<s.c.aO:=by unfold aa.e0 at hp;simpa using hp
  obtain⟨i,rfl⟩:=dS o;have q:i<s.c.aO:=by omega
  obtain⟨g,cap,A,P,B⟩:=H.BL hk q;have d:=hk.ep (p:=(i:Int)) (by omega) (by omega);rw[bZ] at d;obtain⟨T,t⟩:=H.aY d;have l:=C (xm T (L.hk i) (s.aY i) w t (hk.aY i _ d).1);have D:=(hk.aY i _ d).1.runs;have Q:(i:Int)<(s.c.aO:Int):=by omega
  have aq:(i:Int).toNat=i:=by omega
  generalize E:s.c.aO=m at B Q;generalize F:L.hk i=G at P l;generalize u:L.b=b at B a⊢;have V:=C u;generalize K:(s.aY (i:Int)).running=r at l D⊢;unfold aX at*;have n:∀j:Nat,j<64->∀W,Below w.heap.size w W->W.cell? ⟨b,41+j,U⟩=R (I J (s.at_.getD j 0)):=λj X W G=>by rw[<-V.out];refine(H.next G).top.cell (41+j) (tm hk.eB ?_);rw[dy,b5 (by rw[hk.gP];exact X)];rfl
  have ac:=C n;rcases D with e|⟨j,az,Y,ad,e,_⟩;·subst e;rw[aj (by decide)];clear H hk hp o z q A d t E F u K n;go_enter func17,ntmps17;go_wp2_with fail;refine a.mono ?_;rintro e y ⟨rfl,rfl⟩;go_wp2_with fail;refine l.mono ?_;rintro e M ⟨rfl,f⟩;have v:=C f;clear f;go_wp2_with fail;go_ret;exact⟨rfl,v⟩
  ·obtain⟨h,rfl⟩:=dS Y;subst e;rw[z0 (by omega),bZ];have Z:h<64:=(by omega);have aB:(h:Int)<64:=(by omega);have aA:(h:Int).toNat=h:=(by omega);obtain⟨x,N⟩:∃x,s.at_.getD h 0=x:=⟨_,rfl⟩;have O:=C (n h Z);rw[N] at O⊢;clear H hk hp o z q A d t E F u K n N;go_enter func17,ntmps17;go_wp2_with fail;refine a.mono ?_;rintro e y ⟨rfl,rfl⟩;go_wp2_with fail;refine l.mono ?_;rintro e M ⟨rfl,f⟩;have aG:=O M f;have v:=C f;clear f;go_wp2_with fail;go_ret;exact⟨rfl,v⟩
end
section
variable {ao w:ab} {S:Nat->Prop} {L:bu} {s:aa} {k:Nat}
theorem BN (j:s.tasks[n]?=R t) (i:Nat) (u:i<s.c.aO) (H:ax ao S L s w) (hk:s.Ok k):Calls au 36 #[aX L.b,aX (L.tk n),I J (i:Int)] w λe w'=>e=aK (I J (s.least t i))∧∃a,w'=w.drewN a:=by
 obtain⟨g,cap,B,y,l⟩:=H.BL hk u;have f:=hk.ep (p:=(i:Int)) (by omega) (by omega);rw[bZ] at f;obtain⟨T,z⟩:=H.aY f;have d:=C (λa=>Calls.quiet_of_same (n:=a) (xo T (L.hk i) (s.aY i) (s.aw t.g).h.idx (w.drewN a) (z.frame ((Mod.refl (λ_=>False) w).drewN a) (λ_ _=>id)) (hk.aY i _ f).1));have o:=(H.task j).cell 5 (v:=aX (L.gk t.g)) rfl;have q:=(H.aw (hk.jz j)).cell 1 (v:=I J (s.aw t.g).h.idx) rfl;have A:(i:Int)<(s.c.aO:Int):=by omega
 have D:(i:Int).toNat=i:=by omega
 have E:(0:Int)<=(i:Int):=by omega
 unfold aa.least;generalize F:s.c.aO=m at l A;generalize G:L.hk i=K at y d;generalize M:L.b=b at l⊢;generalize N:L.tk n=bW at o⊢;generalize O:L.gk t.g=gb at o q;generalize P:(s.aw t.g).h.idx=x at q d⊢;generalize Q:(s.aY (i:Int)).minOf x=r at d⊢;unfold aX at*;go_enter func36,ntmps36;go_wp2_with fail;go_quiet ((go_at_call 76;with_reducible exact d.out _));go_wp2_with fail;go_ret;exact⟨rfl,nq,rfl⟩
end
variable {al:Nat->Prop} {W':ab} {v1:Value} {ai:Int->Nat}
theorem BR (s:aa) (h:aF) (p:Int) (l:List ex) (t:ex):gC s h p (l++[t])=if ku s h p t then gC s h p l+t.w else gC s h p l:=by unfold gC;rw[si];rfl
theorem JN {s:aa} {h:aF} {p:Int} {l:List ex} (e:l[i]?=R t):gC s h p (l.take (i+1))=if ku s h p t then gC s h p (l.take i)+t.w else gC s h p (l.take i):=by rw[gL,e,lY,BR]
theorem BS {s:aa} {h:aF} {p:Int} (c:Nat) (l:List ex):(∀t∈l,t.w<=c)->gC s h p l<=l.length*c:=by
 refine wm (P:=λl=>(∀t∈l,t.w<=c)->gC s h p l<=l.length*c) (λ_=>gN _) (λl t e a=>?_) l;have b:=e (λx f=>a x (List.mem_append_left _ f));have g:=a t (by simp);rw[BR,eX,n2,Nat.succ_mul];by_cases d:ku s h p t=true;·rw[aj d];exact Nat.add_le_add b g
 ·rw[z0 d];exact cA b (Nat.le_add_right _ _)
section
variable {ao w:ab} {S:Nat->Prop} {L:bu} {s:aa} {k:Nat}
theorem tE (u:Nat) (bc:u<s.groups.length) (p:Int) (H:ax ao S L s w) (hk:s.Ok k) (bS:k<=100000):Calls au 31 #[aX L.b,aX (L.gk u),I J p] w λe w'=>e=aK (I ah (s.load u p:Nat))∧Below w.heap.size w w':=by
 have ad:=H.top.cell 7 p4;have O:=H.top.cell 5 j2;obtain⟨T,D⟩:=H.fy .fx;obtain⟨a,cap,aj⟩:=dM.form D;rw[aj,oZ] at ad;have bg:=C aj;unfold aa.load;obtain⟨n,ap⟩:=aW s.tasks.length;have P:=C ap;rw[ap] at ad;have aM:=hk.eJ.1;have bi:n<=100000:=by omega
 obtain⟨b,aB⟩:=aW L.b;rw[aB] at ad O⊢;unfold aX;have bj:=C (λ(i:Nat) (t:ex) (y:s.tasks[i]?=R t) (W:ab) (aA:Below w.heap.size w W)=>(H.next aA).task y);have an:=hk.oD bc;generalize bl:(s.aw u).h=d;have bo:=C (λ(W:ab) (aA:Below w.heap.size w W)=>(H.next aA).aw an);have bm:=C bl;go_enter func31,ntmps31;go_wp2_with fail;go_loopw [7,15] (λv i W=>∃j:Nat,j<=n∧i=I J (j:Int)∧v=I ah (gC s d p (s.tasks.take j):Nat)∧Below w.heap.size w W) (λ_ i _=>n-(intOf i).toNat);case atStart=>exact⟨0,by omega,rfl,rfl,Below.refl _ _⟩
 case round=>
  obtain⟨j,bT,rfl,rfl,m⟩:=hrel;by_cases aQ:j<n;·obtain⟨t,y⟩:∃t,s.tasks[j]?=R t:=⟨_,b5 (by rw[P.out];exact aQ)⟩;have Q:=JN (s:=s) (h:=d) (p:=p) y;obtain⟨bX,aR⟩:=(H.next m).fy .fx;obtain⟨g,bV,aG,aS,ay,bq,bt⟩:=dM.cell aR (tw (L:=L) (s:=s) (by rw[P.out];exact aQ));rw[bg.out,oZ,P.out] at aG;simp only[Value.slice.injEq] at aG;obtain⟨rfl,_,rfl⟩:=aG;have E:=bj j t y wr m;have F:=E.cell 3 (v:=aD t.on) rfl;have G:=E.cell 4 (v:=I J t.p) rfl;have K:=E.cell 5 (v:=aX (L.gk t.g)) rfl;have V:=E.cell 7 (v:=I ah t.w) rfl;have b1:(j:Int)<(n:Int):=(by omega);have al:(0:Int)<=(j:Int):=(by omega);have b3:(j:Int).toNat=j:=(by omega);unfold cU aX at aS;cases M:t.on with
   |false=>
    have q:=C (show gC s d p (s.tasks.take (j+1))=gC s d p (s.tasks.take j) by rw[Q];unfold ku;rw[M];rfl);rw[M] at F;go_wp2_with fail;go_quiet (fail);go_wp2_with fail;go_roundw;case rel=>exact⟨j+1,by omega,by go_num,by rw[q.out],m.trans (((Mod.refl (λ_=>False) wr).drewN nq).toBelow.mono m.size)⟩
    case measure=>simp[intOf];omega
   |true=>
    rw[M] at F;by_cases z:t.p=p;·have aL:=(H.next m).aw (hk.jz y);have u1:=aL.cell 1 (v:=I J (s.aw t.g).h.idx) rfl;have u2:=aL.cell 2 (v:=I J (s.aw t.g).h.gen) rfl;have am:=bo wr m;have v1:=am.cell 1 (v:=I J (s.aw u).h.idx) rfl;have X:=am.cell 2 (v:=I J (s.aw u).h.gen) rfl;rw[bm.out] at v1 X;obtain⟨ai,aU⟩:=(H.next m).tree;have N:=C (tD ai L.eE s.tree (s.aw t.g).h d wr.drew (aU.next (Below.refl _ _).drew) hk.tree);obtain⟨r,D⟩:∃r,ae.c1 s.tree (s.aw t.g).h d=r:=⟨_,rfl⟩;have q:=C (show gC s d p (s.tasks.take (j+1))=if r then gC s d p (s.tasks.take j)+t.w else gC s d p (s.tasks.take j) by rw[Q];unfold ku;rw[M,D,decide_eq_true z];rfl);have Y:=(m.cell (p:=⟨b,5,U⟩) (ir O)).trans O;have Z:=C m;have aP:=BS (s:=s) (h:=d) (p:=p) 262144 (s.tasks.take j) (λx bw=>by obtain⟨a0,bz⟩:=lp.1 (List.mem_of_mem_take bw);exact(hk.task a0 x bz).w.2);rw[iG] at aP;have a2:=(hk.task j t y).w.2;have aq:IntKind.u64.wrap ((gC s d p (s.tasks.take j):Int)+(t.w:Int))=((gC s d p (s.tasks.take j)+t.w:Nat):Int):=(by rw[ni];have:=n3 262144 (Nat.min_le_left j s.tasks.length);omega);obtain⟨ac,aV⟩:∃x,(s.aw t.g).h=x:=⟨_,rfl⟩;rw[D] at N;rw[aV] at u1 u2 N;rw[z] at G;unfold aX at K Y;obtain⟨A,aZ⟩:∃x,L.gk t.g=x:=⟨_,rfl⟩;rw[aZ] at K u1 u2;obtain⟨az,a6⟩:∃x,L.gk u=x:=⟨_,rfl⟩;rw[a6] at v1 X⊢;obtain⟨ak,a7⟩:∃x,L.eE=x:=⟨_,rfl⟩;rw[a7] at Y N;obtain⟨B,a8⟩:∃x,L.tk j=x:=⟨_,rfl⟩;rw[a8] at aS F G K V;obtain⟨b6,ba⟩:∃x,t.w=x:=⟨_,rfl⟩;rw[ba] at V q aq;obtain⟨bR,av⟩:∃x,gC s d p (s.tasks.take j)=x:=⟨_,rfl⟩;rw[av] at q aq⊢;have a3:=C aq;clear Q y aR ay bq bt E m M z aL am aU D aP a2 aV aZ a6 a7 a8 ba av O aq;have a4:(p==p)=true:=(by simp);have l:=C (λ(W':ab) (bb o:Nat) (ag:Value) (aB:Below wr.drew.heap.size wr.drew W') (bf:wr.cell? ⟨bb,o,U⟩=R ag)=>show W'.cell? ⟨bb,o,U⟩=R ag from(zF9 aB).cell (b2 bf) (ir bf) id);go_wp2_with fail;cases r with
     |false=>go_region_held3 (λW'=>W'.cell? ⟨b,5,U⟩=R (af (R ⟨ak,0,U⟩))∧W'.cell? ⟨B,3,U⟩=R (aD true)∧W'.cell? ⟨B,4,U⟩=R (I J p)∧W'.cell? ⟨B,5,U⟩=R (af (R ⟨A,0,U⟩))∧W'.cell? ⟨A,1,U⟩=R (I J ac.idx)∧W'.cell? ⟨A,2,U⟩=R (I J ac.gen)∧W'.cell? ⟨az,1,U⟩=R (I J d.idx)∧W'.cell? ⟨az,2,U⟩=R (I J d.gen)) ((refine⟨?_,?_,?_,?_,?_,?_,?_,?_⟩)<;>(repeat(first|assumption|(with_reducible refine b2 ?_)))) (first|(go_at_call 70;refine N.mono ?_;rintro e f ⟨rfl,c⟩;have a5:=l f _ _ _ c Y;have bF:=l f _ _ _ c F;have aO:=l f _ _ _ c G;have a9:=l f _ _ _ c K;have aC:=l f _ _ _ c u1;have bI:=l f _ _ _ c u2;have bL:=l f _ _ _ c v1;have bd:=l f _ _ _ c X;have be:=l f _ _ _ c V;have aN:=C (Z.drew.trans (c.mono Z.size));clear c));all_goals
      go_wp2_with fail;go_roundw;case rel=>exact⟨j+1,by omega,by go_num,by rw[q.out];rfl,aN⟩
      case measure=>simp[intOf];omega
     |true=>go_region_held3 (λW'=>W'.cell? ⟨b,5,U⟩=R (af (R ⟨ak,0,U⟩))∧W'.cell? ⟨B,3,U⟩=R (aD true)∧W'.cell? ⟨B,4,U⟩=R (I J p)∧W'.cell? ⟨B,5,U⟩=R (af (R ⟨A,0,U⟩))∧W'.cell? ⟨A,1,U⟩=R (I J ac.idx)∧W'.cell? ⟨A,2,U⟩=R (I J ac.gen)∧W'.cell? ⟨az,1,U⟩=R (I J d.idx)∧W'.cell? ⟨az,2,U⟩=R (I J d.gen)) ((refine⟨?_,?_,?_,?_,?_,?_,?_,?_⟩)<;>(repeat(first|assumption|(with_reducible refine b2 ?_)))) (first|(go_at_call 70;refine N.mono ?_;rintro e f ⟨rfl,c⟩;have a5:=l f _ _ _ c Y;have bF:=l f _ _ _ c F;have aO:=l f _ _ _ c G;have a9:=l f _ _ _ c K;have aC:=l f _ _ _ c u1;have bI:=l f _ _ _ c u2;have bL:=l f _ _ _ c v1;have bd:=l f _ _ _ c X;have be:=l f _ _ _ c V;have aN:=C (Z.drew.trans (c.mono Z.size));clear c));all_goals
      go_wp2_with fail;go_roundw;case rel=>exact⟨j+1,by omega,by go_num,by rw[q.out];exact congrArg (I ah) a3,aN⟩
      case measure=>simp[intOf];omega
    ·have q:=C (show gC s d p (s.tasks.take (j+1))=gC s d p (s.tasks.take j) by rw[Q];unfold ku;rw[decide_eq_false z];simp);generalize bs:t.p=mx at G z;have a4:(mx==p)=false:=(by simp[z]);go_wp2_with fail;go_quiet (fail);go_wp2_with fail;go_roundw;case rel=>exact⟨j+1,by omega,by go_num,by rw[q.out],m.trans (((Mod.refl (λ_=>False) wr).drewN nq).toBelow.mono m.size)⟩
     case measure=>simp[intOf];omega
  ·obtain rfl:j=n:=by omega
   have bN:=C (show s.tasks.take j=s.tasks by rw[<-P.out,hL]);rw[bN.out];go_wp2_with fail;go_ret;exact⟨rfl,m⟩
end
theorem B0:iv dp 64 65 8:=⟨underlying64,⟨.pointer U,by kernel_rfl,rfl⟩,by decide⟩
section
variable {ao w:ab} {S:Nat->Prop} {L:bu} {s:aa} {k:Nat}
theorem aa.Ok.JU (hk:s.Ok k) {h:aF} {i:Int} (f:i∈ae.path s.tree h):0<=i∧i<32∧∃g:Nat,s.places[i.toNat]?=R (R g)∧g<s.groups.length:=by
 obtain⟨_,⟨y,rfl,b⟩,_⟩:=hk.tree.Ac f;obtain⟨g,G,c,j,rfl⟩:=hk.get y b;have d:=(hk.there g G c j).2;have l:=(bD.1 d).1;rw[hk.eB] at l;obtain⟨n,a⟩:=gK.1 b;have m:0<=G.h.idx:=by
  unfold ae.get at a;cases e:an.at s.tree G.h with
  |none=>rw[e] at a;cases a
  |some q=>exact(an.dk e).1
 exact⟨m,by omega,g,d,(bD.1 c).1⟩
end
def JV (L:bu) (l:List (Option Nat)) (w:ab) (e:Ending) (w':ab):Prop:=∃v,e=aK v∧Own dp w' w.heap.size 65 v l.length (l.map λo=>o.map L.gk)∧Below w.heap.size w w'
section
variable {ao w:ab} {S:Nat->Prop} {L:bu} {s:aa} {k:Nat}
theorem B1 (d:Nat) {G:cb} (E:s.groups[d]?=R G) (aB:G.there=true) (H:ax ao S L s w) (hk:s.Ok k):Calls au 108 #[aX L.b,aX (L.gk d)] w (JV L (s.cC d) w):=by
 have aA:s.aw d=G:=aa.lL E;obtain⟨bt,aG⟩:=gK.1 (hk.there d G E aB).1;have r:=H.top.cell 5 j2;have M:=H.aw E;have v1:=M.cell 1 (v:=I J G.h.idx) rfl;have z:=M.cell 2 (v:=I J G.h.gen) rfl;obtain⟨ab,aL⟩:=H.tree;have A:=C (JT ab L.eE s.tree G.h w.drew (aL.next (Below.refl _ _).drew) hk.tree aG);have am:s.cC d=(ae.path s.tree G.h).map λi=>s.places.getD i.toNat U:=by unfold aa.cC;rw[aA]
 rw[am];have N:=C (λ(i:Int) (aN:i∈ae.path s.tree G.h)=>hk.JU aN);have f:(ae.path s.tree G.h).length<=1000000:=by rw[BW,vd];have ai:=BV (ae.ft s.tree 10 G.h);have bw:=xq s.tree 10 G.h;omega
 obtain⟨l,O⟩:∃l,ae.path s.tree G.h=l:=⟨_,rfl⟩;rw[O] at f;have aj:=C f;rw[O] at A N⊢;generalize aD:G.h=P at v1 z A;unfold aX at r;unfold aX;obtain⟨b,Q⟩:=aW L.b;have ap:=C Q;rw[Q] at r⊢;generalize a0:L.gk d=T at v1 z⊢;generalize bz:L.eE=eE at r A;go_enter func108,ntmps108;go_wp2_with fail;go_region_held3 (λW'=>W'.cell? ⟨b,5,U⟩=R (af (R ⟨eE,0,U⟩))∧W'.cell? ⟨T,1,U⟩=R (I J P.idx)∧W'.cell? ⟨T,2,U⟩=R (I J P.gen)) ((refine⟨?_,?_,?_⟩)<;>(repeat(first|assumption|(with_reducible refine b2 ?_)))) (first|(go_at_call 158;refine A.mono ?_;rintro e c ⟨v,rfl,aQ,B⟩;obtain⟨a2,a3,a4,rfl,a5,aK,bF,ah⟩:=aQ.rd;have aO:=(zF9 B).cell (b2 r) (ir r) id;have a9:=(zF9 B).cell (b2 v1) (ir v1) id;have aC:=(zF9 B).cell (b2 z) (ir z) id;have V:=C ah;have t:=C (show Below w.heap.size w c from(Below.refl _ _).drew.trans B)));all_goals
  go_wp2_with fail;obtain⟨n,D⟩:=aW l.length;have F:=C D;rw[D] at V;have bI:n<=1000000:=by rw[<-D];exact aj.out
  rw[D];have aR:=C (λ(j:Nat) (x:Int) (y:l[j]?=R x)=>show((l.map λi=>s.places.getD i.toNat U).take (j+1)).map (λo=>o.map L.gk)=((l.map λi=>s.places.getD i.toNat U).take j).map (λo=>o.map L.gk)++[(s.places.getD x.toNat U).map L.gk] from by rw[gL,dD,y,iI];rfl);go_loopw [7,9,24] (λv u i W=>∃j:Nat,j<=n∧i=I J (j:Int)∧Own dp W c.heap.size 65 v j (((l.map λi=>s.places.getD i.toNat U).take j).map λo=>o.map L.gk)∧Below c.heap.size c W) (λ_ _ i _=>n-(intOf i).toNat);case atStart=>exact⟨0,by omega,by rfl,Own.nil _ _ _,Below.refl _ _⟩
  case round=>
   obtain⟨j,bL,rfl,K,m⟩:=hrel;by_cases X:j<n
   ·obtain⟨x,y⟩:∃x,l[j]?=R x:=⟨_,b5 (by rw[F.out];exact X)⟩;obtain⟨aS,bd,g,f,be⟩:=N.out x (ea y);obtain⟨a,rfl⟩:=dS aS;rw[bZ] at f;have Y:a<32:=(by omega);have aU:s.places.getD a U=R g:=(by rw[dy,f];rfl);have Z:=aR.out j _ y;rw[bZ,aU] at Z;have aP:=C Z;have aV:Below w.heap.size w wr:=t.trans (m.mono t.size);have aq:=(H.next aV).top.cell (9+a) (p6 hk.eB f);rw[ap.out] at aq;obtain⟨q,ac⟩:=aW (L.gk g);obtain⟨aZ,a6,rfl,ak,a7⟩:=V.ints (by omega);have a8:=(m.cell (p:=⟨aZ,a6+j,U⟩) ak).trans (a7 j X);have ba:rat l j=(a:Int):=(by unfold rat;rw[y];rfl);rw[ba] at a8;simp only[iH,cU,aX,ac] at aq;have bN:(j:Int)<(n:Int):=(by omega);have bS:(0:Int)<=(j:Int):=(by omega);have aM:(j:Int).toNat=j:=(by omega);have bi:(a:Int).toNat=a:=(by omega);have bT:=m.size;have az:=C (K.alloc (av #[af (R ⟨q,0,U⟩)] 65));have ad:c.heap.size<=(wr.alloc (av #[af (R ⟨q,0,U⟩)] 65)).heap.size:=(by simp;omega);have bb:j<=10000000:=(by omega);have ag:=C (show∀a u,(dp.e (R q))[a]?=R u->(wr.alloc (av #[af (R ⟨q,0,U⟩)] 65)).cell? ⟨wr.heap.size,a,U⟩=R u fromλa u Y=>dz.trans (by rw[<-Y];show([af (R ⟨q,0,U⟩)]:List Value).toArray[a]?=_;rw[fg];rfl));have bf:=C ac;go_wp2_with ((at_builtin;refine jB B0 rfl _ _ rfl c.heap.size _ j _ rfl az.out wr.heap.size _ (R q) rfl ag.out bb ad ?_;intro bc u bg bj an;have bl:=C bg;have bo:=C (show Grow _ u _ bc from Grow.gR bj an);have bm:=C (show Below c.heap.size c u from(m.alloc m.size _).trans (bo.below ad (λay x=>(az.lt ay x).1)))));go_roundw;case rel=>exact⟨j+1,by omega,by go_num,by rw[aP.out,iH,bf.out];exact bl.out,bm.out⟩
    case measure=>simp[intOf];omega
   ·obtain rfl:j=n:=by omega
    have bq:(l.map λi=>s.places.getD i.toNat U).take j=l.map λi=>s.places.getD i.toNat U:=(by rw[uZ];simp[F.out]);rw[bq] at K;go_wp2_with fail;go_ret;refine⟨_,rfl,?_,t.trans (m.mono t.size)⟩;rw[dY,F.out];exact K.lower t.size
end
theorem B5 (n:Int) (x:Int):∀(l:List Int) (f:Int->Int),mH n (l++[x]) f=lF (mH n l f) x n
 |[],f=>rfl
 |k::l,f=>B5 n x l (lF f k n)
theorem J8 (n:Int) (l:List Int) {k:Nat} (h:k<l.length) (f:Int->Int):mH n (l.take (k+1)) f=lF (mH n (l.take k) f) (a_ l k) n:=by rw[A4 h,B5]
def J9 (S:Nat->Prop) (b:Nat) (B:fS) (v:Value) (w:ab) (e:Ending) (w':ab):Prop:=e=aK v∧fD w' S b B∧Mod S w w'
theorem J_ (S:Nat->Prop) (b:Nat) (B:fS) (a:Option Addr) (cap:Nat) (c:List Int) (task ns:Int) (w:ab) (H:fD w S b B) (M:c.length<=1000000) (hI:pi w.heap.size w (ay a c.length cap) c) (ae:∀G N,a=R ⟨G,N,U⟩->¬S G):Calls au 109 #[af (R ⟨b,0,U⟩),ay a c.length cap,I J task,I J ns] w (J9 S b (B.ch c task ns) (I J (B.ih c task ns)) w):=by
 have q:=C (Ir a cap c w M hI);have K:=C H;have A:B.ih c task ns≠0->B.ch c task ns=B:=λe=>by unfold fS.ch;rw[z0 e]
 generalize O:mc c=ag at q;by_cases am:ns<0
 ·have d:B.ih c task ns=1:=by unfold fS.ih;rw[aj (.inl am)]
  rw[A (by rw[d];decide),d];go_enter func109,ntmps109;go_wp2_with fail;go_ret;exact⟨rfl,K,Mod.refl _ _⟩
 by_cases aN:task<0
 ·have d:B.ih c task ns=1:=by unfold fS.ih;rw[aj (.inr (.inl aN))]
  rw[A (by rw[d];decide),d];go_enter func109,ntmps109;go_wp2_with fail;go_ret;exact⟨rfl,K,Mod.refl _ _⟩
 cases ag with
 |false=>
  have d:B.ih c task ns=1:=by unfold fS.ih;rw[aj (.inr (.inr O))]
  rw[A (by rw[d];decide),d];generalize s:c.length=n at q⊢;go_enter func109,ntmps109;go_wp2_with (go_at_call 159;refine q.mono ?_;rintro e t ⟨rfl,f⟩;have h:=C f;clear f);go_ret;exact⟨rfl,K.next h,Mod.below h⟩
 |true=>
  have P:¬(ns<0∨task<0∨mc c=false):=by
   rintro(u|u|u);·exact am u
   ·exact aN u
   ·rw[O] at u;cases u
  obtain⟨g,o,D,ap,aQ,bf,ax,bc,bg,bj,an⟩:=H.e;obtain⟨l,y⟩:=aW B.total;by_cases ah:wrap64 (9223372036854775807-l)<ns;·have d:B.ih c task ns=3:=(by unfold fS.ih;rw[z0 P,y,aj (show cK (9223372036854775807-l)<ns from ah)]);rw[A (by rw[d];decide),d];rw[y] at D;have E:=C D;clear H hI ae A d O M P ap aQ D y;obtain⟨n,s⟩:∃n,c.length=n:=⟨_,rfl⟩;rw[s] at q⊢;clear s;go_enter func109,ntmps109;go_wp2_with (go_at_call 159;refine q.out.mono ?_;rintro e t ⟨rfl,f⟩;have aw:=(E.out.next f).cell 2 (v:=I J l) rfl;have h:=C f;clear f);go_ret;exact⟨rfl,K.next h,Mod.below h⟩
  ·have d:B.ih c task ns=0:=(by unfold fS.ih;rw[z0 P,y,z0 (show¬cK (9223372036854775807-l)<ns from ah)]);have bl:B.ch c task ns=⟨lF B.tasks task ns,mH ns c B.groups,cK (l+ns)⟩:=(by unfold fS.ch;rw[aj d,y]);rw[bl,d];rw[y] at D;obtain⟨n,s⟩:=aW c.length;have E:=C D;have bo:=C ap;have bm:=C aQ;have aR:=C hI;have bq:=C ae;have L:=C s;have z:=C (br bf (br ax bc));have r:=C (br bg (br bj an));rw[s] at q aR M⊢;unfold cK;go_enter func109,ntmps109;go_upto_region 6 with(go_at_call 159;refine q.mono ?_;rintro e t ⟨rfl,f⟩;have aw:=(E.next f).cell 2 (v:=I J l) rfl;have bS:=(E.next f).free 2;have h:=C f;clear f);generalize aS:t.setCell ⟨b,2,U⟩ (I J (wrap64 (l+ns)))=m;have Q:Mod (λk=>k=b) t m:=aS▸Mod.one t b 2 _;have aU:ak m b #[.map (R g),.map (R o),I J (wrap64 (l+ns))] 118:=aS▸(E.next h).set 2 (I J (wrap64 (l+ns)));have bt:Mod S w t:=Mod.below h;have aP:jo m g B.tasks:=(bo.mod (Mod.below (S:=λ_=>False) h) id).mod Q (λe=>r.1 e.symm);have ai:jo m o B.groups:=(bm.mod (Mod.below (S:=λ_=>False) h) id).mod Q (λe=>r.2.1 e.symm);have bw:Mod S w m:=bt.trans Q (λi _ e=>by cases e;exact z.1);obtain⟨aV,T⟩:=aW (wrap64 (B.tasks task+ns));have aD:=aP.look task;obtain⟨V,aZ,a6⟩:=aP.put task aV;generalize a0:B.tasks task=tk at aD T;have aM:=aU.cell 0 (v:=.map (R g)) rfl;have X:(λi=>if i=task then aV else B.tasks i)=lF B.tasks task ns:=(by funext i;unfold lF;rw[a0];show _=if i=task then wrap64 (tk+ns) else B.tasks i;rw[T]);rw[X] at a6;have bz:=C aU;have a2:=C ai;have a7:=C a6;have a3:=C bw;have a4:=C T;have bi:(Instr.mapUpdate 116 (.map (R g)) (I J task) (I J (wrap64 (tk+ns)))).run au m= .ok () (ef m g V):=(by rw[a4.out];exact aZ);go_upto_region 7 with fail;generalize a5:ef m g V=aK at a7⊢;have Y:Mod (λk=>k=g) m aK:=a5▸ru m g V;have bF:=C (bz.mod Y r.1);have aO:=C (a2.mod Y (λe=>r.2.2 e.symm));have a9:=C (a3.trans Y (λi _ e=>by cases e;exact z.2.1));go_wp2_with fail;go_loopw [53] (λZ W=>∃j:Nat,j<=n∧Z=I J (j:Int)∧ak W b #[.map (R g),.map (R o),I J (wrap64 (l+ns))] 118∧jo W g (lF B.tasks task ns)∧jo W o (mH ns (c.take j) B.groups)∧Mod S w W) (λZ _=>n-(intOf Z).toNat);case atStart=>exact⟨0,by omega,rfl,bF,a7,aO,a9⟩
   case round=>
    obtain⟨j,bT,rfl,aa,a8,F,aq⟩:=hrel;by_cases ac:j<n
    ·have aX:(j:Int)<(n:Int):=(by omega);obtain⟨G,N,aC,bI,bL⟩:=aR.cells (p:=j) (by rw[L.out];exact ac);subst aC;have bd:=aq.cell (bL j (by rw[L.out];exact ac)) bI (bq G N rfl);have az:=J8 ns c (k:=j) (by rw[L.out];exact ac) B.groups;generalize bX:mH ns (c.take j) B.groups=gf at F az;generalize bV:a_ c j=x at bd az;obtain⟨ba,av⟩:=aW (gf x);have be:=F.look x;rw[av] at be;obtain⟨ao,aZ,bb⟩:=F.put x (wrap64 (ba+ns));have b1:=aa.cell 1 (v:=.map (R o)) rfl;have X:(λi=>if i=x then wrap64 (ba+ns) else gf i)=lF gf x ns:=(by funext i;unfold lF;rw[av];rfl);rw[X,<-az] at bb;have ad:Mod (λk=>k=o) wr (ef wr o ao):=ru wr o ao;have aB:=C (aa.mod ad r.2.1);have aA:=C (a8.mod ad r.2.2);have aG:=C (aq.trans ad (λi _ e=>by cases e;exact z.2.2));have aL:=C bb;go_wp2_with fail;go_roundw;case rel=>exact⟨j+1,by omega,by go_num,aB,aA,aL,aG⟩
     case measure=>simp[intOf];omega
    ·obtain rfl:j=n:=by omega
     have bN:c.take j=c:=(by rw[<-L.out,hL]);rw[bN] at F;have aB:=C aa;have aA:=C a8;have aG:=C aq;have aL:=C F;go_wp2_with fail;go_ret;exact⟨rfl,⟨g,o,aB,aA,aL,z.1,z.2.1,z.2.2,r⟩,aG⟩
variable {ar:Array Value}
section
variable {ao w w':ab} {S:Nat->Prop} {L:bu} {s:aa} {k:Nat}
theorem Ka (p:Nat) (h:ad):hX L (s.bU p h)=hX L s:=by unfold hX aa.bU;simp
theorem Kb (p:Nat) (h:cD):hY L (s.dJ p h)=hY L s:=by unfold hY aa.dJ;simp
theorem Kc (p:Nat) (h:ex):hl L (s.cE p h)=hl L s:=by unfold hl aa.cE;simp
theorem Kd {G G':cb} (a:s.groups[g]?=R G) (b:G'.there=G.there):fV L (s.b0 g G')=fV L s:=by
 unfold fV aa.b0;dsimp only;apply qu;intro i;rw[dD,dD,n5,n5];by_cases e:i=g;·subst e;rw[cV (bD.1 a).1,a];simp[b]
 ·rw[dN (Ne.symm e)]
def eF (s:aa):Prop:=s.hiers.length=s.c.aO∧s.clocks.length=s.c.aO∧s.places.length=32∧s.at_.length=64
theorem aa.Ok.lens (h:s.Ok k):eF s:=⟨h.hlen,h.jl,h.eB,h.gP⟩
theorem ax.iT (H:ax ao S L s w) (hk:eF s) (a:p<s.c.aO):∃g cap,L.hv=ay (R ⟨g,0,U⟩) s.c.aO cap∧w.cell? ⟨g,p,U⟩=R (aX (L.hk p))∧w.cell? ⟨L.b,105,U⟩=R (ay (R ⟨g,0,U⟩) s.c.aO cap):=by obtain⟨T,d⟩:=H.fy .fU;obtain⟨g,cap,e,f,h,j,k⟩:=dM.cell d (BK (i:=p) (by rw[hk.1];exact a));rw[rN,hk.1] at e;refine⟨g,cap,e,f,?_⟩;have:=H.top.cell 105 ((lR (L:=L) hk.2.2.1 hk.2.2.2 0).trans (show[L.hv,L.cv,aX L.fc][0]?=R L.hv from rfl));rw[e] at this;exact this
theorem ax.tG (H:ax ao S L s w) (hk:eF s) (a:p<s.c.aO):∃g cap,L.cv=ay (R ⟨g,0,U⟩) s.c.aO cap∧w.cell? ⟨g,p,U⟩=R (aX (L.ck p))∧w.cell? ⟨L.b,106,U⟩=R (ay (R ⟨g,0,U⟩) s.c.aO cap):=by obtain⟨T,d⟩:=H.fy .gr;obtain⟨g,cap,e,f,h,j,k⟩:=dM.cell d (JL (i:=p) (by rw[hk.2.1];exact a));rw[tz,hk.2.1] at e;refine⟨g,cap,e,f,?_⟩;have:=H.top.cell 106 ((lR (L:=L) hk.2.2.1 hk.2.2.2 1).trans (show[L.hv,L.cv,aX L.fc][1]?=R L.cv from rfl));rw[e] at this;exact this
theorem ax.Ke (H:ax ao S L s w) {h:ad} (c:s.hiers[p]?=R h):∃T,cO w T (L.hk p) h∧∀(w':ab) (b:ad),cO w' (cS T w) (L.hk p) b->Mod T w w'->ax ao S L (s.bU p b) w':=by
 obtain⟨T,d,f⟩:=H.part (.aY p) (by simp);have g:=(bD.1 c).1;refine⟨T,d h c,λw' b i j=>f w' L _ j ?_ ?_⟩;·intro x a;unfold aa.bU at a;dsimp only at a;rw[bZ,cV g] at a;cases a;exact i
 ·intro r k v T h;cases r with
  |fU=>show dM _ _ _ _ (hX L (s.bU p b));rw[Ka];exact h
  |aY q=>intro x a;unfold aa.bU at a;dsimp only at a;rw[bZ,dN (λe=>k (by rw[e]))] at a;exact h x a
  |_=>exact h
theorem ax.Kf (H:ax ao S L s w) {c:cD} (d:s.clocks[p]?=R c) {c':cD} (g:dr w' (L.ck p) c') (h:Mod (λk=>k=L.ck p) w w'):ax ao S L (s.dJ p c') w':=by
 obtain⟨T,i,j⟩:=H.part (.gT p) (by simp);have l:=(bD.1 d).1;have f:=(i c d).2;refine j w' L _ (h.mono (λk _ e=>e▸f)) ?_ ?_;·intro x a;unfold aa.dJ at a;dsimp only at a;rw[bZ,cV l] at a;cases a;exact⟨g,.inl f⟩
 ·intro r m v T b;cases r with
  |gr=>show dM _ _ _ _ (hY L (s.dJ p c'));rw[Kb];exact b
  |gT q=>intro x a;unfold aa.dJ at a;dsimp only at a;rw[bZ,dN (λe=>m (by rw[e]))] at a;exact b x a
  |_=>exact b
theorem ax.nL (H:ax ao S L s w) (c:s.tasks[n]?=R t) {t':ex} (f:ak w' (L.tk n) (k3 L t') 81) (g:Mod (λk=>k=L.tk n) w w'):ax ao S L (s.cE n t') w':=by
 obtain⟨T,h,i⟩:=H.part (.task n) (by simp);have j:=(bD.1 c).1;have d:=(h t c).2;refine i w' L _ (g.mono (λk _ e=>e▸d)) ?_ ?_;·intro x a;unfold aa.cE at a;dsimp only at a;rw[cV j] at a;cases a;exact⟨f,.inl d⟩
 ·intro r l v T b;cases r with
  |fx=>show dM _ _ _ _ (hl L (s.cE n t'));rw[Kc];exact b
  |task q=>intro x a;unfold aa.cE at a;dsimp only at a;rw[dN (λe=>l (by rw[e]))] at a;exact b x a
  |_=>exact b
theorem xr {G G':cb} {r:Part} {v:ab} {T:Nat->Prop} (c:s.groups[g]?=R G) (i:G'.there=G.there) (k:r= .aw g->hn L g G'=hn L g G) (l:r= .band g->G'.band=G.band) (m:r= .line g->G'.line=G.line) (h:fW v T L s r):fW v T L (s.b0 g G') r:=by
 have o:=(bD.1 c).1;have f:∀(j:Nat) a,(s.b0 g G').groups[j]?=R a->(j=g∧a=G')∨(j≠g∧s.groups[j]?=R a):=by
  intro j a b;unfold aa.b0 at b;dsimp only at b;by_cases e:j=g;·subst e;rw[cV o] at b;cases b;exact .inl ⟨rfl,rfl⟩
  ·rw[dN (Ne.symm e)] at b;exact .inr ⟨e,b⟩
 cases r with
 |e1=>show dM _ _ _ _ (fV L (s.b0 g G'));rw[Kd c i];exact h
 |aw n=>
  intro a b;rcases f n a b with⟨rfl,rfl⟩|⟨_,e⟩;·rw[k rfl];exact h G c
  ·exact h a e
 |band n=>
  intro a B b d;rcases f n a b with⟨rfl,rfl⟩|⟨_,e⟩;·exact h G B c (by rw[<-l rfl];exact d)
  ·exact h a B e d
 |line n=>
  intro a B b d;rcases f n a b with⟨rfl,rfl⟩|⟨_,e⟩;·exact h G B c (by rw[<-m rfl];exact d)
  ·exact h a B e d
 |_=>exact h
theorem ax.Kg (H:ax ao S L s w) {G:cb} {B c:aM} (b:s.groups[g]?=R G) (d:G.band=R B) (h:ct w' (L.bd g) c) (i:Mod (λk=>k=L.bd g) w w'):ax ao S L (s.b0 g {G with band:=R c}) w':=by
 obtain⟨T,j,l⟩:=H.part (.band g) (by simp);have m:=(bD.1 b).1;have f:=(j G B b d).2;refine l w' L _ (i.mono (λk _ e=>e▸f)) ?_ ?_;·intro q ar a n;unfold aa.b0 at a;dsimp only at a;rw[cV m] at a;cases a;cases n;exact⟨h,.inl f⟩
 ·intro r o v T p;exact xr b rfl (λ_=>by unfold hn;rw[d];rfl) (λe=>absurd e o) (λ_=>rfl) p
theorem ax.Kh (H:ax ao S L s w) {G:cb} {l':List Int} (b:s.groups[g]?=R G) (c:G.line=R l) (f:gQ w' (L.ln g) l') (h:Mod (λk=>k=L.ln g) w w'):ax ao S L (s.b0 g {G with line:=R l'}) w':=by
 obtain⟨T,i,j⟩:=H.part (.line g) (by simp);have m:=(bD.1 b).1;have d:=(i G l b c).2;refine j w' L _ (h.mono (λk _ e=>e▸d)) ?_ ?_;·intro q ar a n;unfold aa.b0 at a;dsimp only at a;rw[cV m] at a;cases a;cases n;exact⟨f,.inl d⟩
 ·intro r o v T p;exact xr b rfl (λ_=>by unfold hn;rw[c];rfl) (λ_=>rfl) (λe=>absurd e o) p
theorem ax.Ki (H:ax ao S L s w) {G G':cb} (b:s.groups[g]?=R G) (d:G'.there=G.there) (f:G'.band=G.band) (h:G'.line=G.line) (i:ak w' (L.gk g) (hn L g G') 85) (j:Mod (λk=>k=L.gk g) w w'):ax ao S L (s.b0 g G') w':=by
 obtain⟨T,l,m⟩:=H.part (.aw g) (by simp);have n:=(bD.1 b).1;have c:=(l G b).2;refine m w' L _ (j.mono (λk _ e=>e▸c)) ?_ ?_;·intro q a;unfold aa.b0 at a;dsimp only at a;rw[cV n] at a;cases a;exact⟨i,.inl c⟩
 ·intro r o v T p;exact xr b d (λe=>absurd e o) (λ_=>f) (λ_=>h) p
theorem ax.B6 (H:ax ao S L s w):∃T,gS w T L.kC 64 s.pool∧∀(w':ab) (a:an Int),gS w' (cS T w) L.kC 64 a->Mod T w w'->ax ao S L {s with pool:=a} w':=by
 obtain⟨T,b,c⟩:=H.part .pool (by simp);refine⟨T,b,λw' a d e=>c w' L _ e d ?_⟩;intro r f v T g;cases r with
 |pool=>exact absurd rfl f
 |_=>exact g
theorem ax.B7 (H:ax ao S L s w):∃T,cT w T L.eE s.tree∧∀(w':ab) (a:ae),cT w' (cS T w) L.eE a->Mod T w w'->ax ao S L {s with tree:=a} w':=by
 obtain⟨T,b,c⟩:=H.part .tree (by simp);refine⟨T,b,λw' a d e=>c w' L _ e d ?_⟩;intro r f v T g;cases r with
 |tree=>exact absurd rfl f
 |_=>exact g
theorem ax.Kj (H:ax ao S L s w) {places:List (Option Nat)} {at_:List Int} (c:ak w' L.b (cR L {s with places:=places,at_:=at_}) 72) (d:Mod (λk=>k=L.b) w w'):ax ao S L {s with places:=places,at_:=at_} w':=by
 obtain⟨T,a,f⟩:=H.part .top (by simp);refine f w' L _ (d.mono (λk _ e=>e▸a.2)) ⟨c,.inl a.2⟩ ?_;intro r g v T h;cases r with
 |top=>exact absurd rfl g
 |_=>exact h
theorem ax.xt (H:ax ao S L s w) {h:ad} (f:s.hiers[p]?=R h):∃T,cO w T (L.hk p) h∧∀(V:Value) (d:ad) (e:Ending) (w':ab),dv T (L.hk p) V d w e w'->e=aK V∧ax ao S L (s.bU p d) w':=by obtain⟨T,g,i⟩:=H.Ke f;exact⟨T,g,λV d e w' ⟨a,b,c⟩=>⟨a,i w' d b c⟩⟩
theorem ax.rR (H:ax ao S L s w) {c c':cD} (a:s.clocks[p]?=R c) {V:Value} {e:Ending} (h:rp (L.ck p) c' V w e w'):e=aK V∧ax ao S L (s.dJ p c') w':=⟨h.1,H.Kf a h.2.1 h.2.2⟩
theorem ax.o4 (H:ax ao S L s w) {G:cb} {B a:aM} (b:s.groups[g]?=R G) (c:G.band=R B) {V:Value} {e:Ending} (h:pZ (L.bd g) a V w e w'):e=aK V∧ax ao S L (s.b0 g {G with band:=R a}) w':=⟨h.1,H.Kg b c h.2.1 h.2.2⟩
theorem ax.p9 (H:ax ao S L s w) {G:cb} {l':List Int} (a:s.groups[g]?=R G) (b:G.line=R l) (c:gQ w' (L.ln g) l') (h:w.grownBy w' (R (L.ln g))):ax ao S L (s.b0 g {G with line:=R l'}) w':=H.Kh a b c ⟨h.os,h.tape,h.output,h.size,λk d f=>h.block k d (λe=>f (Option.some.inj e))⟩
end
theorem B8 {w:ab} {x:Value} (h:o≠i) (a:w.cell? ⟨b,o,U⟩=R v):(w.setCell ⟨b,i,U⟩ x).cell? ⟨b,o,U⟩=R v:=(i_ w ⟨b,i,U⟩ ⟨b,o,U⟩ x (λe=>h (by injection e with d c f;exact c.symm))).trans a
section
variable {ao w:ab} {S:Nat->Prop} {L:bu} {s:aa} {k:Nat}
theorem ax.tags (H:ax ao S L s w):∃a:Nat->Part,a L.b= .top∧(∀n,n<s.tasks.length->a (L.tk n)= .task n)∧(∀n,n<s.groups.length->a (L.gk n)= .aw n)∧(∀g n c,L.hv=ay (R ⟨g,0,U⟩) n c->a g= .fU)∧(∀g n c,L.cv=ay (R ⟨g,0,U⟩) n c->a g= .gr)∧(∀g n c,L.tv=ay (R ⟨g,0,U⟩) n c->a g= .fx)∧(∀g n c,L.gv=ay (R ⟨g,0,U⟩) n c->a g= .e1):=by
 obtain⟨f,a,H⟩:=H;refine⟨a,(H.part .top).2,λn d=>?_,λn d=>?_,λg n c e=>?_,λg n c e=>?_,λg n c e=>?_,λg n c e=>?_⟩;·exact(H.part (.task n) _ (b5 d)).2
 ·exact(H.part (.aw n) _ (b5 d)).2
 ·exact(H.part .fU).2 g (by rw[e];rfl)
 ·exact(H.part .gr).2 g (by rw[e];rfl)
 ·exact(H.part .fx).2 g (by rw[e];rfl)
 ·exact(H.part .e1).2 g (by rw[e];rfl)
theorem ax.fF (H:ax ao S L s w) (a:eF s) (d:p<s.c.aO) (hv:L.hv=ay (R ⟨g,0,U⟩) m cap):w.cell? ⟨g,p,U⟩=R (af (R ⟨L.hk p,0,U⟩))∧w.cell? ⟨L.b,105,U⟩=R (ay (R ⟨g,0,U⟩) m cap):=by obtain⟨i,j,e,f,h⟩:=H.iT a d;rw[hv] at e;simp only[Value.slice.injEq,Option.some.injEq,Addr.mk.injEq] at e;obtain⟨⟨rfl,_⟩,rfl,rfl⟩:=e;exact⟨f,h⟩
theorem ax.o5 (H:ax ao S L s w) (a:eF s) (d:p<s.c.aO) (hv:L.cv=ay (R ⟨g,0,U⟩) m cap):w.cell? ⟨g,p,U⟩=R (af (R ⟨L.ck p,0,U⟩))∧w.cell? ⟨L.b,106,U⟩=R (ay (R ⟨g,0,U⟩) m cap):=by obtain⟨i,j,e,f,h⟩:=H.tG a d;rw[hv] at e;simp only[Value.slice.injEq,Option.some.injEq,Addr.mk.injEq] at e;obtain⟨⟨rfl,_⟩,rfl,rfl⟩:=e;exact⟨f,h⟩
theorem ax.en (H:ax ao S L s w) (c:s.tasks[n]?=R t) {a:Nat} (e:L.tk n=a):w.cell? ⟨a,0,U⟩=R (I J t.h.idx)∧w.cell? ⟨a,1,U⟩=R (I J t.h.gen)∧w.cell? ⟨a,2,U⟩=R (aD t.dead)∧w.cell? ⟨a,3,U⟩=R (aD t.on)∧w.cell? ⟨a,4,U⟩=R (I J t.p)∧w.cell? ⟨a,5,U⟩=R (af (R ⟨L.gk t.g,0,U⟩))∧w.cell? ⟨a,6,U⟩=R (I J t.nice)∧w.cell? ⟨a,7,U⟩=R (I ah t.w)∧w.cell? ⟨a,8,U⟩=R (I ah t.mask)∧w.cell? ⟨a,9,U⟩=R (I J t.e.id)∧w.cell? ⟨a,10,U⟩=R (I ah t.e.wt)∧w.cell? ⟨a,11,U⟩=R (I J t.e.v)∧w.cell? ⟨a,12,U⟩=R (I ah t.e.rem)∧w.cell? ⟨a,13,U⟩=R (I J t.mn)∧∀i,w.frozen? ⟨a,i,U⟩=false:=by subst e;have b:=H.task c;exact⟨b.cell 0 rfl,b.cell 1 rfl,b.cell 2 rfl,b.cell 3 rfl,b.cell 4 rfl,b.cell 5 rfl,b.cell 6 rfl,b.cell 7 rfl,b.cell 8 rfl,b.cell 9 rfl,b.cell 10 rfl,b.cell 11 rfl,b.cell 12 rfl,b.cell 13 rfl,λi=>b.free i⟩
theorem apart {tag:Nat->Part} {a:Nat} {p q:Part} (c:tag a=p) (d:tag b=q) (h:p≠q):a≠b:=λe=>h (by rw[<-c,<-d,e])
end
section
variable {ao w:ab} {S:Nat->Prop} {L:bu} {s:aa} {k:Nat}
theorem aa.nM (s:aa) (n:Nat) (a b:ex):(s.cE n a).cE n b=s.cE n b:=by unfold aa.cE;dsimp only;rw[List.set_set]
theorem aa.Kk (s:aa) (n:Nat) (a b:ex) (p:Int) (x:ad):((s.cE n a).bU p x).cE n b=(s.bU p x).cE n b:=by unfold aa.cE aa.bU;dsimp only;rw[List.set_set]
theorem aa.j7 (b:s.tasks[n]?=R t) (a:ex):(s.cE n a).tasks[n]?=R a:=cV (bD.1 b).1
theorem eF.cE (h:eF s) (n:Nat) (t:ex):eF (s.cE n t):=⟨h.1,h.2.1,h.2.2.1,h.2.2.2⟩
theorem eF.bU (h:eF s) (p:Int) (x:ad):eF (s.bU p x):=⟨by unfold aa.bU;simp;exact h.1,h.2.1,h.2.2.1,h.2.2.2⟩
theorem ax.Kl (H:ax ao S L s w) (b:s.tasks[n]?=R t) (e:aI) {a:Nat} (h:L.tk n=a):ax ao S L (s.cE n {t with e:=e}) ((((w.setCell ⟨a,9,U⟩ (I J e.id)).setCell ⟨a,10,U⟩ (I ah e.wt)).setCell ⟨a,11,U⟩ (I J e.v)).setCell ⟨a,12,U⟩ (I ah e.rem)):=by
 subst h;refine H.nL b (t':={t with e:=e}) ?_ ?_;·exact((((H.task b).set 9 (I J e.id)).set 10 (I ah e.wt)).set 11 (I J e.v)).set 12 (I ah e.rem)
 ·exact((((Mod.refl _ w).setCell (by rfl) _).setCell (by rfl) _).setCell (by rfl) _).setCell (by rfl) _
theorem ax.jq {t':ex} (H:ax ao S L s w) (a:s.tasks[n]?=R t) (i:Nat) (v:Value) (c:(k3 L t).setIfInBounds i v=k3 L t') {b:Nat} (h:L.tk n=b):ax ao S L (s.cE n t') (w.setCell ⟨b,i,U⟩ v):=by subst h;refine H.nL a (t':=t') ?_ (Mod.one _ _ _ _);rw[<-c];exact(H.task a).set i v
theorem xu (j:s.tasks[n]?=R t) (a_:t.on=true) (H:ax ao S L s w) (hk:s.Ok k):Calls au 103 #[aX L.b,aX (L.tk n)] w λe w'=>e=aK (bC #[])∧ax ao S L (s.leave n) w':=by
 have az:=hk.task n t j;obtain⟨i,O⟩:=dS az.p.1;have P:i<s.c.aO:=by have:=az.p.2;omega
 have Q:=hk.ep (p:=(i:Int)) (by omega) (by omega);rw[bZ] at Q;have ad:=hk.jz j;obtain⟨g,cap,V,_,_⟩:=H.iT hk.lens P;obtain⟨cW,bq,X,bt,ai,_⟩:=H.tags;have Y:=(bD.1 j).1;have aB:=apart bq (X n Y) (by simp);have bw:=apart (ai g _ _ V) (X n Y) (by simp);have aA:=apart (bt t.g (bD.1 ad).1) (X n Y) (by simp);have a0:=C (hk.aY i _ Q).1;have D:=C (BN j i P H hk);have bz:=C (aa.q0 j);obtain⟨a2,hF⟩:=aW (s.leave n);have a3:=C hF;rw[hF];have a4:=C j;have aG:=C O;obtain⟨aL,ae⟩:=aW (s.least t i);have a5:=C ae;rw[ae] at D;obtain⟨a,E⟩:=aW ({t with mn:=aL}:ex);have am:=C E;have bF:a.p=(i:Int):=by rw[<-E];exact O
 have aN:a.g=t.g:=by rw[<-E]
 obtain⟨l,r⟩:=aW (s.cE n a);have aj:=C r;have ap:l.tasks[n]?=R a:=r▸aa.j7 j a;have aQ:l.groups[a.g]?=R (s.aw t.g):=by rw[<-r,aN];exact ad
 have a9:l.hiers[i]?=R (s.aY (i:Int)):=r▸Q;have aR:eF l:=r▸hk.lens.cE n a;have aC:l.c.aO=s.c.aO:=by rw[<-r];rfl
 have aS:i<l.c.aO:=by rw[aC];exact P
 obtain⟨Z,aU⟩:=aW ((s.aY (i:Int)).drop (s.aw t.g).h.idx t.h.idx);have bI:=C aU;obtain⟨x,y⟩:=aW (l.bU (i:Int) Z);have aP:=C y;have bL:x.tasks[n]?=R a:=y▸ap;have bd:x.groups[a.g]?=R (s.aw t.g):=y▸aQ;have be:eF x:=y▸aR.bU i Z;have bN:i<x.c.aO:=by rw[<-y];exact aS
 have A:=C (br ap (br aQ (br a9 (br aR aS))));have B:=C (br bL (br bd (br be bN)));have bS:a.h.idx=t.h.idx:=by rw[<-E]
 obtain⟨d,aV⟩:=aW ((s.aY (i:Int)).ed (s.aw t.g).h.idx t.h.idx);have aM:=C aV;obtain⟨bi,bT⟩:=aW ((s.aY (i:Int)).e6 (s.aw t.g).h.idx t.h.idx);have z:=C (λ(T:Nat->Prop) (W:ab) (F:cO W T (L.hk i) (s.aY (i:Int)))=>JJ T (L.hk i) (s.aY (i:Int)) (s.aw t.g).h.idx t.h.idx W F a0);rw[aU,aV,bT] at z;obtain⟨m,bX⟩:=aW s.c.aO;have c8:(i:Int)<(m:Int):=by omega
 rw[bX] at V;have aZ:=C V;obtain⟨c_,da,aI,cZ,a6,de,bh,bG,df,di,ca,dA,dF,bV,f⟩:=H.en j rfl;have b1:=f 13;rw[O] at a6;have bn:(i:Int).toNat=i:=by omega
 have dG:(0:Int)<=(i:Int):=by omega
 have o:=C (br bF (br aN bS));unfold aX at*;obtain⟨b,ak⟩:=aW L.b;have a7:=C ak;rw[ak] at D aB⊢;obtain⟨q,a8⟩:=aW (L.tk n);have u:=C a8;rw[a8] at a6 bV b1 D aB bw aA⊢;obtain⟨al,ba⟩:=aW (L.hk i);have G:=C ba;rw[ba] at z;obtain⟨av,bb⟩:=aW (L.gk t.g);have K:=C bb;rw[bb] at aA;obtain⟨b3,ag⟩:=aW ((s.aw t.g).h.idx);have bf:=C ag;rw[ag] at z;obtain⟨b6,bc⟩:=aW t.h.idx;have bg:=C bc;rw[bc] at z;go_enter func103,ntmps103;go_wp2_with fail;refine D.mono ?_;rintro e dH ⟨rfl,nq,rfl⟩;go_upto_region 1 with fail;generalize bR:(w.drewN nq).setCell ⟨q,13,U⟩ (I J aL)=bj;have M:ax ao S L l bj:=by rw[<-aj.out,<-bR];exact(H.next (below_drewN (Below.refl _ _) nq)).jq a4 13 _ (by rw[<-am.out];rfl) u
 obtain⟨bs,b9,bv,a1,cc⟩:=A;obtain⟨cf,cg⟩:=M.fF a1 cc aZ;obtain⟨T,F,cj⟩:=M.drew.xt (p:=i) bv;rw[G.out] at F;have an:=C (z T bj.drew F);have aq:=C (cj (bC #[bk (dj d),I J bi]) Z);rw[aP.out,G.out] at aq;obtain⟨cm,dI,bx,dB,cn,b8,dT,dU,ce,dV,bu,eo,ci,eu,f⟩:=M.en bs u;have cr:=(M.aw b9).cell 1 (v:=I J (s.aw t.g).h.idx) rfl;rw[o.out.1] at cn;rw[o.out.2.1,K.out] at b8;rw[o.out.2.2,bg.out] at cm;rw[o.out.2.1,K.out,bf.out] at cr;rw[G.out] at cf;rw[a7.out] at cg;unfold dj at an aq;go_region_held3 (λW'=>W'.cell? ⟨b,105,U⟩=R (ay (R ⟨g,0,U⟩) m cap)∧W'.cell? ⟨g,i,U⟩=R (af (R ⟨al,0,U⟩))∧W'.cell? ⟨q,4,U⟩=R (I J i)∧W'.cell? ⟨q,5,U⟩=R (af (R ⟨av,0,U⟩))∧W'.cell? ⟨q,0,U⟩=R (I J b6)∧W'.cell? ⟨av,1,U⟩=R (I J b3)) ((refine⟨?_,?_,?_,?_,?_,?_⟩)<;>(with_reducible repeat(first|assumption|refine b2 ?_|refine j0 (by with_reducible assumption) ?_|refine B8 (by decide) ?_))) (first|(go_at_call 152;refine an.mono ?_;rintro e bl bB;obtain⟨rfl,N⟩:=aq e bl bB;obtain⟨bW,ck,ev,ew,cu,cB,ey,co,eG,eH,eI,cs,eT,eU,f⟩:=N.en B.1 u;have cv:=f 9;have eW:=f 10;have bA:=f 11;have e2:=f 12;have cG:=(N.aw B.2.1).cell 1 (v:=I J (s.aw t.g).h.idx) rfl;obtain⟨cJ,b_⟩:=N.fF B.2.2.1 B.2.2.2 aZ;rw[o.out.1] at cu;rw[o.out.2.1,K.out] at cB;rw[o.out.2.2,bg.out] at bW;rw[o.out.2.1,K.out,bf.out] at cG;rw[G.out] at cJ;rw[a7.out] at b_;have cq:=C N));all_goals
  obtain⟨e3,bo⟩:=aW ((((bl.setCell ⟨q,9,U⟩ (I J d.id)).setCell ⟨q,10,U⟩ (I ah (d.wt:Int))).setCell ⟨q,11,U⟩ (I J d.v)).setCell ⟨q,12,U⟩ (I ah (d.rem:Int)));have ac:=cq.Kl B.1 d u;rw[bo] at ac;rw[bo];have bm:=aa.j7 B.1 {a with e:=d};have cM:=ac.jq (t':={a with e:=d,on:=false}) bm 3 (aD false) rfl u;obtain⟨_,_,_,fe,_,_,_,_,_,_,_,_,_,_,f⟩:=ac.en bm u;have bH:=f 3;go_wp2_with fail;go_end0;refine⟨rfl,?_⟩;have ar:a2=((x.cE n {a with e:=d}).cE n {a with e:=d,on:=false}):=by rw[<-a3.out,bz.out,aa.nM,<-aP.out,<-aj.out,aa.Kk,aG.out,bI.out,aM.out,a5.out,<-am.out,aG.out]
  rw[ar];exact cM
end
section
variable {ao w:ab} {S:Nat->Prop} {L:bu} {s:aa} {k:Nat}
theorem aa.Km (a:s.tasks[n]?=R t):s.cE n t=s:=by
 obtain⟨b,c⟩:=bD.1 a;unfold aa.cE;have:s.tasks.set n t=s.tasks:=by rw[<-c];exact List.set_getElem_self b
 rw[this]
theorem Kn (i:Nat) (z:i<s.c.aO) (a:ex) (A:a.g=t.g) (q:s.tasks[n]?=R t) (hk:s.Ok k) (W:ab) (f:ax ao S L (s.cE n a) W):Calls au 36 #[aX L.b,aX (L.tk n),I J (i:Int)] W λe w'=>e=aK (I J (s.least t i))∧∃d,w'=W.drewN d:=by
 have l:=hk.ep (p:=(i:Int)) (by omega) (by omega);rw[bZ] at l;obtain⟨g,cap,P,B,u⟩:=f.iT (hk.lens.cE n a) z;obtain⟨T,D⟩:=f.aY (p:=i) (h:=s.aY (i:Int)) l;have j:=C (λd=>Calls.quiet_of_same (n:=d) (xo T (L.hk i) (s.aY (i:Int)) (s.aw t.g).h.idx (W.drewN d) (D.frame ((Mod.refl (λ_=>False) W).drewN d) (λ_ _=>id)) (hk.aY i _ l).1));have E:=hk.jz q;have o:=(f.task (aa.j7 q a)).cell 5 (v:=aX (L.gk a.g)) rfl;rw[A] at o;have w:=(f.aw (n:=t.g) E).cell 1 (v:=I J (s.aw t.g).h.idx) rfl;have F:(i:Int)<(s.c.aO:Int):=by omega
 have Q:(i:Int).toNat=i:=by omega
 have U:(0:Int)<=(i:Int):=by omega
 unfold aa.least;obtain⟨m,y⟩:∃m,s.c.aO=m:=⟨_,rfl⟩;rw[show(s.cE n a).c.aO=s.c.aO from rfl,y] at u;rw[y] at F;obtain⟨V,G⟩:∃x,L.hk i=x:=⟨_,rfl⟩;rw[G] at B j;obtain⟨b,H⟩:∃b,L.b=b:=⟨_,rfl⟩;rw[H] at u⊢;obtain⟨X,K⟩:∃b,L.tk n=b:=⟨_,rfl⟩;rw[K] at o⊢;obtain⟨Y,M⟩:∃b,L.gk t.g=b:=⟨_,rfl⟩;rw[M] at o w;obtain⟨x,N⟩:∃x,(s.aw t.g).h.idx=x:=⟨_,rfl⟩;rw[N] at w j⊢;obtain⟨r,O⟩:∃r,(s.aY (i:Int)).minOf x=r:=⟨_,rfl⟩;rw[O] at j⊢;unfold aX at*;go_enter func36,ntmps36;go_wp2_with fail;go_quiet ((go_at_call 76;with_reducible exact j.out _));go_wp2_with fail;go_ret;exact⟨rfl,nq,rfl⟩
theorem tH (F:s.tasks[n]?=R t) (bL:t.on=false) (bd:t.dead=false) (i:Nat) (aR:i<s.c.aO) (j:Bool) (H:ax ao S L s w) (hk:s.Ok k):Calls au 100 #[aX L.b,aX (L.tk n),I J (i:Int),aD j] w λe w'=>e=aK (bC #[])∧ax ao S L (s.put n i j) w':=by
 have be:=C (aa.put_eq F (i:Int) j);obtain⟨ad,hF⟩:∃ad,s.put n i j=ad:=⟨_,rfl⟩;have bN:=C hF;rw[hF];have cW:=C (hk.z6 F bL bd (p:=(i:Int)) (by omega) (by omega) j);have aB:=hk.ep (p:=(i:Int)) (by omega) (by omega);rw[bZ] at aB;have bS:=C aB;have aM:=hk.jz F;have aS:=C aM;have bi:=C (hk.aY i _ aB).1;have q:=C F;have V:=C aR;have aA:=C H;have W:=C hk;obtain⟨g,cap,aU,_,_⟩:=H.iT hk.lens aR;obtain⟨m,aP⟩:∃m,s.c.aO=m:=⟨_,rfl⟩;have c8:(i:Int)<(m:Int):=by omega
 have c_:=C aP;rw[aP] at aU;have aV:=C aU;have da:(i:Int).toNat=i:=by omega
 have aI:(0:Int)<=(i:Int):=by omega
 obtain⟨bT,bX,bV,b1,aZ,al,b3,b6,bR,bs,b9,aG,bv,a6,l⟩:=H.en F rfl;unfold aX at*;obtain⟨b,ak⟩:∃b,L.b=b:=⟨_,rfl⟩;have G:=C ak;rw[ak];obtain⟨r,a7⟩:∃b,L.tk n=b:=⟨_,rfl⟩;have f:=C a7;rw[a7] at aZ aG a6⊢;go_enter func100,ntmps100;go_upto_if 13 with(fail);go_cut [13] from 14 to 34 (λ_ ab=>ax ao S L (s.cE n {t with e:=s.lI t i}) ab);case first=>
  by_cases X:(i:Int)=t.p;·have Y:s.lI t i=t.e:=(by unfold aa.lI;rw[if_pos X]);have Z:((i:Int)!=t.p)=false:=(by simp[X]);have u:=C (show s.cE n {t with e:=s.lI t i}=s by rw[Y];exact aa.Km q.out);go_wp2_with fail;go_meet;case rel=>rw[u.out];exact aA.out
  ·have Y:s.lI t i={t.e with v:=(kU t.e.v t.mn (s.least t i)).1}:=(by unfold aa.lI;rw[if_neg X]);have Z:((i:Int)!=t.p)=true:=(by simp[X]);have y:=C (BN q.out i V.out aA.out.drew W.out);unfold aX at y;rw[G.out,f.out] at y;obtain⟨z,aL⟩:∃x,s.least t i=x:=⟨_,rfl⟩;rw[aL] at y Y;have u:=C Y;go_wp2_with fail;go_region_with (first|(go_at_call 36;refine y.out.mono ?_;rintro e a1 ⟨rfl,nq,rfl⟩)|(go_at_call 141;refine(A0 t.e.v t.mn z _).mono ?_;rintro e K ⟨rfl,M⟩;have N:=aA.out.next (w':=K) (by first|exact(below_drewN (Below.refl _ _) _).trans M|exact(below_drewN (Below.refl _ _).drew _).trans M);obtain⟨_,_,_,_,_,_,_,_,_,_,_,cc,_,_,l⟩:=N.en q.out f.out;have cf:=l 11;have ae:=C N));all_goals obtain⟨A,D⟩:∃A,K.setCell ⟨r,11,U⟩ (I J (kU t.e.v t.mn z).1)=A:=⟨_,rfl⟩;rw[D];have d:=ae.out.jq (t':={t with e:={t.e with v:=(kU t.e.v t.mn z).1}}) q.out 11 (I J (kU t.e.v t.mn z).1) rfl f.out;rw[D] at d;rw[<-u.out] at d;have am:=C d;go_wp2_with fail;go_meet;case rel=>exact am.out
 case rest=>
  obtain⟨a,a8⟩:∃a:ex,{t with e:=s.lI t i}=a:=⟨_,rfl⟩;rw[a8] at hcut;have O:=C a8;have P:=C hcut;go_upto_if 35 with(fail);go_cut [35] from 36 to 54 (λ_ ab=>ax ao S L (s.cE n {a with e:=s.gl t i j}) ab);case first=>
   cases j with
   |false=>have u:=C (show({a with e:=s.gl t i false}:ex)=a by rw[<-O.out];rfl);go_wp2_with fail;go_meet;case rel=>rw[u.out];exact P.out
   |true=>have y:=C (Kn i V.out a (by rw[<-O.out]) q.out W.out wc.drew P.out.drew);unfold aX at y;rw[G.out,f.out] at y;have u:=C (show s.gl t i true={a.e with v:=ic a.e.v (s.least t i) s.c.ch} by rw[<-O.out];rfl);obtain⟨z,aL⟩:∃x,s.least t i=x:=⟨_,rfl⟩;rw[aL] at y u;have ba:=P.out.top.cell 3 I6;rw[G.out,show(s.cE n a).c.ch=s.c.ch from rfl] at ba;obtain⟨aq,cg⟩:∃x,s.c.ch=x:=⟨_,rfl⟩;rw[cg] at ba u;have aN:=C (aa.j7 q.out a);obtain⟨_,_,_,_,_,_,_,_,_,_,_,aG,_,_,l⟩:=P.out.en aN.out f.out;go_wp2_with fail;go_region_with (first|(go_at_call 36;refine y.out.mono ?_;rintro e a1 ⟨rfl,nq,rfl⟩)|(go_at_call 146;refine(AZ a.e.v z aq _).mono ?_;rintro e K ⟨rfl,M⟩;have N:=P.out.next (w':=K) (by first|exact(below_drewN (Below.refl _ _) _).trans M|exact(below_drewN (Below.refl _ _).drew _).trans M);obtain⟨_,_,_,_,_,_,_,_,_,_,_,cc,_,_,l⟩:=N.en aN.out f.out;have cf:=l 11;have ae:=C N));all_goals obtain⟨A,D⟩:∃A,K.setCell ⟨r,11,U⟩ (I J (ic a.e.v z aq))=A:=⟨_,rfl⟩;rw[D];have d:=ae.out.jq (t':={a with e:={a.e with v:=ic a.e.v z aq}}) aN.out 11 (I J (ic a.e.v z aq)) rfl f.out;rw[D,aa.nM,<-u.out] at d;have am:=C d;go_wp2_with fail;go_meet;case rel=>exact am.out
  case rest=>obtain⟨E,av⟩:∃E:ex,{a with e:=s.gl t i j}=E:=⟨_,rfl⟩;rw[av] at hcut;have aj:=C av;have ap:=C (aa.j7 q.out E);obtain⟨bT,bX,bV,b1,aZ,al,b3,b6,bR,bs,b9,aG,bv,a6,l⟩:=hcut.en ap.out f.out;have cZ:=l 4;have de:=l 3;have cj:=C hcut;go_upto_region 5 with fail;obtain⟨A,D⟩:∃A,(wc.setCell ⟨r,4,U⟩ (I J (i:Int))).setCell ⟨r,3,U⟩ (aD true)=A:=⟨_,rfl⟩;rw[D];have cm:=cj.out.jq (t':={E with p:=(i:Int)}) ap.out 4 (I J (i:Int)) rfl f.out;have d:=cm.jq (t':={E with p:=(i:Int),on:=true}) (aa.j7 ap.out _) 3 (aD true) rfl f.out;rw[D,aa.nM,aa.nM] at d;obtain⟨B,ac⟩:∃B:ex,{E with p:=(i:Int),on:=true}=B:=⟨_,rfl⟩;rw[ac] at d;have cn:=C ac;have b8:=aa.j7 q.out B;have bb:B.g=t.g:=(by rw[<-ac,<-aj.out,<-O.out]);have ag:B.e=s.gl t i j:=(by rw[<-ac,<-aj.out]);obtain⟨bh,bG,df,di,ca,bf,dA,dF,bn,cr,bB,bW,cu,dG,l⟩:=d.en b8 f.out;obtain⟨cB,cG⟩:=d.fF (W.out.lens.cE n B) V.out aV.out;have bc:=(d.aw (n:=t.g) aS.out).cell 1 (v:=I J (s.aw t.g).h.idx) rfl;obtain⟨T,bg,cJ⟩:=d.drew.xt (p:=i) bS.out;have bj:=C (br bb ag);obtain⟨o,an⟩:∃o,s.gl t i j=o:=⟨_,rfl⟩;have aQ:=C an;rw[bb] at bf;rw[ag,an] at cr bB bW cu;rw[G.out] at cG;obtain⟨Z,bl⟩:∃x,L.hk i=x:=⟨_,rfl⟩;rw[bl] at cB bg;have bo:=C bl;obtain⟨bm,bq⟩:∃x,L.gk t.g=x:=⟨_,rfl⟩;rw[bq] at bf bc;have bt:=C bq;obtain⟨Q,ai⟩:∃x,(s.aw t.g).h.idx=x:=⟨_,rfl⟩;rw[ai] at bc;have bw:=C ai;have a0:=C (JH T Z (s.aY (i:Int)) Q o A.drew bg bi.out);obtain⟨bk,b_⟩:∃x,(s.aY (i:Int)).dE Q o=x:=⟨_,rfl⟩;rw[b_] at a0;have bz:=C (cJ (I J bk) ((s.aY (i:Int)).put Q o));rw[bo.out] at bz;go_region_held3 (λW'=>W'.cell? ⟨b,105,U⟩=R (ay (R ⟨g,0,U⟩) m cap)∧W'.cell? ⟨g,i,U⟩=R (af (R ⟨Z,0,U⟩))∧W'.cell? ⟨r,5,U⟩=R (af (R ⟨bm,0,U⟩))∧W'.cell? ⟨bm,1,U⟩=R (I J Q)∧W'.cell? ⟨r,9,U⟩=R (I J o.id)∧W'.cell? ⟨r,10,U⟩=R (I ah o.wt)∧W'.cell? ⟨r,11,U⟩=R (I J o.v)∧W'.cell? ⟨r,12,U⟩=R (I ah o.rem)) ((refine⟨?_,?_,?_,?_,?_,?_,?_,?_⟩)<;>(with_reducible repeat(first|assumption|refine b2 ?_))) (first|(go_at_call 147;refine a0.out.mono ?_;rintro e cq cM;obtain⟨rfl,az⟩:=bz.out e cq cM;obtain⟨dH,dI,bx,dB,dT,a2,dU,ce,dV,a3,a4,a5,bF,bu,l⟩:=az.en (aa.j7 q.out B) f.out;have a9:=(az.aw (n:=t.g) aS.out).cell 1 (v:=I J (s.aw t.g).h.idx) rfl;obtain⟨aC,bI⟩:=az.fF ((W.out.lens.cE n B).bU _ _) V.out aV.out;rw[bj.out.1,bt.out] at a2;rw[bj.out.2,aQ.out] at a3 a4 a5 bF;rw[bt.out,bw.out] at a9;rw[bo.out] at aC;rw[G.out] at bI;have ar:=C az));all_goals clear a2 a3 a4 a5 bF a9 aC bI;go_wp2_with fail;go_end0;refine⟨rfl,?_⟩;have a_:ad=(s.cE n B).bU (i:Int) ((s.aY (i:Int)).put Q o):=(by rw[<-bN.out,be.out,bw.out,aQ.out,<-cn.out,<-aj.out,<-O.out,aQ.out]);rw[a_];exact ar.out
end
variable {n₀:Nat} {zs:List Int}
def Ko (L:bu) (l:List Nat) (w:ab) (e:Ending) (w':ab):Prop:=∃v,e=aK v∧Own dp w' w.heap.size 65 v l.length (l.map λg=>R (L.gk g))∧Below w.heap.size w w'
def rS (s:aa):Option Nat->List Nat
 |none=>[]
 |some g=>if(s.aw g).limited then[g] else[]
theorem aa.Kp (s:aa) (l:List (Option Nat)) (o:Option Nat):s.limited (l++[o])=s.limited l++rS s o:=by
 unfold aa.limited;rw[List.filterMap_append];congr 1;cases o with
 |none=>rfl
 |some g=>
  by_cases h:(s.aw g).limited=true;·simp[h,rS]
  ·simp[h,rS]
theorem aa.Kq {s:aa} {l:List (Option Nat)} {o:Option Nat} (e:l[j]?=R o):s.limited (l.take (j+1))=s.limited (l.take j)++rS s o:=by rw[gL,e,lY,aa.Kp]
theorem aa.Kr (s:aa) (l:List (Option Nat)):(s.limited l).length<=l.length:=by unfold aa.limited;exact List.length_filterMap_le _ _
theorem Rd.p_ {zs:List (Option Nat)} (h:Rd dp n₀ W a n zs) (f:0<n):∃b d,a=R ⟨b,d,U⟩∧b<n₀∧∀j c,zs[j]?=R c->W.cell? ⟨b,d+j,U⟩=R (cU c):=by obtain⟨b,d,e,g,i⟩:=h.cells f;refine⟨b,d,e,g,λj c k=>?_⟩;have:=i j c k 0 (cU c) rfl;simpa[dp] using this
section
variable {ao w:ab} {S:Nat->Prop} {L:bu} {s:aa} {k:Nat}
theorem xv (a:Option Addr) (cap:Nat) (l:List (Option Nat)) (H:ax ao S L s w) (M:Rd dp w.heap.size w a l.length (l.map λo=>o.map L.gk)) (Z:l.length<=1000000) (aq:∀g,R g∈l->g<s.groups.length):Calls au 61 #[ay a l.length cap] w (Ko L (s.limited l) w):=by
 have ac:=C aq;obtain⟨n,N⟩:=aW l.length;have O:=C N;rw[N] at Z M⊢;go_enter func61,ntmps61;go_wp2_with fail;go_loopw [3,5,8] (λv u i W=>∃j:Nat,j<=n∧i=I J (j:Int)∧Own dp W w.heap.size 65 v (s.limited (l.take j)).length ((s.limited (l.take j)).map λg=>R (L.gk g))∧Below w.heap.size w W) (λ_ _ i _=>n-(intOf i).toNat);case atStart=>exact⟨0,by omega,rfl,Own.nil _ _ _,Below.refl _ _⟩
 case round=>
  obtain⟨j,a7,rfl,h,b⟩:=hrel;by_cases az:j<n;·obtain⟨o,A⟩:∃o,l[j]?=R o:=⟨_,b5 (by rw[O.out];exact az)⟩;have r:=aa.Kq (s:=s) A;obtain⟨ad,aB,aA,aG,ab⟩:=M.p_ (by omega);subst aA;have t:=(b.cell (p:=⟨ad,aB+j,U⟩) aG).trans (ab j (o.map L.gk) (by rw[dD,A];rfl));have a8:(j:Int)<(n:Int):=(by omega);have ba:(0:Int)<=(j:Int):=(by omega);have bb:(j:Int).toNat=j:=(by omega);cases o with
   |none=>
    have c:=C (show s.limited (l.take (j+1))=s.limited (l.take j) by rw[r];simp[rS]);simp only[Option.map_none,cU] at t;go_wp2_with fail;go_roundw;case rel=>exact⟨j+1,by omega,by go_num,by rw[c.out];exact h,b⟩
    case measure=>simp[intOf];omega
   |some g=>
    have aL:=ac g (ea A);obtain⟨G,D⟩:∃G,s.groups[g]?=R G:=⟨_,b5 aL⟩;have P:s.aw g=G:=aa.lL D;have Q:=H.next b;have d:=(Q.aw D).cell 5 (v:=cU (G.band.map λ_=>L.bd g)) rfl;simp only[iH,cU,aX] at t;cases k:G.band with
    |none=>
     have c:=C (show s.limited (l.take (j+1))=s.limited (l.take j) by rw[r];show s.limited (l.take j)++(if(s.aw g).limited then[g] else[])=_;rw[P];unfold cb.limited;rw[k];simp);rw[k] at d;simp only[Option.map_none,cU] at d;generalize E:L.gk g=f at t d;go_wp2_with fail;refine(AL _).mono ?_;rintro e F ⟨rfl,rfl⟩;go_wp2_with fail;go_roundw;case rel=>exact⟨j+1,by omega,by go_num,by rw[c.out];exact h,b⟩
     case measure=>simp[intOf];omega
    |some B=>
     have q:=C (AK (Q.band D k));have T:(s.aw g).limited=B.limited:=(by rw[P];unfold cb.limited;rw[k]);rw[k] at d;simp only[iH,cU,aX] at d;obtain⟨f,E⟩:=aW (L.gk g);have ae:=C E;rw[E] at t d;generalize ag:L.bd g=bf at d q;cases y:B.limited with
     |false=>
      have c:=C (show s.limited (l.take (j+1))=s.limited (l.take j) by rw[r];show s.limited (l.take j)++(if(s.aw g).limited then[g] else[])=_;rw[T,y];simp);rw[y] at q;go_wp2_with fail;refine q.mono ?_;rintro e F ⟨rfl,rfl⟩;go_wp2_with fail;go_roundw;case rel=>exact⟨j+1,by omega,by go_num,by rw[c.out];exact h,b⟩
      case measure=>simp[intOf];omega
     |true=>
      have c:=C (show s.limited (l.take (j+1))=s.limited (l.take j)++[g] by rw[r];show s.limited (l.take j)++(if(s.aw g).limited then[g] else[])=_;rw[T,y];simp);rw[y] at q;have K:=C (h.alloc (av #[af (R ⟨f,0,U⟩)] 65));have V:w.heap.size<=(wr.alloc (av #[af (R ⟨f,0,U⟩)] 65)).heap.size:=(by have:=b.size;simp;omega);have X:(s.limited (l.take j)).length<=10000000:=(by have am:=s.Kr (l.take j);rw[iG] at am;omega);have aN:=C (show∀z u,(dp.e (R f))[z]?=R u->(wr.alloc (av #[af (R ⟨f,0,U⟩)] 65)).cell? ⟨wr.heap.size,z,U⟩=R u fromλz u aj=>dz.trans (by rw[<-aj];show([af (R ⟨f,0,U⟩)]:List Value).toArray[z]?=_;rw[fg];rfl));obtain⟨m,Y⟩:=aW ((s.limited (l.take j)).length);have ap:=C Y;rw[Y] at K X;go_wp2_with fail;refine q.mono ?_;rintro e F ⟨rfl,aQ⟩;subst aQ;go_wp2_with ((at_builtin;refine jB B0 rfl _ _ rfl w.heap.size _ m _ rfl K F.heap.size _ (R f) rfl aN X V ?_;intro ah u aR aS aU;have aP:=C aR;have aV:=C (show Grow _ u _ ah from Grow.gR aS aU);have aZ:=C (show Below w.heap.size w u from(b.alloc b.size _).trans (aV.below V (λa6 x=>(K.lt a6 x).1)))));go_roundw;case rel=>exact⟨j+1,by omega,by go_num,by rw[c.out,eX,n2,ap.out,iI,List.map_singleton,ae.out];exact aP,aZ⟩
      case measure=>simp[intOf];omega
  ·obtain rfl:j=n:=by omega
   have ak:l.take j=l:=(by rw[uZ];rw[O.out];exact bK _);rw[ak] at h;go_wp2_with fail;go_ret;exact⟨_,rfl,h,b⟩
end
section
variable {ao w W:ab} {S:Nat->Prop} {L:bu} {s:aa} {k:Nat}
theorem ax.rT (H:ax ao S L s w) (b:Below w.heap.size w W):∃c:Nat->Prop,(∀k,c k->k<w.heap.size)∧ax W c L s W∧∀(d:bu) (f:aa) (w':ab),ax W c d f w'->ax ao S d f w':=by
 obtain⟨h,tag,H⟩:=H;refine⟨λk=>tag k≠ .no∧k<w.heap.size,λk a=>a.2,?_,?_⟩
 ·refine hZ.start (tag:=fQ w tag .no) ⟨(H.next b).part,λk j e=>?_⟩;unfold fQ at e;split at e;·rename_i a;exact⟨e,a⟩
  ·exact absurd rfl e
 ·rintro d f w' ⟨m,n,l⟩;refine⟨?_,n,l.part,λk j e=>?_⟩
  ·refine(h.hV b).trans m (λi o a=>?_);rcases H.own i a.2 a.1 with g|g;·exact g
   ·exact absurd o (by omega)
  ·rcases l.own k j e with a|a;·exact H.own k a.2 a.1
   ·exact .inr (cA h.size (cA b.size a))
theorem ax.kept {a:Nat->Prop} (H:ax W a L s W') (d:∀k,a k->k<n₀) (c:W.cell? ⟨b,o,U⟩=R v) (f:n₀<=b):W'.cell? ⟨b,o,U⟩=R v:=H.1.cell c (ir c) (λe=>by have:=d b e;omega)
theorem ax.size {W':ab} (H:ax ao S L s W'):ao.heap.size<=W'.heap.size:=H.1.size
theorem ax.k6 {h h':ad} {f:Nat} {args:Array Value} {V:Value} (H:ax ao S L s w) (a:s.hiers[i]?=R h) (b:∀T,cO w T (L.hk i) h->Calls au f args w (dv T (L.hk i) V h' w)):Calls au f args w λe w'=>e=aK V∧ax ao S L (s.bU i h') w':=by obtain⟨T,c,d⟩:=H.xt a;exact(b T c).mono (λe w' g=>d V h' e w' g)
theorem ax.dw (H:ax ao S L s w) {G:cb} (b:s.groups[g]?=R G) {gb:Nat} (e:L.gk g=gb):w.cell? ⟨gb,0,U⟩=R (I J g)∧w.cell? ⟨gb,1,U⟩=R (I J G.h.idx)∧w.cell? ⟨gb,2,U⟩=R (I J G.h.gen)∧w.cell? ⟨gb,3,U⟩=R (I ah G.shares)∧w.cell? ⟨gb,4,U⟩=R (I J G.quota)∧w.cell? ⟨gb,5,U⟩=R (cU (G.band.map λ_=>L.bd g))∧w.cell? ⟨gb,6,U⟩=R (cU (G.line.map λ_=>L.ln g))∧∀i,w.frozen? ⟨gb,i,U⟩=false:=by subst e;have a:=H.aw b;exact⟨a.cell 0 rfl,a.cell 1 rfl,a.cell 2 rfl,a.cell 3 rfl,a.cell 4 rfl,a.cell 5 rfl,a.cell 6 rfl,λi=>a.free i⟩
end
section
variable {ao w:ab} {S:Nat->Prop} {L:bu} {s:aa} {k:Nat}
def tJ (s:aa) (g:Nat) (r:aa) (x:Nat×Nat):aa:=if 0<s.load g x.1 then r.bU x.1 ((r.aY x.1).bO (s.aw g).h.idx x.2) else r
def k7 (s:aa) (g j:Nat):aa:=((s.mg g).take j).foldl (tJ s g) s
theorem aa.KD (s:aa) (g:Nat):s.bO g=k7 s g (s.mg g).length:=by unfold k7;rw[hL];rfl
theorem KE {x:Nat×Nat} (e:(s.mg g)[j]?=R x):k7 s g (j+1)=tJ s g (k7 s g j) x:=by unfold k7;rw[gL,e,lY,si];rfl
theorem aa.KF (s:aa) (g:Nat):(s.mg g).length=s.c.aO:=by unfold aa.mg jV;simp
theorem aa.Ok.k7 (h:s.Ok k) (g j:Nat):cI k s (k7 s g j):=by
 unfold Go.Proofs.YtddbkdjcjoofpaaGreatDoor.k7;refine lM _ _ s h ?_;intro x e r d;have o:x.1<s.c.aO:=by have e:=List.mem_of_mem_take e;unfold aa.mg at e;have:=(List.of_mem_zip (a:=x.1) (b:=x.2) e).1;simpa using this
 unfold tJ;split
 ·have f:(0:Int)<=(x.1:Int):=by omega
  have m:(x.1:Int)<r.c.aO:=by rw[d.du.c];omega
  have l:=d.ok.ep f m;have n:=d.ok.aY _ _ l;exact⟨d.ok.bU f l (n.1.bO _ _) (ad.zq _ _ _) (λj i=>(ad.zS _ _ _ j _).1),cN.bU _ _ _⟩
 ·exact cI.refl d.ok
theorem aa.Ok.xy (h:s.Ok k) (g:Nat) (p:Int):s.load g p<=k*262144:=by unfold aa.load;refine cA (BS 262144 _ λt a=>?_) (n3 _ h.eJ.1);obtain⟨n,b⟩:=lp.1 a;exact(h.task n t b).w.2
def ho (s:aa) (g j:Nat):List Nat:=(gi j).map λp:Nat=>s.load g p
theorem Ca (s:aa) (g j:Nat):ho s g (j+1)=ho s g j++[s.load g (j:Int)]:=by unfold ho;rw[oa,iI];rfl
theorem qa (s:aa) (g j:Nat):(ho s g j).length=j:=by unfold ho;simp
theorem KG (s:aa) (g:Nat) (h:i<j):nat (ho s g j) i=s.load g (i:Int):=by unfold nat ho;rw[dD,sg h];rfl
theorem KH (s:aa) (g:Nat) (h:j<s.c.aO):(s.mg g)[j]?=R (j,nat (jV (s.aw g).shares (ho s g s.c.aO)) j):=by
 have a:(jV (s.aw g).shares (ho s g s.c.aO)).length=s.c.aO:=by unfold jV;rw[dY,qa]
 unfold aa.mg;rw[List.getElem?_zip_eq_some];refine⟨sg h,?_⟩;exact rU (l:=jV (s.aw g).shares (ho s g s.c.aO)) (by rw[a];exact h)
theorem Cb (c:Nat):∀l:List Nat,(∀n∈l,n<=c)->l.sum<=l.length*c
 |[],_=>gN _
 |a::l,h=>by have d:=Cb c l (λn b=>h n (hK _ b));have e:=h a e5;rw[List.sum_cons,dX,Nat.succ_mul];omega
theorem KI (g:Nat) (G:g<s.groups.length) (bz:g≠0) (H:ax ao S L s w) (hk:s.Ok k) (aB:k<=100000):Calls au 60 #[aX L.b,aX (L.gk g)] w λe w'=>e=aK (bC #[])∧ax ao S L (s.bO g) w':=by
 obtain⟨a2,hF⟩:=aW (s.bO g);have a3:=C hF;rw[hF];have aA:=hk.oD G;have a4:=C aA;have a5:=C (hk.aw g _ aA bz).shares;have aG:=H.top.cell 0 oS;obtain⟨m,aL⟩:=aW s.c.aO;have y:=C aL;have aI:m<=64:=by have:=hk.aO;omega
 rw[aL] at aG;have K:=C (λ(W:ab) (M:Below w.heap.size w W) (p:Int)=>tE g G p (H.next M) hk aB);unfold aX at*;obtain⟨b,ae⟩:=aW L.b;have am:=C ae;rw[ae] at aG K⊢;obtain⟨bF,aN⟩:=aW (L.gk g);have N:=C aN;rw[aN] at K⊢;go_enter func60,ntmps60;go_wp2_with fail;go_loopw [4,5,13] (λv u i W=>∃j:Nat,j<=m∧i=I J (j:Int)∧Own iU W w.heap.size 31 v j (ho s g j)∧Below w.heap.size w W) (λ_ _ i _=>m-(intOf i).toNat);case atStart=>exact⟨0,by omega,rfl,Own.nil _ _ _,Below.refl _ _⟩
 case round=>
  obtain⟨j,cZ,rfl,O,t⟩:=hrel;by_cases de:j<m
  ·have a9:(j:Int)<(m:Int):=(by omega);have bh:(j:Int).toNat=j:=(by omega);have aj:=C (K wr t (j:Int));have ap:=C (Ca s g j);generalize aC:s.load g (j:Int)=cF at aj ap;go_wp2_with fail;refine aj.mono ?_;rintro e z ⟨rfl,aQ⟩;have P:Below w.heap.size w z:=t.trans (aQ.mono t.size);have aR:=C ((O.next' aQ).alloc (av #[I ah (cF:Int)] 31));have aS:w.heap.size<=(z.alloc (av #[I ah (cF:Int)] 31)).heap.size:=(by have:=P.size;simp;omega);have bI:j<=10000000:=(by omega);have bL:=C (show∀a u,(iU.e cF)[a]?=R u->(z.alloc (av #[I ah (cF:Int)] 31)).cell? ⟨z.heap.size,a,U⟩=R u fromλa u aU=>dz.trans (by rw[<-aU];show([I ah (cF:Int)]:List Value).toArray[a]?=_;rw[fg];rfl));go_wp2_with ((at_builtin;refine jB xw rfl _ _ rfl w.heap.size _ j _ rfl aR z.heap.size _ cF rfl bL bI aS ?_;intro bd u be bN bS;have aM:=C be;have bi:=C (show Grow _ u _ bd from Grow.gR bN bS);have bT:=C (show Below w.heap.size w u from(P.alloc P.size _).trans (bi.below aS (λbX x=>(aR.lt bX x).1)))));go_roundw;case rel=>exact⟨j+1,by omega,by go_num,by rw[ap.out];exact aM,bT⟩
   case measure=>simp[intOf];omega
  ·obtain rfl:j=m:=by omega
   obtain⟨A,aP,bV,rfl,bG,df,di,b1⟩:=O.rd;have aV:∀n∈ho s g j,n<=100000*262144:=λn B=>by unfold ho at B;obtain⟨p,_,rfl⟩:=eY.1 B;exact cA (hk.xy g (p:Int)) (n3 _ aB)
   have al:=Cb _ _ aV;rw[A] at al;have Q:=C (KB aP bV (ho s g j) (s.aw g).shares a5.2 wr (by rw[A];exact b1) (by rw[A];omega) (λn B=>by have:=aV n B;omega) (by omega));rw[A] at Q;obtain⟨b3,aZ,b6,a6,bR,bs,b9,ak⟩:=(H.next t).dw a4 N;obtain⟨V,a7⟩:=aW ((s.aw g).shares);have bv:=C a7;rw[a7] at a6 Q;have a1:=C O;have cc:(jV V (ho s g j)).length=j:=(by unfold jV;rw[dY,A]);have cf:=C cc;go_wp2_with fail;refine Q.mono ?_;rintro e X ⟨ca,rfl,Y,a8⟩;rw[cf.out] at Y;obtain⟨_,cg,dA,rfl,_,_,_,cj⟩:=Y.rd;have cm:Below w.heap.size w X:=t.trans (a8.mono t.size);obtain⟨ba,cn,bb,b8⟩:=H.rT cm;have ag:=C cn;have cr:=C b8;have bf:=a1.next' a8;obtain⟨_,_,_,bc,_,_,_,bB⟩:=bf.rd;simp only[Value.slice.injEq] at bc;obtain⟨rfl,_,rfl⟩:=bc;have bW:=C (show∀(i:Nat),i<j->∀(W:ab) (r:aa),ax X ba L r W->(∃f o,aP=R ⟨f,o,U⟩∧W.cell? ⟨f,o+i,U⟩=R (I ah (nat (ho s g j) i:Nat)))∧(∃f o,cg=R ⟨f,o,U⟩∧W.cell? ⟨f,o+i,U⟩=R (I ah (nat (jV V (ho s g j)) i:Nat))) fromλi bg W r d=>by obtain⟨f,o,rfl,dF,cu⟩:=bB.rV (by omega);obtain⟨Z,bj,rfl,bn,cB⟩:=cj.rV (by omega);have cG:=(bf.lt f rfl).1;have dG:=(Y.lt Z rfl).1;exact⟨⟨f,o,rfl,d.kept ag (cu i bg) cG⟩,⟨Z,bj,rfl,d.kept ag (cB i bg) (by have:=t.size;omega)⟩⟩);obtain⟨an,cap,bl,_,_⟩:=bb.iT hk.lens (p:=0) (by have:=hk.aO;omega);rw[y.out] at bl;have bo:=C bl;obtain⟨D,E⟩:=aW ((s.aw g).h.idx);have bm:=C E;go_wp2_with fail;go_loopw [6,7,31] (λv u i W=>∃a:Nat,a<=j∧i=I J (a:Int)∧ax X ba L (k7 s g a) W) (λ_ _ i _=>j-(intOf i).toNat);case atStart=>exact⟨0,by omega,rfl,bb⟩
   case round=>
    obtain⟨a,aU,rfl,d⟩:=hrel;by_cases aq:a<j
    ·have a9:(a:Int)<(j:Int):=(by omega);have dH:(0:Int)<=(a:Int):=(by omega);have dI:(a:Int).toNat=a:=(by omega);obtain⟨⟨f,o,rfl,bq⟩,⟨Z,bj,rfl,cJ⟩⟩:=bW a aq wr _ d;have q:=KE (KH s g (j:=a) (by rw[y.out];exact aq));rw[y.out,bv.out] at q;unfold tJ at q;dsimp only at q;rw[bm.out] at q;rw[KG s g aq] at bq;have l:=hk.k7 g a;generalize bx:k7 s g a=r at d q l;generalize dB:nat (jV V (ho s g j)) a=bt at cJ q;generalize aC:s.load g (a:Int)=cF at bq q;have ai:=C q;by_cases bw:0<cF;·have dT:(0:Int)<(cF:Int):=(by omega);have dU:r.c.aO=j:=(by rw[l.du.c];exact y);have ac:=l.ok.ep (p:=(a:Int)) (by omega) (by omega);rw[bZ] at ac;have az:=C (d.drew.k6 ac (λT bk=>KC T (L.hk a) (r.aY (a:Int)) D bt wr.drew bk (l.ok.aY a _ ac).1));have aD:r.groups[g]?=R (r.aw g):=l.ok.oD (by rw[l.du.len];exact G);have E:(r.aw g).h.idx=D:=(by rw[l.du.h];exact bm);obtain⟨b3,aZ,b6,a6,bR,bs,b9,ak⟩:=d.dw aD N;obtain⟨b_,cq⟩:=d.fF l.ok.lens (p:=a) (by omega) bo;have F:=C (br l.ok.lens (br aD (br E (show a<r.c.aO by omega))));rw[E] at aZ;rw[am.out] at cq;obtain⟨M,a0⟩:∃x,L.hk a=x:=⟨_,rfl⟩;have cM:=C a0;rw[a0] at b_ az;obtain⟨ce,ar⟩:∃x,(r.aY (a:Int)).fL D bt=x:=⟨_,rfl⟩;rw[ar] at az;have dV:(j:Int)<=64:=(by omega);go_wp2_with fail;go_region_held3 (λW'=>W'.cell? ⟨b,105,U⟩=R (ay (R ⟨an,0,U⟩) j cap)∧W'.cell? ⟨an,a,U⟩=R (af (R ⟨M,0,U⟩))∧W'.cell? ⟨bF,1,U⟩=R (I J D)) ((refine⟨?_,?_,?_⟩)<;>(repeat(first|(with_reducible assumption)|(with_reducible refine b2 ?_)))) (first|(go_at_call 116;refine az.mono ?_;rintro e bu ⟨rfl,ad⟩;obtain⟨eo,a_,ci,eu,ck,ev,ew,ak⟩:=ad.dw (g:=g) F.2.1 N;obtain⟨cW,c8⟩:=ad.fF (F.1.bU _ _) (p:=a) F.2.2.2 bo;rw[F.out.2.2.1] at a_;rw[cM.out] at cW;rw[am.out] at c8;have c_:=C ad));all_goals
      go_wp2_with fail;go_roundw;case rel=>exact⟨a+1,by omega,by go_num,by rw[ai.out,if_pos bw];exact c_⟩
      case measure=>simp[intOf];omega
     ·have ey:cF=0:=(by omega);go_wp2_with fail;go_roundw;case rel=>exact⟨a+1,by omega,by go_num,by rw[ai.out,if_neg bw];exact d⟩
      case measure=>simp[intOf];omega
    ·obtain rfl:a=j:=by omega
     go_wp2_with fail;go_end0;refine⟨rfl,cr _ _ _ ?_⟩;have da:a2=k7 s g a:=(by rw[<-a3.out,aa.KD,aa.KF,y.out]);rw[da];exact d
end
section
variable {ao w:ab} {S:Nat->Prop} {L:bu} {s:aa} {k:Nat}
def o6 (g:Nat) (r:aa) (p:Nat):aa:=if r.load g p=0 then r.bP g (λb=>b.ret p) else r
def gu (s:aa) (g j:Nat):aa:=(gi j).foldl (o6 g) s
theorem aa.KK (s:aa) (g:Nat):s.returns g=gu s g s.c.aO:=rfl
theorem xB (s:aa) (g j:Nat):gu s g (j+1)=o6 g (gu s g j) j:=by unfold gu;rw[oa,si];rfl
theorem aa.Ok.gu (h:s.Ok k) (g j:Nat):cI k s (gu s g j):=by
 unfold Go.Proofs.YtddbkdjcjoofpaaGreatDoor.gu;refine lM _ _ s h ?_;intro x c r a;unfold o6;split;·exact⟨a.ok.bP _ _ (λb=>b.z8 _),cN.bP _ _ _⟩
 ·exact cI.refl a.ok
theorem bA.gu {c:Int} (h:bA c s.groups) (h0:0<=c) (d:c<=1000000000000000) (g j:Nat):bA c (gu s g j).groups:=by
 unfold Go.Proofs.YtddbkdjcjoofpaaGreatDoor.gu;refine nN _ (λr x a=>?_) _ s h;unfold o6;split;·exact a.bP (jw _) g λb e=>e.ret h0 d _
 ·exact a
def dq (s:aa) (g:Nat):Prop:=∃b,(s.aw g).band=R b∧0<b.quota
theorem dq.congr {r:aa} (h:dq s g) (e:r.groups=s.groups):dq r g:=by unfold dq aa.aw at h⊢;rw[e];exact h
theorem dq.bP {g:Nat} (h:dq s g) {f:aM->aM} (a:∀b,(f b).quota=b.quota):dq (s.bP g f) g:=by obtain⟨b,c,d⟩:=h;exact⟨f b,by rw[aa.rY c],by rw[a];exact d⟩
theorem dq.b7 {g:Nat} (h:dq s g) (f:List Int->List Int):dq (s.b7 g f) g:=by
 obtain⟨b,a,c⟩:=h;cases aP:(s.aw g).line with
 |none=>unfold aa.b7;rw[aP];exact⟨b,a,c⟩
 |some l=>exact⟨b,by rw[aa.tP aP];exact a,c⟩
theorem aM.xC (b:aM) (p:Int):(b.cP p).quota=b.quota:=by unfold aM.cP;split<;>(try split)<;>(try split)<;>rfl
theorem aM.Cf (b:aM) (p:Int):(b.ret p).quota=b.quota:=by unfold aM.ret;split<;>rfl
theorem dq.gu {g:Nat} (h:dq s g):∀j,dq (gu s g j) g
 |0=>h
 |j+1=>by
  rw[xB];unfold o6;split;·exact(dq.gu h j).bP λb=>b.Cf _
  ·exact dq.gu h j
theorem dq.eK {g:Nat} (h:dq s g) (p:Int) (l:List Int):dq (eK s g p l) g:=by
 unfold Go.Proofs.YtddbkdjcjoofpaaGreatDoor.eK;split;·have:dq (((s.b7 g λ_=>l).bP g (λb=>b.cP p))) g:=(h.b7 _).bP λb=>b.xC p;exact this.congr rfl
 ·exact((h.b7 _).bP λb=>b.xC p).b7 _
theorem bA.eK {c:Int} (h:bA c s.groups) (d:c<=1000000000000000) (g:Nat) (p:Int) (l:List Int):bA c (eK s g p l).groups:=by
 unfold Go.Proofs.YtddbkdjcjoofpaaGreatDoor.eK;have a:bA c ((s.b7 g λ_=>l).bP g (λb=>b.cP p)).groups:=(h.b7 g _).bP (jw _) g λb e=>e.cP d p;split;·exact a
 ·exact a.b7 g _
theorem aa.Ok.eK (h:s.Ok k) {g:Nat} {p:Int} {l:List Int} (q:s.il g=p::l):cI k s (eK s g p l):=by
 have i:=aa.wH q;obtain⟨u,v,w,e,x⟩:=h.q2 i;have f:=e p e5;have j:cI k s (s.b7 g λ_=>l):=⟨h.b7 g _ λm n a b=>by rw[i] at n;cases n;exact⟨λr t=>a r (hK _ t),(jL.1 b).2⟩,cN.b7 _ _ _⟩;have d:=j.trans ⟨j.ok.bP g (λb=>b.cP p) (λb=>b.q3 p),cN.bP _ _ _⟩;have o:p<(((s.b7 g λ_=>l).bP g (λb=>b.cP p)).c.aO:Int):=by rw[d.du.c];exact f.2
 unfold Go.Proofs.YtddbkdjcjoofpaaGreatDoor.eK;split;·exact d.trans ⟨d.ok.stop g f.1 o false,cN.stop _ _ _ _⟩
 ·exact d.trans ⟨d.ok.sT g f.1 o,cN.b7 _ _ _⟩
theorem Cg {c:Int} (a:c<=1000000000000000) (g:Nat):∀(n m:Nat) (s:aa),s.Ok k->bA c s.groups->dq s g->iV s g<n->iV s g<m->aa.hand n s g=aa.hand m s g
 |0,_,s,_,_,_,h,_=>by omega
 |_+1,0,s,_,_,_,_,h=>by omega
 |n+1,m+1,s,h,d,aP,aq,aA=>by
  rw[aa.qc,aa.qc];split;·rfl
  ·rename_i j;split;·rfl
   ·rename_i p l e;obtain⟨b,f,i⟩:=aP;have o:=Ce h d a f i e j;exact Cg a g n m _ (h.eK e).ok (d.eK a g p l) (dq.eK ⟨b,f,i⟩ p l) (by omega) (by omega)
theorem aa.Ok.KL (h:s.Ok k) (a:∀l,(s.aw g).line=R l->l.length<=64):iV s g<=65:=by
 unfold iV aa.il;split;·omega
 ·cases aP:(s.aw g).line with
  |none=>simp
  |some l=>have:=a l aP;simp;omega
theorem KM {c:Int} (a:c<=1000000000000000) {p:Int} (h:s.Ok k) (e:bA c s.groups) (m:dq s g) (d:s.il g=p::l) (f:¬(s.im g).pool<=0) (o:iV s g<=65):aa.hand 66 s g=aa.hand 66 (eK s g p l) g∧iV (eK s g p l) g<iV s g:=by obtain⟨b,i,j⟩:=m;have n:=Ce h e a i j d f;refine⟨?_,n⟩;rw[aa.qc 65,z0 f,d];exact Cg a g 65 66 _ (h.eK d).ok (e.eK a g p l) (dq.eK ⟨b,i,j⟩ p l) (by omega) (by omega)
end
variable {aE:Value}
section
variable {ao w:ab} {S:Nat->Prop} {L:bu} {s:aa} {k:Nat}
theorem aa.qd {b:aM} (h:(s.aw g).band=R b) (f:aM->aM):s.bP g f=s.b0 g {s.aw g with band:=R (f b)}:=by unfold aa.bP;rw[h]
theorem aa.tQ (h:(s.aw g).line=R l) (f:List Int->List Int):s.b7 g f=s.b0 g {s.aw g with line:=R (f l)}:=by unfold aa.b7;rw[h]
theorem aa.Ch {G:cb} (h:s.groups[g]?=R G):s.b0 g G=s:=by
 obtain⟨a,b⟩:=bD.1 h;unfold aa.b0;have:s.groups.set g G=s.groups:=by rw[<-b];exact List.set_getElem_self a
 rw[this]
theorem Ci (ag:List Int) (p:Int):(if jn ag p=true then ag++[p] else ag)=fT ag p:=by
 have h:jn ag p=true↔0<=p∧ag.length≠64∧p∉ag:=by unfold jn;simp only[jb,decide_eq_true_eq,bne_iff_ne,ne_eq,sj];rw[<-Bool.not_eq_true,HD]
 unfold fT;by_cases q:jn ag p=true;·rw[if_pos q,if_pos (h.1 q)]
 ·rw[if_neg q,if_neg (λz=>q (h.2 z))]
theorem aa.Ok.lim (h:s.Ok k) (a:dq s g):∃b l,s.groups[g]?=R (s.aw g)∧(s.aw g).band=R b∧(s.aw g).line=R l∧s.im g=b∧s.il g=l∧0<b.quota∧(∀p∈l,0<=p∧p<(s.c.aO:Int))∧b.loc.length=s.c.aO:=by obtain⟨b,d,f⟩:=a;obtain⟨i,n,j,e⟩:=h.wG d;obtain⟨l,a,m,o⟩:=j.line;exact⟨b,l,i,d,a,by unfold aa.im;rw[d];rfl,by unfold aa.il;rw[a];rfl,f,m,e⟩
theorem KN (g:Nat) (cm:g<s.groups.length) (cn:dq s g) {c:Int} (aQ:bA c s.groups) (h0:0<=c) (b8:c<=1000000000000000) (H:ax ao S L s w) (hk:s.Ok k) (cr:k<=100000):Calls au 62 #[aX L.b,aX (L.gk g)] w λe w'=>e=aK (bC #[])∧ax ao S L (s.share g) w':=by
 obtain⟨aA,hF⟩:=aW (s.share g);have bB:=C hF;rw[hF];have bW:=C cm;have bw:=C cn;have cu:=C aQ;have cB:=C h0;have aG:=C b8;have aD:=C hk;have cG:=C cr;have cJ:=C H;have a0:=H.top.cell 0 oS;obtain⟨m,ah⟩:=aW s.c.aO;have bz:=C ah;have cs:m<=64:=by have:=hk.aO;omega
 rw[ah] at a0;obtain⟨a2,cap,a3,_,_⟩:=H.iT hk.lens (p:=0) (by have:=hk.aO;omega);rw[ah] at a3;have a4:=C a3;unfold aX at*;obtain⟨b,a5⟩:=aW L.b;have aR:=C a5;rw[a5] at a0⊢;obtain⟨bk,bF⟩:=aW (L.gk g);have M:=C bF;rw[bF];obtain⟨eT,b_⟩:=aW (L.bd g);have A:=C b_;obtain⟨a9,cq⟩:=aW (L.ln g);have q:=C cq;go_enter func62,ntmps62;go_wp2_with fail;go_loopw [4,12] (λu i W=>∃j:Nat,j<=m∧i=I J (j:Int)∧ax ao S L (gu s g j) W) (λ_ i _=>m-(intOf i).toNat);case atStart=>exact⟨0,by omega,rfl,cJ⟩
 case round=>
  obtain⟨j,eU,rfl,o⟩:=hrel;by_cases cv:j<m
  ·have eW:(j:Int)<(m:Int):=(by omega);have e2:(0:Int)<=(j:Int):=(by omega);have e3:(j:Int).toNat=j:=(by omega);have d:=aD.gu g j;have z:=bw.gu j;have aS:=xB s g j;generalize fe:gu s g j=r at o d z aS;unfold o6 at aS;have F:=C aS;have cM:g<r.groups.length:=(by rw[d.du.len];exact bW);have Z:=C (tE g cM (j:Int) o d.ok cG);unfold aX at Z;rw[aR.out,M.out] at Z;have N:=C o;have O:=C d;have ab:=C z;generalize ar:r.load g (j:Int)=cF at Z;have aC:=C ar;by_cases bI:cF=0
   ·subst bI;go_wp2_with fail;apply Z.mono;rintro e aL ⟨rfl,aU⟩;have t:=N.next aU;obtain⟨B,l,y,D,E,_⟩:=O.ok.lim ab;obtain⟨aP,bL,aV,aZ,a6,G,ae,am⟩:=t.dw y M;rw[D] at G;simp only[iH,cU,aX] at G;rw[A.out] at G;have be:=C (JY (j:Int) (t.band y D));rw[A.out] at be;have aq:=C t;have n:=C (br y D);go_wp2_with fail;apply be.mono;rintro e a_ bN;rw[<-A.out] at bN;obtain⟨rfl,ak⟩:=aq.o4 n.1 n.2 bN;have a7:=C ak;go_wp2_with fail;go_roundw;case rel=>exact⟨j+1,by omega,by go_num,by rw[F.out,if_pos aC.out,aa.qd n.out.2];exact a7⟩
    case measure=>simp[intOf];omega
   ·have bH:((cF:Int)==0)=false:=(by simp;omega);go_wp2_with fail;apply Z.mono;rintro e aL ⟨rfl,aU⟩;have aq:=C (N.next aU);go_wp2_with fail;go_roundw;case rel=>exact⟨j+1,by omega,by go_num,by rw[F.out,if_neg (by rw[aC.out];exact bI)];exact aq⟩
    case measure=>simp[intOf];omega
  ·obtain rfl:j=m:=by omega
   have cW:aA=aa.hand 66 (gu s g j) g:=(by rw[<-bB.out,<-bz.out];rfl);have bS:=C cW;have d:=aD.gu g j;have z:=bw.gu j;have ac:=cu.gu cB aG g j;generalize fG:gu s g j=s1 at o d z ac bS;have F:=C (br o (br d (br z ac)));go_wp2_with fail;go_loopg [5,6] (iV s1 g) (λc8 v u W=>∃r,c8=iV r g∧cI k s r∧bA c r.groups∧dq r g∧aa.hand 66 r g=aA∧ax ao S L r W);case atStart=>exact⟨s1,rfl,F.2.1,F.2.2.2,F.2.2.1,bS.symm,F.1⟩
   case round=>
    obtain⟨r,c_,d,ac,z,hF,o⟩:=hrel;obtain⟨B,l,y,D,E,P,a8,fH,aM,da⟩:=d.ok.lim z;obtain⟨aP,bL,aV,aZ,a6,G,ae,am⟩:=o.dw y M;rw[D] at G;rw[E] at ae;simp only[iH,cU,aX] at G ae;rw[A.out] at G;rw[q.out] at ae;have aN:=C (AM (o.band y D));rw[A.out] at aN;have n:=C (br y (br D (br E (br P (br a8 (br aM da))))));have N:=C o;have O:=C d;have bi:=C ac;have ab:=C z;have bT:=C hF;have bX:=C c_;by_cases ba:B.pool<=0;·have av:aA=r:=(by rw[<-hF,aa.qc 65,if_pos (by rw[P];exact ba)]);have bb:=C av;have aI:¬(0:Int)<B.pool:=(by omega);go_wp2_with fail;refine aN.mono ?_;rintro e bV ⟨rfl,rfl⟩;go_wp2_with fail;go_end0;exact⟨rfl,by rw[bb.out];exact N⟩
    ·have aI:(0:Int)<B.pool:=(by omega);have b1:=C (w0 a9 l wr (by rw[<-q.out];exact o.line y E));have cZ:=(o.line y E).le;have de:=C (λ(p:Int) (l':List Int) (e:l=p::l')=>KM aG d.ok ac z (a8.trans e) (by rw[P];exact ba) (d.ok.KL (λfI al=>by rw[E] at al;cases al;exact cZ)));cases l with
     |nil=>
      have av:aA=r:=(by rw[<-hF,aa.qc 65,if_neg (by rw[P];exact ba),a8]);have bb:=C av;go_wp2_with fail;apply aN.mono;rintro e bV ⟨rfl,rfl⟩;go_wp2_with fail;apply b1.mono;rintro e bh ⟨rfl,ag,bf⟩;have Q:=N.p9 n.1 n.2.2.1 (l':=[]) (by rw[q.out];exact ag) (by rw[q.out];exact bf);have bc:=C Q;rw[show(!([]:List Int).isEmpty)=false from rfl];go_wp2_with fail;first|go_end0|refine bodyPost_ret (results_none rfl _ _ _) rfl ?_
      refine⟨rfl,?_⟩;have:=bc.out;rw[show({r.aw g with line:=R []}:cb)=r.aw g by have:=n.out.2.2.1;cases bG:r.aw g;rw[bG] at this;simp only at this;subst this;rfl,aa.Ch n.out.1] at this;rw[bb.out];exact this
     |cons p l'=>
      obtain⟨df,di⟩:=de p l' rfl;have aj:=C (br df di);have ca:=aM p e5;have fJ:(r.c.aO:Int)=(j:Int):=(by have:=d.du.c;rw[this];exact congrArg Int.ofNat bz);obtain⟨i,rfl⟩:=dS ca.1;have fK:i<j:=(by omega);have fR:(i:Int)<(j:Int):=(by omega);have bE:(0:Int)<=(i:Int):=(by omega);have aJ:(i:Int).toNat=i:=(by omega);obtain⟨az,bg⟩:=aW (r.b7 g (λ_=>l'));have V:=aa.tQ E (λ_=>l');rw[bg] at V;have ad:=aa.tP E (λ_=>l');rw[bg] at ad;have b3:az.groups[g]?=R (az.aw g):=(by have:g<az.groups.length:=(by rw[V];unfold aa.b0;simp;exact(bD.1 y).1);unfold aa.aw;rw[dy,b5 this];rfl);have bj:(az.aw g).band=R B:=(by rw[ad];exact D);obtain⟨a,an⟩:=aW (az.bP g (λb=>b.cP (i:Int)));have X:=aa.qd bj (λb=>b.cP (i:Int));rw[an] at X;have bl:=aa.rY bj (λb=>b.cP (i:Int));rw[an] at bl;have dA:a.groups[g]?=R (a.aw g):=(by have:g<a.groups.length:=(by rw[X];unfold aa.b0;simp;exact(bD.1 b3).1);unfold aa.aw;rw[dy,b5 this];rfl);have dF:(a.aw g).line=R l':=(by rw[bl,ad]);have bn:(a.aw g).h=(r.aw g).h:=(by rw[bl,ad]);have fX:r.im g=B:=P;have dG:eK r g (i:Int) l'=if B.hz (i:Int) then a.stop g (i:Int) false else a.b7 g (λl=>fT l (i:Int)):=(by unfold eK;rw[P,bg,an]);have b6:a.hiers=r.hiers:=(by rw[X,V];rfl);have dH:a.c=r.c:=(by rw[X,V];rfl);have dI:eF a:=(by have:=d.ok.lens;rw[X,V];exact this);have bx:a.hiers[i]?=R (a.aY (i:Int)):=(by have Y:=d.ok.ep (p:=(i:Int)) (by omega) (by omega);rw[bZ] at Y;unfold aa.aY at Y⊢;rw[b6];exact Y);have dB:(a.aY (i:Int)).Ok:=(by have Y:=d.ok.ep (p:=(i:Int)) (by omega) (by omega);rw[bZ] at Y;have bR:=(d.ok.aY i _ Y).1;unfold aa.aY at bR⊢;rw[b6];exact bR);have K:=C (br V (br b3 bj));have f:=C (br X (br dA (br dF (br bn (br dI (br bx dB))))));have bo:=C dG;have bs:=C (show i<a.c.aO by rw[dH];omega);have fY:=C ad;generalize dT:B.hz (i:Int)=dU at bo;have ce:=C dT;go_wp2_with fail;apply aN.mono;rintro e bV ⟨rfl,rfl⟩;go_wp2_with fail;apply b1.mono;rintro e bh ⟨rfl,ag,bf⟩;have Q:=N.p9 n.1 n.2.2.1 (l':=l') (by rw[q.out];exact ag) (by rw[q.out];exact bf);rw[<-K.out.1] at Q;obtain⟨aP,bL,aV,aZ,a6,bm,dv,am⟩:=Q.dw K.2.1 M;rw[K.out.2.2] at bm;simp only[iH,cU,aX] at bm;rw[A.out] at bm;have b9:=C (s3 (i:Int) (Q.band K.2.1 K.2.2));rw[A.out,ce.out] at b9;have bc:=C Q;rw[show s7 ((i:Int)::l')=(i:Int) from rfl,show(!((i:Int)::l').isEmpty)=true from rfl];go_wp2_with fail;apply b9.mono;rintro e aL bv;rw[<-A.out] at bv;obtain⟨rfl,t⟩:=bc.o4 K.2.1 K.2.2 bv;rw[<-f.out.1] at t;obtain⟨aP,dV,aV,aZ,a6,fZ,bq,am⟩:=t.dw f.2.1 M;rw[f.out.2.2.1] at bq;simp only[iH,cU,aX] at bq;rw[q.out] at bq;have aq:=C t;cases dU with
      |true=>have aB:=bo.out;rw[if_pos rfl] at aB;have bt:=C aB;have ap:=C (t.drew.k6 f.2.2.2.2.2.1 (λT bu=>xn T (L.hk i) (a.aY (i:Int)) (a.aw g).h.idx false aL.drew bu f.2.2.2.2.2.2));obtain⟨eo,ci⟩:=t.fF f.2.2.2.2.1 bs a4;rw[aR.out] at ci;obtain⟨aQ,a1⟩:∃x,L.hk i=x:=⟨_,rfl⟩;have eu:=C a1;rw[a1] at eo ap;obtain⟨cc,cf⟩:∃x,(a.aw g).h.idx=x:=⟨_,rfl⟩;have cg:=C cf;rw[cf] at dV ap;obtain⟨aE,ck⟩:∃x:Int,(if((a.aY (i:Int)).linked cc).isSome then 0 else 1)=x:=⟨_,rfl⟩;rw[ck] at ap;go_wp2_with fail;go_region_held3 (λW'=>W'.cell? ⟨b,105,U⟩=R (ay (R ⟨a2,0,U⟩) j cap)∧W'.cell? ⟨a2,i,U⟩=R (af (R ⟨aQ,0,U⟩))∧W'.cell? ⟨bk,1,U⟩=R (I J cc)) ((refine⟨?_,?_,?_⟩)<;>(with_reducible repeat(first|assumption|refine b2 ?_))) (first|(go_at_call 94;refine ap.mono ?_;rintro e f_ ⟨rfl,ai⟩;obtain⟨gw,ev,ch,gF,gG,bJ,gH,am⟩:=ai.dw (g:=g) f.2.1 M;obtain⟨ew,ey⟩:=ai.fF (f.2.2.2.2.1.bU _ _) (p:=i) bs a4;rw[cg.out] at ev;rw[eu.out] at ew;rw[aR.out] at ey;have co:=C ai));all_goals
       go_wp2_with fail;go_roundg (iV (eK r g (i:Int) l') g);case measure=>rw[bX.out];exact aj.2
       case rel=>refine⟨eK r g (i:Int) l',rfl,O.trans (O.ok.eK n.2.2.2.2.1),bi.eK aG g _ _,ab.eK _ _,by rw[<-aj.out.1];exact bT,?_⟩;rw[bt.out];unfold aa.stop;rw[cg.out];exact co
      |false=>
       have aB:=bo.out;rw[if_neg (by decide)] at aB;have bt:=C aB;have cj:=C (AW a9 l' (i:Int) aL (by rw[<-q.out];exact t.line f.2.1 f.2.2.1));obtain⟨gI,eG⟩:=aW (jn l' (i:Int));rw[Ci,eG] at cj;go_wp2_with fail;apply cj.mono;rintro e a_ ⟨rfl,eH,eI⟩;have ak:=aq.p9 f.2.1 f.2.2.1 (l':=fT l' (i:Int)) (by rw[q.out];exact eH) (by rw[q.out];exact eI);have a7:=C ak;go_wp2_with fail;go_roundg (iV (eK r g (i:Int) l') g);case measure=>rw[bX.out];exact aj.2
       case rel=>refine⟨eK r g (i:Int) l',rfl,O.trans (O.ok.eK n.2.2.2.2.1),bi.eK aG g _ _,ab.eK _ _,by rw[<-aj.out.1];exact bT,?_⟩;rw[bt.out,aa.tQ f.out.2.2.1];exact a7
end
variable {aH:Bool}
section
variable {ao w:ab} {S:Nat->Prop} {L:bu} {s:aa} {k:Nat}
theorem ax.r0 (H:ax ao S L s w) (a:n<s.tasks.length):∃g cap,L.tv=ay (R ⟨g,0,U⟩) s.tasks.length cap∧w.cell? ⟨g,n,U⟩=R (af (R ⟨L.tk n,0,U⟩))∧w.cell? ⟨L.b,7,U⟩=R (ay (R ⟨g,0,U⟩) s.tasks.length cap):=by obtain⟨T,c⟩:=H.fy .fx;obtain⟨g,cap,e,d,f,h,i⟩:=dM.cell c (tw a);rw[oZ] at e;refine⟨g,cap,e,d,?_⟩;have:=H.top.cell 7 p4;rw[e] at this;exact this
theorem ax.r1 {B:aM} (H:ax ao S L s w) (b:s.groups[g]?=R (s.aw g)) (c:(s.aw g).band=R B) {gb bd:Nat} (d:L.gk g=gb) (e:L.bd g=bd):w.cell? ⟨gb,5,U⟩=R (af (R ⟨bd,0,U⟩)):=by obtain⟨f,h,i,j,k,a,l,m⟩:=H.dw b d;rw[c] at a;subst e;exact a
theorem ax.Cj (H:ax ao S L s w) (b:s.groups[g]?=R (s.aw g)) (c:(s.aw g).line=R l) {gb bd:Nat} (d:L.gk g=gb) (e:L.ln g=bd):w.cell? ⟨gb,6,U⟩=R (af (R ⟨bd,0,U⟩)):=by obtain⟨f,h,i,j,k,m,a,n⟩:=H.dw b d;rw[c] at a;subst e;exact a
theorem aa.KR (p:Int) (ls:List Nat) (r:aa) (h:ls[j]?=R g):aa.asks p (ls.drop j) r=if(r.im g).hz p then aa.asks p (ls.drop (j+1)) (r.bP g λb=>b.cP p) else(r.bP g λb=>b.cP p,R g):=by obtain⟨a,c⟩:=bD.1 h;rw[px a,c];rfl
theorem aa.nQ (h:g<s.groups.length):s.groups[g]?=R (s.aw g):=by unfold aa.aw;rw[dy,b5 h];rfl
theorem KS (i:Nat) (bI:i<s.c.aO) (H:ax ao S L s w) (hk:s.Ok k):Calls au 63 #[aX L.b,I J (i:Int)] w λe w'=>e=aK (aD (s.fC i).2)∧ax ao S L (s.fC i).1 w':=by
 obtain⟨Z,bL⟩:=aW ((s.fC i).1);obtain⟨c0,be⟩:=aW ((s.fC i).2);have ba:=C bL;have av:=C be;have ae:=C (aa.wI s i);rw[bL,be];have X:=hk.ep (p:=(i:Int)) (by omega) (by omega);rw[bZ] at X;have dF:=(hk.aY i _ X).1;obtain⟨bN,cap,bS,bb,am⟩:=H.iT hk.lens bI;obtain⟨bM,c2,aM,aN,Y⟩:=H.tG hk.lens bI;have ag:=C (H.k6 X (λT bf=>xD T (L.hk i) (s.aY (i:Int)) w bf dF));have bi:=hk.fB (p:=(i:Int)) (by omega) (by omega);obtain⟨f,K⟩:=aW (s.fB (i:Int));have bn:s.bU (i:Int) (s.aY (i:Int)).pick=f:=K;rw[bn] at ag;rw[K] at bi;have bT:cN s f:=by rw[<-K];exact cN.bU _ _ _
 rw[K] at ae;have z:=C bi;have c3:=C bT;obtain⟨m,bX⟩:=aW s.c.aO;have aq:=C (show f.c.aO=m by rw[bT.c];exact bX);have dG:(i:Int)<(m:Int):=by omega
 have aj:=C (show i<m by omega);rw[bX] at bS am aM Y;have bV:=C bS;have b1:=C aM;have c4:(i:Int).toNat=i:=by omega
 have dH:(0:Int)<=(i:Int):=by omega
 unfold aX at*;obtain⟨b,al⟩:=aW L.b;have N:=C al;rw[al] at am⊢;obtain⟨dI,b3⟩:=aW (L.hk i);have b6:=C b3;rw[b3] at bb ag;go_enter func63,ntmps63;go_wp2_with fail;apply ag.mono;rintro e c5 ⟨rfl,K⟩;have O:=C (o0 (i:Int) K z);unfold aX at O;rw[N.out] at O;have bR:=C K;rcases z.runs (i:Int) with ac|⟨n,t,ac,ap,bx,h3,_,_,_⟩;·rw[ac] at O;have aQ:=C ac;go_wp2_with fail;refine O.mono ?_;rintro e bc ⟨rfl,bg⟩;have E:=bR.next bg;have M:=z.pR (p:=(i:Int)) (by omega) (by have:=aq.out;have:=aj.out;omega);rw[bZ] at M;obtain⟨aN,Y⟩:=E.o5 z.lens (p:=i) (by have:=aq.out;have:=aj.out;omega) b1;have az:=C (w7 (-1) (E.gT M));rw[N.out] at Y;obtain⟨dB,ad⟩:∃b,L.ck i=b:=⟨_,rfl⟩;have bj:=C ad;rw[ad] at aN az;have an:=C M;have ah:=C E;go_wp2_with fail;refine az.mono ?_;rintro e dT bs;rw[<-bj.out] at bs;obtain⟨rfl,bl⟩:=ah.rR an bs;have dU:=C bl;go_wp2_with fail;go_ret;have d:=ae.out;rw[if_pos aQ.out] at d;refine⟨by rw[<-av.out,d];rfl,?_⟩;rw[<-ba.out,d];exact dU
 ·rw[ac] at O;have aQ:=C ac;have bo:=C ap;have aR:=(bD.1 ap).1;have b9:=z.task n t ap;have ce:=C (b9.live (b9.jY bx)).1;have dV:=C (z.jz ap);have bv:=C aR;have h4:=C z.eJ;have c9:(0:Int)<=(n:Int):=by omega
  have h5:(n:Int).toNat=n:=by omega
  have db:((n:Int)==-1)=false:=by simp
  go_wp2_with fail;apply O.mono;rintro e bc ⟨rfl,bg⟩;have E:=bR.next bg;obtain⟨iz,iA,iB,y,q⟩:=E.r0 bv;obtain⟨bQ,dg,iC,hH,iD,a1,dl,iW,iX,gU,jE,bO,ek,j8,cc⟩:=E.en bo rfl;have aB:=C (B1 t.g dV ce E z);unfold aX at aB;rw[N.out] at q aB;generalize fo:L.tk n=bW at y a1;generalize j9:L.gk t.g=gb at a1 aB;generalize j_:f.tasks.length=bu at q;have ka:(n:Int)<(bu:Int):=by have:=bv.out;omega
  obtain⟨wy,aS⟩:=aW (f.cC t.g);have cf:=C aS;rw[aS] at aB;have eo:∀g,R g∈wy->g<f.groups.length∧g≠0:=λg P=>by rw[<-aS] at P;obtain⟨j,kb,ci,a,b,c,bY⟩:=z.wJ P;cases ci;refine⟨(bD.1 a).1,?_⟩;rintro rfl;obtain⟨r,A,_,X,_⟩:=z.root;rw[a] at A;cases A;exact c (by rw[X];rfl)
  have eu:wy.length<=10:=by rw[<-aS];exact aa.tN _ _
  have cg:=C eo;have cj:=C eu;have ah:=C E;go_wp2_with fail;apply aB.mono;rintro e dT ⟨kc,rfl,ev,cm⟩;have bl:=ah.next cm;obtain⟨kd,ew,ey,rfl,_,_,_,co⟩:=ev.rd;have cn:=C (xv ew ey wy bl co (by have:=cj.out;omega) (λg P=>(cg g P).1));have b8:∀g,g∈f.limited wy->g<f.groups.length∧g≠0:=λg P=>cg g (aa.sU P).1;have cr:(f.limited wy).length<=10:=cA (aa.rX _ _) cj;obtain⟨F,bB⟩:=aW (f.limited wy);have cu:=C bB;rw[bB] at cn b8 cr;have eG:=C b8;have bm:=C cm;go_wp2_with fail;apply cn.mono;rintro e bq ⟨ke,rfl,cB,eH⟩;have eI:Below bc.heap.size bc bq:=bm.trans (eH.mono bm.size);obtain⟨cG,cs,eT,eU⟩:=ah.rT eI;have cJ:=C eU;obtain⟨aH,cv,kf,rfl,_,_,_,eW⟩:=cB.rd;have bA:=C (show∀(j g:Nat),F[j]?=R g->∀(W:ab) (r:aa),ax bq cG L r W->∃Q aA,cv=R ⟨Q,aA,U⟩∧W.cell? ⟨Q,aA+j,U⟩=R (af (R ⟨L.gk g,0,U⟩)) fromλj g bt W r A=>by have kg:=(bD.1 bt).1;obtain⟨Q,aA,rfl,kh,e2⟩:=eW.p_ (by omega);have ai:=(cB.lt Q rfl).1;exact⟨Q,aA,rfl,A.kept cs (e2 j (R (L.gk g)) (by rw[dD,bt];rfl)) (by have:=bm.out.size;omega)⟩);have e3:=C eT;obtain⟨aG,aR⟩:=aW F.length;have bk:=C aR;rw[aR] at cr⊢;go_wp2_with fail;go_loopw [7,43] (λv u W=>∃(j:Nat) (r:aa),j<=aG∧u=I J (j:Int)∧aa.asks (i:Int) F f=aa.asks (i:Int) (F.drop j) r∧cI k f r∧ax bq cG L r W) (λ_ u _=>aG-(intOf u).toNat);case atStart=>exact⟨0,f,by omega,rfl,rfl,cI.refl z,e3⟩
  case round=>
   obtain⟨j,r,bt,rfl,fe,G,A⟩:=hrel;have bw:=C fe;have bH:=C G;have b_:=C A;by_cases bC:j<aG;·obtain⟨g,a0⟩:∃g,F[j]?=R g:=⟨_,b5 (by rw[bk.out];exact bC)⟩;have kG:(j:Int)<(aG:Int):=(by omega);have kH:(0:Int)<=(j:Int):=(by omega);have kI:(j:Int).toNat=j:=(by omega);obtain⟨cq,fG⟩:=eG g (ea a0);have aU:r.groups[g]?=R (r.aw g):=aa.nQ (by rw[G.du.len];exact cq);obtain⟨⟨B,V,kJ⟩,⟨l,fH,b0,kK⟩,_⟩:=G.ok.aw g _ aU fG;have fI:r.im g=B:=(by unfold aa.im;rw[V];rfl);obtain⟨Q,aA,rfl,fJ⟩:=bA j g a0 wr r A;obtain⟨cF,bz⟩:∃b,L.gk g=b:=⟨_,rfl⟩;have a2:=C bz;rw[bz] at fJ;obtain⟨k8,a3⟩:∃b,L.bd g=b:=⟨_,rfl⟩;have fK:=C a3;obtain⟨fR,bE⟩:∃b,L.ln g=b:=⟨_,rfl⟩;have aP:=C bE;have k9:=A.r1 aU V bz a3;have a4:=C (s3 (i:Int) (A.band aU V));rw[a3] at a4;obtain⟨aJ,cM⟩:∃x,B.hz (i:Int)=x:=⟨_,rfl⟩;rw[cM] at a4;have ar:=C (aa.KR (i:Int) F r a0);have aV:=C (br cM fI);obtain⟨y,aZ⟩:∃y,r.bP g (λb=>b.cP (i:Int))=y:=⟨_,rfl⟩;have a_:=aa.qd V (λb=>b.cP (i:Int));rw[aZ] at a_;have ai:=aa.rY V (λb=>b.cP (i:Int));rw[aZ] at ai;have a5:cI k f y:=G.trans (by rw[<-aZ];exact⟨G.ok.bP g _ (λb=>b.q3 _),cN.bP _ _ _⟩);have fX:y.groups[g]?=R (y.aw g):=aa.nQ (by rw[a5.du.len];exact cq);have fY:(y.aw g).line=R l:=(by rw[ai];exact fH);have dv:y.c.aO=m:=(by rw[a5.du.c];exact aq);have cW:=C (br aU V);have o:=C (br aZ (br a_ (br a5 (br fX (br fY dv)))));have k_:=bH.out;go_wp2_with fail;refine a4.mono ?_;rintro e fZ c8;rw[<-fK.out] at c8;obtain⟨rfl,c_⟩:=b_.o4 cW.1 cW.2 c8;rw[<-o.out.2.1] at c_;have a6:=C c_;cases aJ with
    |true=>
     go_wp2_with fail;go_roundw;case rel=>refine⟨j+1,y,by omega,by go_num,?_,o.2.2.1,a6⟩;rw[bw.out,ar.out,aV.out.2,aV.out.1,if_pos rfl,o.out.1]
     case measure=>simp[intOf];omega
    |false=>have b4:=a6.Cj o.2.2.2.1 o.2.2.2.2.1 a2 aP;have da:=C (AW fR l (i:Int) fZ (by rw[<-aP.out];exact a6.line o.2.2.2.1 o.2.2.2.2.1));obtain⟨la,f_⟩:∃x,jn l (i:Int)=x:=⟨_,rfl⟩;rw[Ci,f_] at da;obtain⟨q,bF⟩:∃q,y.b7 g (λl=>fT l (i:Int))=q:=⟨_,rfl⟩;have aI:=aa.tQ o.2.2.2.2.1 (λl=>fT l (i:Int));rw[bF] at aI;have ak:cI k f q:=o.2.2.1.trans (by rw[<-bF];exact⟨o.2.2.1.ok.sT g dH (by rw[o.out.2.2.2.2.2];exact dG),cN.b7 _ _ _⟩);have gw:q.groups[g]?=R (q.aw g):=aa.nQ (by rw[ak.du.len,<-o.out.2.2.1.du.len];exact(bD.1 o.2.2.2.1).1);have ch:i<q.c.aO:=(by rw[ak.du.c,aq.out];exact aj);have cZ:=ak.ok.ep (p:=(i:Int)) (by omega) (by omega);rw[bZ] at cZ;have D:=C (br bF (br aI (br ak (br gw (br ch cZ)))));go_wp2_with fail;refine da.mono ?_;rintro e gF ⟨rfl,gG,bJ⟩;have a7:=a6.p9 o.2.2.2.1 o.2.2.2.2.1 (l':=fT l (i:Int)) (by rw[aP.out];exact gG) (by rw[aP.out];exact bJ);rw[<-D.out.2.1] at a7;have a8:=C (a7.drew.k6 D.2.2.2.2.2 (λT bf=>xn T (L.hk i) (q.aY (i:Int)) (q.aw g).h.idx true gF.drew bf (D.2.2.1.ok.aY i _ D.2.2.2.2.2).1));obtain⟨bb,am⟩:=a7.fF D.2.2.1.ok.lens D.2.2.2.2.1 bV;obtain⟨ld,gH,lf,lg,lh,ki,lj,cc⟩:=a7.dw D.2.2.2.1 a2;rw[N.out] at am;rw[b6.out] at bb a8;obtain⟨de,bh⟩:∃x,(q.aw g).h.idx=x:=⟨_,rfl⟩;have bG:=C bh;rw[bh] at gH a8;obtain⟨aE,gI⟩:∃x:Int,(if((q.aY (i:Int)).linked de).isSome then 0 else 1)=x:=⟨_,rfl⟩;rw[gI] at a8;go_wp2_with fail;go_region_held3 (λW'=>W'.cell? ⟨b,105,U⟩=R (ay (R ⟨bN,0,U⟩) m cap)∧W'.cell? ⟨bN,i,U⟩=R (af (R ⟨dI,0,U⟩))∧W'.cell? ⟨cF,1,U⟩=R (I J de)) ((refine⟨?_,?_,?_⟩)<;>(with_reducible repeat(first|assumption|refine b2 ?_))) (first|(go_at_call 94;refine a8.mono ?_;rintro e gV ⟨rfl,aL⟩;obtain⟨d0,df,d1,d2,d3,d4,d5,cc⟩:=aL.dw (g:=g) D.2.2.2.1 a2;obtain⟨di,ca⟩:=aL.fF (D.2.2.1.ok.lens.bU _ _) (p:=i) D.2.2.2.2.1 bV;rw[bG.out] at df;rw[b6.out] at di;rw[N.out] at ca;have a9:=C aL));all_goals clear df di ca;go_wp2_with fail;go_ret;have d:=ae.out;have aC:aa.asks (i:Int) F f=(y,R g):=(by rw[bw.out,ar.out,aV.out.2,aV.out.1,if_neg (by decide),o.out.1]);rw[aQ.out,if_neg (by omega),bZ,bo.out] at d;dsimp only at d;rw[cf.out,cu.out,aC] at d;dsimp only at d;rw[D.out.1] at d;refine⟨by rw[<-av.out,d];rfl,cJ _ _ _ ?_⟩;rw[<-ba.out,d];unfold aa.stop;rw[bG.out];exact a9
   ·obtain rfl:j=aG:=by omega
    have gW:i<r.c.aO:=(by rw[G.du.c,aq.out];exact aj);have M:=G.ok.pR (p:=(i:Int)) (by omega) (by omega);rw[bZ] at M;obtain⟨aN,Y⟩:=A.o5 G.ok.lens gW b1;have az:=C (w7 (n:Int) (A.gT M));rw[N.out] at Y;obtain⟨dB,ad⟩:=aW (L.ck i);have bj:=C ad;rw[ad] at aN az;have an:=C M;go_wp2_with fail;apply az.mono;rintro e gV dA;rw[<-bj.out] at dA;obtain⟨rfl,aL⟩:=b_.rR an dA;have a9:=C aL;go_wp2_with fail;go_ret;have d:=ae.out;have aC:aa.asks (i:Int) F f=(r,U):=(by rw[bw.out,List.drop_of_length_le (by rw[bk.out];exact bK _)];rfl);rw[aQ.out,if_neg (by omega),bZ,bo.out] at d;dsimp only at d;rw[cf.out,cu.out,aC] at d;dsimp only at d;refine⟨by rw[<-av.out,d];rfl,cJ _ _ _ ?_⟩;rw[<-ba.out,d];exact a9
end
theorem KU (L:List Value) (k:Nat) (v:Value) (hk:k<32) (hv:L[k]?=R v) (w:ab):(Instr.index 66 (bk L.toArray) (I J (k:Int))).run au w= .ok v w:=Cl (i:=(prog.info? 65).get (by kernel_rfl)) underlying66 (by kernel_rfl) (by kernel_rfl) underlying65 rfl L k v hk hv w
section
variable {ao w:ab} {S:Nat->Prop} {L:bu} {s:aa} {k:Nat}
def xE (r:aa) (o:Option Nat):aa:=match o with|none=>r|some g=>r.bO g
def fp (s:aa) (j:Nat):aa:=((s.places.take j).drop 1).foldl xE s
theorem KV {o:Option Nat} (a:0<j) (e:s.places[j]?=R o):fp s (j+1)=xE (fp s j) o:=by unfold fp;have b:=(bD.1 e).1;rw[gL,e,lY,List.drop_append_of_le_length (by rw[iG];omega),si];rfl
theorem KW (s:aa) (o:Option Nat) (e:s.places[0]?=R o):fp s 1=s:=by unfold fp;have:(s.places.take 1).drop 1=[]:=List.drop_eq_nil_of_le (by rw[iG];omega);rw[this];rfl
theorem aa.Ok.fp (h:s.Ok k) (j:Nat):cI k s (fp s j):=by
 unfold Go.Proofs.YtddbkdjcjoofpaaGreatDoor.fp;refine lM _ _ s h λo _ r a=>?_;cases o with
 |none=>exact cI.refl a.ok
 |some g=>exact a.ok.bO g
theorem KX (s:aa) (g:Nat):(s.bO g).groups=s.groups:=by
 unfold aa.bO;have:∀(l:List (Nat×Nat)) (r:aa),(l.foldl (λr x=>if 0<s.load g x.1 then r.bU x.1 ((r.aY x.1).bO (s.aw g).h.idx x.2) else r) r).groups=r.groups:=by
  intro l;induction l with
  |nil=>intro r;rfl
  |cons x l a=>intro r;rw[nk,a];split<;>rfl
 exact this _ _
theorem KY (s:aa) (j:Nat):(fp s j).groups=s.groups:=by
 unfold fp;have:∀(l:List (Option Nat)) (r:aa),(l.foldl xE r).groups=r.groups:=by
  intro l;induction l with
  |nil=>intro r;rfl
  |cons x l a=>
   intro r;rw[nk,a];cases x with
   |none=>rfl
   |some g=>exact KX r g
 exact this _ _
theorem dq.Cm {g':Nat} (h:dq s g) {f:aM->aM} (c:∀b,(f b).quota=b.quota):dq (s.bP g' f) g:=by
 by_cases e:g'=g;·rw[e];exact h.bP c
 ·obtain⟨b,a,d⟩:=h;refine⟨b,?_,d⟩;unfold aa.bP;cases j:(s.aw g').band with
  |none=>exact a
  |some k=>dsimp only;rw[aa.mj,z0 (λi=>e i.1.symm)];exact a
theorem dq.Cn {g':Nat} (h:dq s g) (f:List Int->List Int):dq (s.b7 g' f) g:=by
 by_cases e:g'=g;·rw[e];exact h.b7 f
 ·obtain⟨b,a,c⟩:=h;refine⟨b,?_,c⟩;unfold aa.b7;cases i:(s.aw g').line with
  |none=>exact a
  |some j=>dsimp only;rw[aa.mj,z0 (λd=>e d.1.symm)];exact a
theorem dq.hand {g g':Nat}:∀(n:Nat) (s:aa),dq s g->dq (aa.hand n s g') g
 |0,s,h=>h
 |n+1,s,h=>by
  rw[aa.qc];split;·exact h
  ·split;·exact h
   ·rename_i p l c;apply dq.hand n _;unfold Go.Proofs.YtddbkdjcjoofpaaGreatDoor.eK;have a:dq (((s.b7 g' λ_=>l).bP g' (λb=>b.cP p))) g:=(h.Cn _).Cm λb=>b.xC p;split;·exact a.congr rfl
    ·exact a.Cn _
theorem dq.share {g g':Nat} (h:dq s g):dq (s.share g') g:=by
 apply dq.hand 66 _;rw[aa.KK];have:∀j,dq (Go.Proofs.YtddbkdjcjoofpaaGreatDoor.gu s g' j) g:=by
  intro j;induction j with
  |zero=>exact h
  |succ j a=>
   rw[xB];unfold o6;split;·exact a.Cm λb=>b.Cf _
   ·exact a
 exact this _
def hq (s:aa) (ls:List Nat) (j:Nat):aa:=(ls.take j).foldl (λr g=>r.share g) s
theorem KZ {ls:List Nat} (e:ls[j]?=R g):hq s ls (j+1)=(hq s ls j).share g:=by unfold hq;rw[gL,e,lY,si];rfl
theorem aa.Ok.hq (h:s.Ok k) (ls:List Nat) (j:Nat):cI k s (hq s ls j):=by unfold Go.Proofs.YtddbkdjcjoofpaaGreatDoor.hq;exact lM _ _ s h λg _ r a=>a.ok.share g
theorem dq.hq {ls:List Nat} {g:Nat} (h:dq s g):∀j,dq (hq s ls j) g:=by
 intro j;unfold Go.Proofs.YtddbkdjcjoofpaaGreatDoor.hq;have:∀(l:List Nat) (r:aa),dq r g->dq (l.foldl (λr g=>r.share g) r) g:=by
  intro l;induction l with
  |nil=>intro r a;exact a
  |cons x l b=>intro r a;rw[nk];exact b _ a.share
 exact this _ _ h
theorem bA.hq {c:Int} (h:bA c s.groups) (h0:0<=c) (a:c<=1000000000000000) (ls:List Nat) (j:Nat):bA c (hq s ls j).groups:=by unfold Go.Proofs.YtddbkdjcjoofpaaGreatDoor.hq;exact nN _ (λr g b=>b.share h0 a g) _ s h
def kL (s:aa) (j:Nat):aa:=(gi j).foldl (λr (p:Nat)=>aa.hh 40 r p) s
theorem K0 (s:aa) (j:Nat):kL s (j+1)=aa.hh 40 (kL s j) j:=by unfold kL;rw[oa,si];rfl
theorem aa.Ok.kL (h:s.Ok k) {j:Nat} (d:j<=s.c.aO):cI k s (kL s j):=by unfold Go.Proofs.YtddbkdjcjoofpaaGreatDoor.kL;refine lM _ _ s h λp b r a=>?_;rw[pB] at b;exact aa.Ok.hh 40 r a.ok (by omega) (by rw[a.du.c];omega)
theorem aa.K1 (s:aa):s.settle=kL (hq (fp s s.places.length) ((fp s s.places.length).limited ((fp s s.places.length).places.drop 1)) ((fp s s.places.length).limited ((fp s s.places.length).places.drop 1)).length) (hq (fp s s.places.length) ((fp s s.places.length).limited ((fp s s.places.length).places.drop 1)) ((fp s s.places.length).limited ((fp s s.places.length).places.drop 1)).length).c.aO:=by unfold aa.settle kL hq fp;rw[hL];dsimp only;rw[hL];rfl
theorem aa.Ok.Co (h:s.Ok k) (f:0<i) (e:s.places[i]?=R (R g)):g<s.groups.length∧g≠0:=by obtain⟨G,a,j,c⟩:=h.place i g e;refine⟨(bD.1 a).1,?_⟩;rintro rfl;obtain⟨r,b,_,d,_⟩:=h.root;rw[a] at b;cases b;rw[d] at c;have:(bM.idx:Int)=0:=rfl;omega
def o7 (L:bu) (s:aa):List Value:=s.places.map λo=>cU (o.map L.gk)
theorem ax.places (H:ax ao S L s w) (hk:eF s) (e:L.b=b):w.rangeAt b 9 (o7 L s):=λj v a=>by subst e;unfold o7 at a;rw[dD] at a;obtain⟨o,c,rfl⟩:=h9.1 a;exact H.top.cell (9+j) (p6 hk.2.2.1 c)
theorem K2 {c:Int} (ay:bA c s.groups) (h0:0<=c) (aU:c<=1000000000000000) (H:ax ao S L s w) (hk:s.Ok k) (aP:k<=100000):Calls au 20 #[aX L.b] w λe w'=>e=aK (bC #[])∧ax ao S L s.settle w':=by
 generalize hF:s.settle=F;have bq:=C hF;have aV:=C hk.eB;obtain⟨m,bt⟩:=aW s.c.aO;have ai:=C bt;have cG:m<=64:=by have:=hk.aO;omega
 have aZ:(o7 L s).length=32:=by unfold o7;rw[dY];exact hk.eB
 have a6:∀(i:Nat) (o:Option Nat),s.places[i]?=R o->(o7 L s)[i]?=R (cU (o.map L.gk)):=λi o bw=>by unfold o7;rw[dD,bw];rfl
 obtain⟨b,ad⟩:=aW L.b;have t:=C ad;have z:=C (H.places hk.lens ad);generalize cJ:o7 L s=V at z aZ a6;have aD:=C aZ;have a0:=C a6;unfold aX at*;rw[ad];go_enter func20,ntmps20;go_wp2_with ((refine wpList_load_mid rfl _ _ rfl b 9 rfl V _ z underlying66 rfl (by rw[aD.out];kernel_rfl) ?_));go_loopw [2,3,11] (λu v i W=>∃j:Nat,j<=32∧i=I J (j:Int)∧ax ao S L (fp s j) W) (λ_ _ i _=>32-(intOf i).toNat);case atStart=>exact⟨0,by omega,rfl,H⟩
 case round=>
  obtain⟨j,aB,rfl,f⟩:=hrel;have Q:=C f;by_cases ak:j<32
  ·have a7:(j:Int)<32:=(by omega);have bz:(0:Int)<=(j:Int):=(by omega);have a2:(j:Int).toNat=j:=(by omega);obtain⟨o,A⟩:∃o,s.places[j]?=R o:=⟨_,b5 (by rw[aV.out];exact ak)⟩;have M:=KU V j _ ak (a0 j o A) wr;by_cases l:0<j;·have b_:(0:Int)<(j:Int):=(by omega);have n:=KV l A;cases o with
    |none=>
     have h:=C (show fp s (j+1)=fp s j from n);simp only[Option.map_none,cU] at M;go_wp2_with fail;go_roundw;case rel=>exact⟨j+1,by omega,by go_num,by rw[h.out];exact Q⟩
     case measure=>simp[intOf];omega
    |some g=>
     have h:=C (show fp s (j+1)=(fp s j).bO g from n);obtain⟨aA,a3⟩:=hk.Co l A;have d:=hk.fp j;have T:=C (KI g (by rw[d.du.len];exact aA) a3 Q d.ok aP);unfold aX at T;rw[t.out] at T;simp only[iH,cU,aX] at M;generalize a4:L.gk g=gb at T M;go_wp2_with fail;apply T.mono;rintro e N ⟨rfl,a5⟩;go_wp2_with fail;go_roundw;case rel=>exact⟨j+1,by omega,by go_num,by rw[h.out];exact a5⟩
     case measure=>simp[intOf];omega
   ·obtain rfl:j=0:=by omega
    have h:=C (KW s o A);generalize X:cU (o.map L.gk)=v at M;have cq:(Instr.index 66 (bk V.toArray) (I J 0)).run au wr= .ok v wr:=M;go_wp2_with fail;go_roundw;case rel=>exact⟨1,by omega,by go_num,by rw[h.out];exact Q⟩
    case measure=>simp[intOf]
  ·obtain rfl:j=32:=by omega
   have d:=hk.fp 32;have a8:=KY s 32;have Y:=aa.K1 s;rw[aV.out] at Y;generalize bF:fp s 32=s1 at d a8 Y;have q:=Q.out;rw[bF] at q;have a9:bA c s1.groups:=(by rw[a8];exact ay);have ba:(s1.places.drop 1).length=31:=(by rw[List.length_drop,d.ok.eB]);have av:∀g,R g∈s1.places.drop 1->g<s1.groups.length∧g≠0:=λg D=>by obtain⟨i,bb⟩:=lp.1 D;rw[List.getElem?_drop] at bb;exact d.ok.Co (by omega) bb
   have aC:Rd dp wr.heap.size wr (R ⟨b,10,U⟩) (s1.places.drop 1).length ((s1.places.drop 1).map λo=>o.map L.gk):=(by refine⟨by rw[dY],λ_=>⟨b,10,rfl,by rw[<-t.out];exact q.top.lt,λa cM l i v X=>?_⟩⟩;rw[dD,List.getElem?_drop] at l;obtain⟨o,A,rfl⟩:=h9.1 l;have bI:i=0:=(by have:=(bD.1 X).1;have ag:(dp.e (o.map L.gk)).length=1:=dp.len _;omega);subst bI;have bL:v=cU (o.map L.gk):=(by have:(dp.e (o.map L.gk))[0]?=R (cU (o.map L.gk)):=rfl;rw[this] at X;exact(Option.some.inj X).symm);subst bL;have:=q.top.cell (9+(1+a)) (p6 d.ok.eB A);rw[t.out] at this;rw[show 10+(a*dp.c+0)=9+(1+a) by show 10+(a*1+0)=_;omega];exact this);have aG:=C (xv (R ⟨b,10,U⟩) 31 (s1.places.drop 1) q aC (by omega) (λg D=>(av g D).1));rw[ba] at aG;generalize bf:s1.limited (s1.places.drop 1)=ls at aG Y;have bd:=C (show∀g,g∈ls->g<s1.groups.length∧dq s1 g fromλg D=>by
    rw[<-bf] at D;obtain⟨ag,E⟩:=aa.sU D;refine⟨(av g ag).1,?_⟩;unfold cb.limited at E;cases aL:(s1.aw g).band with
    |none=>rw[aL] at E;cases E
    |some B=>rw[aL] at E;exact⟨B,aL,by unfold aM.limited at E;simpa using E⟩)
   have be:=C (show ls.length<=31 by rw[<-bf,<-ba];exact aa.rX _ _);have ae:=C d;have am:=C Y;have bN:=C q;go_wp2_with fail;apply aG.mono;rintro e N ⟨ar,rfl,bc,bS⟩;obtain⟨aq,bi,bT,bX⟩:=bN.rT bS;have bV:=C bX;obtain⟨a_,b1,cW,rfl,_,_,_,al⟩:=bc.rd;have b3:=C (show∀(j g:Nat),ls[j]?=R g->∀(W:ab) (r:aa),ax N aq L r W->∃G O,b1=R ⟨G,O,U⟩∧W.cell? ⟨G,O+j,U⟩=R (af (R ⟨L.gk g,0,U⟩)) fromλj g aB W r f=>by have c8:=(bD.1 aB).1;obtain⟨G,O,rfl,c_,b6⟩:=al.p_ (by omega);have bR:=(bc.lt G rfl).1;exact⟨G,O,rfl,f.kept bi (b6 j (R (L.gk g)) (by rw[dD,aB];rfl)) bR⟩);obtain⟨K,ac⟩:=aW ls.length;have bs:=C ac;have da:K<=31:=(by rw[<-ac];exact be);rw[ac] at am;rw[ac];go_wp2_with fail;go_loopw [5,31] (λv u W=>∃j:Nat,j<=K∧u=I J (j:Int)∧ax N aq L (hq s1 ls j) W) (λ_ u _=>K-(intOf u).toNat);case atStart=>exact⟨0,by omega,rfl,bT⟩
   case round=>
    obtain⟨j,a2,rfl,f⟩:=hrel;by_cases b9:j<K
    ·obtain⟨g,aN⟩:∃g,ls[j]?=R g:=⟨_,b5 (by rw[bs.out];exact b9)⟩;have a7:(j:Int)<(K:Int):=(by omega);have bz:(0:Int)<=(j:Int):=(by omega);have aI:(j:Int).toNat=j:=(by omega);obtain⟨aA,bv⟩:=bd g (ea aN);have d:=ae.ok.hq ls j;have n:=KZ (s:=s1) aN;have h:=C n;have az:=C (KN g (by rw[d.du.len];exact aA) (bv.hq (ls:=ls) j) (a9.hq h0 aU ls j) h0 aU f d.ok aP);unfold aX at az;rw[t.out] at az;obtain⟨G,O,rfl,a1⟩:=b3 j g aN wr _ f;generalize a4:L.gk g=gb at az a1;go_wp2_with fail;apply az.mono;rintro e cZ ⟨rfl,cc⟩;go_wp2_with fail;go_roundw;case rel=>exact⟨j+1,by omega,by go_num,by rw[h.out];exact cc⟩
     case measure=>simp[intOf];omega
    ·obtain rfl:j=K:=by omega
     have ap:=ae.trans (ae.ok.hq ls j);generalize de:hq s1 ls j=s2 at f ap am;have bg:s2.c.aO=m:=(by rw[ap.du.c];exact ai);have aQ:=C bg;have cf:=C f;have cg:=f.top.cell 0 oS;rw[t.out,bg] at cg;go_wp2_with fail;go_loopw [6,44] (λv u W=>∃a:Nat,a<=m∧u=I J (a:Int)∧ax N aq L (kL s2 a) W) (λ_ u _=>m-(intOf u).toNat);case atStart=>exact⟨0,by omega,rfl,cf⟩
     case round=>
      obtain⟨a,bh,rfl,f⟩:=hrel;by_cases bG:a<m
      ·have a7:(a:Int)<(m:Int):=(by omega);have bj:(0:Int)<=(a:Int):=(by omega);have df:(a:Int).toNat=a:=(by omega);have d:=ap.ok.kL (j:=a) (by rw[aQ.out];omega);have n:=K0 s2 a;generalize di:kL s2 a=an at f d n;have h:=C n;have z:=C f;have cj:=C d;obtain⟨Z,bl⟩:=aW (kL s2 (a+1));have cm:=C bl;rw[bl] at h;go_wp2_with fail;go_loopg [47,48,49,50] ((an.aY (a:Int)).going) (λcn v u x y W=>∃r,cn=(r.aY (a:Int)).going∧cI k s2 r∧aa.hh 40 r (a:Int)=Z∧ax N aq L r W);case atStart=>exact⟨an,rfl,cj,h.symm,z⟩
       case round=>
        obtain⟨r,b8,d,l,f⟩:=hrel;have ca:r.c.aO=m:=(by rw[d.du.c];exact aQ);have P:=C (KS a (by omega) f d.ok);unfold aX at P;rw[t.out] at P;have ah:=C (d.ok.Gy (p:=(a:Int)) bj (by omega));have aR:=C (d.ok.fC (p:=(a:Int)) bj (by omega));have cr:=C b8;have bo:=C l;obtain⟨bm,q⟩:=aW ((r.fC (a:Int)).1);obtain⟨bB,bW⟩:=aW ((r.fC (a:Int)).2);rw[q,bW] at P ah aR;cases bB with
        |true=>
         go_wp2_with fail;apply P.mono;rintro e cu ⟨rfl,aS⟩;go_wp2_with fail;go_roundw;case rel=>refine⟨a+1,by omega,by go_num,?_⟩;rw[cm.out,<-bo.out,ah.out,aj (by trivial)];exact aS
         case measure=>simp[intOf];omega
        |false=>
         go_wp2_with fail;apply P.mono;rintro e cu ⟨rfl,aS⟩;go_wp2_with fail;go_roundg ((bm.aY (a:Int)).going);case measure=>rw[cr.out];exact aR.2 (by trivial)
         case rel=>refine⟨bm,rfl,d.trans aR.1,?_,aS⟩;rw[<-bo.out,ah.out,z0 (by first|decide|simp)]
      ·obtain rfl:a=m:=by omega
       have z:=C f;go_wp2_with fail;go_end0;refine⟨rfl,bV _ _ _ ?_⟩;have cB:F=kL s2 a:=(by rw[<-bq.out,am.out,aQ.out]);rw[cB];exact z
end
def cx (c a b n m d:Int):Array Value:=#[I J c,I J a,I J b,I J n,I J m,I ah d]
def mo (ao:ab) (S:Nat->Prop) (L:bu) (d:dO) (e:Ending) (w':ab):Prop:=e=aK (bC #[I J d.2.1,I J d.2.2])∧∃a,a.b=L.b∧ax ao S a d.1 w'
section
variable {ao w:ab} {S:Nat->Prop} {L:bu} {s:aa} {k:Nat}
theorem mY {a:aa} {n b:Int} (h:ax ao S L a w'):mo ao S L (a,n,b) (aK (bC #[I J n,I J b])) w':=⟨rfl,L,rfl,h⟩
theorem xF (n:Int) (w:ab):Calls au 83 #[I J n] w λe w'=>e=aK (aD (kv n))∧w'=w:=by
 unfold kv;by_cases a:2<=n
 ·by_cases b:n<=262144;·rw[show(decide (2<=n)&&decide (n<=262144))=true by simp[a,b]];go_enter func83,ntmps83;go_wp2;go_ret;exact⟨rfl,rfl⟩
  ·rw[show(decide (2<=n)&&decide (n<=262144))=false by simp[b]];go_enter func83,ntmps83;go_wp2;go_ret;exact⟨rfl,rfl⟩
 ·rw[show(decide (2<=n)&&decide (n<=262144))=false by simp[a]];go_enter func83,ntmps83;go_wp2;go_ret;exact⟨rfl,rfl⟩
theorem ax.enter (H:ax ao S L s w) (O:Obj) {V:ab} (d:w.alloc O=V):∃a:Nat->Prop,(∀k,a k->k<w.heap.size)∧ax V a L s V∧(∀(b:bu) (c:aa) (w':ab),ax V a b c w'->ax ao S b c w')∧V.heap[w.heap.size]?=R O:=by subst d;obtain⟨a,e,f,g⟩:=H.rT (bx w O);exact⟨a,e,f,g,l2 w O⟩
theorem aa.mZ {a:Int} (h:s.group a=U):kF L s a=af U:=by unfold kF;rw[h]
theorem aa.lk {a:Int} {G:cb} (h:s.group a=R G):kF L s a=af (R ⟨L.gk a.toNat,0,U⟩):=by unfold kF;rw[h];rfl
theorem ax.Cp {t t':cb} (H:ax ao S L s w) (a:s.groups[n]?=R t) (i:Nat) (v:Value) (c:t'.there=t.there) (d:t'.band=t.band) (e:t'.line=t.line) (f:(hn L n t).setIfInBounds i v=hn L n t') {b:Nat} (h:L.gk n=b):ax ao S L (s.b0 n t') (w.setCell ⟨b,i,U⟩ v):=by subst h;refine H.Ki a c d e ?_ (Mod.one _ _ _ _);rw[<-f];exact(H.aw a).set i v
theorem K3 (t a b n m u:Int) (H:ax ao S L s w) (hk:s.Ok k):Calls au 48 #[aX L.b,bk (cx t a b n m u)] w (mo ao S L (s.shares a n)):=by
 obtain⟨V,x⟩:=aW (w.alloc (av (cx t a b n m u) 33));obtain⟨W,X,l,E,A⟩:=H.enter _ x;have h:=C x;have o:=C E;have y:=C l;have F:=bJ (i:=1) A (v:=I J a) rfl;have Y:=bJ (i:=3) A (v:=I J n) rfl;have d:=C (k5 a l);generalize c:s.shares a n=Z;unfold aa.shares at c;unfold aX at*;obtain⟨aq,B⟩:=aW L.b;have ac:=C B;rw[B] at d⊢;unfold cx at h⊢;cases j:s.group a with
 |none=>rw[j] at c;have f:=C c;rw[aa.mZ j] at d;go_enter func48,ntmps48;go_upto_region 1 with fail;rw[h.out];go_wp2_with fail;refine d.mono ?_;rintro e z ⟨rfl,rfl⟩;go_wp2_with fail;go_ret2;rw[<-f.out];exact mY (o _ _ _ y)
 |some G=>
  obtain⟨K,p,az⟩:=aa.hi j;rw[j] at c;dsimp only at c;rw[aa.lk j] at d;obtain⟨g,rfl⟩:=dS K;rw[bZ] at d p c;obtain⟨ad,q⟩:=aW (L.gk g);have aB:=C q;rw[q] at d;obtain⟨aA,aG,ab,aL,af,ae,am,M⟩:=l.dw p q;have aN:=M 3;have ap:=C p;have r:=C (xF n V);by_cases D:(g:Int)=0
  ·rw[aj D] at c;have f:=C c;obtain rfl:g=0:=by omega
   have N:=C (show w.alloc (av #[I J t,I J 0,I J b,I J n,I J m,I ah u] 33)=V from x);have aQ:V.cell? ⟨w.heap.size,1,U⟩=R (I J 0):=F;go_enter func48,ntmps48;go_upto_region 1 with fail;first|rw[h.out]|rw[N.out]
   go_wp2_with fail;refine d.mono ?_;rintro e z ⟨rfl,rfl⟩;go_wp2_with fail;go_ret2;rw[<-f.out];exact mY (o _ _ _ y)
  ·rw[z0 D] at c;cases hw:kv n with
   |false=>rw[hw,aj rfl] at c;have f:=C c;rw[hw] at r;go_enter func48,ntmps48;go_upto_region 1 with fail;rw[h.out];go_wp2_with fail;refine d.mono ?_;rintro e z ⟨rfl,rfl⟩;go_wp2_with fail;refine r.mono ?_;rintro e O ⟨rfl,rfl⟩;go_wp2_with fail;go_ret2;rw[<-f.out];exact mY (o _ _ _ y)
   |true=>rw[hw,z0 (by decide)] at c;have f:=C c;rw[hw] at r;obtain⟨aR,aS⟩:=q4.1 hw;have aU:IntKind.u64.wrap n=n:=(by rw[ni];omega);have P:=C (show((n.toNat:Nat):Int)=n by omega);have Q:=l.Cp (t':={G with shares:=n.toNat}) p 3 (I ah n) rfl rfl rfl (by unfold hn;rw[P.out];rfl) q;have T:=C Q;go_enter func48,ntmps48;go_upto_region 1 with fail;rw[h.out];go_wp2_with fail;refine d.mono ?_;rintro e z ⟨rfl,rfl⟩;go_wp2_with fail;refine r.mono ?_;rintro e O ⟨rfl,rfl⟩;go_wp2_with fail;go_ret2;rw[<-f.out];exact mY (o _ _ _ T)
theorem K4 (D a b n m E:Int) (H:ax ao S L s w) (hk:s.Ok k):Calls au 50 #[aX L.b,bk (cx D a b n m E)] w (mo ao S L (s.gy a)):=by
 obtain⟨V,F⟩:=aW (w.alloc (av (cx D a b n m E) 33));obtain⟨az,ad,l,R,T⟩:=H.enter _ F;have o:=C F;have t:=C R;have u:=C l;have aB:=bJ (i:=1) T (v:=I J a) rfl;have d:=C (k5 a l);generalize c:s.gy a=Z;unfold aa.gy at c;unfold aX at*;obtain⟨aA,K⟩:=aW L.b;have aG:=C K;rw[K] at d⊢;unfold cx at o⊢;cases p:s.group a with
 |none=>rw[p] at c;have h:=C c;rw[aa.mZ p] at d;go_enter func50,ntmps50;go_upto_region 1 with fail;rw[o.out];go_wp2_with fail;refine d.mono ?_;rintro e y ⟨rfl,rfl⟩;go_wp2_with fail;go_ret2;rw[<-h.out];exact mY (t _ _ _ u)
 |some G=>
  obtain⟨U,j,ab⟩:=aa.hi p;rw[p] at c;dsimp only at c;rw[aa.lk p] at d;obtain⟨g,rfl⟩:=dS U;rw[bZ] at d j c;obtain⟨aL,z⟩:=aW (L.gk g);have af:=C z;rw[z] at d;obtain⟨ae,am,aN,ap,aQ,q,ah,aR⟩:=l.dw j z;have W:=C j;cases f:G.band with
  |none=>have A:G.limited=false:=(by unfold cb.limited;rw[f]);rw[A,aj rfl] at c;have h:=C c;rw[f] at q;simp only[Option.map_none,cU] at q;go_enter func50,ntmps50;go_upto_region 1 with fail;rw[o.out];go_wp2_with fail;refine d.mono ?_;rintro e y ⟨rfl,rfl⟩;go_wp2_with fail;refine(AL _).mono ?_;rintro e M ⟨rfl,rfl⟩;go_wp2_with fail;go_ret2;rw[<-h.out];exact mY (t _ _ _ u)
  |some B=>
   have A:G.limited=B.limited:=(by unfold cb.limited;rw[f]);rw[f] at q;simp only[iH,cU,aX] at q;have r:=C (AK (l.band j f));have N:=C (J2 (l.band j f));obtain⟨aS,O⟩:=aW (L.bd g);have X:=C O;rw[O] at q r N;have Y:=C f;rw[A] at c;cases x:B.limited with
   |false=>rw[x,aj rfl] at c;have h:=C c;rw[x] at r;go_enter func50,ntmps50;go_upto_region 1 with fail;rw[o.out];go_wp2_with fail;refine d.mono ?_;rintro e y ⟨rfl,rfl⟩;go_wp2_with fail;refine r.mono ?_;rintro e M ⟨rfl,rfl⟩;go_wp2_with fail;go_ret2;rw[<-h.out];exact mY (t _ _ _ u)
   |true=>have P:s.aw g=G:=aa.lL j;rw[x,z0 (by decide),aa.qd (by rw[P];exact f),P] at c;have h:=C c;rw[x] at r;go_enter func50,ntmps50;go_upto_region 1 with fail;rw[o.out];go_wp2_with fail;refine d.mono ?_;rintro e y ⟨rfl,rfl⟩;go_wp2_with fail;refine r.mono ?_;rintro e M ⟨rfl,rfl⟩;go_wp2_with fail;refine N.mono ?_;rintro e aU Q;rw[<-X.out] at Q;obtain⟨rfl,aq⟩:=u.o4 W Y Q;have ac:=C aq;go_wp2_with fail;go_ret2;rw[<-h.out];exact mY (t _ _ _ ac)
end
def iE (ao:ab) (S:Nat->Prop) (L:bu) (d:dO) (e:Ending) (w':ab):Prop:=e=aK (bC #[I J d.2.1,I J d.2.2])∧ax ao S L d.1 w'
section
variable {ao w:ab} {S:Nat->Prop} {L:bu} {s:aa} {k:Nat}
theorem dh {a:aa} {n b:Int} (h:ax ao S L a w'):iE ao S L (a,n,b) (aK (bC #[I J n,I J b])) w':=⟨rfl,h⟩
theorem iE.kM {d:dO} {e:Ending} (h:iE ao S L d e w'):mo ao S L d e w':=⟨h.1,L,rfl,h.2⟩
def qe (s:aa) (a:Int):Int×Int:=if s.e0 a=false then(0,1) else if s.running a=-1 then(0,7) else(s.running a,0)
theorem Ct (p a b n m q:Int) (H:ax ao S L s w) (hk:s.Ok k):Calls au 104 #[aX L.b,bk (cx p a b n m q)] w λe w'=>e=aK (bC #[I J (qe s a).1,I J (qe s a).2])∧Below w.heap.size w w':=by
 obtain⟨V,j⟩:=aW (w.alloc (av (cx p a b n m q) 33));obtain⟨A,B,t,D,x⟩:=H.enter _ j;have h:=C j;have d:=C (show Below w.heap.size w V from j▸bx w _);have E:=bJ (i:=1) x (v:=I J a) rfl;have c:=C (rL a t);have f:=C (o0 a t hk);unfold qe;unfold aX at*;generalize F:L.b=G at c f⊢;unfold cx at h⊢;cases hp:s.e0 a with
 |false=>rw[hp] at c;rw[aj rfl];go_enter func104,ntmps104;go_upto_region 1 with fail;rw[h.out];go_wp2_with fail;refine c.mono ?_;rintro e u ⟨rfl,rfl⟩;go_wp2_with fail;go_ret2;exact⟨rfl,d⟩
 |true=>
  rw[hp] at c;rw[z0 (by decide)];by_cases g:s.running a=-1;·rw[aj g];rw[g] at f;go_enter func104,ntmps104;go_upto_region 1 with fail;rw[h.out];go_wp2_with fail;refine c.mono ?_;rintro e u ⟨rfl,rfl⟩;go_wp2_with fail;refine f.mono ?_;rintro e y ⟨rfl,l⟩;have o:=C l;go_wp2_with fail;go_ret2;exact⟨rfl,d.trans (o.mono d.size)⟩
  ·rw[z0 g];obtain⟨r,z⟩:∃r,s.running a=r:=⟨_,rfl⟩;rw[z] at f g⊢;have K:(r==-1)=false:=(by simp[g]);go_enter func104,ntmps104;go_upto_region 1 with fail;rw[h.out];go_wp2_with fail;refine c.mono ?_;rintro e u ⟨rfl,rfl⟩;go_wp2_with fail;refine f.mono ?_;rintro e y ⟨rfl,l⟩;have o:=C l;go_wp2_with fail;go_ret2;exact⟨rfl,d.trans (o.mono d.size)⟩
theorem xG (hk:s.Ok k) (a:Int):(∃f,f≠0∧qe s a=(0,f)∧s.block a=(s,0,f)∧s.exit a=(s,0,f)∧s.yield a=(s,0,f))∨∃(i n:Nat) (t:ex),a=i∧i<s.c.aO∧qe s a=((n:Int),0)∧s.running a=n∧s.tasks[n]?=R t∧t.on=true∧s.e0 a=true:=by
 unfold qe aa.block aa.exit aa.yield;cases hp:s.e0 a with
 |false=>exact .inl ⟨1,by decide,by rw[aj rfl],by rw[aj rfl],by rw[aj rfl],by rw[aj rfl]⟩
 |true=>
  obtain⟨b,h⟩:=aa.mi.1 hp;rcases hk.runs a with e|⟨n,t,e,d,g,_⟩;·exact .inl ⟨7,by decide,by rw[z0 (by decide),aj e],by rw[z0 (by decide),aj e],by rw[z0 (by decide),aj e],by rw[z0 (by decide),aj e]⟩
  ·obtain⟨i,rfl⟩:=dS b;exact .inr ⟨i,n,t,rfl,by omega,by rw[z0 (by decide),z0 (by omega),e],e,d,g,rfl⟩
theorem aa.Cu {a:Int} (b:s.e0 a=true) (c:s.running a=n):s.block a=(s.leave n,(n:Int),0):=by unfold aa.block;rw[z0 (by rw[b];decide),z0 (by omega),c];rfl
theorem Cv (h a b n m j:Int) (H:ax ao S L s w) (hk:s.Ok k):Calls au 55 #[aX L.b,bk (cx h a b n m j)] w (iE ao S L (s.block a)):=by
 obtain⟨V,x⟩:=aW (w.alloc (av (cx h a b n m j) 33));obtain⟨X,Y,o,F,c⟩:=H.enter _ x;have p:=C x;have y:=C F;have Z:=bJ (i:=0) c (v:=I J h) rfl;have aq:=bJ (i:=1) c (v:=I J a) rfl;have ac:=bJ (i:=2) c (v:=I J b) rfl;have az:=bJ (i:=3) c (v:=I J n) rfl;have ad:=bJ (i:=4) c (v:=I J m) rfl;have aB:=bJ (i:=5) c (v:=I ah j) rfl;have d:=C (Ct h a b n m j o hk);unfold aX at*;obtain⟨aA,z⟩:=aW L.b;have G:=C z;rw[z] at d⊢;unfold cx at p d⊢;rcases xG hk a with⟨f,K,q,r,_⟩|⟨i,g,t,rfl,aG,q,r,A,M,N⟩
 ·rw[q] at d;rw[r];have ab:(f==0)=false:=by simp[K]
  go_enter func55,ntmps55;go_upto_region 1 with fail;rw[p.out];go_wp2_with fail;apply d.mono;rintro e O ⟨rfl,u⟩;have P:=C (o.next u);go_wp2_with fail;go_ret2;exact dh (y _ _ _ P)
 ·rw[q] at d;rw[aa.Cu N r];have Q:=C A;have R:=C M;have B:=(bD.1 A).1;have aL:(0:Int)<=(g:Int):=by omega
  have af:(g:Int).toNat=g:=by omega
  go_enter func55,ntmps55;go_upto_region 1 with fail;rw[p.out];go_wp2_with fail;apply d.mono;rintro e O ⟨rfl,u⟩;have D:=o.next u;obtain⟨ae,am,aN,T,E⟩:=D.r0 B;have l:=C (xu Q R D hk);unfold aX at l;rw[G.out] at E l;generalize aj:L.tk g=bW at T l;generalize ap:s.tasks.length=U at E;have aQ:(g:Int)<(U:Int):=by have:=B;omega
  go_wp2_with fail;apply l.mono;rintro e aR ⟨rfl,W⟩;go_wp2_with fail;go_ret2;exact dh (y _ _ _ W)
end
section
variable {ao w:ab} {S:Nat->Prop} {L:bu} {s:aa} {k:Nat}
theorem aa.K7 {a:Int} (b:s.e0 a=true) (c:s.running a=n) (d:(s.leave n).tasks[n]?=R t):s.exit a=({(s.leave n).cE n {t with dead:=true} with pool:=an.free 0 (s.leave n).pool t.h},(n:Int),0):=by unfold aa.exit;rw[if_neg (by rw[b];decide),if_neg (by omega),c,bZ,d]
theorem ax.Cw (H:ax ao S L s w) (e:L.b=b):w.cell? ⟨b,6,U⟩=R (af (R ⟨L.kC,0,U⟩)):=by subst e;exact H.top.cell 6 Br
theorem ax.Cx (H:ax ao S L s w) (a:n<s.tasks.length) (hv:L.tv=ay (R ⟨g,0,U⟩) m c):w.cell? ⟨g,n,U⟩=R (af (R ⟨L.tk n,0,U⟩))∧w.cell? ⟨L.b,7,U⟩=R (ay (R ⟨g,0,U⟩) m c):=by obtain⟨h,i,e,d,f⟩:=H.r0 a;rw[hv] at e;simp only[Value.slice.injEq,Option.some.injEq,Addr.mk.injEq] at e;obtain⟨⟨rfl,_⟩,rfl,rfl⟩:=e;exact⟨d,f⟩
theorem K8 (x a b n m y:Int) (H:ax ao S L s w) (hk:s.Ok k):Calls au 56 #[aX L.b,bk (cx x a b n m y)] w (iE ao S L (s.exit a)):=by
 obtain⟨V,N⟩:=aW (w.alloc (av (cx x a b n m y) 33));obtain⟨bS,aM,ap,aQ,j⟩:=H.enter _ N;have E:=C N;have O:=C aQ;have bi:=bJ (i:=0) j (v:=I J x) rfl;have bT:=bJ (i:=1) j (v:=I J a) rfl;have bX:=bJ (i:=2) j (v:=I J b) rfl;have bV:=bJ (i:=3) j (v:=I J n) rfl;have b1:=bJ (i:=4) j (v:=I J m) rfl;have al:=bJ (i:=5) j (v:=I ah y) rfl;have d:=C (Cv x a b n m y ap hk);unfold aX at*;obtain⟨P,Q⟩:=aW L.b;have q:=C Q;rw[Q] at d⊢;unfold cx at E d⊢;rcases xG hk a with⟨f,aR,aS,z,aU,_⟩|⟨i,c,t,rfl,b3,aS,z,aP,b6,W⟩
 ·rw[z] at d;rw[aU];have bR:(f==0)=false:=by simp[aR]
  go_enter func56,ntmps56;go_upto_region 1 with fail;rw[E.out];go_wp2_with fail;refine d.mono ?_;rintro e X ⟨rfl,l⟩;go_wp2_with fail;go_ret2;exact dh (O _ _ _ l)
 ·rw[aa.Cu W z] at d;have r:=aa.oG (s:=s) aP;have A:=C (aa.K7 W z r);generalize bs:({t with mn:=s.least t t.p,e:=(s.aY t.p).ed (s.aw t.g).h.idx t.h.idx,on:=false}:ex)=t1 at r A;generalize b9:s.leave c=s1 at r A d;generalize bv:s.exit (i:Int)=Z at A⊢;have F:=C r;have G:=(bD.1 r).1;have a1:(0:Int)<=(c:Int):=by omega
  have cc:(c:Int).toNat=c:=by omega
  go_enter func56,ntmps56;go_upto_region 1 with fail;rw[E.out];go_wp2_with fail;refine d.mono ?_;rintro e X ⟨rfl,l⟩;dsimp only at l;obtain⟨Y,aV,aq,aZ,ac⟩:=l.r0 G;obtain⟨a6,ak,a7,a8,ba,bb,ag,bf,bc,bg,bj,bl,bo,bm,K⟩:=l.en F rfl;have bq:=K 2;generalize cf:s1.tasks.length=az at ac aq;have ad:=C aq;have cg:(c:Int)<(az:Int):=by have:=G;omega
  rw[q.out] at ac;obtain⟨B,aB⟩:=aW (L.tk c);have u:=C aB;rw[aB] at aZ a7 bq;go_upto_region 4 with fail;generalize bt:X.setCell ⟨B,2,U⟩ (aD true)=M;have o:=l.jq (t':={t1 with dead:=true}) F 2 (aD true) rfl u;rw[bt] at o;generalize ai:({t1 with dead:=true}:ex)=t2 at o;have aA:=aa.j7 F t2;obtain⟨a6,ak,cj,a8,ba,bb,ag,bf,bc,bg,bj,bl,bo,bm,K⟩:=o.en aA u;have aG:c<(s1.cE c t2).tasks.length:=by unfold aa.cE;simp;exact G
  obtain⟨bw,a0⟩:=o.Cx aG ad;have bz:=o.Cw q;rw[u.out] at bw;rw[q.out] at a0;obtain⟨T,a2,a3⟩:=o.drew.B6;have ab:=C (IY T L.kC 64 s1.pool t2.h M.drew a2);have aL:=C (λw' (a4:gS w' (cS T M.drew) L.kC 64 (an.free 0 s1.pool t2.h)) (a5:Mod T M.drew w')=>a3 w' (an.free 0 s1.pool t2.h) a4 a5);have aK:=C aA;have bF:=C ai;obtain⟨aO,ae⟩:=aW L.kC;have a9:=C ae;rw[ae] at bz ab aL;go_region_held3 (λW'=>W'.cell? ⟨P,6,U⟩=R (af (R ⟨aO,0,U⟩))∧W'.cell? ⟨P,7,U⟩=R (ay (R ⟨Y,0,U⟩) az aV)∧W'.cell? ⟨Y,c,U⟩=R (af (R ⟨B,0,U⟩))∧W'.cell? ⟨B,0,U⟩=R (I J t2.h.idx)∧W'.cell? ⟨B,1,U⟩=R (I J t2.h.gen)) ((refine⟨?_,?_,?_,?_,?_⟩)<;>(with_reducible repeat(first|assumption|refine b2 ?_))) (first|(go_at_call 105;refine ab.mono ?_;rintro e aC ⟨⟨cm,rfl⟩,bI,bL⟩;have D:=aL aC bI bL;obtain⟨bd,be,cn,b8,cr,bB,bW,cu,cB,cG,cJ,b_,cq,cM,K⟩:=D.en (n:=c) aK u;obtain⟨am,aN⟩:=D.Cx aG ad;have aj:=D.Cw q;rw[u.out] at am;rw[q.out] at aN;rw[a9.out] at aj;have bN:=C D));all_goals clear bd be am aN aj;go_wp2_with fail;go_ret2;rw[A.out];refine dh (O _ _ _ ?_);have:=bN.out;rw[<-bF.out] at this;exact this
theorem K9 (l a b n m q:Int) (H:ax ao S L s w) (hk:s.Ok k):Calls au 57 #[aX L.b,bk (cx l a b n m q)] w (iE ao S L (s.yield a)):=by
 obtain⟨V,N⟩:=aW (w.alloc (av (cx l a b n m q) 33));obtain⟨aj,ap,u,aQ,d⟩:=H.enter _ N;have B:=C N;have O:=C aQ;have bo:=bJ (i:=0) d (v:=I J l) rfl;have P:=bJ (i:=1) d (v:=I J a) rfl;have bm:=bJ (i:=2) d (v:=I J b) rfl;have bq:=bJ (i:=3) d (v:=I J n) rfl;have bt:=bJ (i:=4) d (v:=I J m) rfl;have ai:=bJ (i:=5) d (v:=I ah q) rfl;have h:=C (Ct l a b n m q u hk);have Q:=C (λ(W:ab) (r:aa) (o:Nat) (v:Value) (aR:ax V aj L r W) (aS:V.cell? ⟨w.heap.size,o,U⟩=R v)=>aR.kept ap aS zK9);unfold aX at*;obtain⟨X,Y⟩:=aW L.b;have Z:=C Y;rw[Y] at h⊢;unfold cx at B h⊢;rcases xG hk a with⟨f,aU,D,_,_,x⟩|⟨i,bw,t,rfl,aq,D,x,aD,a0,ac⟩
 ·rw[D] at h;rw[x];have bz:(f !=0)=true:=by simp[aU]
  go_enter func57,ntmps57;go_upto_region 1 with fail;rw[B.out];go_wp2_with fail;refine h.mono ?_;rintro e E ⟨rfl,F⟩;have aP:=C (u.next F);go_wp2_with fail;go_ret2;exact dh (O _ _ _ aP)
 ·rw[D] at h;have G:=hk.ep (p:=(i:Int)) (by omega) (by omega);rw[bZ] at G;have az:=(hk.aY i _ G).1;have aV:(s.aY (i:Int)).running≠-1:=by intro aZ;unfold aa.running at x;rw[if_neg (by rw[ac];decide),aZ,if_pos (by decide)] at x;omega
  obtain⟨a6,a2⟩:=az.Gq aV;obtain⟨y,ad⟩:=dS a6;have ak:s.yield (i:Int)=(s.bU (i:Int) (s.aY (i:Int)).yield,s.at_.getD y 0,0):=by unfold aa.yield;rw[if_neg (by rw[ac];decide),if_neg (by omega),ad,bZ]
  rw[ak];have a7:y<64:=by omega
  have a3:(y:Int)<64:=by omega
  have a4:(y:Int).toNat=y:=by omega
  have a5:(0:Int)<=(y:Int):=by omega
  have K:=C (show s.at_[y]?=R (s.at_.getD y 0) by rw[dy,b5 (by rw[hk.gP];exact a7)];rfl);obtain⟨g,cap,aB,_,_⟩:=u.iT hk.lens aq;obtain⟨aA,a8⟩:=aW s.c.aO;have aK:(i:Int)<(aA:Int):=by omega
  rw[a8] at aB;have aG:=C aB;have j:=C (br G (br az (br aq ad)));have bF:(i:Int).toNat=i:=by omega
  have a9:(0:Int)<=(i:Int):=by omega
  generalize aC:s.at_.getD y 0=ba at K⊢;go_enter func57,ntmps57;go_upto_region 1 with fail;rw[B.out];go_wp2_with fail;refine h.mono ?_;rintro e E ⟨rfl,F⟩;have z:=u.next F;have bI:=Q E s 1 _ z P;obtain⟨bb,ag⟩:=z.fF hk.lens j.2.2.1 aG;have M:=C (z.drew.k6 j.1 (λT bf=>Cs T (L.hk i) (s.aY (i:Int)) E.drew bf j.2.1));rw[j.out.2.2.2] at M;have bc:=z.top.cell (41+y) (tm hk.eB K);rw[Z.out] at ag bc;obtain⟨bg,aL⟩:=aW (L.hk i);have bj:=C aL;rw[aL] at bb M;go_wp2_with fail;go_region_held3 (λW'=>W'.cell? ⟨X,105,U⟩=R (ay (R ⟨g,0,U⟩) aA cap)∧W'.cell? ⟨g,i,U⟩=R (af (R ⟨bg,0,U⟩))∧W'.cell? ⟨w.heap.size,1,U⟩=R (I J i)∧W'.cell? ⟨X,41+y,U⟩=R (I J ba)) ((refine⟨?_,?_,?_,?_⟩)<;>(with_reducible repeat(first|assumption|refine b2 ?_))) (first|(go_at_call 106;refine M.mono ?_;rintro e an ⟨rfl,A⟩;obtain⟨ae,am⟩:=A.fF (hk.lens.bU _ _) j.2.2.1 aG;have aw:=Q an _ 1 _ A P;have aN:=A.top.cell (41+y) (tm (s:=s.bU (i:Int) (s.aY (i:Int)).yield) hk.eB K);rw[bj.out] at ae;rw[Z.out] at am aN;have bl:=C A));all_goals clear ae am aw aN;go_wp2_with fail;go_ret2;exact dh (O _ _ _ bl)
end
def r2:cd Bool:=⟨1,λx=>[aD x],λ_=>rfl,λ_ u h=>by simp at h;subst h;rfl,by decide⟩
theorem Ld:iv r2 43 4 1:=⟨underlying43,⟨.bool false,by kernel_rfl,rfl⟩,by decide⟩
section
variable {ao w:ab} {S:Nat->Prop} {L:bu} {s:aa} {k:Nat}
theorem ax.Cy (H:ax ao S L s w) (hk:s.Ok k):∃g c,L.gv=ay (R ⟨g,0,U⟩) s.groups.length c∧w.cell? ⟨g,0,U⟩=R (af (R ⟨L.gk 0,0,U⟩))∧w.cell? ⟨L.b,8,U⟩=R (ay (R ⟨g,0,U⟩) s.groups.length c)∧0<s.groups.length:=by obtain⟨T,f⟩:=H.fy .e1;obtain⟨r,a,h,_⟩:=hk.root;have d:=rM (L:=L) a;rw[h] at d;obtain⟨g,cap,e,i,j,l,m⟩:=dM.cell f d;rw[tx] at e;have:=H.top.cell 8 p5;rw[e] at this;exact⟨g,cap,e,i,this,(bD.1 a).1⟩
def kk (s:aa) (j:Nat):List Nat:=ho s 0 j
theorem r3 (s:aa):s.dt=(kk s s.c.aO).map λn:Nat=>(n:Int):=by unfold aa.dt kk ho;rw[List.map_map];rfl
theorem tS (H:ax ao S L s w) (hk:s.Ok k) (F:k<=100000):Calls au 14 #[aX L.b] w (tI (kk s s.c.aO) w):=by
 obtain⟨G,aq,ac,l,f,q⟩:=H.Cy hk;have r:=H.top.cell 0 oS;obtain⟨m,t⟩:=aW s.c.aO;have az:=C t;have ad:m<=64:=by have:=hk.aO;omega
 rw[t] at r⊢;have n:=C (λ(W:ab) (g:Below w.heap.size w W) (p:Int)=>tE 0 q p (H.next g) hk F);generalize aB:s.groups.length=q7 at f q;unfold aX at*;generalize aA:L.b=b at r f n⊢;generalize aG:L.gk 0=iL at l n;have K:=C (λ(W:ab) (g:Below w.heap.size w W)=>br ((g.cell (p:=⟨G,0,U⟩) (ir l)).trans l) ((g.cell (p:=⟨b,8,U⟩) (ir f)).trans f));go_enter func14,ntmps14;go_wp2_with fail;go_loopw [3,4,12] (λv u i W=>∃j:Nat,j<=m∧i=I J (j:Int)∧Own iU W w.heap.size 31 v j (kk s j)∧Below w.heap.size w W) (λ_ _ i _=>m-(intOf i).toNat);case atStart=>exact⟨0,by omega,rfl,Own.nil _ _ _,Below.refl _ _⟩
 case round=>
  obtain⟨j,aL,rfl,y,a⟩:=hrel;by_cases af:j<m
  ·have ae:(j:Int)<(m:Int):=(by omega);have am:(j:Int).toNat=j:=(by omega);obtain⟨aN,aj⟩:=K wr a;have z:=C (n wr a (j:Int));have A:=C (Ca s 0 j);generalize ap:s.load 0 (j:Int)=cF at z A;go_wp2_with fail;refine z.mono ?_;rintro e d ⟨rfl,B⟩;have o:Below w.heap.size w d:=a.trans (B.mono a.size);have D:=C ((y.next' B).alloc (av #[I ah (cF:Int)] 31));have E:w.heap.size<=(d.alloc (av #[I ah (cF:Int)] 31)).heap.size:=(by have:=o.size;simp;omega);have M:j<=10000000:=(by omega);have N:=C (show∀h u,(iU.e cF)[h]?=R u->(d.alloc (av #[I ah (cF:Int)] 31)).cell? ⟨d.heap.size,h,U⟩=R u fromλh u O=>dz.trans (by rw[<-O];show([I ah (cF:Int)]:List Value).toArray[h]?=_;rw[fg];rfl));go_wp2_with ((at_builtin;refine jB xw rfl _ _ rfl w.heap.size _ j _ rfl D d.heap.size _ cF rfl N M E ?_;intro P u Q T V;have X:=C Q;have Y:=C (show Grow _ u _ P from Grow.gR T V);have Z:=C (show Below w.heap.size w u from(o.alloc o.size _).trans (Y.below E (λaa x=>(D.lt aa x).1)))));go_roundw;case rel=>exact⟨j+1,by omega,by go_num,by show Own iU _ _ _ _ _ (ho s 0 (j+1));rw[A.out];exact X,Z⟩
   case measure=>simp[intOf];omega
  ·obtain rfl:j=m:=by omega
   go_wp2_with fail;go_ret;refine⟨_,rfl,?_,a⟩;rw[show(kk s j).length=j from qa s 0 j];exact y
theorem Rd.tT {zs:List Nat} (h:Rd iU n₀ W a n zs):fa n₀ W (ay a n cap) (zs.map λn:Nat=>(n:Int)):=by
 have c:=h.1;by_cases e:0<n;·obtain⟨b,f,rfl,g,i⟩:=h.rV e;refine .inr ⟨b,f,cap,by rw[dY,c],g,λj d=>?_⟩;rw[dY] at d;rw[i j (by omega)];unfold a_ nat;rw[dD,b5 d];rfl
 ·obtain rfl:n=0:=by omega
  exact .inl ⟨⟨a,cap,rfl⟩,by rw[nY.1 c];rfl⟩
theorem Rd.Le {zs:List Bool} (h:Rd r2 n₀ W a n zs):kj n₀ W (ay a n cap) zs:=by
 have c:=h.1;by_cases e:0<n;·obtain⟨b,f,rfl,g,i⟩:=h.cells e;refine .inr ⟨b,f,cap,by rw[c],g,λj d=>?_⟩;have:=i j _ (b5 d) 0 (aD zs[j]) rfl;unfold qX;rw[b5 d];simpa[r2] using this
 ·obtain rfl:n=0:=by omega
  exact .inl ⟨⟨a,cap,rfl⟩,nY.1 c⟩
def nR (s:aa) (j:Nat):List Bool:=(gi j).map λp:Nat=>decide (s.running p≠-1)
theorem Lf (s:aa) (j:Nat):nR s (j+1)=nR s j++[decide (s.running (j:Int)≠-1)]:=by unfold nR;rw[oa,iI];rfl
theorem Lg (s:aa) (j:Nat):(nR s j).length=j:=by unfold nR;simp
theorem r4 (prev mask:Int) (H:ax ao S L s w) (hk:s.Ok k) (aq:k<=100000):Calls au 98 #[aX L.b,I J prev,I ah mask] w λe w'=>e=aK (bC #[I J (s.free prev mask).1,aD (decide ((s.free prev mask).2=0))])∧Below w.heap.size w w':=by
 have E:=H.top.cell 0 oS;obtain⟨m,l⟩:=aW s.c.aO;have ac:=C l;have aZ:m<=64:=by have:=hk.aO;omega
 rw[l] at E;have F:=C (λ(W:ab) (o:Below w.heap.size w W) (p:Int)=>o0 p (H.next o) hk);have G:=C (λ(W:ab) (o:Below w.heap.size w W)=>tS (H.next o) hk aq);have K:=C (show choose ((kk s m).map λn:Nat=>(n:Int)) (nR s m) prev mask=s.free prev mask by unfold aa.free aa.runs;rw[r3,l];rfl);generalize a6:s.free prev mask=fr at K⊢;unfold aX at*;generalize M:L.b=b at E F G⊢;go_enter func98,ntmps98;go_wp2_with fail;go_loopw [8,9,17] (λv u i W=>∃j:Nat,j<=m∧i=I J (j:Int)∧Own r2 W w.heap.size 4 v j (nR s j)∧Below w.heap.size w W) (λ_ _ i _=>m-(intOf i).toNat);case atStart=>exact⟨0,by omega,rfl,Own.nil _ _ _,Below.refl _ _⟩
 case round=>
  obtain⟨j,ak,rfl,N,d⟩:=hrel;by_cases a7:j<m
  ·have a8:(j:Int)<(m:Int):=(by omega);have ba:(j:Int).toNat=j:=(by omega);have O:=C (F wr d (j:Int));have q:=C (Lf s j);generalize bb:s.running (j:Int)=r at O q;generalize M:(decide (r≠-1))=a at q;have ag:(r !=-1)=a:=(by rw[<-M];by_cases t:r=-1<;>simp[t]);go_wp2_with fail;refine O.mono ?_;rintro e f ⟨rfl,P⟩;have y:Below w.heap.size w f:=d.trans (P.mono d.size);have Q:=C ((N.next' P).alloc (av #[aD a] 4));have T:w.heap.size<=(f.alloc (av #[aD a] 4)).heap.size:=(by have:=y.size;simp;omega);have az:j<=10000000:=(by omega);have ad:=C (show∀g u,(r2.e a)[g]?=R u->(f.alloc (av #[aD a] 4)).cell? ⟨f.heap.size,g,U⟩=R u fromλg u aB=>dz.trans (by rw[<-aB];show([aD a]:List Value).toArray[g]?=_;rw[fg];rfl));go_wp2_with ((at_builtin;refine jB Ld rfl _ _ rfl w.heap.size _ j _ rfl Q f.heap.size _ a rfl ad az T ?_;intro aA u aG aL af;have ae:=C aG;have am:=C (show Grow _ u _ aA from Grow.gR aL af);have h:=C (show Below w.heap.size w u from(y.alloc y.size _).trans (am.below T (λaN x=>(Q.lt aN x).1)))));go_roundw;case rel=>exact⟨j+1,by omega,by go_num,by rw[q.out];exact ae,h⟩
   case measure=>simp[intOf];omega
  ·obtain rfl:j=m:=by omega
   obtain⟨bf,aj,ap,rfl,_,_,_,aQ⟩:=N.rd;have aR:=C (G wr d);go_wp2_with fail;refine aR.mono ?_;rintro e V ⟨bc,rfl,z,X⟩;rw[ac.out] at z;have Y:(kk s j).length=j:=qa s 0 j;rw[Y] at z;obtain⟨_,aS,Z,rfl,_,_,_,aU⟩:=z.rd;have A:((kk s j).map λn:Nat=>(n:Int)).length=j:=(by rw[dY,Y]);have aP:=aU.tT (cap:=Z);have B:=C (Lc aS Z aj j ap ((kk s j).map λn:Nat=>(n:Int)) (nR s j) prev mask V (by rw[A];exact aP) ((aQ.xx X).Le) (Lg s j) (by rw[A];omega) (by omega));rw[A,K.out] at B;have h:=C (show Below w.heap.size w V from d.trans (X.mono d.size));obtain⟨bg,D⟩:=fr;dsimp only at B;have bj:(D==0)=decide (D=0):=(by by_cases t:D=0<;>simp[t]);go_wp2_with fail;refine B.mono ?_;rintro e an ⟨rfl,aV⟩;go_wp2_with fail;go_ret2;exact⟨rfl,h.trans (aV.mono h.size)⟩
end
theorem Lr {m:Int} (k:Nat) (h0:0<=m) (f:m<18446744073709551616):(bits BinOp.and ah (m/2^k) 1==0)=!bW m k:=by
 obtain⟨n,rfl⟩:=dS h0;have e:((n:Int)/2^k)=((n/2^k:Nat):Int):=by simp
 have c:n/2^k<18446744073709551616:=n9 (Nat.div_le_self _ _) (by omega);have a:=u64_and_nat (n/2^k) 1 c (by decide);have d:((1:Nat):Int)=1:=rfl;rw[d] at a;rw[Lh n k (by omega),e,a,nat_mask1];rcases Nat.mod_two_eq_zero_or_one (n/2^k) with b|b<;>simp[b]
section
variable {ao w:ab} {S:Nat->Prop} {L:bu} {s:aa} {k:Nat}
theorem aa.xJ {a:Int} (h:s.task a=U):jD L s a=af U:=by unfold jD;rw[h]
theorem aa.xK {a:Int} (h:s.task a=R t):jD L s a=af (R ⟨L.tk a.toNat,0,U⟩):=by unfold jD;rw[h];rfl
theorem Ls (D a b n m E:Int) (H:ax ao S L s w) (hk:s.Ok k) (W:k<=100000):Calls au 52 #[aX L.b,bk (cx D a b n m E)] w (iE ao S L (s.k0 a)):=by
 obtain⟨V,F⟩:=aW (w.alloc (av (cx D a b n m E) 33));obtain⟨ap,aQ,l,X,Y⟩:=H.enter _ F;have o:=C F;have r:=C X;have u:=C l;have aq:=C hk;have aR:=bJ (i:=1) Y (v:=I J a) rfl;have f:=C (tA a l);generalize d:s.k0 a=Z;unfold aa.k0 at d;unfold aX at*;obtain⟨aS,y⟩:=aW L.b;have ac:=C y;rw[y] at f⊢;unfold cx at o⊢;cases g:s.task a with
 |none=>rw[g] at d;have h:=C d;rw[aa.xJ g] at f;go_enter func52,ntmps52;go_upto_region 1 with fail;rw[o.out];go_wp2_with fail;refine f.mono ?_;rintro e G ⟨rfl,rfl⟩;go_wp2_with fail;go_ret2;rw[<-h.out];exact dh (r _ _ _ u)
 |some t=>
  obtain⟨az,z,ad⟩:=aa.oE g;rw[g] at d;dsimp only at d;rw[aa.xK g] at f;obtain⟨aB,rfl⟩:=dS az;rw[bZ] at f z d;obtain⟨K,A⟩:=aW (L.tk aB);have M:=C A;rw[A] at f;obtain⟨aU,aP,aV,N,aZ,a6,ak,a7,a8,ba,bb,ag,bf,bc,aA⟩:=l.en z A;cases j:t.on with
  |true=>rw[j,if_pos rfl] at d;have h:=C d;rw[j] at N;go_enter func52,ntmps52;go_upto_region 1 with fail;rw[o.out];go_wp2_with fail;refine f.mono ?_;rintro e G ⟨rfl,rfl⟩;go_wp2_with fail;go_ret2;rw[<-h.out];exact dh (r _ _ _ u)
  |false=>rw[j,if_neg (by decide)] at d;have h:=C d;rw[j] at N;have q:=C (r4 t.p t.mask l.drew hk W);unfold aX at q;rw[y] at q;obtain⟨aG,bg⟩:=hk.pS t.p t.mask;obtain⟨p,O⟩:=dS aG;have ab:=C O;have aL:=C (show p<s.c.aO by omega);have P:=C z;have Q:=C (br j ad);obtain⟨bj,af⟩:∃x,decide ((s.free t.p t.mask).2=0)=x:=⟨_,rfl⟩;rw[O,af] at q;go_enter func52,ntmps52;go_upto_region 1 with fail;rw[o.out];go_wp2_with fail;refine f.mono ?_;rintro e G ⟨rfl,rfl⟩;go_wp2_with fail;go_region_held3 (λW'=>W'.cell? ⟨K,4,U⟩=R (I J t.p)∧W'.cell? ⟨K,8,U⟩=R (I ah t.mask)) ((refine⟨?_,?_⟩)<;>(with_reducible repeat(first|assumption|refine b2 ?_))) (first|(go_at_call 98;refine q.mono ?_;rintro e an ⟨rfl,ae⟩;have T:=u.drew.next ae;obtain⟨aw,bl,bo,bm,ay,bq,bt,ai,bw,aD,a0,bz,a2,a3,aA⟩:=T.en P M;have am:=C T));all_goals have B:=C (tH P Q.1 Q.2 p aL true am aq);unfold aX at B;rw[ac.out,M.out] at B;go_wp2_with fail;refine B.mono ?_;rintro e a4 ⟨rfl,aN⟩;have aj:=C aN;go_wp2_with fail;go_ret2;rw[<-h.out,ab.out];exact dh (r _ _ _ aj)
end
section
variable {ao w:ab} {S:Nat->Prop} {L:bu} {s:aa} {k:Nat}
theorem Lt (ag a b n m d:Int) (aQ:0<=d∧d<18446744073709551616) (H:ax ao S L s w) (hk:s.Ok k) (bf:k<=100000):Calls au 54 #[aX L.b,bk (cx ag a b n m d)] w (iE ao S L (s.mask a d)):=by
 obtain⟨V,bc⟩:=aW (w.alloc (av (cx ag a b n m d) 33));obtain⟨a4,a5,af,aK,bg⟩:=H.enter _ bc;have K:=C bc;have X:=C aK;have Y:=C af;have bv:=C hk;have a1:=bJ (i:=1) bg (v:=I J a) rfl;have M:=bJ (i:=5) bg (v:=I ah d) rfl;have N:=C (λ(W:ab) (r:aa) (o:Nat) (v:Value) (bF:ax V a4 L r W) (a9:V.cell? ⟨w.heap.size,o,U⟩=R v)=>bF.kept a5 a9 zK9);have q:=C (tA a af);have A:=C (r4 (-1) d af hk bf);generalize f:s.mask a d=Z;unfold aa.mask at f;unfold aX at*;obtain⟨cc,bj⟩:=aW L.b;have aR:=C bj;rw[bj] at q A⊢;unfold cx at K⊢;cases aq:s.task a with
 |none=>rw[aq] at f;have y:=C f;rw[aa.xJ aq] at q;go_enter func54,ntmps54;go_upto_region 1 with fail;rw[K.out];go_wp2_with fail;refine q.mono ?_;rintro e ae ⟨rfl,rfl⟩;go_wp2_with fail;go_ret2;rw[<-y.out];exact dh (X _ _ _ Y)
 |some t=>
  obtain⟨aC,O,an⟩:=aa.oE aq;rw[aq] at f;dsimp only at f;rw[aa.xK aq] at q;obtain⟨ac,rfl⟩:=dS aC;rw[bZ] at q O f;obtain⟨aS,aU⟩:=aW (L.tk ac);have h:=C aU;rw[aU] at q;obtain⟨cf,bI⟩:=aW ((s.free (-1) d).1);obtain⟨bL,aw⟩:=aW ((s.free (-1) d).2);rw[bI,aw] at A;rw[aw] at f;by_cases aP:bL=0;·subst aP;rw[show decide ((0:Int)=0)=true from rfl] at A;rw[z0 (by decide)] at f;obtain⟨j,P⟩:∃j:ex,{t with mask:=d}=j:=⟨_,rfl⟩;have aV:=C P;have aZ:=hk.task ac t O;have bl:(s.cE ac j).Ok k:=(by rw[<-P];exact hk.cE (t':={t with mask:=d}) O rfl rfl rfl rfl rfl aZ.w aZ.e aQ);have bo:=aa.j7 O j;rw[P] at f;obtain⟨az,bm⟩:∃az,s.cE ac j=az:=⟨_,rfl⟩;rw[bm] at f bl bo;have a6:=C bm;have ay:=C bl;have D:=C bo;have Q:=C O;have cg:=C an;have bd:=aZ.p;obtain⟨i,bq⟩:=dS bd.1;have cj:=hk.aO;have cm:(i:Int)<64:=(by omega);have cn:i<64:=(by omega);have bt:=C (show j.p=(i:Int) by rw[<-P];exact bq);have ad:=C (show j.on=t.on by rw[<-P]);have be:=C (show j.dead=t.dead by rw[<-P]);have ai:=Lr i aQ.1 aQ.2;have bN:=C bf;rw[bq,bZ] at f;have b8:IntKind.u64.wrap (i:Int)=(i:Int):=(by rw[ni];omega);have cr:(0:Int)<=(i:Int):=(by omega);have bB:(i:Int).toNat=i:=(by omega);obtain⟨cu,cB,cG,cJ,b_,cq,cM,ar,a_,cW,c8,c_,da,aI,E⟩:=af.en O aU;have cZ:=E 8;cases T:t.on with
   |false=>rw[T,Bool.false_and,z0 (by decide)] at f;have y:=C f;have aB:=C T;go_enter func54,ntmps54;go_upto_region 1 with fail;rw[K.out];go_wp2_with fail;refine q.mono ?_;rintro e ae ⟨rfl,rfl⟩;go_wp2_with fail;refine A.mono ?_;rintro e z ⟨rfl,F⟩;have l:=Y.next F;have bw:=N z s 5 _ l M;obtain⟨_,_,_,_,_,_,_,_,aD,_,_,_,_,_,E⟩:=l.en Q h;have a0:=E 8;have G:=C l;go_upto_region 8 with fail;obtain⟨u,B⟩:∃u,z.setCell ⟨aS,8,U⟩ (I ah d)=u:=⟨_,rfl⟩;rw[B];have g:=G.jq (t':=j) Q 8 (I ah d) (by rw[<-aV.out];rfl) h;rw[B,a6.out] at g;obtain⟨_,_,_,aA,_,_,_,_,_,_,_,_,_,_,_⟩:=g.en D h;rw[ad.out,aB.out] at aA;have aG:=C g;go_quiet (fail);go_wp2_with fail;go_ret2;rw[<-y.out];exact dh (X _ _ _ (aG.next (below_drewN (Below.refl _ _) _)))
   |true=>
    have aB:=C T;cases am:bW d i with
    |true=>rw[T,am,z0 (by decide)] at f;rw[am] at ai;have y:=C f;go_enter func54,ntmps54;go_upto_region 1 with fail;rw[K.out];go_wp2_with fail;refine q.mono ?_;rintro e ae ⟨rfl,rfl⟩;go_wp2_with fail;refine A.mono ?_;rintro e z ⟨rfl,F⟩;have l:=Y.next F;have bw:=N z s 5 _ l M;obtain⟨_,_,_,_,_,_,_,_,aD,_,_,_,_,_,E⟩:=l.en Q h;have a0:=E 8;have G:=C l;go_upto_region 8 with fail;obtain⟨u,B⟩:∃u,z.setCell ⟨aS,8,U⟩ (I ah d)=u:=⟨_,rfl⟩;rw[B];have g:=G.jq (t':=j) Q 8 (I ah d) (by rw[<-aV.out];rfl) h;rw[B,a6.out] at g;obtain⟨_,_,_,aA,ak,_,_,_,_,_,_,_,_,_,_⟩:=g.en D h;rw[ad.out,aB.out] at aA;rw[bt.out] at ak;have bS:=N u az 5 _ g M;have aG:=C g;go_quiet (fail);go_wp2_with fail;go_ret2;rw[<-y.out];exact dh (X _ _ _ (aG.next (below_drewN (Below.refl _ _) _)))
    |false=>rw[T,am,aj (by decide)] at f;rw[am] at ai;have a7:=ay.leave D (ad.trans T);have bz:=aa.oG D;have aM:=aa.q5 D;obtain⟨aL,a2⟩:∃aL,az.leave ac=aL:=⟨_,rfl⟩;rw[a2] at f a7 bz aM;have aN:=C (br a2 (br a7 bz));obtain⟨bi,de⟩:=a7.pS (-1) d;obtain⟨p,a3⟩:=dS bi;rw[a3] at f;have bT:=C a3;have bX:=C (show p<aL.c.aO by omega);have y:=C f;obtain⟨bh,bV⟩:∃x,decide ((aL.free (-1) d).2=0)=x:=⟨_,rfl⟩;have b1:=C bV;have al:=C (be.trans an);go_enter func54,ntmps54;go_upto_region 1 with fail;rw[K.out];go_wp2_with fail;refine q.mono ?_;rintro e ae ⟨rfl,rfl⟩;go_wp2_with fail;refine A.mono ?_;rintro e z ⟨rfl,F⟩;have l:=Y.next F;have bw:=N z s 5 _ l M;obtain⟨_,_,_,_,_,_,_,_,aD,_,_,_,_,_,E⟩:=l.en Q h;have a0:=E 8;have G:=C l;go_upto_region 8 with fail;obtain⟨u,B⟩:∃u,z.setCell ⟨aS,8,U⟩ (I ah d)=u:=⟨_,rfl⟩;rw[B];have g:=G.jq (t':=j) Q 8 (I ah d) (by rw[<-aV.out];rfl) h;rw[B,a6.out] at g;obtain⟨_,_,_,aA,ak,_,_,_,_,_,_,_,_,_,_⟩:=g.en D h;rw[ad.out,aB.out] at aA;rw[bt.out] at ak;have bS:=N u az 5 _ g M;have aG:=C g;go_quiet (fail);have b3:=aG.next (below_drewN (Below.refl _ _) nq);have a8:=C (xu D (ad.trans aB) b3 ay);unfold aX at a8;rw[aR.out,h.out] at a8;go_wp2_with fail;refine a8.mono ?_;rintro e b6 ⟨rfl,ap⟩;rw[aN.out.1] at ap;have bG:=N b6 aL 5 _ ap M;have ba:=C (r4 (-1) d ap aN.2.1 bN);unfold aX at ba;rw[aR.out,bT.out,b1.out] at ba;have bR:=C ap;go_wp2_with fail;refine ba.mono ?_;rintro e df ⟨rfl,bs⟩;have bb:=C (tH aN.2.2 rfl al p bX false (bR.next bs) aN.2.1);unfold aX at bb;rw[aR.out,h.out] at bb;go_wp2_with fail;refine bb.mono ?_;rintro e di ⟨rfl,b9⟩;have aY:=C b9;go_wp2_with fail;go_ret2;rw[<-y.out];exact dh (X _ _ _ aY)
  ·rw[decide_eq_false aP] at A;rw[aj aP] at f;have y:=C f;go_enter func54,ntmps54;go_upto_region 1 with fail;rw[K.out];go_wp2_with fail;refine q.mono ?_;rintro e ae ⟨rfl,rfl⟩;go_wp2_with fail;refine A.mono ?_;rintro e z ⟨rfl,F⟩;have G:=C (Y.next F);go_wp2_with fail;go_ret2;rw[<-y.out];exact dh (X _ _ _ G)
end
theorem xL (n:Int):IntKind.i8.wrap n=(n+128)%256-128:=by simp[IntKind.wrap,IntKind.bits,IntKind.signed];split<;>omega
theorem xM (n:Int):∃c:Int,IntKind.i8.wrap n=c∧IntKind.i64.wrap c=c∧(n==c)=kx n∧(n !=c)=!kx n:=by
 refine⟨_,rfl,?_,?_,?_⟩;·rw[xL];exact IntWalk.i64_in _ (by omega)
 ·rw[xL,hN];unfold kx;simp;omega
 ·rw[xL,hN];unfold kx;simp;omega
section
variable {ao w:ab} {S:Nat->Prop} {L:bu} {s:aa} {k:Nat}
theorem Lu (a8 a b n m ba:Int) (H:ax ao S L s w) (hk:s.Ok k):Calls au 53 #[aX L.b,bk (cx a8 a b n m ba)] w (iE ao S L (s.nice a n)):=by
 obtain⟨V,bb⟩:=aW (w.alloc (av (cx a8 a b n m ba) 33));obtain⟨bX,bV,ae,b1,ag⟩:=H.enter _ bb;have G:=C bb;have N:=C b1;have O:=C ae;have bf:=C hk;have dA:=bJ (i:=1) ag (v:=I J a) rfl;have bc:=bJ (i:=3) ag (v:=I J n) rfl;have bg:=C (λ(W:ab) (r:aa) (o:Nat) (v:Value) (am:ax V bX L r W) (al:V.cell? ⟨w.heap.size,o,U⟩=R v)=>am.kept bV al zK9);have q:=C (tA a ae);generalize d:s.nice a n=Z;unfold aa.nice at d;unfold aX at*;obtain⟨b3,bj⟩:=aW L.b;have an:=C bj;rw[bj] at q⊢;unfold cx at G⊢;obtain⟨dF,bn,dG,_,az⟩:=xM n;cases B:s.task a with
 |none=>rw[B] at d;have y:=C d;rw[aa.xJ B] at q;go_enter func53,ntmps53;go_upto_region 1 with fail;rw[G.out];go_wp2_with fail;refine q.mono ?_;rintro e ad ⟨rfl,rfl⟩;go_wp2_with fail;go_ret2;rw[<-y.out];exact dh (N _ _ _ O)
 |some t=>
  obtain⟨b6,aB,dH⟩:=aa.oE B;rw[B] at d;dsimp only at d;rw[aa.xK B] at q;obtain⟨z,rfl⟩:=dS b6;rw[bZ] at q aB d;obtain⟨P,bl⟩:=aW (L.tk z);have j:=C bl;rw[bl] at q;cases bo:kx n with
  |false=>rw[bo] at az d;rw[if_pos rfl] at d;rw[show(!false)=true from rfl] at az;have y:=C d;go_enter func53,ntmps53;go_upto_region 1 with fail;rw[G.out];go_wp2_with fail;refine q.mono ?_;rintro e ad ⟨rfl,rfl⟩;go_wp2_with fail;go_ret2;rw[<-y.out];exact dh (N _ _ _ O)
  |true=>
   rw[bo] at az d;rw[if_neg (by decide)] at d;rw[show(!true)=false from rfl] at az;have D:=C (w4 n V);unfold nE at D;generalize bR:e8 n=bm at D d;by_cases aN:bm=0;·subst aN;rw[if_neg (by decide)] at d;have bs:=wB n bR;obtain⟨f,aj⟩:∃x,ei n=x:=⟨_,rfl⟩;rw[aj] at D d bs;have K:=hk.task z t aB;have A:=C aB;obtain⟨i,bq⟩:=dS K.p.1;have bt:i<s.c.aO:=(by have:=K.p.2;omega);have aA:=C bq;rw[bq] at d;have ap:=hk.ep (p:=(i:Int)) (by omega) (by omega);rw[bZ] at ap;have b9:=(hk.aY i _ ap).1;have bv:=hk.jz aB;obtain⟨g,cap,ai,_,_⟩:=ae.iT hk.lens bt;obtain⟨bw,a1⟩:∃m,s.c.aO=m:=⟨_,rfl⟩;have dI:(i:Int)<(bw:Int):=(by omega);rw[a1] at ai;have aD:=C ai;have M:=C (br ap (br b9 (br bt bv)));have bx:(i:Int).toNat=i:=(by omega);have dB:(0:Int)<=(i:Int):=(by omega);have dT:=C K.e;cases aG:t.on with
    |true=>rw[aG,if_pos rfl] at d;have y:=C d;have Q:=C aG;go_enter func53,ntmps53;go_upto_region 1 with fail;rw[G.out];go_wp2_with fail;refine q.mono ?_;rintro e ad ⟨rfl,rfl⟩;go_wp2_with fail;refine D.mono ?_;rintro e aQ ⟨rfl,X⟩;have E:=O.next X;obtain⟨a0,cc,cf,aR,bz,a2,cg,cj,cm,cn,b8,cr,bB,bW,l⟩:=E.en A j;rw[Q.out] at aR;rw[aA.out] at bz;obtain⟨cu,cB⟩:=E.fF bf.lens M.2.2.1 aD;have aS:=(E.aw M.2.2.2).cell 1 (v:=I J (s.aw t.g).h.idx) rfl;have Y:=C (E.drew.k6 M.1 (λT B=>JM T (L.hk i) (s.aY (i:Int)) (s.aw t.g).h.idx t.h.idx f aQ.drew B M.2.1));rw[an.out] at cB;obtain⟨cG,a3⟩:∃x,L.hk i=x:=⟨_,rfl⟩;have cJ:=C a3;rw[a3] at cu Y;obtain⟨a4,a5⟩:∃x,L.gk t.g=x:=⟨_,rfl⟩;have aK:=C a5;rw[a5] at a2 aS;obtain⟨aU,bF⟩:∃x,(s.aw t.g).h.idx=x:=⟨_,rfl⟩;have a9:=C bF;rw[bF] at aS Y;obtain⟨aP,aC⟩:∃x,t.h.idx=x:=⟨_,rfl⟩;have bI:=C aC;rw[aC] at a0 Y;obtain⟨dU,b_⟩:∃x,(s.aY (i:Int)).e8 aU aP f=x:=⟨_,rfl⟩;rw[b_] at Y;go_wp2_with fail;go_region_held3 (λW'=>W'.cell? ⟨b3,105,U⟩=R (ay (R ⟨g,0,U⟩) bw cap)∧W'.cell? ⟨g,i,U⟩=R (af (R ⟨cG,0,U⟩))∧W'.cell? ⟨P,4,U⟩=R (I J i)∧W'.cell? ⟨P,5,U⟩=R (af (R ⟨a4,0,U⟩))∧W'.cell? ⟨P,0,U⟩=R (I J aP)∧W'.cell? ⟨a4,1,U⟩=R (I J aU)) ((refine⟨?_,?_,?_,?_,?_,?_⟩)<;>(with_reducible repeat(first|assumption|refine b2 ?_))) (first|(go_at_call 101;refine Y.mono ?_;rintro e aL ⟨rfl,aq⟩;obtain⟨cq,ce,dV,bu,cM,ar,eo,ci,eu,ck,ev,ew,ey,co,l⟩:=aq.en (n:=z) A j;have eG:=l 6;have eH:=l 7;have a_:=(aq.aw (n:=t.g) M.2.2.2).cell 1 (v:=I J (s.aw t.g).h.idx) rfl;obtain⟨cW,c8⟩:=aq.fF (bf.lens.bU _ _) M.2.2.1 aD;have c_:=bg aL _ 3 _ aq bc;rw[aA.out] at cM;rw[aK.out] at ar;rw[bI.out] at cq;rw[aK.out,a9.out] at a_;rw[cJ.out] at cW;rw[an.out] at c8;have aV:=C aq));all_goals have ac:=aV.jq (n:=z) (t':={t with nice:=n}) A 6 (I J n) rfl j;have F:=ac.jq (n:=z) (t':={t with nice:=n,w:=f}) (aa.j7 (s:=s.bU (i:Int) ((s.aY (i:Int)).nice aU aP f)) A _) 7 (I ah f) rfl j;rw[aa.nM] at F;have da:=C F;go_wp2_with fail;go_ret2;rw[<-y.out,a9.out,bI.out];have:=da.out;rw[Q.out,aA.out] at this;exact dh (N _ _ _ this)
    |false=>rw[aG,if_neg (by decide)] at d;have y:=C d;have Q:=C aG;have bL:=C (λ(W:ab)=>oO t.e.rem f t.e.wt (by have:=K.e;omega) (by omega) (by have aS:t.e.rem*f<=262144*262144:=qx (by have:=K.e;omega) (by omega);omega) (by have:=K.e;omega) W);obtain⟨u,bd⟩:∃u,t.e.rem*f/t.e.wt=u:=⟨_,rfl⟩;obtain⟨r,am⟩:∃r,t.e.rem*f%t.e.wt=r:=⟨_,rfl⟩;rw[bd,am] at bL;have aI:=C bd;go_enter func53,ntmps53;go_upto_region 1 with fail;rw[G.out];go_wp2_with fail;refine q.mono ?_;rintro e ad ⟨rfl,rfl⟩;go_wp2_with fail;refine D.mono ?_;rintro e aQ ⟨rfl,X⟩;have E:=O.next X;obtain⟨a0,cc,cf,aR,bz,a2,cg,cj,cm,cn,b8,cr,bB,bW,l⟩:=E.en A j;rw[Q.out] at aR;have aZ:=C E;go_wp2_with fail;go_region_with (first|(go_at_call 102;refine(bL _).mono ?_;rintro e aL ⟨rfl,be⟩;have bN:=aZ.next (w':=aL) (by first|exact(below_drewN (Below.refl _ _) _).trans be|exact(Below.refl _ _).drew.trans be);obtain⟨_,_,_,_,_,_,cZ,de,_,_,bh,_,eI,_,l⟩:=bN.en A j;have cs:=l 12;have aV:=C bN));all_goals obtain⟨a6,bS⟩:∃a6,aL.setCell ⟨P,12,U⟩ (I ah u)=a6:=⟨_,rfl⟩;rw[bS];have ac:=aV.jq (n:=z) (t':={t with e:={t.e with rem:=u}}) A 12 (I ah u) rfl j;rw[bS] at ac;have aM:=aa.j7 A {t with e:={t.e with rem:=u}};obtain⟨_,_,_,_,_,_,_,_,_,_,bh,_,_,_,l⟩:=ac.en aM j;have eT:=l 10;have bG:=C ac;have df:=C aM;go_upto_region 13 with fail;obtain⟨ak,bi⟩:∃ak,a6.setCell ⟨P,10,U⟩ (I ah f)=ak:=⟨_,rfl⟩;rw[bi];have F:=bG.jq (n:=z) (t':={t with e:={t.e with rem:=u,wt:=f}}) df 10 (I ah f) rfl j;rw[bi,aa.nM] at F;have a7:=aa.j7 A {t with e:={t.e with rem:=u,wt:=f}};obtain⟨_,_,_,_,_,_,cZ,de,_,_,_,_,_,_,l⟩:=F.en a7 j;have eU:=l 6;have cv:=l 7;have c_:=bg ak _ 3 _ F bc;have di:=F.jq (n:=z) (t':={t with e:={t.e with rem:=u,wt:=f},nice:=n}) a7 6 (I J n) rfl j;have bT:=di.jq (n:=z) (t':={t with e:={t.e with rem:=u,wt:=f},nice:=n,w:=f}) (aa.j7 a7 _) 7 (I ah f) rfl j;rw[aa.nM,aa.nM] at bT;have ca:=C bT;go_wp2_with fail;go_ret2;rw[<-y.out];unfold wC;rw[aI.out];have:=ca.out;rw[Q.out,aA.out] at this;exact dh (N _ _ _ this)
   ·have eW:(bm !=0)=true:=(by simp[aN]);rw[if_pos aN] at d;have y:=C d;obtain⟨f,aj⟩:∃x,ei n=x:=⟨_,rfl⟩;rw[aj] at D;go_enter func53,ntmps53;go_upto_region 1 with fail;rw[G.out];go_wp2_with fail;refine q.mono ?_;rintro e ad ⟨rfl,rfl⟩;go_wp2_with fail;refine D.mono ?_;rintro e aQ ⟨rfl,X⟩;have aZ:=C (O.next X);go_wp2_with fail;go_ret2;rw[<-y.out];exact dh (N _ _ _ aZ)
end
section
variable {ao w:ab} {S:Nat->Prop} {L:bu} {s:aa} {k:Nat}
theorem aa.CD (g:Nat):∀(l:List Int) (s:aa),(aa.eQ g l s).groups=s.groups
 |[],s=>rfl
 |p::l,s=>by unfold aa.eQ;rw[aa.CD g l];rfl
theorem aa.CE (g:Nat) (p:Int):∀(l:List Int) (s:aa),aa.eQ g (l++[p]) s=(aa.eQ g l s).stop g p false
 |[],s=>rfl
 |q::l,s=>by rw[gM];show aa.eQ g (l++[p]) (s.stop g q false)=(aa.eQ g l (s.stop g q false)).stop g p false;exact aa.CE g p l _
theorem aa.Lv (s:aa) (g:Nat) (p:Int) (is:Bool) {G:cb} (a:G.h=(s.aw g).h):(s.b0 g G).stop g p is=(s.stop g p is).b0 g G:=by
 unfold aa.stop;have e:((s.b0 g G).aw g).h=(s.aw g).h:=by
  rw[aa.mj];split;·exact a
  ·rfl
 rw[e];rfl
theorem aa.CF (g:Nat) {G:cb}:∀(l:List Int) (s:aa),G.h=(s.aw g).h->aa.eQ g l (s.b0 g G)=(aa.eQ g l s).b0 g G
 |[],s,_=>rfl
 |p::l,s,a=>by unfold aa.eQ;rw[aa.Lv s g p false a];exact aa.CF g l _ a
theorem aa.Lw {t:cb} (b:s.groups[n]?=R t) (a:cb):(s.b0 n a).groups[n]?=R a:=cV (bD.1 b).1
theorem eF.b0 (h:eF s) (n:Nat) (t:cb):eF (s.b0 n t):=⟨h.1,h.2.1,h.2.2.1,h.2.2.2⟩
theorem Lx (bg a b n m bj:Int) (H:ax ao S L s w) (hk:s.Ok k):Calls au 49 #[aX L.b,bk (cx bg a b n m bj)] w (iE ao S L (s.lJ a n m)):=by
 obtain⟨V,an⟩:=aW (w.alloc (av (cx bg a b n m bj) 33));obtain⟨bN,ar,aq,a_,bl⟩:=H.enter _ an;have ac:=C an;have ae:=C a_;have am:=C aq;have bH:=C hk;have cW:=bJ (i:=1) bl (v:=I J a) rfl;have bS:=bJ (i:=3) bl (v:=I J n) rfl;have bi:=bJ (i:=4) bl (v:=I J m) rfl;have aN:=C (λ(W:ab) (r:aa) (o:Nat) (v:Value) (E:ax V bN L r W) (c8:V.cell? ⟨w.heap.size,o,U⟩=R v)=>E.kept ar c8 zK9);have A:=C (k5 a aq);generalize t:s.lJ a n m=Z;rw[aa.Af] at t;unfold aX at*;obtain⟨c_,bT⟩:=aW L.b;have bX:=C bT;rw[bT] at A⊢;unfold cx at ac⊢;cases M:s.group a with
 |none=>rw[M] at t;have N:=C t;rw[aa.mZ M] at A;go_enter func49,ntmps49;go_upto_region 1 with fail;rw[ac.out];go_wp2_with fail;refine A.mono ?_;rintro e aj ⟨rfl,rfl⟩;go_wp2_with fail;go_ret2;rw[<-N.out];exact dh (ae _ _ _ am)
 |some G=>
  obtain⟨da,F,bC⟩:=aa.hi M;rw[M] at t;dsimp only at t;rw[aa.lk M] at A;obtain⟨g,rfl⟩:=dS da;rw[bZ] at A F t;obtain⟨ap,bo⟩:=aW (L.gk g);have O:=C bo;rw[bo] at A;by_cases bV:(g:Int)=0
  ·rw[if_pos bV] at t;have N:=C t;obtain rfl:g=0:=by omega
   have aI:=C (show w.alloc (av #[I J bg,I J 0,I J b,I J n,I J m,I ah bj] 33)=V from an);have fG:V.cell? ⟨w.heap.size,1,U⟩=R (I J 0):=cW;go_enter func49,ntmps49;go_upto_region 1 with fail;first|rw[ac.out]|rw[aI.out]
   go_wp2_with fail;apply A.mono;rintro e aj ⟨rfl,rfl⟩;go_wp2_with fail;go_ret2;rw[<-N.out];exact dh (ae _ _ _ am)
  ·rw[if_neg bV] at t;have az:g≠0:=(by omega);obtain⟨⟨B,P,fH⟩,⟨l,bm,cZ,fI⟩,_⟩:=hk.aw g G F az;have aQ:s.aw g=G:=aa.lL F;obtain⟨b1,bq⟩:=aW (L.bd g);have aR:=C bq;obtain⟨al,de⟩:=aW (L.ln g);have K:=C de;have bt:=C F;have ad:=C (br P (br bm aQ));have bh:0<B.loc.length:=(by have:=hk.aO;omega);have aB:=C (J5 n m (aq.drew.band F P) bh);rw[bq] at aB;obtain⟨fJ,cF,fK,fR,bE,ai,aJ,Q⟩:=aq.dw F bo;rw[P] at ai;simp only[iH,cU,aX] at ai;rw[bq] at ai;generalize bG:aM.hR n m=b3 at aB t;by_cases aS:b3=0;·subst aS;rw[if_neg (by decide)] at t;have aU:=(bD.1 F).1;obtain⟨z,bw⟩:∃z,s.bP g (λb=>b.set n m)=z:=⟨_,rfl⟩;have a0:=aa.qd (s:=s) (g:=g) (by rw[aQ];exact P) (λb=>b.set n m);rw[bw,aQ] at a0;have b6:z.aw g={G with band:=R (B.set n m)}:=(by rw[a0,aa.mj,if_pos ⟨rfl,aU⟩]);have aA:cI k s z:=(by rw[<-bw];exact⟨hk.bP g _ (λb=>b.md n m),cN.bP _ _ _⟩);have bz:z.groups[g]?=R (z.aw g):=aa.nQ (by rw[aA.du.len];exact aU);obtain⟨d,aP⟩:∃d,z.b0 g {z.aw g with quota:=n}=d:=⟨_,rfl⟩;have a2:=aA.ok.aw g _ bz az;have a3:cI k s d:=aA.trans (by rw[<-aP];exact⟨aA.ok.b0 bz rfl rfl (λ_=>⟨a2.band,a2.line,a2.shares⟩) (λe=>absurd e az),cN.b0 z g rfl rfl rfl⟩);have bR:d.aw g={G with band:=R (B.set n m),quota:=n}:=(by rw[<-aP,aa.mj,if_pos ⟨rfl,by rw[aA.du.len];exact aU⟩,b6]);have df:d.groups[g]?=R (d.aw g):=aa.nQ (by rw[a3.du.len];exact aU);have bs:(d.aw g).line=R l:=(by rw[bR];exact bm);have di:s.il g=l:=(by unfold aa.il;rw[aQ,bm];rfl);have ca:s.oF g n m=d.b0 g {d.aw g with line:=R []}:=(by unfold aa.oF;rw[bw,aP,aa.tQ bs]);rw[di,ca,aa.CF g (G:={d.aw g with line:=R []}) l d rfl] at t;have N:=C t;have j:=C (br a0 (br b6 (br bz (br aP (br a3 (br bR (br df bs)))))));have a4:d.c.aO=s.c.aO:=(by rw[a3.du.c]);have a5:=C (show∀p∈l,0<=p∧p<(d.c.aO:Int) by rw[a4];exact cZ);obtain⟨b9,cap,bv,_,_⟩:=aq.iT hk.lens (p:=0) (by have:=hk.aO;omega);obtain⟨aV,dA⟩:∃m,s.c.aO=m:=⟨_,rfl⟩;rw[dA] at bv a4;have a1:=C bv;have cc:=C a4;obtain⟨aZ,dF⟩:∃x,(d.aw g).h.idx=x:=⟨_,rfl⟩;have aK:=C dF;go_enter func49,ntmps49;go_upto_region 1 with fail;rw[ac.out];go_wp2_with fail;refine A.mono ?_;rintro e aj ⟨rfl,rfl⟩;have bn:((g:Int)==0)=false:=(by simp;exact az);go_wp2_with fail;go_region_held3 (λW'=>W'.cell? ⟨ap,5,U⟩=R (af (R ⟨b1,0,U⟩))∧W'.cell? ⟨w.heap.size,3,U⟩=R (I J n)∧W'.cell? ⟨w.heap.size,4,U⟩=R (I J m)) ((refine⟨?_,?_,?_⟩)<;>(with_reducible repeat(first|assumption|refine b2 ?_))) (first|(go_at_call 92;refine aB.mono ?_;rintro e X aG;rw[<-aR.out] at aG;obtain⟨rfl,y⟩:=am.drew.o4 bt ad.1 aG;rw[<-j.out.1] at y;have a6:=y.r1 j.2.2.1 (by rw[j.out.2.1]) O aR;have ak:=aN X _ 3 _ y bS;have a7:=aN X _ 4 _ y bi;obtain⟨cf,cg,cj,cm,cn,b8,cr,Q⟩:=y.dw j.2.2.1 O;have fX:=Q 4;have bF:=C y));all_goals
    go_upto_region 10 with fail;generalize dG:X.setCell ⟨ap,4,U⟩ (I J n)=dH;have a8:=bF.Cp (t':={z.aw g with quota:=n}) j.2.2.1 4 (I J n) rfl rfl rfl rfl O;rw[dG,j.out.2.2.2.1] at a8;have fY:=a8.Cj j.2.2.2.2.2.2.1 j.2.2.2.2.2.2.2 O K;have dI:=C (w0 al l dH (by rw[<-K.out];exact a8.line j.2.2.2.2.2.2.1 j.2.2.2.2.2.2.2));have bx:=C a8;go_wp2_with fail;apply dI.mono;rintro e dv ⟨rfl,dB,dT⟩;have dU:=bx.p9 j.2.2.2.2.2.2.1 j.2.2.2.2.2.2.2 (l':=l.tail) (by rw[K.out];exact dB) (by rw[K.out];exact dT);have ce:=C dU;go_wp2_with fail;go_loopg [8,9] l.length (λdV v u W=>∃(q f:List Int),dV=f.length∧l=q++f∧v=I J (s7 f)∧u=aD (!f.isEmpty)∧ax aj bN L ((aa.eQ g q d).b0 g {d.aw g with line:=R f.tail}) W);case atStart=>exact⟨[],l,rfl,rfl,rfl,rfl,ce⟩
    case round=>
     obtain⟨q,f,a9,Y,rfl,rfl,E⟩:=hrel;have bu:=C E;have bB:=C Y;have eo:=C a9;have aL:=j.2.2.2.2.1.trans (aa.Ok.eQ g q d j.2.2.2.2.1.ok λp aC=>a5 p (by rw[Y];exact List.mem_append_left _ aC));have ba:(aa.eQ g q d).groups[g]?=R (d.aw g):=(by rw[aa.CD];exact j.2.2.2.2.2.2.1);have bI:=aa.Lw ba {d.aw g with line:=R f.tail};cases f with
     |nil=>clear E Y a9 aL ba bI;rw[show(!([]:List Int).isEmpty)=false from rfl];go_wp2_with fail;go_ret2;rw[<-N.out];refine dh (ae _ _ _ ?_);have:=bu.out;rw[show l=q by rw[bB.out,qw]];exact this
     |cons p f=>have bW:=a5 p (by rw[Y];simp);obtain⟨i,rfl⟩:=dS bW.1;have ci:i<aV:=(by have:=cc.out;omega);have eu:(i:Int)<(aV:Int):=(by omega);have ck:(0:Int)<=(i:Int):=(by omega);have fZ:(i:Int).toNat=i:=(by omega);have bL:(aa.eQ g q d).c.aO=aV:=(by rw[(aa.Ok.eQ g q d j.out.2.2.2.2.1.ok λp aC=>a5.out p (by rw[Y];exact List.mem_append_left _ aC)).du.c];exact cc);have bb:=aL.ok.ep (p:=(i:Int)) ck (by rw[bL];exact eu);rw[bZ] at bb;have D:=C (br bb (br (aL.ok.aY i _ bb).1 (br ba (br bI aL.ok.lens))));have cu:=C (show i<(aa.eQ g q d).c.aO by rw[bL];exact ci);have ag:=C (E.drew.k6 (i:=i) D.1 (λT M=>xn T (L.hk i) ((aa.eQ g q d).aY (i:Int)) (d.aw g).h.idx false wr.drew M D.2.1));obtain⟨cB,cG⟩:=E.fF (D.2.2.2.2.b0 _ _) cu a1;obtain⟨cf,cJ,cj,cm,cn,b8,cr,Q⟩:=E.dw D.2.2.2.1 O;rw[bX.out] at cG;obtain⟨ev,be⟩:∃x,L.hk i=x:=⟨_,rfl⟩;have ew:=C be;rw[be] at cB ag;rw[aK.out] at cJ ag;obtain⟨aE,b_⟩:∃x:Int,(if(((aa.eQ g q d).aY (i:Int)).linked aZ).isSome then 0 else 1)=x:=⟨_,rfl⟩;rw[b_] at ag;clear E Y a9 aL ba bI bW bL bb cf cj cm cn b8 cr Q be b_;rw[show s7 ((i:Int)::f)=(i:Int) from rfl,show(!((i:Int)::f).isEmpty)=true from rfl];go_wp2_with fail;go_region_held3 (λW'=>W'.cell? ⟨c_,105,U⟩=R (ay (R ⟨b9,0,U⟩) aV cap)∧W'.cell? ⟨b9,i,U⟩=R (af (R ⟨ev,0,U⟩))∧W'.cell? ⟨ap,1,U⟩=R (I J aZ)) ((refine⟨?_,?_,?_⟩)<;>(with_reducible repeat(first|assumption|refine b2 ?_))) (first|(go_at_call 94;refine ag.mono ?_;rintro e ey ⟨rfl,bf⟩;obtain⟨co,eG,eH,ak,a7,a6,cq,Q⟩:=bf.dw (g:=g) D.2.2.2.1 O;obtain⟨eI,cs⟩:=bf.fF ((D.2.2.2.2.b0 _ _).bU _ _) (p:=i) cu a1;rw[aK.out] at eG;rw[ew.out] at eI;rw[bX.out] at cs;simp only[iH,cU,aX] at cq;rw[K.out] at cq;have cM:=C bf;clear bf cB cG cJ co eH ak a7 a6 Q));all_goals
      have eT:=C (w0 al f ey (by rw[<-K.out];exact cM.line (G:={d.aw g with line:=R f}) D.2.2.2.1 rfl));go_wp2_with fail;apply eT.mono;rintro e f_ ⟨rfl,eU,cv⟩;have eW:=cM.p9 (G:={d.aw g with line:=R f}) D.2.2.2.1 rfl (l':=f.tail) (by rw[K.out];exact eU) (by rw[K.out];exact cv);have bA:=C eW;go_wp2_with fail;go_roundg f.length;case measure=>rw[eo.out,dX];omega
      case rel=>refine⟨q++[(i:Int)],f,rfl,by rw[bB.out];simp,rfl,rfl,?_⟩;rw[aa.CE];have bc:=bA.out;have cg:((aa.eQ g q d).stop g (i:Int) false)=(aa.eQ g q d).bU (i:Int) (((aa.eQ g q d).aY (i:Int)).stop aZ false):=(by unfold aa.stop;rw[show((aa.eQ g q d).aw g).h.idx=aZ by rw[aa.lL D.out.2.2.1];exact aK.out]);rw[cg];unfold aa.b0 aa.bU at bc⊢;dsimp only at bc⊢;rw[List.set_set] at bc;exact bc
   ·have gw:(b3 !=0)=true:=(by simp[aS]);rw[if_pos aS] at t;have N:=C t;have e2:B.set n m=B:=(by unfold aM.set;rw[if_neg (by rw[bG];exact aS)]);rw[e2] at aB;have e3:s.b0 g {G with band:=R B}=s:=(by have:({G with band:=R B}:cb)=G:=(by cases G;simp only at P;subst P;rfl);rw[this];exact aa.Ch F);have fe:=C e3;go_enter func49,ntmps49;go_upto_region 1 with fail;rw[ac.out];go_wp2_with fail;refine A.mono ?_;rintro e aj ⟨rfl,rfl⟩;have bn:((g:Int)==0)=false:=(by simp;exact az);go_wp2_with fail;go_region_held3 (λW'=>W'.cell? ⟨ap,5,U⟩=R (af (R ⟨b1,0,U⟩))∧W'.cell? ⟨w.heap.size,3,U⟩=R (I J n)∧W'.cell? ⟨w.heap.size,4,U⟩=R (I J m)) ((refine⟨?_,?_,?_⟩)<;>(with_reducible repeat(first|assumption|refine b2 ?_))) (first|(go_at_call 92;refine aB.mono ?_;rintro e X aG;rw[<-aR.out] at aG;obtain⟨rfl,y⟩:=am.drew.o4 bt ad.1 aG;rw[fe.out] at y;have a6:=y.r1 (by rw[ad.out.2.2];exact bt) (by rw[ad.out.2.2];exact ad.1) O aR;have ak:=aN X _ 3 _ y bS;have a7:=aN X _ 4 _ y bi;have bF:=C y));all_goals clear a6 a7 ak;go_wp2_with fail;go_ret2;rw[<-N.out];exact dh (ae _ _ _ bF)
end
variable {tmps:Array Value} {gp:Int->Nat} {fn:Func}
section
open Go.Shelf
attribute [local go_sem] Oper.semAt_some
def iF (ns:Nat) (h:ad) (g:Int):ad:=match h.at g with|none=>h|some x=>h.set g (R {x with q:=x.q.b4 ns})
theorem aC.Ly (q:aC) (ns:Nat):(q.b4 ns).cur=q.cur:=by
 unfold aC.b4;split;·rfl
 ·split<;>rfl
def qf (h:ad) (g:Int):Option Int:=(h.at g).map (·.q.cur)
theorem Lz (ns:Nat) (h:ad) (g:Int):qf (iF ns h g)=qf h:=by
 funext k;unfold qf iF;cases a:h.at g with
 |none=>rfl
 |some x=>
  dsimp only;rw[ad.dm a];unfold cL;split;·rename_i e;rw[e,a];show R (x.q.b4 ns).cur=R x.q.cur;rw[aC.Ly]
  ·rfl
theorem CG {h h':ad} (e:qf h'=qf h):∀(k:Nat) (g:Int),h'.cC k g=h.cC k g
 |0,g=>rfl
 |k+1,g=>by
  have a:=congrFun e g;unfold qf at a;unfold ad.cC;cases aq:h.at g with
  |none=>
   rw[aq] at a;cases aA:h'.at g with
   |none=>rfl
   |some y=>rw[aA] at a;cases a
  |some x=>
   rw[aq] at a;cases aA:h'.at g with
   |none=>rw[aA] at a;cases a
   |some y=>rw[aA] at a;have b:y.q.cur=x.q.cur:=Option.some.inj a;dsimp only;rw[b,CG e k]
theorem CH (ns:Nat) (g:Int) (l:List Int) (h:ad):ad.ee ns (g::l) h=ad.ee ns l (iF ns h g):=by
 conv=>lhs;unfold ad.ee
 unfold iF;cases h.at g<;>rfl
theorem CI (ns:Nat):∀(k:Nat) (a:ad) (g:Int),k4 (iF ns) k a g=(ad.ee ns (a.cC k g).1 a,(a.cC k g).2)
 |0,a,g=>rfl
 |k+1,a,g=>by
  unfold k4 ad.cC;cases b:a.at g with
  |none=>rfl
  |some x=>
   dsimp only;split;·rw[CH];rfl
   ·rw[CI ns k,CG (Lz ns a g),CH]
theorem LA {h:ad} (hk:h.Ok) (ns:Nat) (g:Int):(iF ns h g).Ok∧(iF ns h g).a1=h.a1:=by
 unfold iF;cases a:h.at g with
 |none=>exact⟨hk,rfl⟩
 |some x=>exact⟨hk.same a ((hk.g.q g x a).b4 ns) (aC.sF (hk.g.q g x a) ns),ad.jT a rfl rfl⟩
theorem ca.LB {a d:Nat->Prop} {c:ab} {h:ad} (H:ca b gp ai a d c h W) (i:∀k,a k->d k) (j:∀k,a k->k<c.heap.size) (l:c.heap.size+2<=W.heap.size) {g:Int} (f:h.at g=R G) (m:G.q.Ok) (ns:Nat) (n:ns<=1000000000):Calls au 160 #[af (R ⟨ai g,0,U⟩),I ah (ns:Int)] W λe w'=>(∃v,e=aK v)∧ca b gp ai a d c (iF ns h g) w'∧Mod (λk=>a k∨c.heap.size+2<=k) W w':=by obtain⟨T,o,p,s⟩:=H.q i j l f;refine(Jp T (ai g) G.q ns W o m n).mono λe w' r=>⟨⟨_,r.1⟩,?_,r.2.2.mono (λk _ t=>p k t)⟩;have:=(s w' _ r.2.1 r.2.2).1;unfold iF;rw[f];exact this
def pa (a c:Nat) (w:ab) (b ns:Nat) (W:ab):Prop:=W.cell? ⟨a,0,U⟩=R (af (R ⟨b,0,U⟩))∧W.cell? ⟨c,0,U⟩=R (.func (.func 79) #[] #[])∧W.cell? ⟨w.heap.size,0,U⟩=R (I ah (ns:Int))
theorem pa.mod {a c:Nat} {ns:Nat} (h:pa a c w b ns W) (d:Mod Z W W') (e:¬Z a) (f:¬Z c) (g:¬Z w.heap.size):pa a c w b ns W':=⟨d.cell h.1 (j5 h.1) e,d.cell h.2.1 (j5 h.2.1) f,d.cell h.2.2 (j5 h.2.2) g⟩
theorem LC (S:Nat->Prop) (b:Nat) (h:ad) (ns:Nat) (w:ab) (H:cO w S b h) (hk:h.Ok):Calls au 110 #[af (R ⟨b,0,U⟩),I ah (ns:Int)] w (dv S b (I J (h.e7 ns)) (h.b4 ns) w):=by
 have a8:=C H.trim;obtain⟨L,O⟩:∃L,w.alloc (av #[I ah (ns:Int)] 31)=L:=⟨_,rfl⟩;have t:Below w.heap.size w L:=O▸bx _ _;have X:ak L w.heap.size #[I ah (ns:Int)] 31:=O▸ak.new w _ _;have Y:=C O;have P:=C (oY (n:=9) (xm S b h L (H.next t) hk));obtain⟨r,u⟩:∃r,h.running=r:=⟨_,rfl⟩;rw[u] at P;have M:h.e7 ns≠0->h.b4 ns=h:=λe=>by unfold ad.b4;rw[z0 e]
 clear O;by_cases aa:r=-1
 ·have d:h.e7 ns=7:=by unfold ad.e7;rw[u,aj aa]
  rw[M (by rw[d];decide),d];clear d M u;refine callsIn_wide (n:=10).1 ?_;refine callsIn_of_wp_marks func110 rfl trivial ?_ rfl;simp only[ntmps110,jJ,dX,hM,jN,jM,jG,jF,jK,jH,jc,gM];have aG:Fence.wide.fn 38:=trivial;have aL:Fence.wide.fn 78:=trivial;gi_wp2_with (gi_at_call 38;rw[Y.out];refine P.out.mono ?_;rintro e c ⟨rfl,f⟩;have E:=C f;clear f);have o:=t.trans (E.out.mono t.size);exact⟨_,results_tmp rfl _ _ _,rfl,(H.next o).mono (λ_ _ a=>.inl a),Mod.below o⟩
 by_cases ae:1000000000<ns
 ·have d:h.e7 ns=8:=by unfold ad.e7;rw[u,z0 aa,aj ae]
  rw[M (by rw[d];decide),d];have ba:(1000000000:Int)<(ns:Int):=by omega
  clear d M u;refine callsIn_wide (n:=10).1 ?_;refine callsIn_of_wp_marks func110 rfl trivial ?_ rfl;simp only[ntmps110,jJ,dX,hM,jN,jM,jG,jF,jK,jH,jc,gM];have aG:Fence.wide.fn 38:=trivial;have aL:Fence.wide.fn 78:=trivial;gi_wp2_with (gi_at_call 38;rw[Y.out];refine P.out.mono ?_;rintro e c ⟨rfl,f⟩;have E:=C f;have aq:=(X.next f).cell 0 (v:=I ah (ns:Int)) rfl;clear f);have o:=t.trans (E.out.mono t.size);exact⟨_,results_tmp rfl _ _ _,rfl,(H.next o).mono (λ_ _ a=>.inl a),Mod.below o⟩
 ·have d:h.e7 ns=0:=by unfold ad.e7;rw[u,z0 aa,z0 ae]
  have N:h.b4 ns=(k4 (iF ns) 10 h 0).1:=by unfold ad.b4;rw[aj d,CI]
  rw[d,N];have ba:¬(1000000000:Int)<(ns:Int):=by omega
  clear d N M u;refine callsIn_wide (n:=10).1 ?_;refine callsIn_of_wp_marks func110 rfl trivial ?_ rfl;simp only[ntmps110,jJ,dX,hM,jN,jM,jG,jF,jK,jH,jc,gM];have aG:Fence.wide.fn 38:=trivial;have aL:Fence.wide.fn 78:=trivial;gi_wp2_with (gi_at_call 38;rw[Y.out];refine P.out.mono ?_;rintro e c ⟨rfl,f⟩;have E:=C f;have aq:=(X.next f).cell 0 (v:=I ah (ns:Int)) rfl;clear f);refine(tu 9 b _ _ c).mono ?_;rintro e j ⟨rfl,Q⟩;have am:j.heap.size=c.heap.size+2:=by rw[Q];simp
  have ao:Below c.heap.size c j:=by rw[Q];exact(bx _ _).alloc (by simp) _
  have T:w.heap.size<c.heap.size:=dd X.lt E.out.size;have aN:pa c.heap.size (c.heap.size+1) w b ns j:=by have d:=(ak.new c #[af (R ⟨b,0,U⟩)] 90);have N:=(ak.new (c.alloc (av #[af (R ⟨b,0,U⟩)] 90)) #[.func (.func 79) #[] #[]] 148);rw[show(c.alloc (av #[af (R ⟨b,0,U⟩)] 90)).heap.size=c.heap.size+1 by simp] at N;rw[Q];exact⟨(d.alloc _).cell 0 rfl,N.cell 0 rfl,fq _ (by simp;omega) (fq _ (by omega) aq)⟩
  have y:=C am;have bb:=C aN;have p:=C T;clear Q am aN T aq;gi_wp2;obtain⟨gp,ai,bf,ap⟩:=a8.out;have ax:=C ap;clear ap;have o:Below w.heap.size w j:=t.trans ((E.out.mono t.size).trans (ao.mono (by have:=p.out;omega)));refine xh rfl (by omega) (gf:=133) (lb:=#[af (R ⟨c.heap.size,0,U⟩),af (R ⟨c.heap.size+1,0,U⟩)]) rfl trivial (enters_of func133 (by kernel_rfl) rfl) (encs:=lS ai) (λ_=>rfl) (kE b gp ai (λk=>S k∧k<w.heap.size) (λk=>S k∧k<w.heap.size) j h.a1 (iF ns) (λ_ _ _=>True) (k4 (iF ns) 10 h 0) (λ_=>pa c.heap.size (c.heap.size+1) w b ns)) (oX b gp ai (λk=>S k∧k<w.heap.size) (λk=>S k∧k<w.heap.size) j h.a1 (iF ns) (λ_ _ _=>True) (k4 (iF ns) 10 h 0) (λ_=>pa c.heap.size (c.heap.size+1) w b ns)) (λag=>hG ag=true) ?hI ?hI' ?h0 ?hiter (λx=>{tmps:=#[af (R ⟨b,0,U⟩),I ah (ns:Int),undef,af (R ⟨w.heap.size,0,U⟩),I J 0,af (R ⟨ai x.1,0,U⟩),aD false,af (R ⟨b,0,U⟩),aD false,aD false,af (R ⟨b,0,U⟩),I J r,aD false,aD (decide ((1000000000:Int)<(ns:Int))),I ah (ns:Int),aD (decide ((1000000000:Int)<(ns:Int))),af (R ⟨b,0,U⟩),.func (.func 133) #[] #[af (R ⟨c.heap.size,0,U⟩),af (R ⟨c.heap.size+1,0,U⟩)],af (R ⟨ai x.1,0,U⟩),I J x.2,undef,undef,undef],defers:=[]}) ?assign ?body ?done;case hI=>intro ag A bc F z;have s:=p.out;have D:=y.out;exact F.stay (λk a e=>by have:=a.2;omega) (λk a e=>by omega) (λk a e=>by omega) z (λm=>m.mod z (by omega) (by omega) (by omega))
  case hI'=>intro ag x A bc F z;have s:=p.out;have D:=y.out;exact F.stay (λk a e=>by have:=a.2;omega) (λk a e=>by omega) (λk a e=>by omega) z (λm=>m.mod z (by omega) (by omega) (by omega))
  case h0=>obtain⟨bg,bj,bd,be⟩:=hk.g.root;refine⟨bb.out,.inr ⟨rfl,h,10,bg,⟨⟨Mod.refl _ _,bf,?_⟩,hk,rfl,bj,by omega,rfl,trivial⟩⟩⟩;exact(ax.out.frame (Mod.below (S:=λ_=>False) o) (λ_ _=>id)).mono (λk _ a=>.inl a)
  case hiter=>intro l B an bN aw bS bl bo bm;have s:=p.out;have D:=y.out;exact xj 9 (by omega) b gp ai (λk=>S k∧k<w.heap.size) (λk=>S k∧k<w.heap.size) j h.a1 (iF ns) (λ_ _ _=>True) (k4 (iF ns) 10 h 0) (λ_=>pa c.heap.size (c.heap.size+1) w b ns) l c.heap.size (c.heap.size+1) B an (λk a=>by have:=a.2;omega) (λag W m=>⟨m.1,m.2.1⟩) bl bo aw bm
  case assign=>intro l x W aM V;simp only[lS];gi_wp2;exact V
  case body=>
   rintro l bi ⟨g,x⟩ W ⟨m,ay,bq,s,k,G,K,aQ⟩ aR;clear ay bq;have bT:=m.2.2;have aX:Fence.wide.fn 160:=trivial;have T:=p.out;have D:=y.out;have aS:=C (oY (n:=7) (K.aP.LB (λk a=>a) (λk a=>by have:=a.2;omega) aR K.at_ (K.ok.g.q _ _ K.at_) ns (by omega)));have ac:=C K;have bt:=C m;have bw:=C aQ;clear m K aQ T D;dsimp only at aS;gi_wp2;refine(CallsIn.inRound l aS.out).mono ?_;rintro e a0 ⟨⟨bX,rfl⟩,aU,az⟩;have bz:=C aU;clear aU;gi_wp2;have s:=p.out;have D:=y.out;have bV:=aR;refine⟨⟨az.block _ (by omega) (λe=>by rcases e with e|e;have:=e.2;omega;omega),az.block _ (by omega) (λe=>by rcases e with e|e;have:=e.2;omega;omega)⟩,bt.out.mod az (λe=>by rcases e with e|e;have:=e.2;omega;omega) (λe=>by rcases e with e|e;have:=e.2;omega;omega) (λe=>by rcases e with e|e;have:=e.2;omega;omega),?_⟩;have aV:=LA ac.out.ok ns g;have aZ:=ac.out.step (W':=a0) rfl bz.out aV.1 (aV.2.trans ac.out.a1) (λ_ _ _=>trivial);rw[mT,p7];have a2:G.q.cur=x:=bw.out;rw[a2] at aZ;rcases aZ with⟨aB,aA,a3⟩|⟨aB,a4,a5,aA⟩;·exact .inl ⟨aB,aA,(g,x),by rw[n4];rfl,a3⟩
   ·exact .inr ⟨aB,_,a4,a5,aA⟩
  case done=>
   rintro ag W aK F V;have a6:ca b gp ai (λk=>S k∧k<w.heap.size) (λk=>S k∧k<w.heap.size) j (k4 (iF ns) 10 h 0).1 W:=by
    rcases F.2 with⟨_,bF,D⟩|⟨s,_⟩;·exact bF
    ·rw[aK] at s;cases s
   have a7:=a6.stay (Z:=λk=>k=j.heap.size) (W':=W.putObj j.heap.size (.deferred U)) (λk a e=>by have:=a.2;have:=p.out;have:=y.out;omega) (λk a e=>by omega) (λk a e=>by omega) ⟨rfl,rfl,rfl,by simp,λk hk aO=>qq aO⟩;have a9:=C a7;have aC:=C V;clear a6 a7 V F;gi_wp2;refine⟨by simp,.inl ⟨_,_,rfl,run_takeDeferred aC.out,?_⟩⟩;refine⟨_,results_tmp rfl _ _ _,rfl,?_⟩;obtain⟨z,bI,bL⟩:=a9.out;have s:=p.out;have D:=y.out;exact⟨⟨gp,ai,bI,bL.mono (λk _ a=>by rcases a with a|a;exact .inl a.1;exact .inr (by omega))⟩,(Mod.below (S:=S) o).trans z (λi _ e=>e.1)⟩
end
section
variable {ao w:ab} {S:Nat->Prop} {L:bu} {s:aa} {k:Nat}
theorem ax.LD (H:ax ao S L s w) (q:Part) (h0:q≠ .no):∃T,fW w T L s q∧(∀(w':ab) (a:bu) (b:aa),Mod T w w'->fW w' (cS T w) a b q->(∀r,r≠q->∀(v:ab) (T:Nat->Prop),fW v T L s r->fW v T a b r)->ax ao S a b w')∧∀k,k<w.heap.size->T k->cS S ao k:=by
 obtain⟨d,f,H⟩:=H;refine⟨λk=>f k=q,H.part q,λw' a b h l m=>⟨?_,fQ w f q,?_⟩,λk n e=>H.own k n (λc=>h0 (e.symm.trans c))⟩
 ·refine d.trans h (λi j e=>?_);rcases H.own i (dd j d.size) (λc=>h0 (e.symm.trans c)) with g|g;·exact g
  ·exact absurd j (by omega)
 ·refine(H.nz q h l (λr o T=>m r o w' T)).mono (λk e=>?_);rcases e with e|e;·exact e
  ·exact .inr (cA d.size e)
theorem ax.LF (H:ax ao S L s w):∃T,fD w T L.fc s.book∧(∀(w':ab) (a:fS),fD w' (cS T w) L.fc a->Mod T w w'->ax ao S L {s with book:=a} w')∧∀k,k<w.heap.size->T k->cS S ao k:=by
 obtain⟨T,b,c,d⟩:=H.LD .book (by simp);refine⟨T,b,λw' a e f=>c w' L _ f e ?_,d⟩;intro r g v T h;cases r with
 |book=>exact absurd rfl g
 |_=>exact h
theorem Own.LG (w:ab) (n:Int) (T:TypeId):Own encI (w.alloc (av #[I J n] T)) w.heap.size T (ay (R ⟨w.heap.size,0,U⟩) 1 1) 1 [n]:=⟨rfl,.inr ⟨w.heap.size,1,#[I J n],rfl,bK _,l2 w _,bK _,by unfold maxLen;omega,rfl,rfl⟩⟩
theorem Rd.LH (h:Rd encI n₀ W a n zs):pi n₀ W (ay a n cap) zs:=by
 have c:=h.1;by_cases e:0<n;·obtain⟨b,f,rfl,g,i⟩:=h.cells e;refine .inr ⟨b,f,cap,by rw[c],g,λj d=>?_⟩;have:=i j _ (b5 d) 0 (I J zs[j]) rfl;unfold a_;rw[b5 d];simpa[encI] using this
 ·obtain rfl:n=0:=by omega
  exact .inl ⟨⟨a,cap,rfl⟩,nY.1 c⟩
theorem aa.LI {a n:Int} (h:s.e0 a=false):s.tick a n=(s,0,1):=by unfold aa.tick;rw[if_pos h]
theorem aa.LJ {a n:Int} (h:s.e0 a=true) (b:n<0∨s.c.tick<n):s.tick a n=(s,0,8):=by unfold aa.tick;rw[z0 (by rw[h];decide),if_pos b]
theorem aa.LK {a n:Int} (h:s.e0 a=true) (b:¬(n<0∨s.c.tick<n)) (d:s.running a=-1):s.tick a n=(s.dJ a ((s.clock a).tick n.toNat),-1,0):=by unfold aa.tick;rw[z0 (by rw[h];decide),z0 b,if_pos d]
theorem xN (K a b n m M:Int) (H:ax ao S L s w) (hk:s.Ok k) (aQ:s.e0 a=false∨(s.e0 a=true∧(n<0∨s.c.tick<n))∨(s.e0 a=true∧¬(n<0∨s.c.tick<n)∧s.running a=-1)):Calls au 58 #[aX L.b,bk (cx K a b n m M)] w (iE ao S L (s.tick a n)):=by
 obtain⟨V,N⟩:=aW (w.alloc (av (cx K a b n m M) 33));obtain⟨ah,aR,g,aS,O⟩:=H.enter _ N;have h:=C N;have t:=C aS;have u:=C g;have j:=C hk;have P:=bJ (i:=1) O (v:=I J a) rfl;have Q:=bJ (i:=3) O (v:=I J n) rfl;have x:=C (λ(W:ab) (r:aa) (o:Nat) (v:Value) (aU:ax V ah L r W) (aP:V.cell? ⟨w.heap.size,o,U⟩=R v)=>aU.kept aR aP zK9);have f:=C (rL a g);have A:=g.top.cell 1 Bq;unfold aX at*;obtain⟨aV,B⟩:=aW L.b;have T:=C B;rw[B] at f A⊢;unfold cx at h⊢;rcases aQ with d|⟨d,D⟩|⟨d,X,Y⟩;·rw[aa.LI d];rw[d] at f;go_enter func58,ntmps58;go_upto_region 1 with fail;rw[h.out];go_wp2_with fail;refine f.mono ?_;rintro e E ⟨rfl,rfl⟩;go_wp2_with fail;go_ret2;exact dh (t _ _ _ u)
 ·rw[aa.LJ d D];rw[d] at f;generalize aZ:s.c.tick=tk at A D;by_cases bq:n<0;·clear D;go_enter func58,ntmps58;go_upto_region 1 with fail;rw[h.out];go_wp2_with fail;refine f.mono ?_;rintro e E ⟨rfl,rfl⟩;go_wp2_with fail;go_quiet (fail);go_wp2_with fail;go_ret2;exact dh (t _ _ _ (u.next (below_drewN (Below.refl _ _) _)))
  ·have a6:tk<n:=(by omega);go_enter func58,ntmps58;go_upto_region 1 with fail;rw[h.out];go_wp2_with fail;refine f.mono ?_;rintro e E ⟨rfl,rfl⟩;go_wp2_with fail;go_quiet (fail);go_wp2_with fail;go_ret2;exact dh (t _ _ _ (u.next (below_drewN (Below.refl _ _) _)))
 ·rw[aa.LK d X Y];rw[d] at f;obtain⟨Z,ak⟩:=aa.mi.1 d;obtain⟨i,rfl⟩:=dS Z;have aq:i<s.c.aO:=by omega
  have aZ:=hk.tick;have a7:=hk.iq;have F:=C (λ(a8:Nat)=>o0 (i:Int) (g.next (below_drewN (Below.refl _ _) a8)) hk);unfold aX at F;rw[B,Y] at F;have G:=hk.pR (p:=(i:Int)) Z ak;rw[bZ] at G;have ba:=hk.iR _ _ G;obtain⟨ac,bb,az,_,_⟩:=g.tG hk.lens aq;generalize bt:s.c.aO=ad at az;have aB:=C az;have ai:(i:Int)<(ad:Int):=by omega
  have bw:(i:Int).toNat=i:=by omega
  have aD:IntKind.u64.wrap n=n:=by rw[ni];omega
  have ag:=C (show((n.toNat:Nat):Int)=n by omega);have bf:=C (show n.toNat<=1000000000 by omega);have l:=C (br G (br aq (show(s.clock (i:Int)).hC<=1000000000 by rw[ba];exact a7)));generalize a0:s.c.tick=tk at A X;have bz:¬n<0:=by omega
  have a6:¬tk<n:=by omega
  go_enter func58,ntmps58;go_upto_region 1 with fail;rw[h.out];go_wp2_with fail;refine f.mono ?_;rintro e E ⟨rfl,rfl⟩;go_wp2_with fail;go_quiet (fail);go_wp2_with fail;refine(F nq).mono ?_;rintro e aA ⟨rfl,bc⟩;have q:=(u.next (below_drewN (Below.refl _ _) nq)).next bc;have a2:=x aA s 1 _ q P;have a3:=x aA s 3 _ q Q;obtain⟨bg,bj⟩:=q.o5 j.lens l.2.1 aB;have y:=C (B2 n.toNat 0 0 bf l.2.2 (by omega) (by omega) (q.drew.gT l.1));rw[ag.out] at y;rw[T.out] at bj;obtain⟨an,aG⟩:=aW (L.ck i);have aL:=C aG;rw[aG] at bg y;generalize a4:(s.clock (i:Int)).due n.toNat 0 0=a5 at y;have aw:=C q;have ae:=C (br P Q);go_wp2_with fail;go_region_held3 (λW'=>W'.cell? ⟨aV,106,U⟩=R (ay (R ⟨ac,0,U⟩) ad bb)∧W'.cell? ⟨ac,i,U⟩=R (af (R ⟨an,0,U⟩))∧W'.cell? ⟨w.heap.size,1,U⟩=R (I J i)∧W'.cell? ⟨w.heap.size,3,U⟩=R (I J n)) ((refine⟨?_,?_,?_,?_⟩)<;>(with_reducible repeat(first|assumption|refine b2 ?_))) (first|(go_at_call 107;refine y.mono ?_;rintro e am aN;rw[<-aL.out] at aN;obtain⟨rfl,z⟩:=aw.drew.rR l.1 aN;have bl:=x am _ 1 _ z ae.1;have bo:=x am _ 3 _ z ae.2;obtain⟨aj,ap⟩:=z.o5 (show eF (s.dJ (i:Int) ((s.clock (i:Int)).tick n.toNat)) from⟨j.hlen,by unfold aa.dJ;simp;exact j.jl,j.eB,j.gP⟩) (p:=i) l.2.1 aB;rw[aL.out] at aj;rw[T.out] at ap;have bm:=C z));all_goals clear bl bo aj ap;go_wp2_with fail;go_ret2;exact dh (t _ _ _ bm)
end
section
variable {ao w W:ab} {S:Nat->Prop} {L:bu} {s:aa} {k:Nat}
theorem ax.xO (H:ax ao S L s w) (b:Below w.heap.size w W):∃c:Nat->Prop,(∀k,c k->k<w.heap.size∧cS S ao k)∧ax W c L s W∧∀(d:bu) (f:aa) (w':ab),ax W c d f w'->ax ao S d f w':=by
 obtain⟨h,tag,H⟩:=H;refine⟨λk=>tag k≠ .no∧k<w.heap.size,λk a=>⟨a.2,H.own k a.2 a.1⟩,?_,?_⟩
 ·refine hZ.start (tag:=fQ w tag .no) ⟨(H.next b).part,λk j e=>?_⟩;unfold fQ at e;split at e;·rename_i a;exact⟨e,a⟩
  ·exact absurd rfl e
 ·rintro d f w' ⟨m,n,l⟩;refine⟨?_,n,l.part,λk j e=>?_⟩
  ·refine(h.hV b).trans m (λi o a=>?_);rcases H.own i a.2 a.1 with g|g;·exact g
   ·exact absurd o (by omega)
  ·rcases l.own k j e with a|a;·exact H.own k a.2 a.1
   ·exact .inr (cA h.size (cA b.size a))
theorem ax.je {a:Nat->Prop} (H:ax W a L s W') (c:W.cell? ⟨b,o,U⟩=R v) (d:¬a b):W'.cell? ⟨b,o,U⟩=R v:=H.1.cell c (ir c) d
def numOf (o:Option Nat):Int:=match o with|none=>0|some n=>(n:Int)
theorem aa.LL (s:aa) (g:Nat):s.numbers g=0::(s.cC g).map numOf:=rfl
def tV (s:aa) (i:Int) (n:Int) (q:Nat) (t:ex) (a:aa):dO:=if(a.clock i).due n.toNat t.w (a.load 0 i) then(((a.dJ i ((a.clock i).tick n.toNat)).bU i ((a.dJ i ((a.clock i).tick n.toNat)).aY i).yield).begin i (-1),q,0) else(a.dJ i ((a.clock i).tick n.toNat),q,0)
theorem aa.LM {i:Int} {n:Int} {q:Nat} (h:s.e0 i=true) (a:¬(n<0∨s.c.tick<n)) (b:s.running i=q) (d:s.tasks[q]?=R t):s.tick i n=if s.book.ih (s.numbers t.g) q n≠0 then(s,0,s.book.ih (s.numbers t.g) q n) else tV s i n q t (aa.ee i n ((({s with book:=s.book.ch (s.numbers t.g) q n}:aa).bU i ((s.aY i).b4 n.toNat)).limited (s.cC t.g)) (({s with book:=s.book.ch (s.numbers t.g) q n}:aa).bU i ((s.aY i).b4 n.toNat))):=by unfold aa.tick tV;rw[z0 (by rw[h];decide),z0 a,z0 (by omega),b,bZ,d];rfl
theorem eF.dJ {s:aa} (h:eF s) (p:Int) (c:cD):eF (s.dJ p c):=⟨h.1,by show(s.clocks.set p.toNat c).length=s.c.aO;rw[eg];exact h.2.1,h.2.2⟩
theorem aa.LN {s:aa} {c:cD} (h:s.clocks[i]?=R c) (m:Int):s.begin (i:Int) m=s.dJ (i:Int) (c.begin m):=by unfold aa.begin aa.clock;rw[bZ,dy,h];rfl
theorem aa.LO (p n:Int) (ls:List Nat) (r:aa) (h:ls[j]?=R g):aa.ee p n (ls.drop j) r=aa.ee p n (ls.drop (j+1)) (r.bP g λb=>b.b4 p n):=by obtain⟨a,c⟩:=bD.1 h;rw[px a,c];rfl
end
section
variable {ao w:ab} {S:Nat->Prop} {L:bu} {s:aa} {k:Nat}
theorem LP (bE a b n m aJ:Int) (H:ax ao S L s w) (hk:s.Ok k) (cE:k<=100000) {q:Nat} (qg:a=i) (bc:s.e0 a=true) (fX:¬(n<0∨s.c.tick<n)) (fY:s.running a=q) (bg:s.tasks[q]?=R t) (eq:t.on=true):Calls au 58 #[aX L.b,bk (cx bE a b n m aJ)] w (iE ao S L (s.tick a n)):=by
 subst qg;have cB:=C (aa.LM bc fX fY bg);obtain⟨V,bF⟩:=aW (w.alloc (av (cx bE (i:Int) b n m aJ) 33));obtain⟨f9,LQ,aU,gc,bj⟩:=H.enter _ bF;have dv:=C bF;have fZ:=C (show Below w.heap.size w V from bF▸bx w _);have M:=C (show w.heap.size<V.heap.size by rw[<-bF];simp);have f_:=C aU;have cd:=C H;have aP:=C hk;have gw:=C cE;have gF:=bJ (i:=1) bj (v:=I J (i:Int)) rfl;have gG:=bJ (i:=3) bj (v:=I J n) rfl;have cG:=C (rL (i:Int) aU);have gH:=aU.top.cell 1 Bq;generalize gI:s.tick (i:Int) n=Z at cB⊢;unfold aX at*;obtain⟨Y,cJ⟩:=aW L.b;have E:=C cJ;rw[cJ] at cG gH⊢;unfold cx at dv⊢;rw[bc] at cG;obtain⟨es,tW⟩:=aa.mi.1 bc;have b_:i<s.c.aO:=by omega
 have c1:=hk.tick;have cq:=C (λ(r:Nat)=>o0 (i:Int) (aU.next (below_drewN (Below.refl _ _) r)) hk);unfold aX at cq;rw[cJ,fY] at cq;have gV:=C bg;have a9:=(bD.1 bg).1;have gW:=C a9;have cM:=hk.task q t bg;have mu:=C (cM.live (cM.jY eq)).1;have ct:=C cM.w;have cl:=C (hk.jz bg);have an:=hk.ep (p:=(i:Int)) es tW;rw[bZ] at an;have aV:=C (br an (br (hk.aY i _ an).1 b_));obtain⟨aC,cap,c0,_,_⟩:=aU.iT hk.lens b_;obtain⟨aZ,ar,bM,_,_⟩:=aU.tG hk.lens b_;generalize a_:s.c.aO=ae at c0 bM;have bI:=C c0;have cW:=C bM;have ge:=C a_;have gf:(i:Int)<(ae:Int):=by omega
 have OH:=C (show i<ae by omega);have bL:(0:Int)<=(i:Int):=by omega
 have OI:(i:Int).toNat=i:=by omega
 have dj:(0:Int)<=(q:Int):=by omega
 have dk:(q:Int).toNat=q:=by omega
 have dm:((q:Int)==-1)=false:=by simp
 have go:IntKind.u64.wrap n=n:=by rw[ni];omega
 have c2:=C (show((n.toNat:Nat):Int)=n by omega);have ex:=C (show n.toNat<=1000000000 by omega);have gp:=C hk.iq;obtain⟨wy,be⟩:=aW (s.cC t.g);have c3:=aa.LL s t.g;rw[be] at c3;have c8:=C (br be c3);have tX:∀o,o∈wy->∃g,o=R g∧g<s.groups.length∧g≠0:=λo a6=>by rw[<-be] at a6;obtain⟨j,OJ,tY,a,b,c,dq⟩:=hk.wJ a6;refine⟨j,tY,(bD.1 a).1,?_⟩;rintro rfl;obtain⟨r,d,_,an,_⟩:=hk.root;rw[a] at d;cases d;exact c (by rw[an];rfl)
 have c4:wy.length<=10:=by rw[<-be];exact aa.tN _ _
 have c_:=C tX;obtain⟨bl,c5⟩:=aW wy.length;have N:=C c5;rw[c5] at c4;generalize gs:s.c.tick=tk at gH fX;have gt:¬n<0:=by omega
 have OK:¬tk<n:=by omega
 go_enter func58,ntmps58;go_upto_region 1 with fail;rw[dv.out];go_wp2_with fail;apply cG.mono;rintro e O ⟨rfl,rfl⟩;go_wp2_with fail;go_quiet (fail);go_wp2_with fail;apply(cq nq).mono;rintro e da ⟨rfl,aI⟩;have bN:Below O.heap.size O da:=(below_drewN (Below.refl _ _) nq).trans aI;have cZ:=f_.next bN;obtain⟨gv,OL,dr,P,h3⟩:=cZ.r0 gW;obtain⟨eE,ds,OM,ON,OO,de,mQ,OP,OQ,OR,OS,dx,OT,dC,cp⟩:=cZ.en gV rfl;have bS:=C (B1 t.g cl mu cZ aP);unfold aX at bS;rw[E.out,c8.out.1] at bS;rw[E.out] at h3;obtain⟨h4,c9⟩:=aW (L.tk q);have h5:=C c9;rw[c9] at P de;generalize OU:L.gk t.g=gb at de bS;generalize OV:s.tasks.length=tZ at h3;have CJ:(q:Int)<(tZ:Int):=by have:=gW.out;omega
 have bh:=(bN.cell (p:=⟨w.heap.size,1,U⟩) M).trans gF;have OW:=(bN.cell (p:=⟨w.heap.size,3,U⟩) M).trans gG;have bG:=C bN;have db:=C (br gF gG);go_wp2_with fail;apply bS.mono;rintro e f ⟨OX,rfl,iz,iA⟩;obtain⟨r5,iB,t_,rfl,_,_,_,aM⟩:=iz.rd;have ua:=C iz;have bQ:=C aM;have bi:=C (show Below O.heap.size O f from bG.trans (iA.mono bG.size));have bo:=C (show O.heap.size<=da.heap.size from bG.size);have bT:=C (show da.heap.size<=f.heap.size from iA.size);rw[N.out];go_upto_region 12 with fail;obtain⟨dg,df⟩:=aW (f.alloc (av #[I J 0] 3));have ub:=C (show Own encI dg f.heap.size 3 (ay (R ⟨f.heap.size,0,U⟩) 1 1) 1 [0] from df▸Own.LG f 0 3);have cw:=C (show Below f.heap.size f dg from df▸bx f _);rw[df];go_wp2_with fail;go_loopw [9,11,71] (λv x u W=>∃j:Nat,j<=bl∧u=I J (j:Int)∧Own encI W f.heap.size 3 v (j+1) (0::(wy.take j).map numOf)∧Below f.heap.size f W) (λ_ _ u _=>bl-(intOf u).toNat);case atStart=>exact⟨0,by omega,rfl,ub,cw⟩
 case round=>
  obtain⟨j,bX,rfl,bm,am⟩:=hrel;have iL:=C bm;have bq:=C am;by_cases di:j<bl
  ·obtain⟨o,ca⟩:∃o,wy[j]?=R o:=⟨_,b5 (by rw[N.out];exact di)⟩;obtain⟨g,rfl,aq,bt⟩:=c_ o (ea ca);have cz:(j:Int)<(bl:Int):=(by omega);have uc:(0:Int)<=(j:Int):=(by omega);have qh:(j:Int).toNat=j:=(by omega);have iC:=bQ.out;rw[N.out] at iC;obtain⟨z,A,rfl,bV,Q⟩:=iC.p_ (by omega);have b1:=(am.cell (p:=⟨z,A+j,U⟩) bV).trans (Q j (R (L.gk g)) (by rw[dD,ca];rfl));have bp:Below O.heap.size O wr:=bi.trans (am.mono bi.size);obtain⟨ud,_⟩:=(f_.next bp).dw (aa.nQ aq) rfl;simp only[cU,aX] at b1;generalize al:L.gk g=aE at b1 ud;have cD:=C (show(0::(wy.take (j+1)).map numOf:List Int)=(0::(wy.take j).map numOf)++[(g:Int)] by rw[gL,ca,iI];rfl);have hH:=C (bm.alloc (av #[I J (g:Int)] 3));have iD:f.heap.size<=(wr.alloc (av #[I J (g:Int)] 3)).heap.size:=(by have:=am.size;simp;omega);have ue:j+1<=10000000:=(by omega);have uf:=C (show∀q u,(encI.e (g:Int))[q]?=R u->(wr.alloc (av #[I J (g:Int)] 3)).cell? ⟨wr.heap.size,q,U⟩=R u fromλq u ai=>dz.trans (by rw[<-ai];show([I J (g:Int)]:List Value).toArray[q]?=_;rw[fg];rfl));go_wp2_with ((at_builtin;refine jB BU rfl _ _ rfl f.heap.size _ (j+1) _ rfl hH wr.heap.size _ (g:Int) rfl uf ue iD ?_;intro dP u ug uh ui;have uj:=C ug;have uk:=C (show Grow _ u _ dP from Grow.gR uh ui);have um:=C (show Below f.heap.size f u from(bq.alloc bq.size _).trans (uk.below iD (λak x=>(hH.lt ak x).1)))));go_roundw;case rel=>exact⟨j+1,by omega,by go_num,by rw[cD.out];exact uj,um⟩
   case measure=>simp[intOf];omega
  ·obtain rfl:j=bl:=by omega
   have uo:wy.take j=wy:=(by rw[uZ];rw[N.out];exact bK _);rw[uo,<-c8.out.2] at bm;have dA:Below O.heap.size O wr:=bi.trans (am.mono bi.size);have uq:Below w.heap.size w wr:=fZ.trans (dA.mono fZ.size);obtain⟨dl,iW,dF,cH⟩:=cd.xO uq;have iX:=C iW;have bn:=C cH;have dE:=C dF;have aN:=C (λ(W:ab) (r:aa) (dG o:Nat) (v:Value) (d:ax wr dl L r W) (ur:wr.cell? ⟨dG,o,U⟩=R v) (gU:w.heap.size<=dG)=>d.je ur (λq=>by have:=(iW dG q).1;omega));have b1:=(dA.cell (p:=⟨w.heap.size,1,U⟩) M).trans db.1;have qi:=(dA.cell (p:=⟨w.heap.size,3,U⟩) M).trans db.2;have a7:=C (br b1 qi);have aM:=bQ.out;rw[N.out] at aM;have uu:=C (show∀(W:ab) (r:aa),ax wr dl L r W->Rd dp W.heap.size W iB wy.length (wy.map λo=>o.map L.gk) fromλW r d=>by refine⟨by rw[dY],λdH=>?_⟩;obtain⟨z,A,rfl,bV,Q⟩:=aM.p_ (by rw[<-N.out];exact dH);have OY:=(ua.lt z rfl).1;refine⟨z,A,rfl,by have:=d.size;have:=am.size;omega,λe h aj c u dI=>?_⟩;have uv:c=0:=(by have:=(bD.1 dI).1;have F:(dp.e h).length=1:=dp.len _;omega);subst uv;have uw:u=cU h:=(by have:(dp.e h)[0]?=R (cU h):=rfl;rw[this] at dI;exact(Option.some.inj dI).symm);subst uw;rw[show A+(e*dp.c+0)=A+e by show A+(e*1+0)=_;omega];exact aN W r z _ _ d ((am.cell (p:=⟨z,A+e,U⟩) bV).trans (Q e h aj)) (by have:=bo.out;have:=M.out;omega));obtain⟨b3,a8,cK,jE,_,_,_,dn⟩:=bm.rd;obtain⟨T,bw,ux,cQ⟩:=dF.drew.LF;have aq:=(λac dB (aD:a8=R ⟨ac,dB,U⟩)=>bm.lt ac (by rw[jE,aD];rfl));have b6:=C (J_ T L.fc s.book a8 cK (s.numbers t.g) (q:Int) n wr.drew bw (by rw[b3];omega) (by rw[b3];exact(dn.LH)) (λac dB aD uy=>by
    obtain⟨ba,bR⟩:=aq ac dB aD;have:=bo.out;have:=M.out;have dT:=bT.out;rcases cQ ac (by show ac<wr.heap.size;exact bR) uy with h|h;·have:=(iX ac h).1;omega
    ·have:wr.heap.size<=ac:=h;omega))
   rw[b3] at b6;have bO:=C (λw' (bc:fD w' T L.fc (s.book.ch (s.numbers t.g) (q:Int) n)) (a_:Mod T wr.drew w')=>ux w' _ (fD.mono bc (λk _ aD=>.inl aD)) a_);have dU:=dF.top.cell 107 ((lR (L:=L) aP.eB aP.gP 2).trans (show[L.hv,L.cv,aX L.fc][2]?=R (aX L.fc) from rfl));unfold aX at dU;rw[E.out] at dU;obtain⟨uz,bj⟩:=aW L.fc;have fd:=C bj;rw[bj] at dU b6 bO;obtain⟨ek,j8⟩:=aW (s.book.ih (s.numbers t.g) (q:Int) n);have ce:=C j8;rw[j8] at b6;subst jE;go_wp2_with fail;go_region_held3 (λW'=>W'.cell? ⟨Y,107,U⟩=R (af (R ⟨uz,0,U⟩))∧W'.cell? ⟨w.heap.size,3,U⟩=R (I J n)) ((refine⟨?_,?_⟩)<;>(with_reducible repeat(first|assumption|refine b2 ?_))) (first|(go_at_call 109;refine b6.mono ?_;rintro e bs ⟨rfl,uA,uB⟩;have K:=bO bs uA uB;have u7:=K.top.cell 107 ((lR (L:=L) (s:=({s with book:=s.book.ch (s.numbers t.g) (q:Int) n}:aa)) aP.eB aP.gP 2).trans (show[L.hv,L.cv,aX L.fc][2]?=R (aX L.fc) from rfl));unfold aX at u7;rw[E.out,fd.out] at u7;have u3:=aN bs _ _ _ _ K a7.2 zK9;have dV:=C K));all_goals
    by_cases aj:ek=0;·obtain⟨az,aB⟩:∃az:aa,{s with book:=s.book.ch (s.numbers t.g) (q:Int) n}=az:=⟨_,rfl⟩;have b9:az.Ok k:=(by rw[<-aB];exact aP.zY _);have c7:az.hiers[i]?=R (s.aY (i:Int)):=(by rw[<-aB];exact aV.1);have bu:az.c=s.c:=(by rw[<-aB]);have K:=dV.out;rw[aB] at K;have uC:az.aY (i:Int)=s.aY (i:Int):=(by rw[<-aB];rfl);have eo:(az.bU (i:Int) ((s.aY (i:Int)).b4 n.toNat)).Ok k:=(by have ai:=b9.ep (p:=(i:Int)) bL (by rw[bu];have:=aV.2.2;omega);have ci:=b9.aY _ _ ai;rw[uC] at ai ci;exact b9.bU bL ai (ci.1.b4 _) (ad.zr _ _) (λj i=>(ci.1.zU _ j _).1));obtain⟨y,bb⟩:∃y,az.bU (i:Int) ((s.aY (i:Int)).b4 n.toNat)=y:=⟨_,rfl⟩;rw[bb] at eo;have cL:y.c=s.c:=(by rw[<-bb];exact bu);have eu:y.groups=s.groups:=(by rw[<-bb,<-aB];rfl);have uD:y.tasks=s.tasks:=(by rw[<-bb,<-aB];rfl);have xP:=C eo;have ev:=C (br cL (br eu uD));have fo:=cB.out;rw[ce.out,z0 (by simp[aj]),aB,bb,c8.out.1] at fo;have j9:=C fo;have bv:=C (K.drew.k6 c7 (λT bw=>LC T (L.hk i) (s.aY (i:Int)) n.toNat bs.drew bw aV.2.1));rw[bb,c2.out] at bv;obtain⟨ew,ey⟩:=K.fF b9.lens (p:=i) (by rw[bu];exact aV.2.2) bI;rw[E.out] at ey;obtain⟨gU,j_⟩:∃x,L.hk i=x:=⟨_,rfl⟩;have xQ:=C j_;rw[j_] at ew bv;obtain⟨OZ,cO⟩:∃x,(s.aY (i:Int)).e7 n.toNat=x:=⟨_,rfl⟩;rw[cO] at bv;have u1:=aN bs _ _ _ _ dV a7.1 zK9;have ka:=C (show∀g,g∈y.limited wy->g<y.groups.length∧g≠0 fromλg a6=>by obtain⟨kb,a1,cc,co⟩:=c_ _ (aa.sU a6).1;cases a1;rw[eu];exact⟨cc,co⟩);have fn:=C (show∀g,R g∈wy->g<y.groups.length fromλg a6=>by obtain⟨kb,a1,cc,co⟩:=c_ _ a6;cases a1;rw[eu];exact cc);have bY:(y.limited wy).length<=10:=cA (aa.rX _ _) (by rw[N.out];exact c4);obtain⟨ag,kc⟩:∃x,y.limited wy=x:=⟨_,rfl⟩;rw[kc] at j9 ka bY;have xR:=C kc;have xS:=C (show eF y from eo.lens);subst aj;go_wp2_with fail;go_region_held3 (λW'=>W'.cell? ⟨Y,105,U⟩=R (ay (R ⟨aC,0,U⟩) ae cap)∧W'.cell? ⟨aC,i,U⟩=R (af (R ⟨gU,0,U⟩))∧W'.cell? ⟨w.heap.size,1,U⟩=R (I J i)∧W'.cell? ⟨w.heap.size,3,U⟩=R (I J n)) ((refine⟨?_,?_,?_,?_⟩)<;>(with_reducible repeat(first|assumption|refine b2 ?_))) (first|(go_at_call 110;refine bv.mono ?_;rintro e ap ⟨rfl,cf⟩;obtain⟨Q,eG⟩:=cf.fF xS (p:=i) (by rw[ev.out.1];exact aV.2.2) bI;rw[xQ.out] at Q;rw[E.out] at eG;have cP:=aN ap _ _ _ _ cf a7.1 zK9;have g0:=aN ap _ _ _ _ cf a7.2 zK9;have aQ:=C cf));all_goals
     have kd:=C (xv iB t_ wy aQ (uu ap _ aQ) (by rw[N.out];omega) fn);rw[N.out,xR.out] at kd;go_wp2_with fail;apply kd.mono;rintro e cg ⟨g1,rfl,ke,eH⟩;obtain⟨a0,aH,fr,dO⟩:=aQ.xO eH;have kf:=C dO;have aA:=C (show¬a0 w.heap.size fromλh=>by
      rcases(aH _ h).2 with h|h;·have:=(iX _ h).1;omega
      ·have F:=bq.out.size;have kg:=bo.out;have kh:=bT.out;have dT:=M.out;omega)
     have aG:=C (br ((eH.cell (p:=⟨w.heap.size,1,U⟩) (by show w.heap.size<ap.heap.size;have dH:=aQ.out.size;have F:=bq.out.size;have kg:=bo.out;have kh:=bT.out;have dT:=M.out;omega)).trans (aN ap _ _ _ _ aQ a7.1 zK9)) ((eH.cell (p:=⟨w.heap.size,3,U⟩) (by show w.heap.size<ap.heap.size;have dH:=aQ.out.size;have F:=bq.out.size;have kg:=bo.out;have kh:=bT.out;have dT:=M.out;omega)).trans (aN ap _ _ _ _ aQ a7.2 zK9)));obtain⟨b3,bz,g2,rfl,_,_,_,xT⟩:=ke.rd;have fu:=C (show∀(j g:Nat),ag[j]?=R g->∀(W:ab) (r:aa),ax cg a0 L r W->∃z A,bz=R ⟨z,A,U⟩∧W.cell? ⟨z,A+j,U⟩=R (af (R ⟨L.gk g,0,U⟩)) fromλj g bX W r d=>by have g3:=(bD.1 bX).1;obtain⟨z,A,rfl,bV,Q⟩:=xT.p_ (by omega);have ba:=(ke.lt z rfl).1;exact⟨z,A,rfl,d.je (Q j (R (L.gk g)) (by rw[dD,bX];rfl)) (λh=>by have:=(aH _ h).1;omega)⟩);have pb:=C fr;obtain⟨a2,a9⟩:=aW ag.length;have kG:=C a9;rw[a9] at bY⊢;go_wp2_with fail;go_loopw [14,110] (λv u W=>∃(j:Nat) (r:aa),j<=a2∧u=I J (j:Int)∧aa.ee (i:Int) n ag y=aa.ee (i:Int) n (ag.drop j) r∧cI k y r∧ax cg a0 L r W) (λ_ u _=>a2-(intOf u).toNat);case atStart=>exact⟨0,y,by omega,rfl,rfl,cI.refl xP,pb⟩
     case round=>
      obtain⟨j,r,bX,rfl,xU,l,d⟩:=hrel;have kH:=C xU;have g4:=C l;have kI:=C d;have v1:=d.je aG.1 aA;have g5:=d.je aG.2 aA;by_cases di:j<a2;·obtain⟨g,eI⟩:∃g,ag[j]?=R g:=⟨_,b5 (by rw[kG.out];exact di)⟩;have cz:(j:Int)<(a2:Int):=(by omega);have uc:(0:Int)<=(j:Int):=(by omega);have qh:(j:Int).toNat=j:=(by omega);obtain⟨aq,bt⟩:=ka g (ea eI);have cj:r.groups[g]?=R (r.aw g):=aa.nQ (by rw[l.du.len];exact aq);obtain⟨⟨B,a3,g6⟩,_,_⟩:=l.ok.aw g _ cj bt;obtain⟨z,A,rfl,cS⟩:=fu j g eI wr r d;obtain⟨aE,al⟩:∃b,L.gk g=b:=⟨_,rfl⟩;have xV:=C al;rw[al] at cS;obtain⟨cR,cs⟩:∃b,L.bd g=b:=⟨_,rfl⟩;have kJ:=C cs;have de:=d.r1 cj a3 al cs;have eT:=C (JX (i:Int) n (d.drew.band cj a3));rw[cs] at eT;obtain⟨g7,xW⟩:∃x,(if B.e7 (i:Int) n=0 then(B.o3 (i:Int) n).hz (i:Int) else false)=x:=⟨_,rfl⟩;obtain⟨g8,CK⟩:∃x,B.e7 (i:Int) n=x:=⟨_,rfl⟩;rw[xW,CK] at eT;have CL:=C (aa.LO (i:Int) n ag r eI);obtain⟨P,cm⟩:∃P,r.bP g (λb=>b.b4 (i:Int) n)=P:=⟨_,rfl⟩;have b0:=aa.qd a3 (λb=>b.b4 (i:Int) n);rw[cm] at b0;have kK:cI k y P:=l.trans (by rw[<-cm];exact⟨l.ok.bP g _ (λb=>b.z7 _ _),cN.bP _ _ _⟩);have ba:=aa.rY a3 (λb=>b.b4 (i:Int) n);rw[cm] at ba;have CM:P.groups[g]?=R (P.aw g):=aa.nQ (by rw[kK.du.len];exact aq);have CN:(P.aw g).band=R (B.b4 (i:Int) n):=(by rw[ba]);have k8:=C (br cj a3);have a4:=C (br cm (br b0 (br kK (br CM CN))));go_wp2_with fail;go_region_held3 (λW'=>W'.cell? ⟨aE,5,U⟩=R (af (R ⟨cR,0,U⟩))∧W'.cell? ⟨w.heap.size,1,U⟩=R (I J i)∧W'.cell? ⟨w.heap.size,3,U⟩=R (I J n)) ((refine⟨?_,?_,?_⟩)<;>(with_reducible repeat(first|assumption|refine b2 ?_))) (first|(go_at_call 111;refine eT.mono ?_;rintro e g9 k9;rw[<-kJ.out] at k9;obtain⟨rfl,a5⟩:=kI.drew.o4 k8.1 k8.2 k9;rw[<-a4.out.2.1] at a5;have k_:=a5.je aG.1 aA;have la:=a5.je aG.2 aA;have eU:=a5.r1 a4.2.2.2.1 a4.2.2.2.2 xV kJ;have CO:=C a5));all_goals
       go_wp2_with fail;go_roundw;case rel=>exact⟨j+1,P,by omega,by go_num,by rw[kH.out,CL.out,a4.out.1],a4.2.2.1,CO⟩
       case measure=>simp[intOf];omega
      ·obtain rfl:j=a2:=by omega
       have ld:=kH.out;rw[List.drop_of_length_le (by rw[kG.out];exact bK _)] at ld;have CP:=C (show Z=tV s (i:Int) n q t r by rw[j9.out,ld];rfl);have eW:i<r.c.aO:=(by rw[l.du.c,ev.out.1];exact aV.2.2);have aK:=l.ok.pR (p:=(i:Int)) bL (by omega);rw[bZ] at aK;have lf:(r.clock (i:Int)).hC<=1000000000:=(by rw[l.ok.iR _ _ aK];exact l.ok.iq);have bA:r.tasks[q]?=R t:=(by rw[l.du.tasks,ev.out.2.2];exact gV);obtain⟨ew,ey⟩:=d.o5 l.ok.lens eW cW;obtain⟨O0,a1,cc,co,dK,dL,O1,he,O2,O3,O4,O5,er,dQ,cp⟩:=d.en bA h5;obtain⟨ak,lg,lh,ba,bR,ki⟩:=d.Cy l.ok;have cn:=C (tE 0 ki (i:Int) d.drew l.ok gw);have CQ:=l.ok.xy 0 (i:Int);obtain⟨e2,e3⟩:=aW (r.load 0 (i:Int));have CR:=C e3;unfold aX at cn;rw[E.out,e3] at cn;rw[e3] at CQ;have CS:=C (show e2<18446744073709551616 by have:=gw.out;have:=n3 262144 this;omega);rw[E.out] at ey bR;obtain⟨fe,b8⟩:=aW (L.ck i);have bf:=C b8;rw[b8] at ew;obtain⟨lj,bt⟩:=aW (L.gk 0);have CT:=C bt;rw[bt] at ba cn;generalize aq:r.groups.length=q7 at bR ki;have hm:(0:Int)<(q7:Int):=(by omega);have X:=C (br aK (br eW (br lf (br bA l.ok))));obtain⟨D,cr⟩:=aW (r.clock (i:Int));have dZ:=C cr;have cX:=C (show r.clocks[i]?=R D by rw[<-cr];exact aK);have bH:=C (λ(W:ab) (aL:ax cg a0 L r W)=>B2 (T:=D) n.toNat t.w e2 ex (by rw[<-cr];exact lf) ct.2 CS (by rw[<-cr];exact aL.gT aK));rw[c2.out,bf.out] at bH;obtain⟨d0,d1⟩:=aW (D.due n.toNat t.w e2);have cY:=C d1;rw[d1] at bH;have bC:=C (show∀(W:ab) (aR:aa),ax cg a0 L aR W->aR.tasks=r.tasks->aR.groups=r.groups->eF aR->aR.c=r.c->W.cell? ⟨Y,106,U⟩=R (ay (R ⟨aZ,0,U⟩) ae ar)∧W.cell? ⟨aZ,i,U⟩=R (af (R ⟨fe,0,U⟩))∧W.cell? ⟨w.heap.size,1,U⟩=R (I J i)∧W.cell? ⟨w.heap.size,3,U⟩=R (I J n)∧W.cell? ⟨h4,7,U⟩=R (I ah t.w)∧W.cell? ⟨Y,8,U⟩=R (ay (R ⟨ak,0,U⟩) q7 lg)∧W.cell? ⟨ak,0,U⟩=R (af (R ⟨lj,0,U⟩)) fromλW aR aL CU CV iQ dc=>by obtain⟨d2,d3⟩:=aL.o5 iQ (p:=i) (by rw[dc];exact eW) cW;obtain⟨_,_,_,_,_,_,_,jA,_⟩:=aL.en (by rw[CU];exact bA) h5;have bz:=aL.top.cell 8 p5;obtain⟨dR,c6⟩:=aL.fy .e1;obtain⟨CW,CX,CY,_⟩:=l.ok.root;have F:=rM (L:=L) (s:=aR) (i:=0) (G:=CW) (by rw[CV];exact CX);rw[CY] at F;obtain⟨kb,O6,fG,a8,_,_,_⟩:=dM.cell c6 F;rw[lh] at fG;simp only[Value.slice.injEq,Option.some.injEq,Addr.mk.injEq] at fG;obtain⟨⟨rfl,_⟩,_,_⟩:=fG;rw[lh,aq] at bz;rw[bf.out] at d2;rw[E.out] at d3 bz;simp only[if_true,cU,aX] at a8;rw[CT.out] at a8;exact⟨d3,d2,aL.je aG.1 aA,aL.je aG.2 aA,jA,bz,a8⟩);go_wp2_with fail;go_region_held3 (λW'=>W'.cell? ⟨Y,106,U⟩=R (ay (R ⟨aZ,0,U⟩) ae ar)∧W'.cell? ⟨aZ,i,U⟩=R (af (R ⟨fe,0,U⟩))∧W'.cell? ⟨w.heap.size,1,U⟩=R (I J i)∧W'.cell? ⟨w.heap.size,3,U⟩=R (I J n)∧W'.cell? ⟨h4,7,U⟩=R (I ah t.w)∧W'.cell? ⟨Y,8,U⟩=R (ay (R ⟨ak,0,U⟩) q7 lg)∧W'.cell? ⟨ak,0,U⟩=R (af (R ⟨lj,0,U⟩))) ((refine⟨?_,?_,?_,?_,?_,?_,?_⟩)<;>(with_reducible repeat(first|assumption|refine b2 ?_))) (first|(go_at_call 31;refine cn.mono ?_;rintro e d4 ⟨rfl,CZ⟩;have d5:=kI.drew.next CZ;obtain⟨k_,C0,la,d6,eU,d7,d8⟩:=bC d4 r d5 rfl rfl X.2.2.2.2.lens rfl;have d9:=C d5)|(go_at_call 107;refine(bH d4 d9).mono ?_;rintro e cb b7;rw[<-bf.out] at b7;obtain⟨rfl,pc⟩:=d9.rR cX b7;have pd:eF (r.dJ (i:Int) (D.tick n.toNat)):=X.2.2.2.2.lens.dJ _ _;obtain⟨fH,fI,pe,hp,O7,O8,O9⟩:=bC cb _ pc rfl rfl pd rfl;have bB:=C pc;have pg:=C pd));all_goals
        have gI:Z=if d0 then(((r.dJ (i:Int) (D.tick n.toNat)).bU (i:Int) (r.aY (i:Int)).yield).begin (i:Int) (-1),(q:Int),0) else(r.dJ (i:Int) (D.tick n.toNat),(q:Int),0):=(by rw[CP.out];unfold tV;rw[dZ.out,CR.out,cY.out];rfl);have fJ:=C gI;cases d0;·go_wp2_with fail;go_ret2;rw[fJ.out,z0 (by decide)];exact dh (bn _ _ _ (kf _ _ _ bB))
        ·obtain⟨aS,cF⟩:∃x,r.aY (i:Int)=x:=⟨_,rfl⟩;have ph:r.hiers[i]?=R aS∧aS.Ok:=(by have F:=X.2.2.2.2.ep (p:=(i:Int)) bL (by have:=X.2.1;omega);rw[bZ,cF] at F;exact⟨F,(X.2.2.2.2.aY i _ F).1⟩);obtain⟨Q,eG⟩:=bB.fF pg (p:=i) X.2.1 bI;have cP:=bB.je aG.1 aA;have pj:=C (bB.drew.k6 (i:=i) ph.1 (λT bw=>Cs T (L.hk i) aS cb.drew bw ph.2));have O_:=C cF;have pk:eF ((r.dJ (i:Int) (D.tick n.toNat)).bU (i:Int) aS.yield):=pg.bU _ _;have pn:=C pk;have f0:((r.dJ (i:Int) (D.tick n.toNat)).bU (i:Int) aS.yield).clocks[i]?=R (D.tick n.toNat):=(by have F:=(bD.1 X.1).1;unfold aa.dJ aa.bU;simp only[bZ,cV F]);have fK:=C f0;have f1:eF (((r.dJ (i:Int) (D.tick n.toNat)).bU (i:Int) aS.yield).dJ (i:Int) ((D.tick n.toNat).begin (-1))):=pk.dJ _ _;have f2:=C f1;rw[cF] at fJ;rw[E.out] at eG;obtain⟨aI,po⟩:∃x,L.hk i=x:=⟨_,rfl⟩;have f3:=C po;rw[po] at Q pj;go_wp2_with fail;go_region_held3 (λW'=>W'.cell? ⟨Y,105,U⟩=R (ay (R ⟨aC,0,U⟩) ae cap)∧W'.cell? ⟨aC,i,U⟩=R (af (R ⟨aI,0,U⟩))∧W'.cell? ⟨w.heap.size,1,U⟩=R (I J i)) ((refine⟨?_,?_,?_⟩)<;>(with_reducible repeat(first|assumption|refine b2 ?_))) (first|(go_at_call 106;refine pj.mono ?_;rintro e f4 ⟨rfl,bW⟩;obtain⟨k_,C0,la,d6,eU,d7,d8⟩:=bC f4 _ bW rfl rfl pn rfl;have el:=C (w7 (-1) (bW.drew.gT fK));rw[bf.out] at el;have f5:=C bW;obtain⟨bh,em⟩:=bW.fF pn (p:=i) X.2.1 bI;rw[f3.out] at bh;rw[E.out] at em));all_goals clear d6 eU d7 d8 bh em;go_wp2_with fail;go_region_held3 (λW'=>W'.cell? ⟨Y,106,U⟩=R (ay (R ⟨aZ,0,U⟩) ae ar)∧W'.cell? ⟨aZ,i,U⟩=R (af (R ⟨fe,0,U⟩))∧W'.cell? ⟨w.heap.size,1,U⟩=R (I J i)) ((refine⟨?_,?_,?_⟩)<;>(with_reducible repeat(first|assumption|refine b2 ?_))) (first|(go_at_call 112;refine el.mono ?_;rintro e hu pq;rw[<-bf.out] at pq;obtain⟨rfl,fR⟩:=f5.drew.rR fK pq;obtain⟨fI,fH⟩:=fR.o5 f2 (p:=i) X.2.1 cW;rw[bf.out] at fI;rw[E.out] at fH;have pe:=fR.je aG.1 aA;have f6:=C fR));all_goals clear fH fI pe;go_wp2_with fail;go_ret2;have cu:Z=(((r.dJ (i:Int) (D.tick n.toNat)).bU (i:Int) aS.yield).dJ (i:Int) ((D.tick n.toNat).begin (-1)),(q:Int),0):=(by rw[fJ.out,if_pos trivial];rw[aa.LN fK.out]);rw[cu];exact dh (bn _ _ _ (kf _ _ _ f6))
    ·have hw:(ek !=0)=true:=(by simp[aj]);have cu:=cB.out;rw[ce.out,if_pos aj] at cu;have f7:=C cu;have b8:s.book.ch (s.numbers t.g) (q:Int) n=s.book:=(by unfold fS.ch;rw[z0 (by rw[ce.out];exact aj)]);have K:=dV.out;rw[b8] at K;have f8:=C K;go_wp2_with fail;go_ret2;rw[f7.out];exact dh (bn _ _ _ f8)
end
section
variable {ao w w' W:ab} {S:Nat->Prop} {L:bu} {s:aa} {k:Nat}
theorem ax.nS (H:ax ao S L s w) (c:Below w.heap.size w W):∃d:Nat->Prop,(∀k,d k->k<w.heap.size∧cS S ao k)∧ax W d L s W∧∀(f:bu) (h:aa) (w':ab),ax W (λk=>d k∨w.heap.size<=k) f h w'->ax ao S f h w':=by
 obtain⟨b,tag,H⟩:=H;refine⟨λk=>tag k≠ .no∧k<w.heap.size,λk a=>⟨a.2,H.own k a.2 a.1⟩,?_,?_⟩
 ·refine hZ.start (tag:=fQ w tag .no) ⟨(H.next c).part,λk j e=>?_⟩;unfold fQ at e;split at e;·rename_i a;exact⟨e,a⟩
  ·exact absurd rfl e
 ·rintro f h w' ⟨n,o,l⟩;refine⟨?_,o,l.part,λk j e=>?_⟩
  ·refine(b.hV c).trans n (λi m a=>?_);rcases a with a|a
   ·rcases H.own i a.2 a.1 with g|g;·exact g
    ·exact absurd m (by omega)
   ·have:=b.size;exact absurd m (by omega)
  ·rcases l.own k j e with(a|a)|a;·exact H.own k a.2 a.1
   ·exact .inr (cA b.size a)
   ·exact .inr (cA b.size (cA c.size a))
theorem ax.lX {S':Nat->Prop} (H:ax ao S L s w) (h:∀k,S k->S' k):ax ao S' L s w:=by obtain⟨b,c,H⟩:=H;exact⟨b.mono (λk _ a=>h k a),c,H.mono (λk a=>a.elim (λa=>.inl (h k a)) .inr)⟩
theorem ax.out (H:ax ao S L s w) (d:Mod (λk=>k=b) w w') (m:¬S b) (o:b<ao.heap.size):ax ao (λk=>S k∨k=b) L s w':=by
 obtain⟨h,c,H⟩:=H;have n:c b= .no:=by
  by_cases e:c b= .no;·exact e
  ·have:=h.size;rcases H.own b (by omega) e with a|a;·exact absurd a m
   ·omega
 refine⟨(h.mono (λk _ a=>.inl a)).trans d (λi _ a=>.inr a),fQ w c .no,λa=>?_,λk j e=>?_⟩
 ·by_cases l:a= .no;·subst l;trivial
  ·refine(H.part a).frame d (λk e f=>l (by rw[<-e,f,n])) (λk j e=>by unfold fQ;rw[aj j];exact e)
 ·unfold fQ at e;split at e
  ·rename_i a;rcases H.own k a e with g|g;·exact .inl (.inl g)
   ·exact .inr g
  ·exact absurd rfl e
theorem nT (w:ab) (b i j:Nat) (v u:Value):Mod (λk=>k=b) w ((w.setCell ⟨b,i,U⟩ v).setCell ⟨b,j,U⟩ u):=(Mod.one _ _ _ _).setCell (show b=b from rfl) _
theorem ax.MQ (H:ax ao S L s w) (d:Mod (λk=>k=b) w w') (r:¬S b) (x:b<ao.heap.size):∃h:Nat->Prop,(∀k,h k->k<w'.heap.size∧k≠b)∧ax w' h L s w'∧∀(j:bu) (l:aa) (m:ab),ax w' h j l m->ax ao (λk=>S k∨k=b) j l m:=by
 obtain⟨n,tag,H⟩:=H;have y:=n.size;have z:=d.size;have o:tag b= .no:=by
  by_cases e:tag b= .no;·exact e
  ·rcases H.own b (by omega) e with a|a;·exact absurd a r
   ·omega
 refine⟨λk=>tag k≠ .no∧k<w.heap.size,λk a=>⟨by have:=a.2;omega,λe=>a.1 (by rw[e];exact o)⟩,hZ.start (tag:=fQ w tag .no) ⟨λa=>?_,λk c e=>?_⟩,?_⟩
 ·by_cases p:a= .no;·subst p;trivial
  ·refine(H.part a).frame d (λk e f=>p (by rw[<-e,f,o])) (λk c e=>by unfold fQ;rw[aj c];exact e)
 ·unfold fQ at e;split at e;·rename_i a;exact⟨e,a⟩
  ·exact absurd rfl e
 ·rintro j l m ⟨t,u,q⟩;refine⟨((n.mono (λk _ a=>.inl a)).trans d (λi _ a=>.inr a)).trans t (λi v a=>?_),u,q.part,λk c e=>?_⟩
  ·rcases H.own i a.2 a.1 with g|g;·exact .inl g
   ·exact absurd v (by omega)
  ·rcases q.own k c e with a|a
   ·rcases H.own k a.2 a.1 with g|g;·exact .inl (.inl g)
    ·exact .inr g
   ·exact .inr (by omega)
end
end Go.Proofs.YtddbkdjcjoofpaaGreatDoor
