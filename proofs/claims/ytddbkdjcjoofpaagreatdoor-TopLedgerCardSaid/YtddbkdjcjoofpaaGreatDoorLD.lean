import Derived.Test.YtddbkdjcjoofpaaGreatDoorLA
import Derived.WalkSmall
import Derived.Outline
import Derived.RegionTactic
import Derived.ChangeAlike
import Derived.BigQuiet
import Derived.Laws.StructEq
import Derived.Deep.RegionHeld3
import Derived.Deep.Cut
import Derived.Deep.CutRange
import Derived.Deep.LoopGhost
import Derived.Shelf.Sort.Plain
import Derived.Shelf.Bits.Mul64
import Derived.Shelf.Slices.Turned
import Derived.Shelf.Slices.Reverse
import Derived.Ground.Names2Prog
import Derived.Shelf.Slices.CompactI
import Derived.Shelf.Slices.Cells
import Derived.Shelf.Slices.In.SortNone
import Derived.Ground.SlgnProg
import Derived.Shelf.SlicesG.Turned
import Derived.Laws.ResultCell
import Derived.MapKept
import Derived.Maps.OwnSet
import Derived.Defers
import Derived.RangeFuncNested
import Derived.RangeFuncBound
import Derived.RangeFuncCalls
import Derived.RangeFuncLeaves
import Derived.RangeFuncBox
import Derived.Shelf.Abstract
import Derived.ChangeKeysEq
import Derived.Deep.MidRow
namespace Go.Proofs.YtddbkdjcjoofpaaGreatDoor
set_option linter.unusedVariables false
set_option linter.unusedSimpArgs false
set_option maxRecDepth 100000
set_option maxHeartbeats 20000000
open _root_.Go.Proofs.Tryz Go.RowKit
open Go renaming World→ab
open _root_.Go.Proofs.Tryz renaming prog→au
open Option renaming none→U,some→R
open _root_.Go.Value renaming int→I,pointer→af,slice→aA,bool→aE,agg→bm,tuple→bD
open _root_.Go.IntKind renaming i64→J,u64→ah,wrap_u64→nT
open _root_.Go.Obj renaming cells→av
open _root_.Go.Ending renaming returned→aK
open _root_.Nat renaming le_refl→bM,le_trans→cJ,lt_of_lt_of_le→dm,zero_add→mq,lt_or_ge→nd,pow_le_pow_right→r0,zero_le→hq,lt_of_le_of_lt→o6,mul_le_mul→qc
open _root_.Array renaming getElem?_eq_some_iff→iQ
open _root_.Go.World renaming cell?_of_block→lH,alloc→j_,size_alloc→k4,putObj_heap_other→p5
open _root_.Go renaming World→ab
open _root_.List renaming getElem?_eq_getElem→b6,map_cons→j9,getElem?_eq_some_iff→bE,length_cons→dY,getElem?_append_right→gC,getElem?_append_left→iR,mem_map→e0,mem_cons→gu,cons_append→gQ,mem_iff_getElem?→mm,getElem?_toArray→ff,mem_of_getElem?→ea,length_map→ep,nodup_cons→iT,pairwise_cons→o7,mem_cons_self→ey,mem_cons_of_mem→gD,replicate→gR,mem_append→nc,mem_singleton→p8,getElem?_singleton→p6,nil_append→iU,take_length→h3,take_add_one→gE,append_nil→qa
open _root_.Bool renaming eq_iff_iff→hK,false_eq_true→jD
open _root_.And renaming intro→bx
open _root_.Int renaming toNat_natCast→cd
open _root_.Option renaming getD_some→j8,map_eq_some_iff→h1,getD_none→p_
variable {b n g i p j lev c B m o:Nat} {S Z:Nat->Prop} {w W y A:ab} {v u:Value} {a:Option Addr} {k x:Key} {l:List Int} {r:T} {P:List (List Nat)} {V:List (Int×Int)->ab->Prop} {L:List ByteArray}
namespace T
def dS:T->Prop
 |nil=>True
 |node _ l _ lev r=>l.dS∧r.dS∧lev=l.h+1∧(r.h=lev∨r.h+1=lev)∧r.hr<lev
theorem eC {l:T} (a:l.dS) (c:r.dS) (d:lev=l.h+1) (e:r.h=lev∨r.h+1=lev) (f:r.hr<lev):(node b l k lev r).dS:=⟨a,c,d,e,f⟩
theorem Gb {l:T} (h:(node b l k lev r).dS):1<=lev:=by obtain⟨_,_,a,_,_⟩:=h;omega
theorem mI {t:T} (h:t.dS):t.hr<=t.h:=by
 cases t with
 |nil=>exact bM _
 |node b l k lev r=>obtain⟨_,_,_,a,_⟩:=h;show r.h<=lev;omega
theorem Gc {t:T} (h:t.dS):t.h<=t.size:=by
 induction t with
 |nil=>exact bM _
 |node b l k lev r a d=>obtain⟨c,_,e,_,_⟩:=h;have:=a c;show lev<=1+(l.size+r.size);omega
theorem mJ {t:T} (h0:t.h≠0):∃b l k lev r,t=node b l k lev r:=by
 cases t with
 |nil=>exact absurd rfl h0
 |node b l k lev r=>exact⟨b,l,k,lev,r,rfl⟩
theorem mK {l:T} (h:l.h≠lev):cz (node b l k lev r)=node b l k lev r:=by
 cases l with
 |nil=>rfl
 |node lb a c d e=>exact z0 h
theorem pA {lb:Nat} {a:Key} {c d:T}:cz (node b (node lb c a lev d) k lev r)=node lb c a lev (node b d k lev r):=aj rfl
theorem pB {l:T} (h:r.hr≠lev):split (node b l k lev r)=node b l k lev r:=by
 cases r with
 |nil=>rfl
 |node rb rl rk rlev rr=>
  cases rr with
  |nil=>rfl
  |node a jU ck c d=>exact z0 h
theorem pC {rb rlev:Nat} {rk:Key} {l rl rr:T} (h:rr.h=lev) (a:1<=lev):split (node b l k lev (node rb rl rk rlev rr))=node rb (node b l k lev rl) rk (rlev+1) rr:=by
 cases rr with
 |nil=>have:0=lev:=h;omega
 |node c jU ck d e=>exact aj h
theorem qM {rb rlev:Nat} {rk:Key} {l rl rr:T} (h:rr.h≠lev):split (node b l k lev (node rb rl rk rlev rr))=node b l k lev (node rb rl rk rlev rr):=pB (r:=node rb rl rk rlev rr) h
theorem sH {rb a rlev:Nat} {rk ck:Key} {l rl c d:T} (e:1<=lev):split (node b l k lev (node rb rl rk rlev (node a c ck lev d)))=node rb (node b l k lev rl) rk (rlev+1) (node a c ck lev d):=pC (rr:=node a c ck lev d) rfl e
theorem ov {t:T} (h:t.dS):t.cz=t:=by
 cases t with
 |nil=>rfl
 |node b l k lev r=>obtain⟨_,_,a,_,_⟩:=h;exact mK (by omega)
theorem qN {t:T} (h:t.dS):t.split=t:=by
 cases t with
 |nil=>rfl
 |node b l k lev r=>obtain⟨_,_,_,_,a⟩:=h;exact pB (by omega)
structure zF (t t':T):Prop where
 mL:t'.dS
 h:t'.h=t.h∨(t'.h=t.h+1∧t'.hr+1=t'.h)
 stay:t.hr<t.h->t'.h=t.h
theorem Gd {l:T} (g:l.dS) (e:r.dS) (a:l.h+1=lev∨(l.h=lev∧l.hr+1=lev)) (i:r.h=lev∨r.h+1=lev) (j:r.hr<lev):(split (cz (node b l k lev r))).dS∧((split (cz (node b l k lev r))).h=lev∨((split (cz (node b l k lev r))).h=lev+1∧(split (cz (node b l k lev r))).hr=lev))∧(r.h<lev->(split (cz (node b l k lev r))).h=lev):=by
 rcases a with a|⟨a,c⟩;·rw[mK (by omega),pB (by omega)];exact⟨eC g e a.symm i j,.inl rfl,λ_=>rfl⟩
 ·obtain⟨s,u,v,d,p,rfl⟩:=mJ (t:=l) (by omega);obtain rfl:d=lev:=a;obtain⟨m,n,o,w,q⟩:=g;have c:p.h+1=d:=c;rw[pA];by_cases f:r.h=d;·rw[pC f (by omega)];refine⟨eC (eC m n o (.inr c) q) e rfl (.inr (by omega)) (by omega),.inr ⟨rfl,f⟩,λx=>by omega⟩
  ·rw[qM f];refine⟨eC m (eC n e c.symm i j) o (.inl rfl) (by omega:r.h<d),.inl rfl,λ_=>rfl⟩
theorem Ge {l:T} (g:l.dS) (e:r.dS) (i:lev=l.h+1) (a:r.h=lev∨r.h+1=lev):(split (cz (node b l k lev r))).dS∧((split (cz (node b l k lev r))).h=lev∨((split (cz (node b l k lev r))).h=lev+1∧(split (cz (node b l k lev r))).hr=lev))∧(r.hr<lev->(split (cz (node b l k lev r))).h=lev):=by
 have j:=mI e;rw[mK (by omega)];by_cases c:r.hr=lev
 ·obtain⟨q,s,u,d,f,rfl⟩:=mJ (t:=r) (by omega);obtain⟨m,n,v,w,x⟩:=e;have c:f.h=lev:=c;have j:f.h<=d:=j;have o:d=lev:=by
   rcases a with a|a;·exact a
   ·have:d+1=lev:=a;omega
  subst o;have y:=mI m;rw[pC c (by omega)];exact⟨eC (eC g m i (.inr (by omega)) (by omega)) n rfl (.inr (by omega)) (by omega),.inr ⟨rfl,c⟩,λp=>by have:f.h<d:=p;omega⟩
 ·rw[pB c];exact⟨eC g e i a (by omega),.inl rfl,λ_=>rfl⟩
theorem vM (n:Nat) (x:Key) (t:T) (w:t.dS):zF t (t.ins n x).1:=by
 induction t with
 |nil=>exact⟨eC trivial trivial rfl (.inr rfl) (by decide),.inr ⟨rfl,rfl⟩,λg=>absurd g (by decide)⟩
 |node b l k lev r y z=>
  obtain⟨e,f,i,d,j⟩:=w;unfold ins;by_cases s:x=k;·rw[aj s];show zF _ (split (cz (node b l k lev r)));rw[ov (eC e f i d j),qN (eC e f i d j)];exact⟨eC e f i d j,.inl rfl,λ_=>rfl⟩
  ·rw[z0 s];by_cases u:x.lt k;·rw[aj u];obtain⟨m,A,v⟩:=y e;obtain⟨o,p,q⟩:=Gd (b:=b) (k:=k) (lev:=lev) m f (by omega) d j;exact⟨o,p.imp id λ⟨a,c⟩=>⟨a,by rw[a,c]⟩,q⟩
   ·rw[z0 u];obtain⟨m,A,v⟩:=z f;have C:=mI m;have B:(r.ins n x).1.h=lev∨(r.ins n x).1.h+1=lev:=by
     rcases d with d|d;·left;rw[v (by omega),d]
     ·omega
    obtain⟨o,p,q⟩:=Ge (b:=b) (k:=k) (lev:=lev) e m i B;refine⟨o,p.imp id λ⟨a,c⟩=>⟨a,by rw[a,c]⟩,λg=>q ?_⟩;have g:r.h<lev:=g;omega
structure vN (t t':T):Prop where
 mL:t'.dS
 h:t'.h=t.h∨t'.h+1=t.h
 stay:t.hr<t.h->t'.h=t.h->t'.hr<t'.h
theorem zG {t:T} (h:t.dS):t.settled=t:=by
 cases t with
 |nil=>rfl
 |node b l k lev r=>
  have c:=h;obtain⟨g,a,i,j,m⟩:=h;have d:lower (node b l k lev r)=node b l k lev r:=by show(if min l.h r.h+1<lev then _ else _)=_;rw[z0 (by omega)]
  unfold settled;rw[d,ov c];have e:right cz (node b l k lev r)=node b l k lev r:=by show node b l k lev (cz r)=_;rw[ov a]
  have f:right (right cz) (node b l k lev r)=node b l k lev r:=by
   show node b l k lev (right cz r)=_;cases r with
   |nil=>rfl
   |node rb rl rk rlev rr=>show node b l k lev (node rb rl rk rlev (cz rr))=_;rw[ov a.2.1]
  rw[e,f,qN c];show node b l k lev (split r)=_;rw[qN a]
theorem Gf {l:T} (h:¬min l.h r.h+1<lev):lower (node b l k lev r)=node b l k lev r:=by show(if min l.h r.h+1<lev then _ else _)=_;rw[z0 h]
theorem vO {l:T} (h:min l.h r.h+1<lev) (a:¬min l.h r.h+1<r.h):lower (node b l k lev r)=node b l k (min l.h r.h+1) r:=by
 cases r with
 |nil=>exact aj h
 |node rb rl rk rlev rr=>refine(aj h).trans ?_;exact congrArg (node b l k _) (z0 a)
theorem zH {rb rlev:Nat} {rk:Key} {l rl rr:T} (h:min l.h rlev+1<lev) (a:min l.h rlev+1<rlev):lower (node b l k lev (node rb rl rk rlev rr))=node b l k (min l.h rlev+1) (node rb rl rk (min l.h rlev+1) rr):=by refine(aj h).trans ?_;exact congrArg (node b l k _) (aj a)
theorem Gg {l:T} (A:l.dS) (L:r.dS) (B:l.h+1=lev∨l.h+2=lev) (y:r.h=lev∨r.h+1=lev) (E:r.hr<lev):(settled (node b l k lev r)).dS∧((settled (node b l k lev r)).h=lev∨(settled (node b l k lev r)).h+1=lev)∧(r.h<lev->(settled (node b l k lev r)).h=lev->(settled (node b l k lev r)).hr<lev):=by
 rcases B with B|B;·rw[zG (eC A L B.symm y E)];exact⟨eC A L B.symm y E,.inl rfl,λw _=>w⟩
 ·obtain⟨m,rfl⟩:∃m,lev=m+1:=⟨lev-1,by omega⟩;have M:l.h+1=m:=by omega
  obtain⟨e,p,f,c,g,rfl⟩:=mJ (t:=r) (by omega);obtain⟨F,z,ay,ad,aB⟩:=L;have y:c=m+1∨c+1=m+1:=y;have E:g.h<m+1:=E;have aF:=mI F;have af:=mI z;rcases y with y|y
  ·subst y;have az:g.h=m:=(by omega);have aC:p.h=m:=(by omega);obtain⟨i,o,j,U,v,rfl⟩:=mJ (t:=p) (by omega);obtain rfl:U=m:=aC;obtain⟨q,s,u,a,n,rfl⟩:=mJ (t:=g) (by omega);obtain rfl:a=U:=az;obtain⟨V,G,ae,am,W⟩:=F;obtain⟨H,N,X,Y,Z⟩:=z;have aM:=mI V;have aj:=mI H;have O:lower (node b l k (a+1) (node e (node i o j a v) f (a+1) (node q s u a n)))=node b l k a (node e (node i o j a v) f a (node q s u a n)):=(by rw[zH (by omega) (by omega),show min l.h (a+1)+1=a by omega]);unfold settled;rw[O,mK (by omega)];have P:right cz (node b l k a (node e (node i o j a v) f a (node q s u a n)))=node b l k a (node i o j a (node e v f a (node q s u a n))):=(by show node b l k a (cz _)=_;rw[pA]);rw[P];have Q:(node b l k a o).dS:=eC A V M.symm (.inr (by omega)) (by omega);by_cases aa:v.h=a;·obtain⟨I,J,K,d,C,rfl⟩:=mJ (t:=v) (by omega);obtain rfl:d=a:=aa;have ab:=G;obtain⟨ap,aO,ah,aQ,aS⟩:=G;have W:C.h<d:=W;have D:right (right cz) (node b l k d (node i o j d (node e (node I J K d C) f d (node q s u d n))))=node b l k d (node i o j d (node I J K d (node e C f d (node q s u d n)))):=(by show node b l k d (node i o j d (cz _))=_;rw[pA]);rw[D,sH (by omega)];have x:right split (node i (node b l k d o) j (d+1) (node I J K d (node e C f d (node q s u d n))))=node i (node b l k d o) j (d+1) (node e (node I J K d C) f (d+1) (node q s u d n)):=(by show node i _ j (d+1) (split _)=_;rw[sH (by omega)]);rw[x];refine⟨eC Q (eC ab (eC H N X Y Z) rfl (.inr rfl) (by omega:n.h<d+1)) rfl (.inl rfl) (by omega:d<d+1),.inl rfl,λw=>?_⟩;have:d+1<d+1:=w;omega
   ·have D:right (right cz) (node b l k a (node i o j a (node e v f a (node q s u a n))))=node b l k a (node i o j a (node e v f a (node q s u a n))):=(by show node b l k a (node i o j a (cz _))=_;rw[mK aa]);rw[D,sH (by omega)];by_cases ao:n.h=a;·have x:right split (node i (node b l k a o) j (a+1) (node e v f a (node q s u a n)))=node i (node b l k a o) j (a+1) (node q (node e v f a s) u (a+1) n):=(by show node i _ j (a+1) (split _)=_;rw[pC ao (by omega)]);rw[x];refine⟨eC Q (eC (eC G H (by omega) (.inr (by omega)) (by omega)) N rfl (.inr (by omega)) (by omega)) rfl (.inl rfl) (by omega:n.h<a+1),.inl rfl,λw=>?_⟩;have:a+1<a+1:=w;omega
    ·have x:right split (node i (node b l k a o) j (a+1) (node e v f a (node q s u a n)))=node i (node b l k a o) j (a+1) (node e v f a (node q s u a n)):=(by show node i _ j (a+1) (split _)=_;rw[qM ao]);rw[x];refine⟨eC Q (eC G (eC H N X Y Z) (by omega) (.inl rfl) (by omega:n.h<a)) rfl (.inr rfl) (by omega:a<a+1),.inl rfl,λw=>?_⟩;have:a+1<a+1:=w;omega
  ·obtain rfl:c=m:=by omega
   have O:lower (node b l k (c+1) (node e p f c g))=node b l k c (node e p f c g):=(by have R:min l.h (node e p f c g).h+1=c:=(by show min l.h c+1=c;omega);rw[vO (by rw[R];omega) (by rw[R];show¬c<c;omega),R]);have S:(node e p f c g).dS:=eC F z ay ad aB;unfold settled;rw[O,mK (by omega)];have P:right cz (node b l k c (node e p f c g))=node b l k c (node e p f c g):=(by show node b l k c (cz _)=_;rw[ov S]);have D:right (right cz) (node b l k c (node e p f c g))=node b l k c (node e p f c g):=(by show node b l k c (node e p f c (cz g))=_;rw[ov z]);rw[P,D];by_cases ac:g.h=c;·rw[pC ac (by omega)];have x:right split (node e (node b l k c p) f (c+1) g)=node e (node b l k c p) f (c+1) g:=(by show node e _ f (c+1) (split g)=_;rw[qN z]);rw[x];exact⟨eC (eC A F M.symm (.inr (by omega)) (by omega)) z rfl (.inr (by omega)) (by omega),.inl rfl,λ_ _=>show g.h<c+1 by omega⟩
   ·rw[qM ac];have x:right split (node b l k c (node e p f c g))=node b l k c (node e p f c g):=(by show node b l k c (split _)=_;rw[qN S]);rw[x];refine⟨eC A S M.symm (.inl rfl) (by omega:g.h<c),.inr rfl,λ_ w=>?_⟩;have:c=c+1:=w;omega
theorem Gh {l:T} (q:l.dS) (o:r.dS) (p:lev=l.h+1) (J:(r.h=lev∧r.hr<lev)∨r.h+1=lev∨r.h+2=lev):(settled (node b l k lev r)).dS∧((settled (node b l k lev r)).h=lev∨(settled (node b l k lev r)).h+1=lev)∧(r.h<lev->(settled (node b l k lev r)).h=lev->(settled (node b l k lev r)).hr<lev):=by
 have K:=mI o;by_cases L:r.h+2=lev
 ·obtain⟨d,e,f,a,g,rfl⟩:=mJ (t:=l) (by omega);obtain⟨y,z,A,M,B⟩:=q;have p:lev=a+1:=p;subst p;have C:r.h+1=a:=by omega
  have H:lower (node b (node d e f a g) k (a+1) r)=node b (node d e f a g) k a r:=by have s:min (node d e f a g).h r.h+1=a:=(by show min a r.h+1=a;omega);rw[vO (by rw[s];omega) (by rw[s];omega),s]
  unfold settled;rw[H,pA];by_cases D:g.h=a;·obtain⟨i,m,j,c,n,rfl⟩:=mJ (t:=g) (by omega);obtain rfl:c=a:=D;obtain⟨E,I,N,O,P⟩:=z;have B:n.h<c:=B;have Q:=mI E;have u:right cz (node d e f c (node b (node i m j c n) k c r))=node d e f c (node i m j c (node b n k c r)):=(by show node d e f c (cz _)=_;rw[pA]);have v:right (right cz) (node d e f c (node i m j c (node b n k c r)))=node d e f c (node i m j c (node b n k c r)):=(by show node d e f c (node i m j c (cz _))=_;rw[mK (by omega)]);rw[u,v,sH (by omega)];have w:right split (node i (node d e f c m) j (c+1) (node b n k c r))=node i (node d e f c m) j (c+1) (node b n k c r):=(by show node i _ j (c+1) (split _)=_;rw[pB (by omega)]);rw[w];exact⟨eC (eC y E A (.inr (by omega)) (by omega)) (eC I o (by omega) (.inr C) (by omega)) rfl (.inr rfl) (by omega:r.h<c+1),.inl rfl,λ_ _=>show c<c+1 by omega⟩
  ·have u:right cz (node d e f a (node b g k a r))=node d e f a (node b g k a r):=(by show node d e f a (cz _)=_;rw[mK D]);have v:right (right cz) (node d e f a (node b g k a r))=node d e f a (node b g k a r):=(by show node d e f a (node b g k a (cz r))=_;rw[ov o]);rw[u,v,qM (by omega)];have w:right split (node d e f a (node b g k a r))=node d e f a (node b g k a r):=(by show node d e f a (split _)=_;rw[pB (by omega)]);rw[w];refine⟨eC y (eC z o (by omega) (.inr C) (by omega)) A (.inl rfl) (by omega:r.h<a),.inr rfl,λ_ x=>?_⟩;have:a=a+1:=x;omega
 ·have F:r.h=lev∨r.h+1=lev:=by omega
  have G:r.hr<lev:=by omega
  rw[zG (eC q o p F G)];exact⟨eC q o p F G,.inl rfl,λx _=>x⟩
theorem qO (t:T) (x:Key) (v:t.dS):vN t (t.del x).1:=by
 induction t generalizing x with
 |nil=>exact⟨trivial,.inl rfl,λc=>absurd c (by decide)⟩
 |node b l k lev r w z=>
  obtain⟨n,o,p,e,A⟩:=v;have left:∀(a y:Key),vN (node b l k lev r) (settled (node b (l.del y).1 a lev r)):=by intro a y;obtain⟨f,d,q⟩:=w y n;obtain⟨i,j,m⟩:=Gg (b:=b) (k:=a) (lev:=lev) f o (by omega) e A;exact⟨i,j,λc g=>by rw[g];exact m c g⟩
  have right:∀(a y:Key),vN (node b l k lev r) (settled (node b l a lev (r.del y).1)):=by
   intro a y;obtain⟨f,d,q⟩:=z y o;have B:((r.del y).1.h=lev∧(r.del y).1.hr<lev)∨(r.del y).1.h+1=lev∨(r.del y).1.h+2=lev:=by
    rcases e with e|e
    ·rcases d with d|d;·left;have:=q (by omega) d;omega
     ·omega
    ·omega
   obtain⟨i,j,m⟩:=Gh (b:=b) (k:=a) (lev:=lev) n f p B;refine⟨i,j,λc g=>?_⟩;have c:r.h<lev:=c;rw[g];exact m (by omega) g
  unfold del;by_cases s:x=k;·rw[aj s];cases l with
   |node lb D E F G=>exact left _ _
   |nil=>
    cases r with
    |node rb rl rk rlev rr=>exact right _ _
    |nil=>have C:lev=1:=p;subst C;exact⟨trivial,.inr rfl,λ_ (g:0=1)=>absurd g (by decide)⟩
  ·rw[z0 s];by_cases u:x.lt k;·rw[aj u];exact left _ _
   ·rw[z0 u];exact right _ _
end T
variable {w':ab}
namespace T
def bF:T->Option Addr
 |nil=>U
 |node b _ _ _ _=>R ⟨b,0,U⟩
def ptr (t:T):Value:=af t.bF
def cells (l:T) (k:Key) (lev:Nat) (r:T):Array Value:=#[I J k.v,I J k.id,I J (lev:Int),l.ptr,r.ptr]
def At (w:ab):T->Prop
 |nil=>True
 |node b l k lev r=>ak w b (cells l k lev r) 331∧l.At w∧r.At w
theorem At.lt {w:ab} {t:T} (h:t.At w):∀b∈t.blocks,b<w.heap.size:=by
 induction t with
 |nil=>intro b c;cases c
 |node b l k lev r d e=>
  obtain⟨f,g,i⟩:=h;intro x a;rcases gu.1 a with rfl|a;·exact f.lt
  ·rcases nc.1 a with a|a;·exact d g x a
   ·exact e i x a
theorem At.mod {S:Nat->Prop} {w w':ab} {t:T} (h:t.At w) (d:Mod S w w') (a:∀b∈t.blocks,¬S b):t.At w':=by
 induction t with
 |nil=>trivial
 |node b l k lev r e f=>obtain⟨g,i,j⟩:=h;exact⟨g.mod d (a b (by simp[blocks])),e i (λx c=>a x (by simp[blocks,c])),f j (λx c=>a x (by simp[blocks,c]))⟩
theorem At.drewN {w:ab} {t:T} (h:t.At w) (n:Nat):t.At (w.drewN n):=h.mod ((Mod.refl (λ_=>False) w).drewN n) (λ_ _ h=>h)
theorem dz {l:T} (h:(node b l k lev r).blocks.Nodup):b∉l.blocks∧b∉r.blocks∧l.blocks.Nodup∧r.blocks.Nodup∧∀x,x∈l.blocks->x∉r.blocks:=by simp only[blocks,iT,List.nodup_append,nc,not_or] at h;exact⟨h.1.1,h.1.2,h.2.1,h.2.2.1,λx a c=>h.2.2.2 x a x c rfl⟩
theorem ki {l:T}:b∈(node b l k lev r).blocks:=by simp[blocks]
def dV:T->Prop
 |nil=>True
 |node _ l _ lev r=>1<=lev∧lev<=1000∧l.dV∧r.dV
theorem dV.h {t:T} (h:t.dV):t.h<=1000:=by
 cases t with
 |nil=>exact hq _
 |node b l k lev r=>exact h.2.1
theorem kj {t:T} (h:t.dS) (a:t.size<=1000):t.dV:=by
 induction t with
 |nil=>trivial
 |node b l k lev r d e=>have f:=Gb h;have c:=Gc h;obtain⟨g,i,_,_,_⟩:=h;have a:1+(l.size+r.size)<=1000:=a;have c:lev<=1+(l.size+r.size):=c;exact⟨f,by omega,d g (by omega),e i (by omega)⟩
theorem pD {t:T} (h:t.dV):t.cz.dV:=by
 unfold cz;split
 ·split;·next e=>subst e;obtain⟨g,i,⟨a,b,c,d⟩,f⟩:=h;exact⟨a,b,c,a,b,d,f⟩
  ·exact h
 ·exact h
theorem pE {l:T} (a:1<=lev) (c:lev<=1000) (d:l.dV) (e:r.dV):(node b l k lev r).dV:=⟨a,c,d,e⟩
theorem ow {l:T} (a:b∉l.blocks) (c:b∉r.blocks) (d:l.blocks.Nodup) (e:r.blocks.Nodup) (f:∀x,x∈l.blocks->x∉r.blocks):(node b l k lev r).blocks.Nodup:=by simp only[blocks,iT,List.nodup_append,nc,not_or];exact⟨⟨a,c⟩,d,e,λx g y h i=>f x g (i▸h)⟩
theorem de {x:Nat} {l:T}:x∈(node b l k lev r).blocks↔x=b∨x∈l.blocks∨x∈r.blocks:=by simp[blocks]
end T
def vP (t':T) (B:List Nat) (w:ab) (e:Ending) (w':ab):Prop:=e=aK (af t'.bF)∧t'.At w'∧Mod (· ∈B) w w'
theorem zI (t:T) (w:ab) (h:t.At w):Calls au 286 #[t.ptr] w λa w'=>a=aK (I J (t.h:Int))∧w'=w:=by
 cases t with
 |nil=>show Calls au 286 #[af U] w _;go_enter func286,ntmps286;go_wp2;go_ret;exact⟨rfl,rfl⟩
 |node b l k lev r=>have c:=h.1.cell 2 (v:=I J (lev:Int)) rfl;clear h;show Calls au 286 #[af (R ⟨b,0,U⟩)] w _;go_enter func286,ntmps286;go_wp2;go_ret;exact⟨rfl,rfl⟩
theorem Gi (t:T) (p:Option Addr) (n:Nat) (w:ab) (h:t.At w) (b:t.bF=p) (c:t.h=n):Calls au 286 #[af p] w λa w'=>a=aK (I J (n:Int))∧w=w':=by subst b c;exact(zI t w h).mono λa w' ⟨d,e⟩=>⟨d,e.symm⟩
theorem ox (t:T) (p:Value) (n:Nat) (w:ab) (h:t.At w) (b:t.ptr=p) (c:t.h=n) (k:Nat):Calls au 286 #[p] (w.drewN k) λa d=>a=aK (I J (n:Int))∧∃m,d=w.drewN m:=by subst b c;exact(zI t (w.drewN k) (h.drewN k)).mono λa w' ⟨e,f⟩=>⟨e,k,f⟩
theorem pF (t:T) (w:ab) (h:t.At w) (A:t.blocks.Nodup) (hv:t.dV):Calls au 264 #[t.ptr] w (vP t.cz t.blocks w):=by
 cases t with
 |nil=>show Calls au 264 #[af U] w _;go_enter func264,ntmps264;go_wp2_with fail;go_quiet (fail);go_wp2;go_ret;exact⟨rfl,trivial,(Mod.refl _ _).drewN _⟩
 |node b l k lev r=>
  have B:=ox l l.ptr l.h w h.2.1 rfl rfl;have Q:=h.1.cell 2 (v:=I J (lev:Int)) rfl;have u:=h.1.cell 3 (v:=l.ptr) rfl;have D:=C B;clear B;by_cases d:l.h=lev
  ·have E:l≠ .nil:=λy=>by rw[y] at d;have:=hv.1;have:0=lev:=d;omega
   cases l with
   |nil=>exact absurd rfl E
   |node lb H K e g=>
    have S:=h.1.free 3;have L:=h.2.1.1.cell 4 (v:=af g.bF) rfl;have V:=h.2.1.1.free 4;obtain rfl:e=lev:=d;have F:((e:Int)!=(e:Int))=false:=(by simp);have i:=C (ox (.node lb H K e g) (af (R ⟨lb,0,U⟩)) e w h.2.1 rfl rfl);have f:b≠lb:=λy=>by subst y;simp[T.blocks] at A
    have M:=C f;clear E f D;obtain⟨p,a⟩:=aX g.bF;have W:w.cell? ⟨b,3,U⟩=R (af (R ⟨lb,0,U⟩)):=u;rw[a] at L;have N:=C a;clear u a;show Calls au 264 #[af (R ⟨b,0,U⟩)] w _;go_enter func264,ntmps264;go_wp2_with fail;go_quiet ((go_at_call 286;with_reducible exact i.out _));clear i;go_wp2;go_ret;rw[<-N.out];obtain⟨j,⟨m,o,q⟩,s⟩:=h;have O:=A;have f:=M.out;have c:Mod (λk=>k=b∨k=lb) w (((w.drewN nq).setCell ⟨b,3,U⟩ (af g.bF)).setCell ⟨lb,4,U⟩ (af (R ⟨b,0,U⟩))):=(((Mod.refl _ _).drewN nq).setCell (.inl rfl) _).setCell (.inr rfl) _;simp only[T.blocks,iT,List.nodup_append,nc,gu,gQ,not_or] at O;rw[T.pA];refine⟨rfl,⟨?_,o.mod c ?_,?_,q.mod c ?_,s.mod c ?_⟩,c.mono ?_⟩;·exact((m:ak (w.drewN nq) lb _ _).other (Ne.symm f) _).set 4 _
    ·clear c m o q s j;rintro x G (rfl|rfl)<;>simp_all
    ·exact((j:ak (w.drewN nq) b _ _).set 3 _).other f _
    ·clear c m o q s j;rintro x G (rfl|rfl)<;>simp_all
    ·clear c m o q s j;rintro x G (rfl|rfl)<;>simp_all
    ·rintro x _ (rfl|rfl)<;>simp[T.blocks]
  ·have F:((l.h:Int)!=(lev:Int))=true:=(by simp;omega);have P:=C (T.mK (b:=b) (k:=k) (r:=r) d);obtain⟨p,a⟩:∃p,l.ptr=p:=⟨_,rfl⟩;obtain⟨n,z⟩:∃n,l.h=n:=⟨_,rfl⟩;rw[a] at u;rw[z] at F;have i:=C (ox l p n w h.2.1 a z);clear D d a z;show Calls au 264 #[af (R ⟨b,0,U⟩)] w _;go_enter func264,ntmps264;go_wp2_with fail;go_quiet ((go_at_call 286;with_reducible exact i.out _));go_wp2;go_ret;rw[P.out];exact⟨rfl,h.drewN _,(Mod.refl _ _).drewN _⟩
theorem qP (t:T) (w:ab) (h:t.At w) (o:t.blocks.Nodup) (hv:t.dV):Calls au 263 #[t.ptr] w (vP t.split t.blocks w):=by
 cases t with
 |nil=>show Calls au 263 #[af U] w _;go_enter func263,ntmps263;go_wp2_with fail;go_quiet (fail);go_wp2;go_ret;exact⟨rfl,trivial,(Mod.refl _ _).drewN _⟩
 |node b l k lev r=>
  have O:=h.1.cell 2 (v:=I J (lev:Int)) rfl;cases r with
  |nil=>have y:=h.1.cell 4 (v:=af U) rfl;show Calls au 263 #[af (R ⟨b,0,U⟩)] w _;go_enter func263,ntmps263;go_wp2_with fail;go_quiet (fail);go_wp2;go_ret;exact⟨rfl,h.drewN _,(Mod.refl _ _).drewN _⟩
  |node rb rl rk rlev rr=>
   have y:=h.1.cell 4 (v:=af (R ⟨rb,0,U⟩)) rfl;have z:=h.2.2.1.cell 4 (v:=af rr.bF) rfl;generalize f:rr.bF=p at z;by_cases c:rr.h=lev
   ·have g:=C (ox rr (af p) lev w h.2.2.2.2 (congrArg af f) c);have A:((lev:Int)!=(lev:Int))=false:=(by simp);have j:=C (T.pC (b:=b) (rb:=rb) (k:=k) (rk:=rk) (l:=l) (rl:=rl) (rlev:=rlev) c hv.1);have P:=h.1.free 4;have B:=h.2.2.1.cell 3 (v:=af rl.bF) rfl;have Q:=h.2.2.1.cell 2 (v:=I J (rlev:Int)) rfl;have S:=h.2.2.1.free 3;have V:=h.2.2.1.free 2;have W:rlev<=1000:=hv.2.2.2.2.1;have d:b≠rb:=λD=>by subst D;simp[T.blocks] at o
    have E:=C d;generalize s:rl.bF=q at B;have F:=C s;clear d hv c f s;show Calls au 263 #[af (R ⟨b,0,U⟩)] w _;go_enter func263,ntmps263;go_wp2_with fail;go_quiet ((go_at_call 286;with_reducible exact g.out _));clear g;go_wp2;go_ret;rw[<-F.out];obtain⟨G,H,K,L,M⟩:=h;have N:=o;have d:=E.out;rw[j.out];have i:Mod (λk=>k=b∨k=rb) w ((((w.drewN nq).setCell ⟨b,4,U⟩ (af rl.bF)).setCell ⟨rb,3,U⟩ (af (R ⟨b,0,U⟩))).setCell ⟨rb,2,U⟩ (I J ((rlev:Int)+1))):=((((Mod.refl _ _).drewN nq).setCell (.inl rfl) _).setCell (.inr rfl) _).setCell (.inr rfl) _;have e:=T.dz N;have u:=T.dz e.2.2.2.1;refine⟨rfl,⟨?_,⟨?_,H.mod i ?_,L.mod i ?_⟩,M.mod i ?_⟩,i.mono ?_⟩;·exact(((K:ak (w.drewN nq) rb _ _).other (Ne.symm d) _).set 3 _).set 2 _
    ·exact(((G:ak (w.drewN nq) b _ _).set 4 _).other d _).other d _
    ·rintro x a (rfl|rfl);·exact e.1 a
     ·exact e.2.2.2.2 _ a T.ki
    ·rintro x a (rfl|rfl);·exact e.2.1 (by simp[T.blocks,a])
     ·exact u.1 a
    ·rintro x a (rfl|rfl);·exact e.2.1 (by simp[T.blocks,a])
     ·exact u.2.1 a
    ·rintro x _ (rfl|rfl)<;>simp[T.blocks]
   ·obtain⟨n,m⟩:∃n,rr.h=n:=⟨_,rfl⟩;have g:=C (ox rr (af p) n w h.2.2.2.2 (congrArg af f) m);have j:=C (T.qM (b:=b) (rb:=rb) (k:=k) (rk:=rk) (l:=l) (rl:=rl) (rlev:=rlev) c);rw[m] at c;have A:((n:Int)!=(lev:Int))=true:=(by simp;omega);clear c f m;show Calls au 263 #[af (R ⟨b,0,U⟩)] w _;go_enter func263,ntmps263;go_wp2_with fail;go_quiet ((go_at_call 286;with_reducible exact g.out _));go_wp2;go_ret;rw[j.out];exact⟨rfl,h.drewN _,(Mod.refl _ _).drewN _⟩
def fa (a b:Key):Int:=if a=b then 0 else if a.lt b then-1 else 1
theorem l5 (a b:Key) (w:ab):Calls au 256 #[bm #[I J a.v,I J a.id],bm #[I J b.v,I J b.id]] w λd w'=>d=aK (I J (fa a b))∧Below w.heap.size w w':=by
 rcases Int.lt_trichotomy a.v b.v with c|c|c
 ·have f:(a.v==b.v)=false:=by simp;omega
  have e:=C (by unfold fa;rw[z0 (λd=>by rw[d] at c;omega),aj (.inl c)]:fa a b=-1);go_enter func256,ntmps256;go_wp2;go_ret;exact⟨by rw[e.out];rfl,((Below.refl _ _).alloc zK9 _).alloc (by simp) _⟩
 ·rcases Int.lt_trichotomy a.id b.id with g|g|g;·have f:(a.v==b.v)=true:=(by simp[c]);have h:(a.id==b.id)=false:=(by simp;omega);have i:¬a.v<b.v:=(by omega);have e:=C (by unfold fa;rw[z0 (λd=>by rw[d] at g;omega),aj (.inr ⟨c,g⟩)]:fa a b=-1);clear c;go_enter func256,ntmps256;go_wp2;go_ret;exact⟨by rw[e.out];rfl,((Below.refl _ _).alloc zK9 _).alloc (by simp) _⟩
  ·have f:(a.v==b.v)=true:=(by simp[c]);have h:(a.id==b.id)=true:=(by simp[g]);have e:=C (by unfold fa;rw[aj ((Key.eq_iff a b).2 ⟨c,g⟩)]:fa a b=0);clear c g;go_enter func256,ntmps256;go_wp2;go_ret;exact⟨by rw[e.out];rfl,((Below.refl _ _).alloc zK9 _).alloc (by simp) _⟩
  ·have f:(a.v==b.v)=true:=(by simp[c]);have h:(a.id==b.id)=false:=(by simp;omega);have i:¬a.v<b.v:=(by omega);have j:¬a.id<b.id:=(by omega);have e:=C (by unfold fa;rw[z0 (λd=>by rw[d] at g;omega),z0 (by unfold Key.lt;omega)]:fa a b=1);clear c;go_enter func256,ntmps256;go_wp2;go_ret;exact⟨by rw[e.out];rfl,((Below.refl _ _).alloc zK9 _).alloc (by simp) _⟩
 ·have f:(a.v==b.v)=false:=by simp;omega
  have i:¬a.v<b.v:=by omega
  have e:=C (by unfold fa;rw[z0 (λd=>by rw[d] at c;omega),z0 (by unfold Key.lt;omega)]:fa a b=1);go_enter func256,ntmps256;go_wp2;go_ret;exact⟨by rw[e.out];rfl,((Below.refl _ _).alloc zK9 _).alloc (by simp) _⟩
variable {W':ab} {ag:List (Int×Int)}
def dT (x:Key):Value:=bm #[I J x.v,I J x.id]
def oy (t:T) (x:Key) (w:ab) (e:Ending) (w':ab):Prop:=∃a,w.heap.size<=a∧e=aK (bD #[af (t.ins a x).1.bF,aE (t.ins a x).2])∧(t.ins a x).1.At w'∧Mod (· ∈t.blocks) w w'
theorem Gj (x:Key) (w:ab):Calls au 241 #[af U,dT x] w (oy .nil x w):=by show Calls au 241 #[af U,bm #[I J x.v,I J x.id]] w _;go_enter func241,ntmps241;go_wp2;go_ret2;refine⟨w.heap.size+1,by omega,rfl,⟨?_,trivial,trivial⟩,((Mod.refl _ _).alloc _).alloc _⟩;have:=ak.new (w.alloc (av #[I J x.v,I J x.id] 218)) #[I J x.v,I J x.id,I J 1,af U,af U] 331;rw[show(w.alloc (av #[I J x.v,I J x.id] 218)).heap.size=w.heap.size+1 by simp] at this;exact this
theorem Gk (b:Nat) (l:T) (k:Key) (lev:Nat) (r:T) (x:Key) (w:ab) (h:(T.node b l k lev r).At w) (N:(T.node b l k lev r).blocks.Nodup) (hv:(T.node b l k lev r).dS) (O:(T.node b l k lev r).size<=200) (z:x.lt k) (P:∀w,l.At w->Calls au 241 #[l.ptr,dT x] w (oy l x w)):Calls au 241 #[af (R ⟨b,0,U⟩),dT x] w (oy (.node b l k lev r) x w):=by
 have Q:fa x k=-1:=by unfold fa;rw[z0 (Key.jK z),aj z]
 have aU:=C Q;have E:=C h;have aP:=C P;have W:=h.1.cell 0 (v:=I J k.v) rfl;have X:=h.1.cell 1 (v:=I J k.id) rfl;have F:=h.1.cell 3 (v:=af l.bF) rfl;have A:=h.1.lt;generalize Y:l.bF=p at F;have aT:=C Y;clear Q h P Y;show Calls au 241 #[af (R ⟨b,0,U⟩),bm #[I J x.v,I J x.id]] w _;go_enter func241,ntmps241;go_upto_region 4 with(fail);generalize G:j_ w _=V;have H:=C (by rw[<-G];exact ak.new _ _ _:ak V w.heap.size #[I J x.v,I J x.id] 218);have n:=C (by rw[<-G];exact(Below.refl _ _).alloc (bM _) _:Below w.heap.size w V);have Z:=H.cell 0 (v:=I J x.v) rfl;have aa:=H.cell 1 (v:=I J x.id) rfl;have ao:=b1 n A W;have ac:=b1 n A X;have ay:=b1 n A F;have ag:=H.out.lt;have B:=dm A n.size;clear G W X F;go_region_held3 (λW'=>W'.cell? ⟨w.heap.size,0,U⟩=R (I J x.v)∧W'.cell? ⟨w.heap.size,1,U⟩=R (I J x.id)∧W'.cell? ⟨b,0,U⟩=R (I J k.v)∧W'.cell? ⟨b,1,U⟩=R (I J k.id)) ((refine⟨?_,?_,?_,?_⟩)<;>(first|assumption|(with_reducible refine b7 ?_;assumption))) (first|(go_at_call 256;refine(l5 x k _).mono ?_;rintro c o ⟨rfl,f⟩;rw[aU.out];have ad:=C f;have aB:=b1 f ag Z;have az:=b1 f ag aa;have aV:=b1 f B ao;have aZ:=b1 f B ac;have a6:=b1 f B ay;clear f));have D:=C (n.drew.trans (ad.mono n.size));have aC:=ad.out.size;clear Z aa ao ac ay;have aF:=dm ag aC;have a8:=dm B aC;have bl:w.heap.size≠b:=by omega
 have q:=C (E.mod (Mod.below (S:=λ_=>False) D) (λ_ _ h=>h));have d:=C (T.dz N);have s:=C (by have bn:1+(l.size+r.size)<=200:=O;have g:=T.kj hv (by omega);exact⟨g.1,g.2.1,hv.1,g.2.2.2,by omega⟩:1<=lev∧lev<=1000∧l.dS∧r.dV∧l.size<=200);go_wp2_with fail;go_region_with (first|(go_at_call 241;rw[<-aT.out];refine(aP _ (q.2.1.drewN 1)).mono ?_;rintro c ae ⟨a,am,rfl,e,j⟩;replace j:=j.mH;have aM:=C j;have a_:=C e;have t:=C am;have av:=j.cell aB aF (λh=>absurd (E.2.1.lt _ h) (by omega));have aq:=j.cell az aF (λh=>absurd (E.2.1.lt _ h) (by omega));have K:=C ((q.1).mod j d.1);have aA:=K.free 3;have bp:=K.cell 3 (v:=af l.bF) rfl;clear j e am));all_goals
  have ba:=C (K.set 3 (af (l.ins a x).1.bF));have ap:a∉l.blocks:=λg=>absurd (q.2.1.lt _ g) (by have:o.heap.size<=a:=t;omega);have aO:a∉r.blocks:=λg=>absurd (q.2.2.lt _ g) (by have:o.heap.size<=a:=t;omega);have ah:b≠a:=λg=>absurd a8 (by have:o.heap.size<=a:=t;omega);have L:b∉(l.ins a x).1.blocks:=λg=>(T.nm g).elim ah d.1;have aQ:=C (T.ow (k:=k) (lev:=lev) L d.2.1 (T.uO d.2.2.1 ap) d.2.2.2.1 (λy m=>(T.nm m).elim (λc=>c▸aO) (λg=>d.2.2.2.2 y g)));have bb:=C (⟨ba,a_.mod ((Mod.refl (· =b) _).setCell rfl _) (λy m c=>L (c▸m)),(q.2.2.mod aM (λy m g=>d.2.2.2.2 y g m)).mod ((Mod.refl (· =b) _).setCell rfl _) (λy m c=>d.2.1 (c▸m))⟩:(T.node b (l.ins a x).1 k lev r).At (ae.setCell ⟨b,3,U⟩ (af (l.ins a x).1.bF)));have aS:=C (T.pE s.1 s.2.1 (T.kj (T.vM a x l s.2.2.1).mL (by have:=T.yv a x l;have:=s.2.2.2.2;omega)) s.2.2.2.1:(T.node b (l.ins a x).1 k lev r).dV);clear ap aO ah L N hv O av aq aB az aV aZ a6;go_wp2_with fail;refine(pF (.node b (l.ins a x).1 k lev r) _ bb aQ aS).mono ?_;rintro c wc ⟨rfl,e,u⟩;have aw:=C e;have bc:=C u;clear e u;go_wp2_with fail;refine(qP (T.cz (.node b (l.ins a x).1 k lev r)) _ aw ((T.rs _).nodup_iff.2 aQ) (T.pD aS)).mono ?_;rintro c bq ⟨rfl,e,u⟩;have bf:=C e;have bg:=C u;clear e u;go_wp2;go_ret2;refine⟨a,by have:o.heap.size<=a:=t;have:=D.size;omega,by rw[T.yw z];rfl,by rw[T.yw z];exact bf,?_⟩;have an:Mod (· ∈(T.node b l k lev r).blocks) w ae:=(Mod.below D).trans aM (λi _ g=>T.de.2 (.inr (.inl g)));have ax:=an.setCell (i:=3) (T.de.2 (.inl rfl)) (af (l.ins a x).1.bF);have M:∀i,i<w.heap.size->i∈(T.node b (l.ins a x).1 k lev r).blocks->i∈(T.node b l k lev r).blocks:=λi M g=>by
   rcases T.de.1 g with g|g|g;·exact T.de.2 (.inl g)
   ·rcases T.nm g with g|g;·have:o.heap.size<=a:=t;have:=D.size;omega
    ·exact T.de.2 (.inr (.inl g))
   ·exact T.de.2 (.inr (.inr g))
  exact(ax.trans bc M).trans bg (λi bk g=>M i bk ((T.rs _).mem_iff.1 g))
theorem Gl (b:Nat) (l:T) (k:Key) (lev:Nat) (r:T) (x:Key) (w:ab) (h:(T.node b l k lev r).At w) (N:(T.node b l k lev r).blocks.Nodup) (hv:(T.node b l k lev r).dS) (O:(T.node b l k lev r).size<=200) (z:k.lt x) (P:∀w,r.At w->Calls au 241 #[r.ptr,dT x] w (oy r x w)):Calls au 241 #[af (R ⟨b,0,U⟩),dT x] w (oy (.node b l k lev r) x w):=by
 have Q:fa x k=1:=by unfold fa;rw[z0 (Key.jK z).symm,z0 (Key.lt_asymm z)]
 have aS:=C Q;have E:=C h;have aU:=C P;have W:=h.1.cell 0 (v:=I J k.v) rfl;have X:=h.1.cell 1 (v:=I J k.id) rfl;have F:=h.1.cell 4 (v:=af r.bF) rfl;have A:=h.1.lt;generalize Y:r.bF=p at F;have aP:=C Y;clear Q h P Y;show Calls au 241 #[af (R ⟨b,0,U⟩),bm #[I J x.v,I J x.id]] w _;go_enter func241,ntmps241;go_upto_region 4 with(fail);generalize G:j_ w _=V;have H:=C (by rw[<-G];exact ak.new _ _ _:ak V w.heap.size #[I J x.v,I J x.id] 218);have n:=C (by rw[<-G];exact(Below.refl _ _).alloc (bM _) _:Below w.heap.size w V);have Z:=H.cell 0 (v:=I J x.v) rfl;have aa:=H.cell 1 (v:=I J x.id) rfl;have ao:=b1 n A W;have ac:=b1 n A X;have ay:=b1 n A F;have ag:=H.out.lt;have B:=dm A n.size;clear G W X F;go_region_held3 (λW'=>W'.cell? ⟨w.heap.size,0,U⟩=R (I J x.v)∧W'.cell? ⟨w.heap.size,1,U⟩=R (I J x.id)∧W'.cell? ⟨b,0,U⟩=R (I J k.v)∧W'.cell? ⟨b,1,U⟩=R (I J k.id)) ((refine⟨?_,?_,?_,?_⟩)<;>(first|assumption|(with_reducible refine b7 ?_;assumption))) (first|(go_at_call 256;refine(l5 x k _).mono ?_;rintro c o ⟨rfl,j⟩;rw[aS.out];have ad:=C j;have aB:=b1 j ag Z;have az:=b1 j ag aa;have aT:=b1 j B ao;have aV:=b1 j B ac;have aZ:=b1 j B ay;clear j));have D:=C (n.drew.trans (ad.mono n.size));have aC:=ad.out.size;clear Z aa ao ac ay;have aF:=dm ag aC;have a6:=dm B aC;have bk:w.heap.size≠b:=by omega
 have q:=C (E.mod (Mod.below (S:=λ_=>False) D) (λ_ _ h=>h));have d:=C (T.dz N);have s:=C (by have bl:1+(l.size+r.size)<=200:=O;have g:=T.kj hv (by omega);exact⟨g.1,g.2.1,hv.2.1,g.2.2.1,by omega⟩:1<=lev∧lev<=1000∧r.dS∧l.dV∧r.size<=200);go_wp2_with fail;go_region_with (first|(go_at_call 241;rw[<-aP.out];refine(aU _ (q.2.2.drewN 1)).mono ?_;rintro c ae ⟨a,am,rfl,e,m⟩;replace m:=m.mH;have aM:=C m;have a8:=C e;have t:=C am;have a_:=m.cell aB aF (λh=>absurd (E.2.2.lt _ h) (by omega));have av:=m.cell az aF (λh=>absurd (E.2.2.lt _ h) (by omega));have K:=C ((q.1).mod m d.2.1);have bn:=K.free 4;have aA:=K.cell 4 (v:=af r.bF) rfl;clear m e am));all_goals
  have aq:=C (K.set 4 (af (r.ins a x).1.bF));have aj:a∉l.blocks:=λg=>absurd (q.2.1.lt _ g) (by have:o.heap.size<=a:=t;omega);have ap:a∉r.blocks:=λg=>absurd (q.2.2.lt _ g) (by have:o.heap.size<=a:=t;omega);have aO:b≠a:=λg=>absurd a6 (by have:o.heap.size<=a:=t;omega);have L:b∉(r.ins a x).1.blocks:=λg=>(T.nm g).elim aO d.2.1;have ah:=C (T.ow (k:=k) (lev:=lev) d.1 L d.2.2.1 (T.uO d.2.2.2.1 ap) (λy f g=>(T.nm g).elim (λc=>aj (c▸f)) (λg=>d.2.2.2.2 y f g)));have ba:=C (⟨aq,(q.2.1.mod aM (λy f g=>d.2.2.2.2 y f g)).mod ((Mod.refl (· =b) _).setCell rfl _) (λy f c=>d.1 (c▸f)),a8.mod ((Mod.refl (· =b) _).setCell rfl _) (λy f c=>L (c▸f))⟩:(T.node b l k lev (r.ins a x).1).At (ae.setCell ⟨b,4,U⟩ (af (r.ins a x).1.bF)));have aQ:=C (T.pE s.1 s.2.1 s.2.2.2.1 (T.kj (T.vM a x r s.2.2.1).mL (by have:=T.yv a x r;have:=s.2.2.2.2;omega)):(T.node b l k lev (r.ins a x).1).dV);clear aj ap aO L N hv O a_ av aB az aT aV aZ;go_wp2_with fail;refine(pF (.node b l k lev (r.ins a x).1) _ ba ah aQ).mono ?_;rintro c wc ⟨rfl,e,u⟩;have bb:=C e;have aw:=C u;clear e u;go_wp2_with fail;refine(qP (T.cz (.node b l k lev (r.ins a x).1)) _ bb ((T.rs _).nodup_iff.2 ah) (T.pD aQ)).mono ?_;rintro c bp ⟨rfl,e,u⟩;have bc:=C e;have bf:=C u;clear e u;go_wp2;go_ret2;refine⟨a,by have:o.heap.size<=a:=t;have:=D.size;omega,by rw[T.yx z];rfl,by rw[T.yx z];exact bc,?_⟩;have bg:Mod (· ∈(T.node b l k lev r).blocks) w ae:=(Mod.below D).trans aM (λi _ g=>T.de.2 (.inr (.inr g)));have an:=bg.setCell (i:=4) (T.de.2 (.inl rfl)) (af (r.ins a x).1.bF);have M:∀i,i<w.heap.size->i∈(T.node b l k lev (r.ins a x).1).blocks->i∈(T.node b l k lev r).blocks:=λi M g=>by
   rcases T.de.1 g with g|g|g;·exact T.de.2 (.inl g)
   ·exact T.de.2 (.inr (.inl g))
   ·rcases T.nm g with g|g;·have:o.heap.size<=a:=t;have:=D.size;omega
    ·exact T.de.2 (.inr (.inr g))
  exact(an.trans aw M).trans bf (λi ax g=>M i ax ((T.rs _).mem_iff.1 g))
theorem Gm (b:Nat) (l:T) (k:Key) (lev:Nat) (r:T) (w:ab) (h:(T.node b l k lev r).At w) (n:(T.node b l k lev r).blocks.Nodup) (hv:(T.node b l k lev r).dS) (D:(T.node b l k lev r).size<=200):Calls au 241 #[af (R ⟨b,0,U⟩),dT k] w (oy (.node b l k lev r) k w):=by have E:=C (by unfold fa;rw[aj rfl]:fa k k=0);have F:=C h;have o:=C n;have p:=C (T.kj hv (by omega));have q:=h.1.cell 0 (v:=I J k.v) rfl;have s:=h.1.cell 1 (v:=I J k.id) rfl;have f:=h.1.lt;clear h n hv D;show Calls au 241 #[af (R ⟨b,0,U⟩),bm #[I J k.v,I J k.id]] w _;go_enter func241,ntmps241;go_upto_region 4 with(fail);generalize j:j_ w _=V;have m:=C (by rw[<-j];exact ak.new _ _ _:ak V w.heap.size #[I J k.v,I J k.id] 218);have c:=C (by rw[<-j];exact(Below.refl _ _).alloc zK9 _:Below w.heap.size w V);have t:=m.cell 0 (v:=I J k.v) rfl;have u:=m.cell 1 (v:=I J k.id) rfl;have x:=b1 c f q;have y:=b1 c f s;have ag:=m.lt;have z:=dm f c.size;clear j q s;go_region_held3 (λW'=>W'.cell? ⟨w.heap.size,0,U⟩=R (I J k.v)∧W'.cell? ⟨w.heap.size,1,U⟩=R (I J k.id)∧W'.cell? ⟨b,0,U⟩=R (I J k.v)∧W'.cell? ⟨b,1,U⟩=R (I J k.id)) ((refine⟨?_,?_,?_,?_⟩)<;>(first|assumption|(with_reducible refine b7 ?_;assumption))) (first|(go_at_call 256;refine(l5 k k _).mono ?_;rintro A W ⟨rfl,a⟩;rw[E.out];have G:=C a;have H:=b1 a ag t;have K:=b1 a ag u;have L:=b1 a z x;have M:=b1 a z y;clear a));have B:=C (c.drew.trans (G.mono c.size));have N:=C (F.mod (zF9 B) (λ_ _ h=>h));clear t u x y H K L M;go_wp2_with fail;refine(pF (.node b l k lev r) _ N o p).mono ?_;rintro A wc ⟨rfl,d,e⟩;have O:=C d;have P:=C e;clear d e;go_wp2_with fail;refine(qP (T.cz (.node b l k lev r)) _ O ((T.rs _).nodup_iff.2 o) (T.pD p)).mono ?_;rintro A X ⟨rfl,d,e⟩;have Q:=C d;have S:=C e;clear d e;go_wp2;go_ret2;refine⟨w.heap.size,bM _,by rw[T.yy];rfl,by rw[T.yy];exact Q,?_⟩;exact((Mod.below B).trans P (λi _ g=>g)).trans S (λi _ g=>(T.rs _).mem_iff.1 g)
theorem Gn (t:T) (x:Key) (w:ab) (h:t.At w) (a:t.blocks.Nodup) (hv:t.dS) (c:t.size<=200):Calls au 241 #[t.ptr,dT x] w (oy t x w):=by
 induction t generalizing w with
 |nil=>exact Gj x w
 |node b l k lev r g i=>
  have j:1+(l.size+r.size)<=200:=c;by_cases e:x=k;·subst e;exact Gm b l x lev r w h a hv c
  ·by_cases f:x.lt k;·exact Gk b l k lev r x w h a hv c f (λw d=>g w d (T.dz a).2.2.1 hv.1 (by omega))
   ·exact Gl b l k lev r x w h a hv c (Key.pj f e) (λw d=>i w d (T.dz a).2.2.2.1 hv.2.1 (by omega))
variable {al:Nat->Prop} {v1:Value} {ai:Int->Nat}
namespace T
theorem At.right {l a:T} (h:(node b l k lev r).At w) (i:(node b l k lev r).blocks.Nodup) (e:Mod (· ∈r.blocks) w w') (j:a.At w') (m:∀y,y∈a.blocks->y∈r.blocks):(node b l k lev a).At (w'.setCell ⟨b,4,U⟩ (af a.bF)):=by obtain⟨o,p,q⟩:=h;have n:=T.dz i;have f:=Mod.one w' b 4 (af a.bF);exact⟨(o.mod e n.2.1).set 4 _,(p.mod e (λy c g=>n.2.2.2.2 y c g)).mod f (λy c d=>n.1 (d▸c)),j.mod f (λy c d=>n.2.1 (d▸m y c))⟩
theorem vQ {l c:T} (d:(node b l k lev r).blocks.Nodup) (a:c.blocks.Perm r.blocks):(node b l k lev c).blocks.Nodup:=by have n:=T.dz d;exact ow n.1 (λg=>n.2.1 (a.mem_iff.1 g)) n.2.2.1 (a.nodup_iff.2 n.2.2.2.1) (λy e g=>n.2.2.2.2 y e (a.mem_iff.1 g))
theorem Gp {l:T}:∃a c d e f,cz (node b l k lev r)=node a c d e f:=by
 unfold cz;split;·split<;>exact⟨_,_,_,_,_,rfl⟩
 ·exact⟨_,_,_,_,_,rfl⟩
theorem Gq {l:T}:∃a c d e f,split (node b l k lev r)=node a c d e f:=by
 unfold T.split;split;·split<;>exact⟨_,_,_,_,_,rfl⟩
 ·exact⟨_,_,_,_,_,rfl⟩
theorem Gr {l:T}:∃c d,lower (node b l k lev r)=node b l k c d:=by
 by_cases a:min l.h r.h+1<lev;·exact⟨_,_,aj a⟩
 ·exact⟨_,_,z0 a⟩
theorem Gs {t:T} (h:t.dV):t.lower.dV:=by
 unfold lower;split;·next b l k lev r=>
  obtain⟨f,g,a,c⟩:=h;have m:=a.h;have n:=c.h;split
  ·refine⟨by omega,by omega,a,?_⟩;split;·next rb rl rk rlev rr=>
    obtain⟨i,j,d,e⟩:=c;split;·exact⟨by omega,by omega,d,e⟩
    ·exact⟨i,j,d,e⟩
   ·trivial
  ·exact⟨f,g,a,c⟩
 ·exact h
theorem vR {l a:T} (h:(node b l k lev r).dV) (c:a.dV):(node b l k lev a).dV:=⟨h.1,h.2.1,h.2.2.1,c⟩
theorem qQ {l a:T} (h:a.blocks.Perm r.blocks):(node b l k lev a).blocks.Perm (node b l k lev r).blocks:=List.Perm.cons _ (List.Perm.append_left _ h)
structure jW (B:List Nat) (w w':ab) (t:T):Prop where
 at_:t.At w'
 dz:t.blocks.Nodup
 lq:t.dV
 perm:t.blocks.Perm B
 mod:Mod (· ∈B) w w'
theorem jW.Gt {B:List Nat} {a:ab} {t:T} (h:jW B w w' t) (b:t.cz.At a) (c:Mod (· ∈t.blocks) w' a):jW B w a t.cz:=⟨b,(rs t).nodup_iff.2 h.dz,pD h.lq,(rs t).trans h.perm,h.mod.trans c λi _ g=>h.perm.mem_iff.1 g⟩
theorem jW.ed {B:List Nat} {c:ab} {l a:T} (h:jW B w w' (node b l k lev r)) (d:a.blocks.Perm r.blocks) (hv:a.dV) (f:a.At c) (e:Mod (· ∈r.blocks) w' c):jW B w (c.setCell ⟨b,4,U⟩ (af a.bF)) (node b l k lev a):=⟨h.at_.right h.dz e f (λy j=>d.mem_iff.1 j),vQ h.dz d,vR h.lq hv,(qQ d).trans h.perm,(h.mod.trans e λi _ g=>h.perm.mem_iff.1 (de.2 (.inr (.inr g)))).setCell (h.perm.mem_iff.1 ki) _⟩
theorem jW.Gu {B:List Nat} {c:ab} {k d v2 v3:Nat} {l m:Key} {o p a:T} (h:jW B w w' (node k o l v2 (node d p m v3 r))) (f:a.blocks.Perm r.blocks) (hv:a.dV) (s:a.At c) (e:Mod (· ∈r.blocks) w' c):jW B w (c.setCell ⟨d,4,U⟩ (af a.bF)) (node k o l v2 (node d p m v3 a)):=by obtain⟨t,u,v⟩:=h.at_;have n:=T.dz h.dz;have x:=v.right n.2.2.2.1 e s (λy b=>f.mem_iff.1 b);have q:=Mod.one c d 4 (af a.bF);exact⟨⟨(t.mod e (λg=>n.2.1 (de.2 (.inr (.inr g))))).mod q (λj=>n.2.1 (j▸ki)),(u.mod e (λy b g=>n.2.2.2.2 y b (de.2 (.inr (.inr g))))).mod q (λy b j=>n.2.2.2.2 y b (j▸ki)),x⟩,vQ h.dz (qQ f),vR h.lq (vR h.lq.2.2.2 hv),(qQ (qQ f)).trans h.perm,(h.mod.trans e λi _ g=>h.perm.mem_iff.1 (de.2 (.inr (.inr (de.2 (.inr (.inr g))))))).setCell (h.perm.mem_iff.1 (de.2 (.inr (.inr ki)))) _⟩
structure sI (B:List Nat) (w w':ab) (t:T):Prop where
 at_:t.At w'
 dz:t.blocks.Nodup
 perm:t.blocks.Perm B
 mod:Mod (· ∈B) w w'
theorem jW.Gv {B:List Nat} {a:ab} {t:T} (h:jW B w w' t) (b:t.split.At a) (c:Mod (· ∈t.blocks) w' a):sI B w a t.split:=⟨b,(nk t).nodup_iff.2 h.dz,(nk t).trans h.perm,h.mod.trans c λi _ g=>h.perm.mem_iff.1 g⟩
theorem sI.ed {B:List Nat} {c:ab} {l a:T} (h:sI B w w' (node b l k lev r)) (d:a.blocks.Perm r.blocks) (f:a.At c) (e:Mod (· ∈r.blocks) w' c):sI B w (c.setCell ⟨b,4,U⟩ (af a.bF)) (node b l k lev a):=⟨h.at_.right h.dz e f (λy j=>d.mem_iff.1 j),vQ h.dz d,(qQ d).trans h.perm,(h.mod.trans e λi _ g=>h.perm.mem_iff.1 (de.2 (.inr (.inr g)))).setCell (h.perm.mem_iff.1 ki) _⟩
theorem Gw {d f:Nat} {g:Key} {l l' c:T} (h:(node b l k lev r).dV) (e:split (node b l k lev r)=node d l' g f c):c.dV:=by
 unfold T.split at e;split at e
 ·split at e;·cases e;next a=>cases a;exact h.2.2.2.2.2.2
  ·cases e;next a=>cases a;exact h.2.2.2
 ·cases e;exact h.2.2.2
end T
theorem sJ (b:Nat) (l:T) (k:Key) (lev:Nat) (r:T) (w:ab) (h:(T.node b l k lev r).At w) (F:(T.node b l k lev r).blocks.Nodup) (hv:(T.node b l k lev r).dV):Calls au 262 #[af (R ⟨b,0,U⟩)] w (vP (T.node b l k lev r).settled (T.node b l k lev r).blocks w):=by
 have aP:=h.1.cell 2 (v:=I J (lev:Int)) rfl;have aT:=h.1.cell 3 (v:=af l.bF) rfl;have aV:=h.1.cell 4 (v:=af r.bF) rfl;have bp:=h.1.free 2;have bq:=T.dV.h hv.2.2.1;have ai:=T.dV.h hv.2.2.2;obtain⟨p,aC⟩:=aX l.bF;obtain⟨Y,Z⟩:=aX r.bF;obtain⟨n,aa⟩:=aX l.h;obtain⟨m,ao⟩:=aX r.h;have aZ:=C (ox l (af p) n w h.2.1 (congrArg af aC) aa);have Q:=C (ox r (af Y) m w h.2.2 (congrArg af Z) ao);rw[aC] at aT;rw[Z] at aV;rw[aa] at bq;rw[ao] at ai;have be:=hv.2.1;have aF:=C Z;have ae:=C aa;have G:=C ao;generalize a6:(T.node b l k lev r).blocks=B;generalize ac:(T.node b l k lev r).settled=S;have am:=C a6;have br:=C ac;clear aC Z aa ao a6 ac;go_enter func262,ntmps262;go_wp2_with fail;go_quiet ((first|(go_at_call 286;with_reducible exact aZ.out _)|(go_at_call 286;with_reducible exact Q.out _)));obtain⟨e,a8⟩:=aX (min n m+1);obtain⟨u,aM⟩:=aX ((if m<n then(m:Int) else(n:Int)):Int);have c:u+1=(e:Int):=by rw[<-aM];split<;>omega
 first|rw[aM,c]|rw[show min (n:Int) (m:Int)+1=(e:Int) from by omega];have aj:=C a8;have bK:e<=1001:=by omega
 clear c a8 aM aZ Q;go_upto_if 21 with(fail);go_cut [2,21] from 22 to 39 (λv _ ay=>v=af U∧(T.lower (.node b l k lev r)).At ay∧Mod (· ∈B) w ay);case first=>
  by_cases H:e<lev
  ·have q:=C H;have bL:(w.drewN nq).cell? ⟨b,2,U⟩=R (I J (lev:Int)):=aP;have ad:((w.drewN nq).setCell ⟨b,2,U⟩ (I J (e:Int))).cell? ⟨b,4,U⟩=R (af Y):=((h.1:ak (w.drewN nq) b _ _).set 2 _).cell 4 (by rw[<-aF.out];rfl);have D:r.At ((w.drewN nq).setCell ⟨b,2,U⟩ (I J (e:Int))):=h.2.2.mod (((Mod.refl (λy=>y=b) w).drewN nq).setCell rfl _) (λy s c=>(T.dz F).2.1 (c▸s));have Q:=C (Gi r Y m _ D aF G);have a_:Mod (· ∈B) w ((w.drewN nq).setCell ⟨b,2,U⟩ (I J (e:Int))):=((Mod.refl _ w).drewN nq).setCell (by rw[<-am.out];exact T.ki) _;have av:ak ((w.drewN nq).setCell ⟨b,2,U⟩ (I J (e:Int))) b (T.cells l k e r) 331:=(h.1:ak (w.drewN nq) b _ _).set 2 _;have aq:=C (h.2.1.mod (((Mod.refl (λy=>y=b) w).drewN nq).setCell rfl _) (λy s c=>(T.dz F).1 (c▸s)):l.At ((w.drewN nq).setCell ⟨b,2,U⟩ (I J (e:Int))));by_cases E:e<m;·have i:=C E;have aE:(e:Int)<(m:Int):=(by omega);obtain⟨ap,aN,bi,aO,bP,rfl⟩:=T.mJ (t:=r) (by have:=G.out;omega);obtain rfl:R ⟨ap,0,U⟩=Y:=aF.out;obtain rfl:aO=m:=G.out;have aY:=D.1.cell 2 (v:=I J (aO:Int)) rfl;have bR:=D.1.free 2;have ba:b≠ap:=λc=>(T.dz F).2.1 (c▸T.ki);have a0:=C ba;clear ba;go_wp2_with fail;refine Q.mono ?_;rintro c ag ⟨rfl,rfl⟩;go_wp2;go_meet;have x:min l.h aO+1=e:=(by rw[ae.out];exact aj);refine⟨rfl,?_,a_.setCell (by rw[<-am.out];simp[T.blocks]) _⟩;rw[T.zH (by rw[x];exact q.out) (by rw[x];exact i.out),x];have bb:=T.dz (T.dz F).2.2.2.1;have aB:=Mod.one ((w.drewN nq).setCell ⟨b,2,U⟩ (I J (e:Int))) ap 2 (I J (e:Int));refine⟨av.mod aB a0,aq.mod aB (λy s c=>(T.dz F).2.2.2.2 y s (c▸T.ki)),D.1.set 2 _,D.2.1.mod aB (λy s c=>bb.1 (c▸s)),D.2.2.mod aB (λy s c=>bb.2.1 (c▸s))⟩
   ·have i:=C E;have aE:¬(e:Int)<(m:Int):=(by omega);go_wp2_with fail;refine Q.mono ?_;rintro c ag ⟨rfl,rfl⟩;go_wp2;go_meet;have x:min l.h r.h+1=e:=(by rw[ae.out,G.out];exact aj);refine⟨rfl,?_,a_⟩;rw[T.vO (by rw[x];exact q.out) (by rw[x,G.out];exact i.out),x];exact⟨av,aq,D⟩
  ·have q:=C H;have bU:¬(e:Int)<(lev:Int):=(by omega);go_wp2;go_meet;have x:min l.h r.h+1=e:=(by rw[ae.out,G.out];exact aj);refine⟨rfl,?_,(Mod.refl _ _).drewN _⟩;rw[T.Gf (by rw[x];exact q.out)];exact h.drewN _
 case rest=>
  obtain⟨rfl,f,d⟩:=hcut;have a:T.jW B w wc (T.lower (.node b l k lev r)):=⟨f,by rw[T.uK];exact F,T.Gs hv,by rw[T.uK,am.out],d⟩;obtain⟨v1,aw,H⟩:=T.Gr (b:=b) (l:=l) (k:=k) (lev:=lev) (r:=r);rw[H] at a;have q:=C a;have bw:=C H;clear f d H a aP aT aV bp;go_wp2_with fail;apply(pF (.node b l k v1 aw) _ q.at_ q.dz q.lq).mono;rintro c bY ⟨rfl,f,d⟩;have a:=q.Gt f d;obtain⟨z,K,L,M,A,E⟩:=T.Gp (b:=b) (l:=l) (k:=k) (lev:=v1) (r:=aw);rw[E] at a;rw[E,show(T.node z K L M A).bF=R ⟨z,0,U⟩ from rfl];have i:=C a;have a2:=C E;have ad:=a.at_.1.cell 4 (v:=af A.bF) rfl;clear f d E a q;go_wp2_with fail;apply(pF A _ i.at_.2.2 (T.dz i.dz).2.2.2.1 i.lq.2.2.2).mono;rintro c a3 ⟨rfl,f,d⟩;have a:=i.ed (T.rs A) (T.pD i.lq.2.2.2) f d;have j:=i.at_.1.mod d (T.dz i.dz).2.1;have bc:=j.cell 4 (v:=af A.bF) rfl;have bf:=j.free 4;have V:=a.at_.1.cell 4 (v:=af (T.cz A).bF) rfl;generalize bg:T.cz A=ah at a V⊢;have a4:=C bg;have o:=C a;clear f d a j ad bg i;go_upto_if 54 with(fail);clear bc bf;generalize a5:World.setCell a3 _ _=aK at o V⊢;clear a5;go_cut [54] from 55 to 68 (λ_ ay=>T.jW B w ay (T.right (T.right T.cz) (.node z K L M ah)));case first=>
   cases ah with
   |nil=>go_wp2;go_meet;exact o
   |node an al bZ v3 az=>have b2:=o.at_.2.2.1.cell 4 (v:=af az.bF) rfl;have aQ:=C (T.dz o.dz);have ax:=C (T.dz aQ.2.2.2.1);have bQ:z≠an:=λc=>aQ.2.1 (c▸T.ki);have bC:aK.cell? ⟨z,4,U⟩=R (af (R ⟨an,0,U⟩)):=V;clear V;have aR:=o.at_.1.lt;go_wp2_with fail;go_region_with (first|(go_at_call 264;refine(pF az _ (o.at_.2.2.2.2.drewN 1) ax.2.2.2.1 o.lq.2.2.2.2.2.2).mono ?_;rintro c ag ⟨rfl,f,d⟩;replace d:=d.mH;have a9:=C f;have aD:=C d;have bs:=d.cell bC aR (λg=>aQ.2.1 (T.de.2 (.inr (.inr g))));have j:=o.at_.2.2.1.mod d ax.2.1;have b9:=j.cell 4 (v:=af az.bF) rfl;have a1:=j.free 4;have bv:=C j;clear f d j));all_goals go_wp2_with fail;go_meet;exact o.Gu (T.rs az) (T.pD o.lq.2.2.2.2.2.2) a9 aD
  case rest=>obtain⟨W,aS⟩:∃W,T.right T.cz ah=W:=⟨_,rfl⟩;have a:T.jW B w wc (.node z K L M W):=(by rw[<-aS];exact hcut);have N:=C a;have bG:=C aS;clear hcut a aS V o;go_wp2_with fail;refine(qP (.node z K L M W) _ N.at_ N.dz N.lq).mono ?_;rintro c a7 ⟨rfl,f,d⟩;have a:=N.Gv f d;obtain⟨aU,bk,bl,bn,O,X⟩:=T.Gq (b:=z) (l:=K) (k:=L) (lev:=M) (r:=W);have bH:=C (T.Gw N.lq X);rw[X] at a;rw[X,show(T.node aU bk bl bn O).bF=R ⟨aU,0,U⟩ from rfl];have P:=C a;have bd:=C X;have ad:=a.at_.1.cell 4 (v:=af O.bF) rfl;clear f d X a N;go_wp2_with fail;refine(qP O _ P.at_.2.2 (T.dz P.dz).2.2.2.1 bH).mono ?_;rintro c cb ⟨rfl,f,d⟩;have a:=P.ed (T.nk O) f d;have j:=P.at_.1.mod d (T.dz P.dz).2.1;have bc:=j.cell 4 (v:=af O.bF) rfl;have bf:=j.free 4;have aA:=C a;clear f d a j ad P;go_wp2;go_ret;have ac:S= .node aU bk bl bn (T.split O):=(by rw[<-br.out];unfold T.settled;rw[bw.out,a2.out];show T.right T.split (T.split (T.node z K L M (T.right T.cz (T.cz A))))=_;rw[a4.out,bG.out,bd.out];rfl);rw[ac];exact⟨rfl,aA.at_,aA.mod⟩
def zJ (t:T) (x:Key) (w:ab) (e:Ending) (w':ab):Prop:=∃(b:Nat) (l:T) (lev:Nat) (r:T),e=aK (af (R ⟨b,0,U⟩))∧ak w b (T.cells l x lev r) 331∧b∈t.blocks∧w=w'
theorem zK (t:T) (w:ab) (h:t.At w) (o:t≠ .nil):Calls au 255 #[af t.bF] w (zJ t t.first w):=by
 generalize q:t.bF=p;have s:=C q;have z:=C o;generalize A:t.first=x;have B:=C A;go_enter func255,ntmps255;go_wp2_with fail;go_loopg [0] t.size (λg v wr=>∃u:T,v=af u.bF∧g=u.size∧u≠ .nil∧u.At w∧u.first=x∧(∀b∈u.blocks,b∈t.blocks)∧w=wr);case atStart=>exact⟨t,by rw[s.out],rfl,z,h,B,λb a=>a,rfl⟩
 case round=>
  obtain⟨u,rfl,D,E,c,F,a,rfl⟩:=hrel;cases u with
  |nil=>exact absurd rfl E
  |node b l k lev r=>
   have d:=c.1.cell 3 (v:=af l.bF) rfl;have G:=C D;have e:=C F;have f:=C a;rw[show(T.node b l k lev r).bF=R ⟨b,0,U⟩ from rfl];cases l with
   |nil=>have H:w.cell? ⟨b,3,U⟩=R (af U):=d;clear d;go_wp2;go_ret;have I:k=x:=e;subst I;exact⟨b,.nil,lev,r,rfl,c.1,f _ T.ki,rfl⟩
   |node lb i j m n=>
    have H:w.cell? ⟨b,3,U⟩=R (af (R ⟨lb,0,U⟩)):=d;go_wp2;go_roundg (T.node lb i j m n).size;case measure=>rw[G.out];simp[T.size];omega
    case rel=>exact⟨.node lb i j m n,rfl,rfl,by simp,c.2.1,e,λy J=>f y (T.de.2 (.inr (.inl J))),rfl⟩
theorem Gx (t:T) (w:ab) (h:t.At w) (i:t≠ .nil):Calls au 261 #[af t.bF] w (zJ t t.last w):=by
 generalize j:t.bF=p;have m:=C j;have n:=C i;generalize o:t.last=x;have q:=C o;go_enter func261,ntmps261;go_wp2_with fail;go_loopg [0] t.size (λg v wr=>∃u:T,v=af u.bF∧g=u.size∧u≠ .nil∧u.At w∧u.last=x∧(∀b∈u.blocks,b∈t.blocks)∧w=wr);case atStart=>exact⟨t,by rw[m.out],rfl,n,h,q,λb a=>a,rfl⟩
 case round=>
  obtain⟨u,rfl,s,z,c,A,a,rfl⟩:=hrel;cases u with
  |nil=>exact absurd rfl z
  |node b l k lev r=>
   have d:=c.1.cell 4 (v:=af r.bF) rfl;have B:=C s;have e:=C A;have f:=C a;rw[show(T.node b l k lev r).bF=R ⟨b,0,U⟩ from rfl];cases r with
   |nil=>have D:w.cell? ⟨b,4,U⟩=R (af U):=d;clear d;go_wp2;go_ret;have E:k=x:=e;subst E;exact⟨b,l,lev,.nil,rfl,c.1,f _ T.ki,rfl⟩
   |node rb rl rk rlev rr=>
    have D:w.cell? ⟨b,4,U⟩=R (af (R ⟨rb,0,U⟩)):=d;go_wp2;go_roundg (T.node rb rl rk rlev rr).size;case measure=>rw[B.out];simp[T.size];omega
    case rel=>exact⟨.node rb rl rk rlev rr,rfl,rfl,by simp,c.2.2,e,λy F=>f y (T.de.2 (.inr (.inr F))),rfl⟩
namespace T
theorem zL {l:T} (h:x.lt k):(node b l k lev r).del x=(settled (node b (l.del x).1 k lev r),(l.del x).2):=by
 conv=>lhs;unfold del
 rw[z0 (Key.jK h),aj h]
theorem zM {l:T} (h:k.lt x):(node b l k lev r).del x=(settled (node b l k lev (r.del x).1),(r.del x).2):=by
 conv=>lhs;unfold del
 rw[z0 (Key.jK h).symm,z0 (Key.lt_asymm h)]
theorem Gy {lb a:Nat} {c:Key} {d e:T}:(node b (node lb d c a e) x lev r).del x=(settled (node b ((node lb d c a e).del (node lb d c a e).last).1 (node lb d c a e).last lev r),true):=by
 conv=>lhs;unfold del
 rw[aj rfl]
theorem Gz {rb rlev:Nat} {rk:Key} {rl rr:T}:(node b nil x lev (node rb rl rk rlev rr)).del x=(settled (node b nil (node rb rl rk rlev rr).first lev ((node rb rl rk rlev rr).del (node rb rl rk rlev rr).first).1),true):=by
 conv=>lhs;unfold del
 rw[aj rfl]
theorem zN:(node b nil x lev nil).del x=(nil,true):=by
 conv=>lhs;unfold del
 rw[aj rfl]
end T
def kk (t:T) (x:Key) (w:ab) (e:Ending) (w':ab):Prop:=e=aK (bD #[af (t.del x).1.bF,aE (t.del x).2])∧(t.del x).1.At w'∧Mod (· ∈t.blocks) w w'
theorem GA (x:Key) (w:ab):Calls au 240 #[af U,dT x] w (kk .nil x w):=by show Calls au 240 #[af U,bm #[I J x.v,I J x.id]] w _;go_enter func240,ntmps240;go_wp2;go_ret2;exact⟨rfl,trivial,(Mod.refl _ _).alloc _⟩
theorem GB (b:Nat) (l:T) (k:Key) (lev:Nat) (r:T) (x:Key) (w:ab) (h:(T.node b l k lev r).At w) (K:(T.node b l k lev r).blocks.Nodup) (hv:(T.node b l k lev r).dS) (L:(T.node b l k lev r).size<=200) (n:x.lt k) (M:∀w,l.At w->Calls au 240 #[af l.bF,dT x] w (kk l x w)):Calls au 240 #[af (R ⟨b,0,U⟩),dT x] w (kk (T.node b l k lev r) x w):=by
 have aF:=C (by unfold fa;rw[z0 (Key.jK n),aj n]:fa x k=-1);have ae:=C M;have s:=h.1.cell 3 (v:=af l.bF) rfl;generalize N:l.bF=p at s;have am:=C N;clear M N;have t:=C h;have a:=C (T.dz K);have O:=C hv;have P:=C L;have Q:=h.1.cell 0 (v:=I J k.v) rfl;have W:=h.1.cell 1 (v:=I J k.id) rfl;have o:=h.1.lt;clear h K hv L;show Calls au 240 #[af (R ⟨b,0,U⟩),bm #[I J x.v,I J x.id]] w _;go_enter func240,ntmps240;go_upto_region 4 with(fail);generalize u:j_ w _=V;have z:=C (by rw[<-u];exact ak.new _ _ _:ak V w.heap.size #[I J x.v,I J x.id] 218);have j:=C (by rw[<-u];exact(Below.refl _ _).alloc (bM _) _:Below w.heap.size w V);have X:=z.cell 0 (v:=I J x.v) rfl;have Y:=z.cell 1 (v:=I J x.id) rfl;have Z:=b1 j o Q;have aa:=b1 j o W;have ag:=z.out.lt;have A:=dm o j.size;clear u Q W;go_region_held3 (λW'=>W'.cell? ⟨w.heap.size,0,U⟩=R (I J x.v)∧W'.cell? ⟨w.heap.size,1,U⟩=R (I J x.id)∧W'.cell? ⟨b,0,U⟩=R (I J k.v)∧W'.cell? ⟨b,1,U⟩=R (I J k.id)) ((refine⟨?_,?_,?_,?_⟩)<;>(first|assumption|(with_reducible refine b7 ?_;assumption))) (first|(go_at_call 256;refine(l5 x k _).mono ?_;rintro e a_ ⟨rfl,f⟩;rw[aF.out];have ao:=C f;have ac:=b1 f ag X;have ay:=b1 f ag Y;have aM:=b1 f A Z;have ap:=b1 f A aa;clear f));have B:=C (j.drew.trans (ao.mono j.size));have ad:=ao.out.size;clear X Y Z aa;have aB:=dm ag ad;have av:=dm A ad;have aq:w.heap.size≠b:=by omega
 have D:=C (t.mod (Mod.below (S:=λ_=>False) B) (λ_ _ h=>h));have ba:=b1 B o s;have q:=C (by have bb:1+(l.size+r.size)<=200:=P.out;have g:=T.kj O.out (by have:=P.out;omega);exact⟨g.1,g.2.1,T.kj (T.qO l x O.1).mL (by have:=T.sj x l;omega),g.2.2.2⟩:1<=lev∧lev<=1000∧(l.del x).1.dV∧r.dV);clear s;go_wp2_with fail;go_region_with (first|(go_at_call 240;rw[<-am.out];refine(ae _ (D.2.1.drewN 1)).mono ?_;rintro e E ⟨rfl,m,c⟩;replace c:=c.mH;have az:=C c;have aO:=C m;have ah:=c.cell ac aB (λh=>absurd (t.2.1.lt _ h) (by omega));have aQ:=c.cell ay aB (λh=>absurd (t.2.1.lt _ h) (by omega));have F:=C ((D.1).mod c a.1);have aw:=F.free 3;have bc:=F.cell 3 (v:=af l.bF) rfl;clear c m));all_goals have aS:=C (F.set 3 (af (l.del x).1.bF));have G:b∉(l.del x).1.blocks:=λg=>a.1 (T.kc g);have aU:=C (T.ow (k:=k) (lev:=lev) G a.2.1 (T.qm a.2.2.1) a.2.2.2.1 (λy d g=>a.2.2.2.2 y (T.kc d) g));have H:=Mod.one E b 3 (af (l.del x).1.bF);have aP:=C (⟨aS,aO.mod H (λy d e=>G (e▸d)),(D.2.2.mod az (λy d g=>a.2.2.2.2 y g d)).mod H (λy d e=>a.2.1 (e▸d))⟩:(T.node b (l.del x).1 k lev r).At (E.setCell ⟨b,3,U⟩ (af (l.del x).1.bF)));have aT:=C (T.pE q.1 q.2.1 q.2.2.1 q.2.2.2:(T.node b (l.del x).1 k lev r).dV);clear G H ah aQ ac ay aM ap;go_wp2_with fail;refine(sJ b (l.del x).1 k lev r _ aP aU aT).mono ?_;rintro e wc ⟨rfl,m,aC⟩;have aV:=C m;have aZ:=C aC;clear m aC;go_wp2;go_ret2;refine⟨by rw[T.zL n];rfl,by rw[T.zL n];exact aV,?_⟩;have a6:Mod (· ∈(T.node b l k lev r).blocks) w E:=(Mod.below B).trans az (λi _ g=>T.de.2 (.inr (.inl g)));have a8:=a6.setCell (i:=3) (T.de.2 (.inl rfl)) (af (l.del x).1.bF);exact a8.trans aZ (λi _ g=>by
  rcases T.de.1 g with g|g|g;·exact T.de.2 (.inl g)
  ·exact T.de.2 (.inr (.inl (T.kc g)))
  ·exact T.de.2 (.inr (.inr g)))
theorem GC (b:Nat) (l:T) (k:Key) (lev:Nat) (r:T) (x:Key) (w:ab) (h:(T.node b l k lev r).At w) (K:(T.node b l k lev r).blocks.Nodup) (hv:(T.node b l k lev r).dS) (L:(T.node b l k lev r).size<=200) (n:k.lt x) (M:∀w,r.At w->Calls au 240 #[af r.bF,dT x] w (kk r x w)):Calls au 240 #[af (R ⟨b,0,U⟩),dT x] w (kk (T.node b l k lev r) x w):=by
 have aF:=C (by unfold fa;rw[z0 (Key.jK n).symm,z0 (Key.lt_asymm n)]:fa x k=1);have ae:=C M;have s:=h.1.cell 4 (v:=af r.bF) rfl;generalize N:r.bF=p at s;have am:=C N;clear M N;have t:=C h;have a:=C (T.dz K);have O:=C hv;have P:=C L;have Q:=h.1.cell 0 (v:=I J k.v) rfl;have W:=h.1.cell 1 (v:=I J k.id) rfl;have o:=h.1.lt;clear h K hv L;show Calls au 240 #[af (R ⟨b,0,U⟩),bm #[I J x.v,I J x.id]] w _;go_enter func240,ntmps240;go_upto_region 4 with(fail);generalize u:j_ w _=V;have z:=C (by rw[<-u];exact ak.new _ _ _:ak V w.heap.size #[I J x.v,I J x.id] 218);have j:=C (by rw[<-u];exact(Below.refl _ _).alloc (bM _) _:Below w.heap.size w V);have X:=z.cell 0 (v:=I J x.v) rfl;have Y:=z.cell 1 (v:=I J x.id) rfl;have Z:=b1 j o Q;have aa:=b1 j o W;have ag:=z.out.lt;have A:=dm o j.size;clear u Q W;go_region_held3 (λW'=>W'.cell? ⟨w.heap.size,0,U⟩=R (I J x.v)∧W'.cell? ⟨w.heap.size,1,U⟩=R (I J x.id)∧W'.cell? ⟨b,0,U⟩=R (I J k.v)∧W'.cell? ⟨b,1,U⟩=R (I J k.id)) ((refine⟨?_,?_,?_,?_⟩)<;>(first|assumption|(with_reducible refine b7 ?_;assumption))) (first|(go_at_call 256;refine(l5 x k _).mono ?_;rintro e a8 ⟨rfl,f⟩;rw[aF.out];have ao:=C f;have ac:=b1 f ag X;have ay:=b1 f ag Y;have aM:=b1 f A Z;have aj:=b1 f A aa;clear f));have B:=C (j.drew.trans (ao.mono j.size));have ad:=ao.out.size;clear X Y Z aa;have aB:=dm ag ad;have a_:=dm A ad;have av:w.heap.size≠b:=by omega
 have D:=C (t.mod (Mod.below (S:=λ_=>False) B) (λ_ _ h=>h));have aq:=b1 B o s;have q:=C (by have ba:1+(l.size+r.size)<=200:=P.out;have g:=T.kj O.out (by have:=P.out;omega);exact⟨g.1,g.2.1,T.kj (T.qO r x O.2.1).mL (by have:=T.sj x r;omega),g.2.2.1⟩:1<=lev∧lev<=1000∧(r.del x).1.dV∧l.dV);clear s;go_wp2_with fail;go_region_with (first|(go_at_call 240;rw[<-am.out];refine(ae _ (D.2.2.drewN 1)).mono ?_;rintro e E ⟨rfl,m,c⟩;replace c:=c.mH;have az:=C c;have ap:=C m;have aO:=c.cell ac aB (λh=>absurd (t.2.2.lt _ h) (by omega));have ah:=c.cell ay aB (λh=>absurd (t.2.2.lt _ h) (by omega));have F:=C ((D.1).mod c a.2.1);have bb:=F.free 4;have aw:=F.cell 4 (v:=af r.bF) rfl;clear c m));all_goals have aQ:=C (F.set 4 (af (r.del x).1.bF));have G:b∉(r.del x).1.blocks:=λg=>a.2.1 (T.kc g);have aS:=C (T.ow (k:=k) (lev:=lev) a.1 G a.2.2.1 (T.qm a.2.2.2.1) (λy d g=>a.2.2.2.2 y d (T.kc g)));have H:=Mod.one E b 4 (af (r.del x).1.bF);have aU:=C (⟨aQ,(D.2.1.mod az (λy d g=>a.2.2.2.2 y d g)).mod H (λy d e=>a.1 (e▸d)),ap.mod H (λy d e=>G (e▸d))⟩:(T.node b l k lev (r.del x).1).At (E.setCell ⟨b,4,U⟩ (af (r.del x).1.bF)));have aP:=C (T.pE q.1 q.2.1 q.2.2.2 q.2.2.1:(T.node b l k lev (r.del x).1).dV);clear G H aO ah ac ay aM aj;go_wp2_with fail;refine(sJ b l k lev (r.del x).1 _ aU aS aP).mono ?_;rintro e wc ⟨rfl,m,aC⟩;have aT:=C m;have aV:=C aC;clear m aC;go_wp2;go_ret2;refine⟨by rw[T.zM n];rfl,by rw[T.zM n];exact aT,?_⟩;have aZ:Mod (· ∈(T.node b l k lev r).blocks) w E:=(Mod.below B).trans az (λi _ g=>T.de.2 (.inr (.inr g)));have a6:=aZ.setCell (i:=4) (T.de.2 (.inl rfl)) (af (r.del x).1.bF);exact a6.trans aV (λi _ g=>by
  rcases T.de.1 g with g|g|g;·exact T.de.2 (.inl g)
  ·exact T.de.2 (.inr (.inl g))
  ·exact T.de.2 (.inr (.inr (T.kc g))))
theorem GD (b lb:Nat) (a:T) (c:Key) (d:Nat) (e:T) (k:Key) (lev:Nat) (r:T) (w:ab) (h:(T.node b (T.node lb a c d e) k lev r).At w) (Q:(T.node b (T.node lb a c d e) k lev r).blocks.Nodup) (hv:(T.node b (T.node lb a c d e) k lev r).dS) (aF:(T.node b (T.node lb a c d e) k lev r).size<=200) (W:∀y w,(T.node lb a c d e).At w->Calls au 240 #[af (T.node lb a c d e).bF,dT y] w (kk (T.node lb a c d e) y w)):Calls au 240 #[af (R ⟨b,0,U⟩),dT k] w (kk (T.node b (T.node lb a c d e) k lev r) k w):=by obtain⟨x,F⟩:∃x,x=k:=⟨_,rfl⟩;have ae:=C (by unfold fa;rw[aj F]:fa x k=0);rw[show dT k=dT x by rw[F]];have am:=C (W (T.node lb a c d e).last);have X:=h.1.cell 3 (v:=af (R ⟨lb,0,U⟩)) rfl;clear W F;have l:=C (T.dz Q);have Y:=h.1.cell 0 (v:=I J k.v) rfl;have Z:=h.1.cell 1 (v:=I J k.id) rfl;have z:=h.1.lt;clear Q;show Calls au 240 #[af (R ⟨b,0,U⟩),bm #[I J x.v,I J x.id]] w _;go_enter func240,ntmps240;go_upto_region 4 with(fail);generalize G:j_ w _=V;have H:=C (by rw[<-G];exact ak.new _ _ _:ak V w.heap.size #[I J x.v,I J x.id] 218);have o:=C (by rw[<-G];exact(Below.refl _ _).alloc (bM _) _:Below w.heap.size w V);have aa:=H.cell 0 (v:=I J x.v) rfl;have ao:=H.cell 1 (v:=I J x.id) rfl;have ac:=b1 o z Y;have ay:=b1 o z Z;have ag:=H.out.lt;have ad:=dm z o.size;clear G Y Z;go_region_held3 (λW'=>W'.cell? ⟨w.heap.size,0,U⟩=R (I J x.v)∧W'.cell? ⟨w.heap.size,1,U⟩=R (I J x.id)∧W'.cell? ⟨b,0,U⟩=R (I J k.v)∧W'.cell? ⟨b,1,U⟩=R (I J k.id)) ((refine⟨?_,?_,?_,?_⟩)<;>(first|assumption|(with_reducible refine b7 ?_;assumption))) (first|(go_at_call 256;refine(l5 x k _).mono ?_;rintro f p ⟨rfl,n⟩;rw[ae.out];have aB:=C n;have aM:=b1 n ag aa;have ap:=b1 n ag ao;have aO:=b1 n ad ac;have ah:=b1 n ad ay;clear n));have K:=C (o.drew.trans (aB.mono o.size));have bp:=aB.out.size;clear aa ao ac ay;have q:=C (h.mod (Mod.below (S:=λ_=>False) K) (λ_ _ h=>h));have aQ:=b1 K z X;have A:=C (by have aS:=aF;have bq:1+((T.node lb a c d e).size+r.size)<=200:=aS;have g:=T.kj hv (by omega);exact⟨g.1,g.2.1,T.kj (T.qO (T.node lb a c d e) (T.node lb a c d e).last hv.1).mL (by have:=T.sj (T.node lb a c d e).last (T.node lb a c d e);omega),g.2.2.2⟩:1<=lev∧lev<=1000∧((T.node lb a c d e).del (T.node lb a c d e).last).1.dV∧r.dV);have L:=q.1;have aU:=L.free 0;have aP:=L.free 1;clear X L;go_wp2_with fail;refine(Gx (T.node lb a c d e) _ q.2.1 (by simp)).mono ?_;rintro f ai ⟨br,aE,a0,bw,rfl,M,aT,rfl⟩;have aV:=M.cell 0 (v:=I J (T.node lb a c d e).last.v) rfl;have aZ:=M.cell 1 (v:=I J (T.node lb a c d e).last.id) rfl;generalize B:(T.node lb a c d e).last=m at*;have a6:=C B;clear M aT B;go_upto_region 12 with(fail);have s:=C ((q.1.set 0 _).set 1 _:ak ((p.setCell ⟨b,0,U⟩ (I J m.v)).setCell ⟨b,1,U⟩ (I J m.id)) b (T.cells (T.node lb a c d e) m lev r) 331);have D:=C ((Mod.one p b 0 _).setCell rfl _:Mod (λy=>y=b) p ((p.setCell ⟨b,0,U⟩ (I J m.v)).setCell ⟨b,1,U⟩ (I J m.id)));generalize World.setCell (World.setCell p _ _) _ _=a8 at s D⊢;have a_:=C (q.2.1.mod D (λy j f=>l.1 (f▸j)));have av:=C (q.2.2.mod D (λy j f=>l.2.1 (f▸j)));have aq:=s.cell 0 (v:=I J m.v) rfl;have ba:=s.cell 1 (v:=I J m.id) rfl;have bb:=s.cell 3 (v:=af (R ⟨lb,0,U⟩)) rfl;clear aV aZ aO ah aU aP aQ aM ap;go_region_with (first|(go_at_call 240;refine(am _ (a_.drewN 1)).mono ?_;rintro f N ⟨rfl,E,t⟩;replace t:=t.mH;have az:=C t;have aw:=C E;have u:=C (s.mod t l.1);have a2:=u.free 3;have a3:=u.cell 3 (v:=af (R ⟨lb,0,U⟩)) rfl;have bc:=u.cell 0 (v:=I J m.v) rfl;have bf:=u.cell 1 (v:=I J m.id) rfl;clear t E));all_goals
 have bg:=C (u.set 3 (af ((T.node lb a c d e).del m).1.bF));have O:b∉((T.node lb a c d e).del m).1.blocks:=λg=>l.1 (T.kc g);have an:=C (T.ow (k:=m) (lev:=lev) O l.2.1 (T.qm l.2.2.1) l.2.2.2.1 (λy j g=>l.2.2.2.2 y (T.kc j) g));have P:=Mod.one N b 3 (af ((T.node lb a c d e).del m).1.bF);have ax:=C (⟨bg,aw.mod P (λy j f=>O (f▸j)),(av.mod az (λy j g=>l.2.2.2.2 y g j)).mod P (λy j f=>l.2.1 (f▸j))⟩:(T.node b ((T.node lb a c d e).del m).1 m lev r).At (N.setCell ⟨b,3,U⟩ (af ((T.node lb a c d e).del m).1.bF)));have bk:=C (T.pE A.1 A.2.1 A.2.2.1 A.2.2.2:(T.node b ((T.node lb a c d e).del m).1 m lev r).dV);clear O P aq ba bb bc bf;go_wp2_with fail;refine(sJ b ((T.node lb a c d e).del m).1 m lev r _ ax an bk).mono ?_;rintro f wc ⟨rfl,E,B⟩;go_wp2;go_ret2;have aC:(T.node b (T.node lb a c d e) k lev r).del k=(T.settled (T.node b ((T.node lb a c d e).del m).1 m lev r),true):=by rw[T.Gy,a6.out]
 refine⟨by rw[aC];rfl,by rw[aC];exact E,?_⟩;have bl:Mod (· ∈(T.node b (T.node lb a c d e) k lev r).blocks) w a8:=(Mod.below K).trans D (λi _ g=>T.de.2 (.inl g));have bn:Mod (· ∈(T.node b (T.node lb a c d e) k lev r).blocks) w N:=bl.trans az (λi _ g=>T.de.2 (.inr (.inl g)));have aA:=bn.setCell (i:=3) (T.de.2 (.inl rfl)) (af ((T.node lb a c d e).del m).1.bF);exact aA.trans B (λi _ g=>by
  rcases T.de.1 g with g|g|g;·exact T.de.2 (.inl g)
  ·exact T.de.2 (.inr (.inl (T.kc g)))
  ·exact T.de.2 (.inr (.inr g)))
theorem GF (b lb:Nat) (a:T) (c:Key) (d:Nat) (e:T) (k:Key) (lev:Nat) (w:ab) (h:(T.node b .nil k lev (T.node lb a c d e)).At w) (P:(T.node b .nil k lev (T.node lb a c d e)).blocks.Nodup) (hv:(T.node b .nil k lev (T.node lb a c d e)).dS) (aF:(T.node b .nil k lev (T.node lb a c d e)).size<=200) (Q:∀y w,(T.node lb a c d e).At w->Calls au 240 #[af (T.node lb a c d e).bF,dT y] w (kk (T.node lb a c d e) y w)):Calls au 240 #[af (R ⟨b,0,U⟩),dT k] w (kk (T.node b .nil k lev (T.node lb a c d e)) k w):=by obtain⟨x,E⟩:∃x,x=k:=⟨_,rfl⟩;have ae:=C (by unfold fa;rw[aj E]:fa x k=0);rw[show dT k=dT x by rw[E]];have am:=C (Q (T.node lb a c d e).first);have W:=h.1.cell 4 (v:=af (R ⟨lb,0,U⟩)) rfl;have X:=h.1.cell 3 (v:=af U) rfl;clear Q E;have u:=C (T.dz P);have Y:=h.1.cell 0 (v:=I J k.v) rfl;have Z:=h.1.cell 1 (v:=I J k.id) rfl;have n:=h.1.lt;clear P;show Calls au 240 #[af (R ⟨b,0,U⟩),bm #[I J x.v,I J x.id]] w _;go_enter func240,ntmps240;go_upto_region 4 with(fail);generalize F:j_ w _=V;have G:=C (by rw[<-F];exact ak.new _ _ _:ak V w.heap.size #[I J x.v,I J x.id] 218);have o:=C (by rw[<-F];exact(Below.refl _ _).alloc (bM _) _:Below w.heap.size w V);have aa:=G.cell 0 (v:=I J x.v) rfl;have ao:=G.cell 1 (v:=I J x.id) rfl;have ac:=b1 o n Y;have ay:=b1 o n Z;have ag:=G.out.lt;have ad:=dm n o.size;clear F Y Z;go_region_held3 (λW'=>W'.cell? ⟨w.heap.size,0,U⟩=R (I J x.v)∧W'.cell? ⟨w.heap.size,1,U⟩=R (I J x.id)∧W'.cell? ⟨b,0,U⟩=R (I J k.v)∧W'.cell? ⟨b,1,U⟩=R (I J k.id)) ((refine⟨?_,?_,?_,?_⟩)<;>(first|assumption|(with_reducible refine b7 ?_;assumption))) (first|(go_at_call 256;refine(l5 x k _).mono ?_;rintro f p ⟨rfl,j⟩;rw[ae.out];have aB:=C j;have aM:=b1 j ag aa;have ap:=b1 j ag ao;have aO:=b1 j ad ac;have ah:=b1 j ad ay;clear j));have z:=C (o.drew.trans (aB.mono o.size));have bq:=aB.out.size;clear aa ao ac ay;have A:=C (h.mod (Mod.below (S:=λ_=>False) z) (λ_ _ h=>h));have aQ:=b1 z n W;have aS:=b1 z n X;have H:=C (by have aU:=aF;have ai:1+(T.nil.size+(T.node lb a c d e).size)<=200:=aU;have g:=T.kj hv (by omega);exact⟨g.1,g.2.1,T.kj (T.qO (T.node lb a c d e) (T.node lb a c d e).first hv.2.1).mL (by have:=T.sj (T.node lb a c d e).first (T.node lb a c d e);omega),trivial⟩:1<=lev∧lev<=1000∧((T.node lb a c d e).del (T.node lb a c d e).first).1.dV∧T.nil.dV);have K:=A.1;have aP:=K.free 0;have aT:=K.free 1;clear W X K;go_wp2_with fail;refine(zK (T.node lb a c d e) _ A.2.2 (by simp)).mono ?_;rintro f br ⟨aE,a0,bw,a2,rfl,L,aV,rfl⟩;have aZ:=L.cell 0 (v:=I J (T.node lb a c d e).first.v) rfl;have a6:=L.cell 1 (v:=I J (T.node lb a c d e).first.id) rfl;generalize B:(T.node lb a c d e).first=m at*;have a8:=C B;clear L aV B;go_upto_region 15 with(fail);have q:=C ((A.1.set 0 _).set 1 _:ak ((p.setCell ⟨b,0,U⟩ (I J m.v)).setCell ⟨b,1,U⟩ (I J m.id)) b (T.cells .nil m lev (T.node lb a c d e)) 331);have M:=C ((Mod.one p b 0 _).setCell rfl _:Mod (λy=>y=b) p ((p.setCell ⟨b,0,U⟩ (I J m.v)).setCell ⟨b,1,U⟩ (I J m.id)));generalize World.setCell (World.setCell p _ _) _ _=a_ at q M⊢;have av:=C (A.2.2.mod M (λy r f=>u.2.1 (f▸r)));have aq:=q.cell 0 (v:=I J m.v) rfl;have ba:=q.cell 1 (v:=I J m.id) rfl;have bb:=q.cell 4 (v:=af (R ⟨lb,0,U⟩)) rfl;clear aZ a6 aO ah aP aT aQ aS aM ap;go_region_with (first|(go_at_call 240;refine(am _ (av.drewN 1)).mono ?_;rintro f N ⟨rfl,D,s⟩;replace s:=s.mH;have aw:=C s;have bc:=C D;have t:=C (q.mod s u.2.1);have a3:=t.free 4;have a4:=t.cell 4 (v:=af (R ⟨lb,0,U⟩)) rfl;have bf:=t.cell 0 (v:=I J m.v) rfl;have bg:=t.cell 1 (v:=I J m.id) rfl;clear s D));all_goals
 have an:=C (t.set 4 (af ((T.node lb a c d e).del m).1.bF));have O:b∉((T.node lb a c d e).del m).1.blocks:=λg=>u.2.1 (T.kc g);have ax:=C (T.ow (k:=m) (lev:=lev) (l:=.nil) (by simp[T.blocks]) O (by simp[T.blocks]) (T.qm u.2.2.2.1) (λy r g=>by simp[T.blocks] at r));have az:=Mod.one N b 4 (af ((T.node lb a c d e).del m).1.bF);have bk:=C (⟨an,trivial,bc.mod az (λy r f=>O (f▸r))⟩:(T.node b .nil m lev ((T.node lb a c d e).del m).1).At (N.setCell ⟨b,4,U⟩ (af ((T.node lb a c d e).del m).1.bF)));have bl:=C (T.pE H.1 H.2.1 trivial H.2.2.1:(T.node b .nil m lev ((T.node lb a c d e).del m).1).dV);clear O az aq ba bb bf bg;go_wp2_with fail;refine(sJ b .nil m lev ((T.node lb a c d e).del m).1 _ bk ax bl).mono ?_;rintro f wc ⟨rfl,D,B⟩;go_wp2;go_ret2;have aC:(T.node b .nil k lev (T.node lb a c d e)).del k=(T.settled (T.node b .nil m lev ((T.node lb a c d e).del m).1),true):=by rw[T.Gz,a8.out]
 refine⟨by rw[aC];rfl,by rw[aC];exact D,?_⟩;have bn:Mod (· ∈(T.node b .nil k lev (T.node lb a c d e)).blocks) w a_:=(Mod.below z).trans M (λi _ g=>T.de.2 (.inl g));have aA:Mod (· ∈(T.node b .nil k lev (T.node lb a c d e)).blocks) w N:=bn.trans aw (λi _ g=>T.de.2 (.inr (.inr g)));have bp:=aA.setCell (i:=4) (T.de.2 (.inl rfl)) (af ((T.node lb a c d e).del m).1.bF);exact bp.trans B (λi _ g=>by
  rcases T.de.1 g with g|g|g;·exact T.de.2 (.inl g)
  ·exact T.de.2 (.inr (.inl g))
  ·exact T.de.2 (.inr (.inr (T.kc g))))
theorem GG (b:Nat) (k:Key) (lev:Nat) (w:ab) (h:(T.node b .nil k lev .nil).At w):Calls au 240 #[af (R ⟨b,0,U⟩),dT k] w (kk (.node b .nil k lev .nil) k w):=by obtain⟨x,e⟩:∃x,x=k:=⟨_,rfl⟩;have u:=C (by unfold fa;rw[aj e]:fa x k=0);rw[show dT k=dT x by rw[e]];have j:=h.1.cell 3 (v:=af U) rfl;have l:=h.1.cell 4 (v:=af U) rfl;clear e;have m:=h.1.cell 0 (v:=I J k.v) rfl;have n:=h.1.cell 1 (v:=I J k.id) rfl;have c:=h.1.lt;show Calls au 240 #[af (R ⟨b,0,U⟩),bm #[I J x.v,I J x.id]] w _;go_enter func240,ntmps240;go_upto_region 4 with(fail);generalize f:j_ w _=V;have g:=C (by rw[<-f];exact ak.new _ _ _:ak V w.heap.size #[I J x.v,I J x.id] 218);have d:=C (by rw[<-f];exact(Below.refl _ _).alloc zK9 _:Below w.heap.size w V);have o:=g.cell 0 (v:=I J x.v) rfl;have p:=g.cell 1 (v:=I J x.id) rfl;have q:=b1 d c m;have r:=b1 d c n;have ag:=g.out.lt;have s:=dm c d.size;clear f m n;go_region_held3 (λW'=>W'.cell? ⟨w.heap.size,0,U⟩=R (I J x.v)∧W'.cell? ⟨w.heap.size,1,U⟩=R (I J x.id)∧W'.cell? ⟨b,0,U⟩=R (I J k.v)∧W'.cell? ⟨b,1,U⟩=R (I J k.id)) ((refine⟨?_,?_,?_,?_⟩)<;>(first|assumption|(with_reducible refine b7 ?_;assumption))) (first|(go_at_call 256;refine(l5 x k _).mono ?_;rintro y z ⟨rfl,a⟩;rw[u.out];have t:=C a;have A:=b1 a ag o;have B:=b1 a ag p;have D:=b1 a s q;have E:=b1 a s r;clear a));have i:=C (d.drew.trans (t.mono d.size));have F:=t.out.size;clear o p q r;have G:=b1 i c j;have H:=b1 i c l;clear j l;go_wp2;go_ret2;exact⟨by rw[T.zN];rfl,by rw[T.zN];trivial,Mod.below i⟩
theorem GH (t:T) (x:Key) (w:ab) (h:t.At w) (c:t.blocks.Nodup) (hv:t.dS) (d:t.size<=200):Calls au 240 #[af t.bF,dT x] w (kk t x w):=by
 induction t generalizing x w with
 |nil=>exact GA x w
 |node b l k lev r j m=>
  have s:1+(l.size+r.size)<=200:=d;have e:∀y w,l.At w->Calls au 240 #[af l.bF,dT y] w (kk l y w):=λy w a=>j y w a (T.dz c).2.2.1 hv.1 (by omega);have f:∀y w,r.At w->Calls au 240 #[af r.bF,dT y] w (kk r y w):=λy w a=>m y w a (T.dz c).2.2.2.1 hv.2.1 (by omega);by_cases g:x=k;·subst g;cases l with
   |node lb n o p q=>exact GD b lb n o p q x lev r w h c hv d e
   |nil=>
    cases r with
    |node rb rl rk rlev rr=>exact GF b rb rl rk rlev rr x lev w h c hv d f
    |nil=>exact GG b x lev w h
  ·by_cases i:x.lt k;·exact GB b l k lev r x w h c hv d i (λw a=>e x w a)
   ·exact GC b l k lev r x w h c hv d (Key.pj i g) (λw a=>f x w a)
def eD (w:ab) (S:Nat->Prop) (b:Nat) (c:List Key):Prop:=∃a:T,ak w b #[af a.bF,I J (c.length:Int)] 289∧a.At w∧b∉a.blocks∧a.blocks.Nodup∧a.dS∧gU c∧a.keys=c∧S b∧∀x∈a.blocks,S x
theorem eD.sorted {a:List Key} (h:eD w S b a):gU a:=by obtain⟨c,_,_,_,_,_,h,_⟩:=h;exact h
theorem eD.own {a:List Key} (h:eD w S b a):S b∧b<w.heap.size:=by obtain⟨d,c,_,_,_,_,_,_,h,_⟩:=h;exact⟨h,c.lt⟩
theorem eD.frame {a:List Key} (h:eD w S b a) (c:Mod al w w') (d:∀k,S k->¬al k):eD w' S b a:=by obtain⟨g,i,j,l,m,n,o,p,e,f⟩:=h;exact⟨g,i.mod c (d b e),j.mod c (λx q=>d x (f x q)),l,m,n,o,p,e,f⟩
theorem eD.mono {S':Nat->Prop} {a:List Key} (h:eD w S b a) (c:∀k,k<w.heap.size->S k->S' k):eD w S' b a:=by obtain⟨g,d,e,i,j,l,m,n,o,p⟩:=h;exact⟨g,d,e,i,j,l,m,n,c _ d.lt o,λx f=>c x (e.lt x f) (p x f)⟩
theorem GI {l:List Key} (b:gU l) (h:x∉l):(fh x l).length=l.length+1:=by
 induction l with
 |nil=>rfl
 |cons a l c=>
  have d:=o7.1 b;have e:x≠a:=λf=>h (by simp[f]);show(if x=a then a::l else if x.lt a then x::a::l else a::fh x l).length=_;rw[z0 e];split;·rfl
  ·rw[dY,c d.2 (λg=>h (by simp[g])),dY]
theorem vS {l:List Key} (d:gU l) (h:x∈l):(eO x l).length+1=l.length:=by
 induction l with
 |nil=>cases h
 |cons a l e=>
  have c:=o7.1 d;by_cases b:a=x;·subst b;rw[sc,n5 (λg=>Key.lt_irrefl _ (c.1 _ g))];rfl
  ·rw[uJ b,dY,dY,e c.2 ((gu.1 h).resolve_left (Ne.symm b))]
def GJ (S:Nat->Prop) (b:Nat) (a:List Key) (x:Key) (w:ab) (e:Ending) (w':ab):Prop:=e=aK (aE true)∧eD w' (c6 S w) b (fh x a)∧Mod S w w'
theorem zO (S:Nat->Prop) (b:Nat) (j:List Key) (x:Key) (w:ab) (h:eD w S b j) (O:x∉j) (P:j.length<=198):Calls au 213 #[af (R ⟨b,0,U⟩),dT x] w (GJ S b j x w):=by
 obtain⟨a,k,l,Q,u,z,W,rfl,X,Y⟩:=h;have A:=k.cell 0 (v:=af a.bF) rfl;have Z:=k.cell 1 (v:=I J (a.keys.length:Int)) rfl;have B:=k.lt;have aa:a.size<=200:=by rw[<-T.sh];omega
 generalize ao:a.keys.length=n at Z P;have D:=C ao;generalize ac:a.bF=p at A;have E:=C ac;have F:=C O;have G:=C Q;have m:=C W;have q:=C X;have H:=C Y;show Calls au 213 #[af (R ⟨b,0,U⟩),bm #[I J x.v,I J x.id]] w _;go_enter func213,ntmps213;go_upto_region 3 with(fail);generalize K:j_ w _=V;have r:=C (by rw[<-K];exact ak.new _ _ _:ak V w.heap.size #[I J x.v,I J x.id] 218);have e:=C (by rw[<-K];exact(Below.refl _ _).alloc zK9 _:Below w.heap.size w V);have ay:=r.cell 0 (v:=I J x.v) rfl;have ad:=r.cell 1 (v:=I J x.id) rfl;have ah:=b1 e B A;have ag:=r.out.lt;have aQ:=dm B e.size;have aB:=C (k.mod (zF9 e) id);have az:=C (l.mod (zF9 e) (λ_ _=>id));go_region_held3 (λW'=>W'.cell? ⟨w.heap.size,0,U⟩=R (I J x.v)∧W'.cell? ⟨w.heap.size,1,U⟩=R (I J x.id)∧W'.cell? ⟨b,0,U⟩=R (af p)) ((refine⟨?_,?_,?_⟩)<;>(first|assumption|(with_reducible refine b7 ?_;assumption))) (first|(go_at_call 241;rw[<-E.out];refine(Gn a x _ (az.drewN 1) u z aa).mono ?_;rintro o L ⟨c,s,rfl,M,d⟩;replace d:=d.mH;rw[show(a.ins c x).2=true by rw[(T.yt c x a m.out).2];exact decide_eq_true F.out];have aC:=C d;have aF:=C M;have ae:=C (s:V.heap.size<=c);have aS:=d.cell ay ag (λh=>absurd (l.lt _ h) (by omega));have aU:=d.cell ad ag (λh=>absurd (l.lt _ h) (by omega));have f:=C (aB.mod d G);have am:=f.cell 0 (v:=af a.bF) rfl;have aM:=f.cell 1 (v:=I J (a.keys.length:Int)) rfl;have aP:=f.free 0;have aT:=f.free 1;rw[E.out] at am;rw[D.out] at aM;clear d M s));go_wp2;go_ret;have s:V.heap.size<=c:=ae;have N:b∉(a.ins c x).1.blocks:=λg=>(T.nm g).elim (λo=>by omega) G;have aj:c∉a.blocks:=λg=>absurd (l.lt _ g) (by omega);have ap:=GI m F;have aO:Mod S w L:=(Mod.below e).trans aC (λi _ g=>H i g);refine⟨rfl,⟨(a.ins c x).1,?_,?_,N,T.uO u aj,(T.vM c x a z).mL,yq m,(T.yt c x a m).1,.inl q,λy t=>?_⟩,(aO.setCell q _).setCell q _⟩;·rw[ap];have:=(f.set 0 (af (a.ins c x).1.bF)).set 1 (I J ((n:Int)+1));rw[<-D.out] at this⊢;exact this
 ·exact aF.mod ((Mod.one L b 0 _).setCell (i:=1) rfl _) (λy t o=>N (o▸t))
 ·exact(T.nm t).elim (λo=>.inr (by omega)) (λg=>.inl (H y g))
def GK (S:Nat->Prop) (b:Nat) (a:List Key) (x:Key) (w:ab) (e:Ending) (w':ab):Prop:=e=aK (aE true)∧eD w' S b (eO x a)∧Mod S w w'
theorem zP (S:Nat->Prop) (b:Nat) (e:List Key) (x:Key) (w:ab) (h:eD w S b e) (l:x∈e) (L:e.length<=200):Calls au 211 #[af (R ⟨b,0,U⟩),dT x] w (GK S b e x w):=by
 obtain⟨a,f,m,M,t,u,N,rfl,O,P⟩:=h;have z:=f.cell 0 (v:=af a.bF) rfl;have Q:=f.cell 1 (v:=I J (a.keys.length:Int)) rfl;have W:=f.lt;have X:a.size<=200:=by rw[<-T.sh];omega
 generalize Y:a.keys.length=n at Q L;have o:=C Y;generalize Z:a.bF=p at z;have A:=C Z;have B:=C M;have j:=C N;have q:=C O;have D:=C P;show Calls au 211 #[af (R ⟨b,0,U⟩),bm #[I J x.v,I J x.id]] w _;go_enter func211,ntmps211;go_upto_region 3 with(fail);generalize E:j_ w _=V;have r:=C (by rw[<-E];exact ak.new _ _ _:ak V w.heap.size #[I J x.v,I J x.id] 218);have k:=C (by rw[<-E];exact(Below.refl _ _).alloc (bM _) _:Below w.heap.size w V);have aa:=r.cell 0 (v:=I J x.v) rfl;have ao:=r.cell 1 (v:=I J x.id) rfl;have am:=b1 k W z;have ag:=r.out.lt;have ac:=C (f.mod (Mod.below (S:=λ_=>False) k) id);have ay:=C (m.mod (Mod.below (S:=λ_=>False) k) (λ_ _=>id));go_region_held3 (λW'=>W'.cell? ⟨w.heap.size,0,U⟩=R (I J x.v)∧W'.cell? ⟨w.heap.size,1,U⟩=R (I J x.id)∧W'.cell? ⟨b,0,U⟩=R (af p)) ((refine⟨?_,?_,?_⟩)<;>(first|assumption|(with_reducible refine b7 ?_;assumption))) (first|(go_at_call 240;rw[<-A.out];refine(GH a x _ (ay.drewN 1) t u X).mono ?_;rintro F G ⟨rfl,H,c⟩;replace c:=c.mH;rw[show(a.del x).2=true by rw[(T.yu a x j.out).2];exact decide_eq_true l];have ad:=C c;have aB:=C H;have aM:=c.cell aa ag (λh=>absurd (m.lt _ h) (by omega));have aj:=c.cell ao ag (λh=>absurd (m.lt _ h) (by omega));have d:=C (ac.mod c B);have az:=d.cell 0 (v:=af a.bF) rfl;have aC:=d.cell 1 (v:=I J (a.keys.length:Int)) rfl;have ap:=d.free 0;have aO:=d.free 1;rw[A.out] at az;rw[o.out] at aC;clear c H));have ah:1<=n:=by rw[<-o.out];exact List.length_pos_of_mem l
 go_wp2;go_ret;have K:b∉(a.del x).1.blocks:=λg=>B (T.kc g);have aF:=vS j l;have ae:Mod S w G:=(Mod.below k).trans ad (λi _ g=>D i g);refine⟨rfl,⟨(a.del x).1,?_,?_,K,T.qm t,(T.qO a x u).mL,E0 j,(T.yu a x j).1,q,λy s=>D y (T.kc s)⟩,(ae.setCell q _).setCell q _⟩;·have:=(d.set 0 (af (a.del x).1.bF)).set 1 (I J ((n:Int)-1));rw[o.out] at aF;rw[show(n:Int)-1=((eO x a.keys).length:Int) by omega] at this⊢;exact this
 ·exact aB.mod ((Mod.one G b 0 _).setCell (i:=1) rfl _) (λy s F=>K (F▸s))
theorem vT (a b:Int) (w:ab):Calls au 210 #[I J a,I J b] w λe w'=>e=aK (bD #[I J (lO a b).1,aE (lO a b).2])∧w'=w:=by
 unfold lO pn cM;go_enter func210,ntmps210;go_wp2;all_goals go_ret2
 all_goals(simp_all;try omega)
theorem zQ (a b:Int) (w:ab):Calls au 73 #[I J a,I J b] w λe w'=>e=aK (bD #[I J (mu a b).1,aE (mu a b).2])∧w'=w:=by
 unfold mu po cM;go_enter func73,ntmps73;go_wp2;all_goals go_ret2
 all_goals(simp_all;try omega)
theorem _f (n a b:Int) (w:ab):Calls au 197 #[I J n,I J a,I J b] w λc w'=>c=aK (I J (n9 n a b))∧w'=w:=by
 unfold n9;go_enter func197,ntmps197;go_wp2;all_goals go_ret
 all_goals(simp_all;try omega)
theorem sK (a b:Int) (w:ab):Calls au 162 #[I J a,I J b] w λf w'=>f=aK (I J (kd a b))∧Below w.heap.size w w':=by
 have d:=C (show kd a b=if pn a b then(if 0<b then 9223372036854775807 else-9223372036854775808) else cM (a+b) from rfl);have e:=C (show lO a b=if pn a b then(0,false) else(cM (a+b),true) from rfl);obtain⟨r,c⟩:∃r,kd a b=r:=⟨_,rfl⟩;rw[c];rw[c] at d;obtain⟨n,g⟩:∃n,cM (a+b)=n:=⟨_,rfl⟩;rw[g] at d e;obtain⟨o,h⟩:∃o,pn a b=o:=⟨_,rfl⟩;rw[h] at d e;clear h g c;go_enter func162,ntmps162;go_wp2_with fail;apply(vT a b _).mono;rintro f j ⟨rfl,rfl⟩;rw[e.out];cases o;·have c:=d;simp only[jD,if_false] at c;subst c;simp only[jD,if_false];go_wp2;go_ret;exact⟨rfl,bz _ _⟩
 ·simp only[if_true];have c:=d.out;simp only[if_true] at c;by_cases i:0<b;·rw[aj i] at c;subst c;go_wp2;go_ret;exact⟨rfl,bz _ _⟩
  ·rw[z0 i] at c;subst c;go_wp2;go_ret;exact⟨rfl,bz _ _⟩
theorem zR (a b:Int) (w:ab):Calls au 74 #[I J a,I J b] w λf w'=>f=aK (I J (nn a b))∧Below w.heap.size w w':=by
 have d:=C (show nn a b=if po a b then(if b<0 then 9223372036854775807 else-9223372036854775808) else cM (a-b) from rfl);have e:=C (show mu a b=if po a b then(0,false) else(cM (a-b),true) from rfl);obtain⟨r,c⟩:∃r,nn a b=r:=⟨_,rfl⟩;rw[c];rw[c] at d;obtain⟨n,g⟩:∃n,cM (a-b)=n:=⟨_,rfl⟩;rw[g] at d e;obtain⟨o,h⟩:∃o,po a b=o:=⟨_,rfl⟩;rw[h] at d e;clear h g c;go_enter func74,ntmps74;go_wp2_with fail;apply(zQ a b _).mono;rintro f j ⟨rfl,rfl⟩;rw[e.out];cases o;·have c:=d;simp only[jD,if_false] at c;subst c;simp only[jD,if_false];go_wp2;go_ret;exact⟨rfl,bz _ _⟩
 ·simp only[if_true];have c:=d.out;simp only[if_true] at c;by_cases i:b<0;·rw[aj i] at c;subst c;go_wp2;go_ret;exact⟨rfl,bz _ _⟩
  ·rw[z0 i] at c;subst c;go_wp2;go_ret;exact⟨rfl,bz _ _⟩
variable {cap:Nat} {zs:List Int}
section
open Go.Shelf
def G7:Go.Shelf.Ren:=⟨λ|189=>236|125=>259|257=>258|128=>285|129=>232|294=>276|295=>277|296=>278|297=>279|298=>280|299=>281|216=>282|300=>283|301=>284|328=>296|329=>297|330=>298|331=>299|332=>300|215=>242|343=>304|n=>n,λ|28=>46|3=>3|46=>92|0=>0|51=>353|53=>31|4=>4|183=>370|182=>369|131=>173|5=>5|9=>9|218=>385|222=>275|228=>394|229=>395|n=>n,λ|n=>n⟩
theorem Aa:Go.Proofs.Lays.n189 au G7:={
 mixed:=by kernel_rfl
 f125:=func259.trans (congrArg R (by kernel_rfl))
 f128:=func285.trans (congrArg R (by kernel_rfl))
 f129:=func232.trans (congrArg R (by kernel_rfl))
 f189:=func236.trans (congrArg R (by kernel_rfl))
 f215:=func242.trans (congrArg R (by kernel_rfl))
 f216:=func282.trans (congrArg R (by kernel_rfl))
 f257:=func258.trans (congrArg R (by kernel_rfl))
 f294:=func276.trans (congrArg R (by kernel_rfl))
 f295:=func277.trans (congrArg R (by kernel_rfl))
 f296:=func278.trans (congrArg R (by kernel_rfl))
 f297:=func279.trans (congrArg R (by kernel_rfl))
 f298:=func280.trans (congrArg R (by kernel_rfl))
 f299:=func281.trans (congrArg R (by kernel_rfl))
 f300:=func283.trans (congrArg R (by kernel_rfl))
 f301:=func284.trans (congrArg R (by kernel_rfl))
 f328:=func296.trans (congrArg R (by kernel_rfl))
 f329:=func297.trans (congrArg R (by kernel_rfl))
 f330:=func298.trans (congrArg R (by kernel_rfl))
 f331:=func299.trans (congrArg R (by kernel_rfl))
 f332:=func300.trans (congrArg R (by kernel_rfl))
 f343:=func304.trans (congrArg R (by kernel_rfl))
 t0:=underlying0
 a0:=isAgg0
 z0:=sizeOf0
 v0:=zeroValue0
 t3:=underlying3
 a3:=isAgg3
 z3:=sizeOf3
 v3:=zeroValue3
 t4:=underlying4
 a4:=isAgg4
 z4:=sizeOf4
 v4:=zeroValue4
 t5:=underlying5
 a5:=isAgg5
 z5:=sizeOf5
 v5:=zeroValue5
 t9:=underlying9
 a9:=isAgg9
 z9:=sizeOf9
 v9:=zeroValue9
 t28:=underlying46
 a28:=isAgg46
 z28:=sizeOf46
 v28:=zeroValue46
 t46:=underlying92
 a46:=isAgg92
 z46:=sizeOf92
 v46:=zeroValue92
 t51:=underlying353
 a51:=isAgg353
 z51:=sizeOf353
 v51:=zeroValue353
 t53:=underlying31
 a53:=isAgg31
 z53:=sizeOf31
 v53:=zeroValue31
 t131:=underlying173
 a131:=isAgg173
 z131:=sizeOf173
 v131:=zeroValue173
 t182:=underlying369
 a182:=isAgg369
 z182:=sizeOf369
 v182:=zeroValue369
 t183:=underlying370
 a183:=isAgg370
 z183:=sizeOf370
 v183:=zeroValue370
 t218:=underlying385
 a218:=isAgg385
 z218:=sizeOf385
 v218:=zeroValue385
 t222:=underlying275
 a222:=isAgg275
 z222:=sizeOf275
 v222:=zeroValue275
 t228:=underlying394
 a228:=isAgg394
 z228:=sizeOf394
 v228:=zeroValue394
 t229:=underlying395
 a229:=isAgg395
 z229:=sizeOf395
 v229:=zeroValue395}
open Go.Sort Go.RowKit in
theorem slices_Sort_int (a b cap:Nat) (zs:List Int) (w:ab) (c:Holds (I J) w a b zs.toArray) (d:a<w.heap.size) (e:zs.length<4611686018427387904):Calls au 236 #[aA (R ⟨a,b,U⟩) zs.length cap] w λf w'=>f=aK (bD #[])∧∃n g,w'=grow (putRow (I J) (Sort.ahead w n) a b (zs.mergeSort λh y=>decide (h<=y)).toArray) g:=Any.slices_Sort_int Aa a b cap zs w c d e
def G8:Go.Shelf.Ren:=⟨λ|264=>199|n=>n,λ|53=>31|46=>92|n=>n,λ|n=>n⟩
theorem G9:Go.Proofs.Lays.n264 au G8:={
 mixed:=by kernel_rfl
 f264:=func199.trans (congrArg R (by kernel_rfl))
 t46:=underlying92
 a46:=isAgg92
 z46:=sizeOf92
 v46:=zeroValue92
 t53:=underlying31
 a53:=isAgg31
 z53:=sizeOf31
 v53:=zeroValue31}
open Go.RowKit Go.Lib in
theorem bits_Mul64 (x y:Nat) (a:x<18446744073709551616) (b:y<18446744073709551616) (w:ab):Calls au 199 #[I ah x,I ah y] w λc w'=>c=aK (bD #[I ah ((x*y/18446744073709551616:Nat):Int),I ah ((x*y%18446744073709551616:Nat):Int)])∧w'=w:=Any.bits_Mul64 G9 x y a b w
def G_:Go.Shelf.Ren:=⟨λ|112=>204|n=>n,λ|28=>46|3=>3|4=>4|0=>0|n=>n,λ|n=>n⟩
theorem Ab:Go.Proofs.Lays.n112 au G_:={
 mixed:=by kernel_rfl
 f112:=func204.trans (congrArg R (by kernel_rfl))
 t0:=underlying0
 a0:=isAgg0
 z0:=sizeOf0
 v0:=zeroValue0
 t3:=underlying3
 a3:=isAgg3
 z3:=sizeOf3
 v3:=zeroValue3
 t4:=underlying4
 a4:=isAgg4
 z4:=sizeOf4
 v4:=zeroValue4
 t28:=underlying46
 a28:=isAgg46
 z28:=sizeOf46
 v28:=zeroValue46}
open Go.RowKit Go.Lib Go.Sort in
theorem slices_Reverse_int_empty (a:Option Addr) (cap:Nat) (w:ab):Calls au 204 #[aA a 0 cap] w λe w'=>e=aK (bD #[])∧w'=w:=Any.slices_Reverse_int_empty Ab a cap w
def Ha:Go.Shelf.Ren:=⟨λ|20=>207|n=>n,λ|22=>46|3=>3|4=>4|0=>0|n=>n,λ|n=>n⟩
theorem Hb:Go.Proofs.Lays2.n20 au Ha:={
 mixed:=by kernel_rfl
 f20:=func207.trans (congrArg R (by kernel_rfl))
 t0:=underlying0
 a0:=isAgg0
 z0:=sizeOf0
 v0:=zeroValue0
 t3:=underlying3
 a3:=isAgg3
 z3:=sizeOf3
 v3:=zeroValue3
 t4:=underlying4
 a4:=isAgg4
 z4:=sizeOf4
 v4:=zeroValue4
 t22:=underlying46
 a22:=isAgg46
 z22:=sizeOf46
 v22:=zeroValue46
 i3:=by kernel_rfl}
open Go.RowKit Go.Lib Go.Sort in
theorem slices_Compact_int (a b cap:Nat) (zs:List Int) (w:ab) (c:Holds (I J) w a b zs.toArray) (d:zs.length<=9223372036854775807) (e:zs.length<=cap):Calls au 207 #[aA (R ⟨a,b,U⟩) zs.length cap] w λf w'=>f=aK (aA (R ⟨a,b,U⟩) (Lib.compact zs).length cap)∧∃g,w'=putRow (I J) (Sort.ahead w g) a b (Lib.compact zs++gR (zs.length-(Lib.compact zs).length) 0).toArray:=Any.slices_Compact_int Hb a b cap zs w c d e
open Go.RowKit Go.Lib Go.Sort in
theorem slices_Reverse_int_cells (b a n c:Nat) (zs:List Int) (w:ab) (d:n<=zs.length) (e:n<=9223372036854775807) (f:∀j,j<zs.length->w.cell? ⟨b,a+j,U⟩=R (I J (zs.getD j 0))) (g:∀j,j<n->w.frozen? ⟨b,a+j,U⟩=false):Calls au 204 #[aA (R ⟨b,a,U⟩) n c] w λh w'=>h=aK (bD #[])∧∃i,w'=(w.drewN i).setCells b a ((zs.take n).reverse.map (I J)):=Any.slices_Reverse_int_cells Ab b a n c zs w d e f g
open Go.RowKit Go.Sort in
theorem slices_Sort_int_none (p:Option Addr) (cap:Nat) (w:ab):Calls au 236 #[aA p 0 cap] w λe w'=>e=aK (bD #[])∧w'=w:=Any.slices_Sort_int_none Aa p cap w
def Hc:Go.Shelf.Ren:=⟨λ|39=>260|n=>n,λ|22=>120|23=>2|3=>3|4=>4|9=>9|20=>20|0=>0|n=>n,λ|n=>n⟩
theorem Hd:Go.Proofs.SlLaysN.n39 au Hc:={
 mixed:=by kernel_rfl
 f39:=⟨f260.name,by decide,func260.trans (congrArg R (by kernel_rfl))⟩
 t0:=underlying0
 a0:=isAgg0
 z0:=sizeOf0
 v0:=zeroValue0
 t3:=underlying3
 a3:=isAgg3
 z3:=sizeOf3
 v3:=zeroValue3
 t4:=underlying4
 a4:=isAgg4
 z4:=sizeOf4
 v4:=zeroValue4
 t9:=underlying9
 a9:=isAgg9
 z9:=sizeOf9
 v9:=zeroValue9
 t20:=underlying20
 a20:=isAgg20
 z20:=sizeOf20
 v20:=zeroValue20
 t22:=underlying120
 a22:=isAgg120
 z22:=sizeOf120
 v22:=zeroValue120
 t23:=underlying2
 a23:=isAgg2
 z23:=sizeOf2
 v23:=zeroValue2}
open Go.Lib in
theorem slices_Min_int (b a n c:Nat) (zs:List Int) (w:ab) (d:0<n) (e:n<=zs.length) (f:n<=9223372036854775807) (g:∀j,j<zs.length->w.cell? ⟨b,a+j,U⟩=R (I J (zs.getD j 0))):Calls au 260 #[aA (R ⟨b,a,U⟩) n c] w λh w'=>h=aK (I J (Lib.minOf (zs.take n)))∧w'=w:=AnyG.slices_Min_int Hd b a n c zs w d e f g
end
theorem Ac (own mn a:Int) (w:ab):Calls au 146 #[I J own,I J mn,I J a] w λc w'=>c=aK (I J (h7 own mn a))∧Below w.heap.size w w':=by
 have d:=C (show h7 own mn a=max own (nn mn (n9 a 0 1099511627776)) from rfl);obtain⟨r,b⟩:∃r,h7 own mn a=r:=⟨_,rfl⟩;rw[b];rw[b] at d;go_enter func146,ntmps146;go_wp2_with fail;apply(_f _ _ _ _).mono;rintro c g ⟨rfl,rfl⟩;go_wp2_with fail;apply(zR _ _ _).mono;rintro c g ⟨rfl,h⟩;obtain⟨e,f⟩:∃e,nn mn (n9 a 0 1099511627776)=e:=⟨_,rfl⟩;rw[f];rw[f] at d;have b:=d.out;go_wp2;all_goals go_ret
 all_goals exact⟨by rw[b];(first|rfl|(simp only[Ending.returned.injEq,Value.int.injEq,true_and];omega)),h⟩
def qT (x:Int×Bool) (w:ab) (e:Ending) (w':ab):Prop:=e=aK (bD #[I J x.1,aE x.2])∧Below w.heap.size w w'
theorem He (v mn:Int) (w:ab):Calls au 75 #[bm #[.func (.func 73) #[] #[],.func (.func 74) #[] #[]],I J v,I J mn] w (qT (kB v mn) w):=by
 have b:=C (show kB v mn=if(mu v mn).2 then((mu v mn).1,false) else(nn v mn,true) from rfl);obtain⟨r,a⟩:∃r,kB v mn=r:=⟨_,rfl⟩;rw[a];rw[a] at b;obtain⟨⟨n,is⟩,d⟩:∃n,mu v mn=n:=⟨_,rfl⟩;rw[d] at b;have c:=C d;go_enter func75,ntmps75;go_wp2_with fail;apply(zQ _ _ _).mono;rintro f g ⟨rfl,rfl⟩;rw[c.out];cases is;·have a:=b;clear b c;simp only[jD,if_false] at a;subst a;simp only[jD,if_false];go_wp2_with fail;refine(zR _ _ _).mono ?_;rintro f g ⟨rfl,e⟩;have h:=C ((bz w _).trans (e.mono (by simp)));clear e;go_wp2;go_ret2;exact⟨rfl,h⟩
 ·have a:=b;clear b c;simp only[if_true] at a;subst a;simp only[if_true];go_wp2;go_ret2;exact⟨rfl,bz _ _⟩
theorem Hf (v mn:Int) (w:ab):Calls au 75 #[bm #[.func (.func 210) #[] #[],.func (.func 162) #[] #[]],I J v,I J mn] w (qT (lP v mn) w):=by
 have b:=C (show lP v mn=if(lO v mn).2 then((lO v mn).1,false) else(kd v mn,true) from rfl);obtain⟨r,a⟩:∃r,lP v mn=r:=⟨_,rfl⟩;rw[a];rw[a] at b;obtain⟨⟨n,is⟩,d⟩:∃n,lO v mn=n:=⟨_,rfl⟩;rw[d] at b;have c:=C d;go_enter func75,ntmps75;go_wp2_with fail;apply(vT _ _ _).mono;rintro f g ⟨rfl,rfl⟩;rw[c.out];cases is;·have a:=b;clear b c;simp only[jD,if_false] at a;subst a;simp only[jD,if_false];go_wp2_with fail;refine(sK _ _ _).mono ?_;rintro f g ⟨rfl,e⟩;have h:=C ((bz w _).trans (e.mono (by simp)));clear e;go_wp2;go_ret2;exact⟨rfl,h⟩
 ·have a:=b;clear b c;simp only[if_true] at a;subst a;simp only[if_true];go_wp2;go_ret2;exact⟨rfl,bz _ _⟩
theorem Hg (v mn:Int) (w:ab):Calls au 35 #[I J v,I J mn] w (qT (kB v mn) w):=by obtain⟨⟨n,is⟩,a⟩:∃r,kB v mn=r:=⟨_,rfl⟩;have c:=C a;rw[a];clear a;go_enter func35,ntmps35;go_wp2_with fail;refine(He v mn _).mono ?_;rintro e f ⟨rfl,b⟩;have d:=C b;clear b;rw[c.out];go_wp2;go_ret2;exact⟨rfl,d⟩
theorem Hh (v mn:Int) (w:ab):Calls au 191 #[I J v,I J mn] w (qT (lP v mn) w):=by obtain⟨⟨n,is⟩,a⟩:∃r,lP v mn=r:=⟨_,rfl⟩;have c:=C a;rw[a];clear a;go_enter func191,ntmps191;go_wp2_with fail;refine(Hf v mn _).mono ?_;rintro e f ⟨rfl,b⟩;have d:=C b;clear b;rw[c.out];go_wp2;go_ret2;exact⟨rfl,d⟩
theorem Ad (v a b:Int) (w:ab):Calls au 141 #[I J v,I J a,I J b] w (qT (kC v a b) w):=by
 have c:=C (show kC v a b=((lP (kB v a).1 b).1,(kB v a).2||(lP (kB v a).1 b).2) from rfl);obtain⟨⟨n,is⟩,e⟩:∃r,kC v a b=r:=⟨_,rfl⟩;rw[e];rw[e] at c;obtain⟨⟨f,l⟩,g⟩:∃r,kB v a=r:=⟨_,rfl⟩;rw[g] at c;obtain⟨⟨q,s⟩,h⟩:∃r,lP f b=r:=⟨_,rfl⟩;simp only[h] at c;have m:=C g;have o:=C h;go_enter func141,ntmps141;go_wp2_with fail;apply(Hg v a _).mono;rintro p t ⟨rfl,d⟩;have i:=C d;rw[m.out];go_wp2_with fail;apply(Hh f b _).mono;rintro p u ⟨rfl,d⟩;have j:=C (i.trans (d.mono i.size));rw[o.out];have k:=c.out;cases l;·go_wp2;go_ret2;exact⟨by rw[k];rfl,j⟩
 ·go_wp2;go_ret2;exact⟨by rw[k];rfl,j⟩
theorem Hi (m v:Int) (b:Nat) (w:ab) (c:w.cell? ⟨b,0,U⟩=R (I J v)):Calls au 239 #[I J m,aA (R ⟨b,0,U⟩) 1 1] w λa w'=>a=aK (I J (max m v))∧w'=w:=by
 have d:=C (slices_Min_int b 0 1 1 [v] w (by omega) (by simp) (by omega) (λj e=>by
  have:j=0:=by simpa using e
  subst this;exact c))
 go_enter func239,ntmps239;go_wp2_with fail;apply d.mono;rintro a g ⟨rfl,rfl⟩;have f:=C (by simp[Lib.minOf]:Lib.minOf (List.take 1 [v])=v);rw[f.out];go_wp2;all_goals go_ret
 all_goals exact⟨by(first|rfl|(simp only[Ending.returned.injEq,Value.int.injEq,true_and];omega)),rfl⟩
variable {tmps:Array Value} {fn:Func}
theorem v7 (n:Nat) (h:n<18446744073709551616):IntKind.u64.wrap (n:Int)=(n:Int):=by rw[nT];omega
theorem Hj (x c:Nat) (f:0<c) (a:x<18446744073709551616) (w:ab):Calls au 151 #[I ah 0,I ah (x:Int),I ah (c:Int)] w λd w'=>d=aK (bD #[I ah ((x/c:Nat):Int),I ah ((x%c:Nat):Int)])∧Below w.heap.size w w':=by have e:=C (v7 (x/c) (o6 (Nat.div_le_self _ _) a));clear a;go_enter func151,ntmps151;go_wp2_with fail;go_region;go_wp2;go_ret2;refine⟨?_,(Below.refl _ _).drew⟩;have b:=e.out;rw[Int.natCast_ediv] at b;show Ending.returned (bD #[I ah (IntKind.u64.wrap ((x:Int)/(c:Int))),I ah ((x:Int)%(c:Int))])=_;rw[b,Int.natCast_ediv,Int.natCast_emod]
theorem Hk:(prog.info? 245).map (·.size)=R 2:=by kernel_rfl
theorem Hl {p:Tmp} {a:Act} {T:Nat} {v0:Value} (h:fn.results=#[.cell p 245]) (b:a.tmps.getD p undef=af (R ⟨g,0,U⟩)) (c:w.heap[g]?=R (av #[v0,v1] T (0,0))):(results fn a.tmps).run au w= .ok (bm #[v0,v1]) w:=results_cell_row h a.tmps w g T _ _ _ b c underlying245 rfl Hk
theorem Hm (a b:Nat) (d:a<18446744073709551616) (e:b<18446744073709551616) (h:a*b<18446744073709551616) (w:ab):Calls au 150 #[I ah (a:Int),I ah (b:Int)] w λf w'=>f=aK (bm #[I ah 0,I ah ((a*b:Nat):Int)])∧Below w.heap.size w w':=by have l:=C (bits_Mul64 a b d e);have i:=C (Nat.div_eq_of_lt h);have j:=C (Nat.mod_eq_of_lt h);obtain⟨k,c⟩:∃k:Nat,a*b=k:=⟨_,rfl⟩;rw[c] at i j⊢;have m:=C c;clear d e h c;go_enter func150,ntmps150;go_wp2_with fail;refine(l _).mono ?_;rintro f n ⟨rfl,rfl⟩;rw[m.out,i.out,j.out];go_wp2;exact bodyPost_ret (Hl (g:=w.heap.size) (T:=245) rfl rfl (ak.new w _ _)) rfl ⟨rfl,bz _ _⟩
theorem oA (a b c:Nat) (j:a<18446744073709551616) (d:b<18446744073709551616) (h:a*b<18446744073709551616) (k:0<c) (w:ab):Calls au 102 #[I ah (a:Int),I ah (b:Int),I ah (c:Int)] w λe w'=>e=aK (bD #[I ah ((a*b/c:Nat):Int),I ah ((a*b%c:Nat):Int),aE true])∧Below w.heap.size w w':=by
 have p:¬(c:Int)<=0:=by omega
 have g:=C (Hm a b j d h);generalize q:(a*b:Nat)=z at g h⊢;have i:=C (Hj z c k h);obtain⟨s,l⟩:=aX (z/c:Nat);obtain⟨r,m⟩:=aX (z%c:Nat);rw[l,m] at i⊢;go_enter func102,ntmps102;go_wp2_with fail;apply(g _).mono;rintro e n ⟨rfl,d⟩;have f:=C d;go_wp2_with fail;apply(i _).mono;rintro e t ⟨rfl,d⟩;have o:=C ((f.trans ((bz n _).mono f.size)).trans (d.mono (cJ f.size (by simp))));go_wp2;go_ret3;exact⟨rfl,o⟩
theorem sR (n t:Nat) (q:t<1000) (h:∀i,i<=t->n^i<18446744073709551616) (w:ab):Calls au 144 #[I ah (n:Int),I J (t:Int)] w λf w'=>f=aK (I ah ((n^t:Nat):Int))∧w'=w:=by
 obtain⟨a,b⟩:∃a:Nat->Nat,∀i,n^i=a i:=⟨λi=>n^i,λ_=>rfl⟩;have g:=C (λi=>by rw[<-b,<-b,Nat.pow_succ]:∀i,a (i+1)=a i*n);have j:=C (by rw[<-b];rfl:a 0=1);have k:=C (λi d=>by rw[<-b];exact h i d:∀i,i<=t->a i<18446744073709551616);rw[b];go_enter func144,ntmps144;go_wp2_with fail;go_loop [5,7] (λl c=>∃i:Nat,i<=t∧c=I J (i:Int)∧l=I ah ((a i:Nat):Int)) (λ_ c=>t-(intOf c).toNat);case atStart=>exact⟨0,hq _,rfl,by rw[j.out];rfl⟩
 case round=>
  obtain⟨i,d,rfl,rfl⟩:=hrel;by_cases m:i<t
  ·have o:(i:Int)<(t:Int):=(by omega);have p:=C (by have e:=k (i+1) m;rw[g.out] at e⊢;rw[<-Int.natCast_mul];exact v7 _ e:IntKind.u64.wrap ((a i:Int)*(n:Int))=((a (i+1):Nat):Int));go_wp2;go_round;case rel=>exact⟨i+1,by omega,by go_num,by rw[<-p.out]⟩
   case measure=>simp[intOf,wrap64];omega
  ·have o:¬(i:Int)<(t:Int):=(by omega);obtain rfl:i=t:=by omega
   go_wp2;go_ret;exact⟨rfl,rfl⟩
theorem v8:∀i,i<=20->5^i<18446744073709551616:=λi a=>o6 (r0 (by omega) a) (by decide)
theorem v_:∀i,i<=20->4^i<18446744073709551616:=λi a=>o6 (r0 (by omega) a) (by decide)
theorem Hn:∀i,i<=20->1024*5^i<18446744073709551616:=λi a=>o6 (Nat.mul_le_mul_left _ (r0 (by omega) a)) (by decide)
theorem Ho:∀i,i<=20->1024*4^i<18446744073709551616:=λi a=>o6 (Nat.mul_le_mul_left _ (r0 (by omega) a)) (by decide)
def nv (n:Int) (w:ab) (e:Ending) (w':ab):Prop:=e=aK (bD #[I ah (ei n:Int),I J (e7 n)])∧Below w.heap.size w w'
theorem wa (n:Int) (w:ab):Calls au 97 #[I J n] w (nv n w):=by
 by_cases m:n< -20
 ·have b:ei n=0:=by unfold ei;rw[aj (.inl m)]
  have c:e7 n=1:=by unfold e7;rw[aj (.inl m)]
  unfold nv;rw[b,c];go_enter func97,ntmps97;go_wp2;go_ret2;exact⟨rfl,Below.refl _ _⟩
 by_cases o:19<n
 ·have b:ei n=0:=by unfold ei;rw[aj (.inr o)]
  have c:e7 n=1:=by unfold e7;rw[aj (.inr o)]
  unfold nv;rw[b,c];go_enter func97,ntmps97;go_wp2;go_ret2;exact⟨rfl,Below.refl _ _⟩
 have c:e7 n=0:=by unfold e7;rw[z0 (by omega)]
 by_cases p:n<0
 ·obtain⟨k,rfl⟩:∃k:Nat,n=-(k:Int):=⟨n.natAbs,by omega⟩;have d:k<=20:=by omega
  have b:ei (-(k:Int))=1024*5^k/4^k:=by unfold ei;rw[z0 (by omega),aj p];simp
  have e:=C (sR 5 k (by omega) (λi h=>v8 i (by omega)));have f:=C (sR 4 k (by omega) (λi h=>v_ i (by omega)));have a:=C (oA 1024 (5^k) (4^k) (by omega) (v8 k d) (Hn k d) (Nat.pow_pos (by omega)));unfold nv;rw[b,c];generalize 1024*5^k/4^k=q at a⊢;generalize 1024*5^k%4^k=r at a;generalize 5^k=x at a e;generalize 4^k=y at a f;go_enter func97,ntmps97;go_wp2_with fail;apply(e _).mono;rintro g j ⟨rfl,rfl⟩;go_wp2_with fail;apply(f _).mono;rintro g j ⟨rfl,rfl⟩;go_wp2_with fail;apply(a _).mono;rintro g s ⟨rfl,l⟩;go_wp2;go_ret2;exact⟨rfl,l⟩
 ·obtain⟨k,rfl⟩:∃k:Nat,n=(k:Int):=⟨n.natAbs,by omega⟩;have d:k<=20:=by omega
  have b:ei (k:Int)=1024*4^k/5^k:=by unfold ei;rw[z0 (by omega),z0 p];simp
  have e:=C (sR 5 k (by omega) (λi h=>v8 i (by omega)));have f:=C (sR 4 k (by omega) (λi h=>v_ i (by omega)));have a:=C (oA 1024 (4^k) (5^k) (by omega) (v_ k d) (Ho k d) (Nat.pow_pos (by omega)));unfold nv;rw[b,c];generalize 1024*4^k/5^k=q at a⊢;generalize 1024*4^k%5^k=r at a;generalize 5^k=y at a e;generalize 4^k=x at a f;go_enter func97,ntmps97;go_wp2_with fail;apply(f _).mono;rintro g j ⟨rfl,rfl⟩;go_wp2_with fail;apply(e _).mono;rintro g j ⟨rfl,rfl⟩;go_wp2_with fail;apply(a _).mono;rintro g s ⟨rfl,l⟩;go_wp2;go_ret2;exact⟨rfl,l⟩
def sS (wt rem:Nat):Int:=if wt<2∨262144<wt then 4 else if wt<=rem then 1 else 0
theorem Hp (wt rem:Nat) (w:ab):Calls au 238 #[I ah (wt:Int),I ah (rem:Int)] w λe w'=>e=aK (I J (sS wt rem))∧w'=w:=by
 unfold sS;go_enter func238,ntmps238;go_wp2;all_goals go_ret
 all_goals(refine⟨?_,rfl⟩;repeat' split)
 all_goals first|rfl|omega
theorem Hq (wt rem ns:Nat) (e:2<=wt) (f:wt<=262144) (g:rem<wt) (h:ns<=1000000000) (w:ab):Calls au 208 #[I ah (wt:Int),I ah (rem:Int),I ah (ns:Int)] w λc w'=>c=aK (bD #[I J (((rem+ns*1024)/wt:Nat):Int),I ah (((rem+ns*1024)%wt:Nat):Int),I J 0])∧Below w.heap.size w w':=by
 have b:rem+ns*1024<2000000000000:=by omega
 have a:(rem+ns*1024)/wt<2000000000000:=o6 (Nat.div_le_self _ _) b;have i:=C (by unfold sS;rw[z0 (by omega),z0 (by omega)]:sS wt rem=0);have d:=C (by rw[nT];omega:IntKind.u64.wrap ((rem:Int)+(ns:Int)*1024)=((rem+ns*1024:Nat):Int));have l:¬(wt:Int)<=0:=by omega
 have m:(ns:Int)<=1000000000:=by omega
 generalize j:(rem+ns*1024:Nat)=z at d a b⊢;clear j e f g h b;have k:=C a;clear a;go_enter func208,ntmps208;go_wp2_with fail;go_step3;go_wp2_with fail;apply(Hp wt rem _).mono;rintro c n ⟨rfl,rfl⟩;rw[i.out];go_wp2_with fail;go_step3;go_wp2_with fail;rw[d.out];go_region;go_wp2;simp only[Exit.noGoto];go_ret3;refine⟨?_,(Below.refl _ _).drew⟩;show Ending.returned (bD #[I J (wrap64 (IntKind.u64.wrap ((z:Int)/(wt:Int)))),I ah ((z:Int)%(wt:Int)),I J 0])=_;have a:=k.out;rw[<-Int.natCast_ediv,<-Int.natCast_emod];generalize z/wt=q at a⊢;rw[v7 _ (by omega),show wrap64 (q:Int)=(q:Int) by unfold wrap64;omega]
section
open Go.MapKept
def ej (w:ab) (m:Nat) (f:Int->Option Value) (n:Nat):Prop:=∃b e,w.heap[m]?=R (.map b e)∧(∀a∈b.toList,∃c:Int,a.key=I J c)∧(∀(i j:Nat) (a d:MapEntry),b.toList[i]?=R a->b.toList[j]?=R d->a.key=d.key->i=j)∧(∀c v,f c=R v↔∃a∈b.toList,a.key=I J c∧a.val=v)∧n=b.size
section
variable {P:Program} {w:ab} {T K E:TypeId} {m n:Nat} {f:Int->Option Value}
theorem ej.lt (h:ej w m f n):m<w.heap.size:=by obtain⟨b,c,a,_⟩:=h;exact iV a
theorem ej.mod (h:ej w m f n) (a:Mod S w w') (b:¬S m):ej w' m f n:=by obtain⟨d,c,e,g⟩:=h;exact⟨d,c,a.keep e b,g⟩
theorem ej.next (h:ej w m f n) (a:Below w.heap.size w w'):ej w' m f n:=h.mod (Mod.below (S:=λ_=>False) a) id
theorem ej.new (w:ab):ej (w.alloc (.map #[] 0)) w.heap.size (λ_=>U) 0:=⟨#[],0,lL w _,by simp,by simp,by simp,rfl⟩
theorem ej.congr {g:Int->Option Value} {b:Nat} (h:ej w m f n) (d:∀a,f a=g a) (e:n=b):ej w m g b:=by obtain⟨i,c,j,k,l,o,p⟩:=h;exact⟨i,c,j,k,l,λa v=>by rw[<-d];exact o a v,e▸p⟩
theorem sU (hk:P.underlying K=R (.int .i64)) (w:ab) (es:List MapEntry) (c:∀a∈es,∃k:Int,a.key= .int .i64 k) (k:Int):((Instr.findKey K (I J k) es).run P w= .ok U w∧∀a∈es,a.key≠I J k)∨∃j a,(Instr.findKey K (I J k) es).run P w= .ok (R (j,a.val)) w∧es[j]?=R a∧a.key=I J k:=by
 have b:∀k:Int,IsKey (.int .i64) (.int .i64 k):=λk=>by simp[IsKey]
 rcases findNow_spec (b k) es 0 (λa d=>by obtain⟨e,f⟩:=c a d;rw[f];exact b e) with⟨ao,az⟩|⟨j,a,ao,az,aV⟩;·exact .inl ⟨run_findKey hk ao,az⟩
 ·exact .inr ⟨j,a,by rw[run_findKey hk ao,mq],az,aV⟩
theorem nw (hk:P.underlying K=R (.int .i64)) (w:ab) (a:Bool) (k:Int):(Instr.checkKey a 10000 K (.int .i64 k)).run P w= .ok () w:=run_checkKey hk (by simp[IsKey]) a 9999
theorem ej.look (h:ej w m f n) (e:P.underlying T=R (.map K E)) (hk:P.underlying K=R (.int .i64)) {z:Value} (l:(zeroValue E).run P w= .ok z w) (k:Int):(Instr.lookup T (.map (R m)) (I J k) false).run P w= .ok ((f k).getD z) w:=by
 obtain⟨o,c,g,p,u,i,x⟩:=h;rcases sU hk w o.toList p k with⟨b,d⟩|⟨j,a,b,d,q⟩
 ·have:f k=U:=by
   cases r:f k with
   |none=>rfl
   |some v=>obtain⟨a,s,t,_⟩:=(i k v).1 r;exact absurd t (d a s)
  simp[Instr.lookup,run_underlying e,MapKept.run_getObj_map g,nw hk,b,l,Result.andThen,this]
 ·have:f k=R a.val:=(i k a.val).2 ⟨a,ea d,q,rfl⟩;simp[Instr.lookup,run_underlying e,MapKept.run_getObj_map g,nw hk,b,Result.andThen,this]
theorem ej.Al (h:ej w m f n) (e:P.underlying T=R (.map K E)) (hk:P.underlying K=R (.int .i64)) {z:Value} (l:(zeroValue E).run P w= .ok z w) (k:Int):(Instr.lookup T (.map (R m)) (I J k) true).run P w= .ok (bD #[(f k).getD z,aE (f k).isSome]) w:=by
 obtain⟨o,c,g,p,u,i,x⟩:=h;rcases sU hk w o.toList p k with⟨b,d⟩|⟨j,a,b,d,q⟩
 ·have:f k=U:=by
   cases r:f k with
   |none=>rfl
   |some v=>obtain⟨a,s,t,_⟩:=(i k v).1 r;exact absurd t (d a s)
  simp[Instr.lookup,run_underlying e,MapKept.run_getObj_map g,nw hk,b,l,Result.andThen,this]
 ·have:f k=R a.val:=(i k a.val).2 ⟨a,ea d,q,rfl⟩;simp[Instr.lookup,run_underlying e,MapKept.run_getObj_map g,nw hk,b,Result.andThen,this]
theorem ej.len (h:ej w m f n) (a:P.underlying T=R (.map K E)) (b:TypeId):(Builtin.len_ #[T] b #[.map (R m)]).run P w= .ok (goInt n) w:=by obtain⟨g,c,d,i,j,k,e⟩:=h;simp[Builtin.len_,run_underlying a,MapKept.run_getObj_map d,Result.andThen,e]
def ed (w:ab) (m:Nat) (O:Obj):ab:={w with heap:=w.heap.setIfInBounds m O}
theorem qW (w:ab) (m:Nat) (O:Obj):Mod (λy=>y=m) w (ed w m O):=⟨rfl,rfl,rfl,by simp[ed],λb c a=>by simp only[ed];rw[Array.getElem?_setIfInBounds_ne (Ne.symm a)]⟩
def nx (f:Int->Option Value) (k:Int) (v:Value):Int->Option Value:=λx=>if x=k then R v else f x
def qX (f:Int->Option Value) (k:Int):Int->Option Value:=λx=>if x=k then U else f x
theorem ej.put (h:ej w m f n) (Y:P.underlying T=R (.map K E)) (hk:P.underlying K=R (.int .i64)) (k:Int) (v:Value):∃Z,(Instr.mapUpdate T (.map (R m)) (I J k) v).run P w= .ok () (ed w m Z)∧ej (ed w m Z) m (nx f k v) (if f k=U then n+1 else n):=by
 obtain⟨z,c,C,S,G,O,aa⟩:=h;rcases sU hk w z.toList S k with⟨V,t⟩|⟨j,d,V,t,D⟩
 ·have ay:f k=U:=by
   cases ad:f k with
   |none=>rfl
   |some v=>obtain⟨d,e,g,_⟩:=(O k v).1 ad;exact absurd g (t d e)
  refine⟨.map (z.push {key:=I J k,val:=v,born:=c}) (c+1),?_,?_⟩;·simp[Instr.mapUpdate,run_underlying Y,MapKept.run_getObj_map C,nw hk,V,MapKept.run_setObj_map _ C,Result.andThen,ed]
  ·refine⟨_,_,(heap_set C).1,?_,?_,?_,?_⟩
   ·intro d e;rw[Array.toList_push,nc] at e;rcases e with e|e;·exact S d e
    ·rw[p8] at e;subst e;exact⟨k,rfl⟩
   ·intro i j d l o x A;rw[Array.toList_push] at o x;rcases nd i z.toList.length with H|H<;>rcases nd j z.toList.length with L|L;·rw[iR H] at o;rw[iR L] at x;exact G i j d l o x A
    ·rw[iR H] at o;rw[gC L,p6] at x;split at x;·have:=Option.some.inj x;subst this;exact absurd A (t d (ea o))
     ·simp at x
    ·rw[iR L] at x;rw[gC H,p6] at o;split at o;·have:=Option.some.inj o;subst this;exact absurd A.symm (t l (ea x))
     ·simp at o
    ·rw[gC H,p6] at o;rw[gC L,p6] at x;split at o
     ·split at x;·omega
      ·simp at x
     ·simp at o
   ·intro q u;simp only[nx];rw[Array.toList_push];by_cases p:q=k
    ·subst p;rw[aj rfl];constructor;·intro M;exact⟨_,List.mem_append_right _ (List.mem_singleton_self _),rfl,Option.some.inj M⟩
     ·rintro⟨d,e,g,r⟩;rcases nc.1 e with e|e;·exact absurd g (t d e)
      ·rw[p8] at e;subst e;rw[<-r]
    ·rw[z0 p,O];constructor;·rintro⟨d,e,g,r⟩;exact⟨d,List.mem_append_left _ e,g,r⟩
     ·rintro⟨d,e,g,r⟩;rcases nc.1 e with e|e;·exact⟨d,e,g,r⟩
      ·rw[p8] at e;subst e;simp only[Value.int.injEq,true_and] at g;exact absurd g.symm p
   ·rw[aj ay];simp[aa]
 ·have aB:f k=R d.val:=(O k d.val).2 ⟨d,ea t,D,rfl⟩;have az:z[j]?=R d:=by rw[<-Array.getElem?_toList];exact t
  have aC:(Instr.keyThatStays (I J k) (I J k)).run P w= .ok (I J k) w:=by have:Instr.sameBits 10000 (I J k) (I J k)=true:=(by simp[Instr.sameBits]);simp[Instr.keyThatStays,this]
  refine⟨.map (z.modify j λd=>{d with key:=I J k,val:=v}) c,?_,?_⟩;·simp[Instr.mapUpdate,run_underlying Y,MapKept.run_getObj_map C,nw hk,V,MapKept.run_setObj_map _ C,Result.andThen,ed,az,D,aC]
  ·have W:∀i,(z.modify j λd=>{d with key:=I J k,val:=v}).toList[i]?=(z.toList[i]?).map (λl=>if i=j then {l with key:=I J k,val:=v} else l):=(by intro i;rw[Array.toList_modify,List.getElem?_modify];cases z.toList[i]?<;>simp[eq_comm]);have N:∀l,l∈(z.modify j λd=>{d with key:=I J k,val:=v}).toList↔∃i q,z.toList[i]?=R q∧l=(if i=j then {q with key:=I J k,val:=v} else q):=by
    intro l;rw[mm];constructor;·rintro⟨i,o⟩;rw[W] at o;obtain⟨q,p,rfl⟩:=h1.1 o;exact⟨i,q,p,rfl⟩
    ·rintro⟨i,q,p,rfl⟩;exact⟨i,by rw[W,p];rfl⟩
   refine⟨_,_,(heap_set C).1,?_,?_,?_,?_⟩
   ·intro l B;obtain⟨i,q,p,rfl⟩:=(N l).1 B;split;·exact⟨k,rfl⟩
    ·exact S q (ea p)
   ·intro i X a b ao ac A;rw[W] at ao ac;obtain⟨q,p,rfl⟩:=h1.1 ao;obtain⟨y,F,rfl⟩:=h1.1 ac;by_cases s:i=j<;>by_cases Q:X=j;·omega
    ·rw[aj s,z0 Q] at A;exact s.trans (G j X d y t F (D.trans A))
    ·rw[z0 s,aj Q] at A;exact(G i j q d p t (A.trans D.symm)).trans Q.symm
    ·rw[z0 s,z0 Q] at A;exact G i X q y p F A
   ·intro q u;simp only[nx];by_cases p:q=k
    ·subst p;rw[aj rfl];constructor;·intro M;refine⟨{d with key:=I J q,val:=v},(N _).2 ⟨j,d,t,by rw[aj rfl]⟩,rfl,Option.some.inj M⟩
     ·rintro⟨l,B,g,r⟩;obtain⟨i,y,F,rfl⟩:=(N l).1 B;by_cases s:i=j;·rw[aj s] at r;rw[<-r]
      ·rw[z0 s] at g;exact absurd (G i j y d F t (g.trans D.symm)) s
    ·rw[z0 p,O];constructor
     ·rintro⟨l,B,g,r⟩;obtain⟨i,o⟩:=mm.1 B;have s:i≠j:=λM=>by subst M;rw[t] at o;have:=Option.some.inj o;subst this;rw[D] at g;simp only[Value.int.injEq,true_and] at g;exact p g.symm
      exact⟨l,(N l).2 ⟨i,l,o,by rw[z0 s]⟩,g,r⟩
     ·rintro⟨l,B,g,r⟩;obtain⟨i,y,F,rfl⟩:=(N l).1 B;by_cases s:i=j;·rw[aj s] at g;simp only[Value.int.injEq,true_and] at g;exact absurd g.symm p
      ·rw[z0 s] at g r;exact⟨y,ea F,g,r⟩
   ·rw[z0 (by rw[aB];simp)];simp[aa]
theorem ej.del (h:ej w m f n) (S:P.underlying T=R (.map K E)) (hk:P.underlying K=R (.int .i64)) (Z:TypeId) (k:Int):∃V,(Builtin.delete_ #[T,K] Z #[.map (R m),I J k]).run P w= .ok (bD #[]) (ed w m V)∧ej (ed w m V) m (qX f k) (if f k=U then n else n-1):=by
 obtain⟨g,c,s,L,t,B,W⟩:=h;rcases sU hk w g.toList L k with⟨M,q⟩|⟨j,o,M,q,N⟩
 ·have aa:f k=U:=by
   cases ao:f k with
   |none=>rfl
   |some v=>obtain⟨o,O,l,_⟩:=(B k v).1 ao;exact absurd l (q o O)
  refine⟨.map g c,?_,g,c,(heap_set s).1,L,t,?_,?_⟩;·simp[Builtin.delete_,run_underlying S,MapKept.run_getObj_map s,nw hk,M,MapKept.run_setObj_map _ s,Result.andThen,ed]
  ·intro C u;simp only[qX];by_cases x:C=k
   ·subst x;rw[aj rfl];constructor;·intro p;simp at p
    ·rintro⟨o,O,l,A⟩;exact absurd l (q o O)
   ·rw[z0 x];exact B C u
  ·rw[aj aa];exact W
 ·have ac:f k=R o.val:=(B k o.val).2 ⟨o,ea q,N,rfl⟩;have X:j<g.size:=by have:=(bE.1 q).1;simpa using this
  refine⟨.map (g.eraseIdxIfInBounds j) c,?_,?_⟩;·simp[Builtin.delete_,run_underlying S,MapKept.run_getObj_map s,nw hk,M,MapKept.run_setObj_map _ s,Result.andThen,ed]
  ·have Y:(g.eraseIdxIfInBounds j).toList=g.toList.eraseIdx j:=(by rw[Array.eraseIdxIfInBounds,dif_pos X,Array.toList_eraseIdx]);have D:∀i:Nat,(g.eraseIdxIfInBounds j).toList[i]?=if i<j then g.toList[i]? else g.toList[i+1]?:=(by intro i;rw[Y,List.getElem?_eraseIdx]);have F:∀e,e∈(g.eraseIdxIfInBounds j).toList↔∃i,i≠j∧g.toList[i]?=R e:=by
    intro e;rw[mm];constructor
    ·rintro⟨i,d⟩;rw[D] at d;split at d;·exact⟨i,by omega,d⟩
     ·exact⟨i+1,by omega,d⟩
    ·rintro⟨i,Q,d⟩;rcases nd i j with p|p;·exact⟨i,by rw[D,aj p];exact d⟩
     ·refine⟨i-1,?_⟩;rw[D,z0 (by omega),show i-1+1=i by omega];exact d
   refine⟨_,_,(heap_set s).1,?_,?_,?_,?_⟩;·intro e r;obtain⟨i,_,d⟩:=(F e).1 r;exact L e (ea d)
   ·intro i G a b y z H;rw[D] at y z;split at y<;>split at z;·exact t i G a b y z H
    ·have:=t i (G+1) a b y z H;omega
    ·have:=t (i+1) G a b y z H;omega
    ·have:=t (i+1) (G+1) a b y z H;omega
   ·intro C u;simp only[qX];by_cases x:C=k
    ·subst x;rw[aj rfl];constructor;·intro p;simp at p
     ·rintro⟨e,r,l,A⟩;obtain⟨i,Q,d⟩:=(F e).1 r;exact absurd (t i j e o d q (l.trans N.symm)) Q
    ·rw[z0 x,B];constructor;·rintro⟨e,r,l,A⟩;obtain⟨i,d⟩:=mm.1 r;refine⟨e,(F e).2 ⟨i,λp=>?_,d⟩,l,A⟩;subst p;rw[q] at d;have:=Option.some.inj d;subst this;rw[N] at l;simp only[Value.int.injEq,true_and] at l;exact x l.symm
     ·rintro⟨e,r,l,A⟩;obtain⟨i,Q,d⟩:=(F e).1 r;exact⟨e,ea d,l,A⟩
   ·rw[z0 (by rw[ac];simp),<-Array.length_toList,Y,List.length_eraseIdx,aj (by simpa using X),W];simp
end
end
theorem Am:(prog.info? 218).map (·.size)=R 2:=by kernel_rfl
theorem qY {p u:Tmp} {a:Act} {T:Nat} {v0 r:Value} (h:fn.results=#[.cell p 218,.tmp u]) (b:a.tmps.getD p undef=af (R ⟨g,0,U⟩)) (c:a.tmps.getD u undef=r) (d:w.heap[g]?=R (av #[v0,v1] T (0,0))):(results fn a.tmps).run au w= .ok (bD #[bm #[v0,v1],r]) w:=by rw[results_cell_tmp h,b,c];simp only[asAddr,Sem.run_pure,Result.andThen_ok];rw[run_loadVar_row w g T 218 _ _ _ d underlying218 rfl Am];rfl
theorem HN (w:ab):Calls au 134 #[] w λe w'=>e=aK (af (R ⟨w.heap.size,0,U⟩))∧eD w' (λk=>w.heap.size=k) w.heap.size []∧Below w.heap.size w w':=by go_enter func134,ntmps134;go_wp2;go_ret;refine⟨rfl,⟨.nil,ak.new _ _ _,trivial,by simp[T.blocks],by simp[T.blocks],trivial,List.Pairwise.nil,rfl,rfl,by simp[T.blocks]⟩,(Below.refl _ _).alloc (bM _) _⟩
def pI (x:Key) (is:Bool) (w:ab) (e:Ending) (w':ab):Prop:=e=aK (bD #[dT x,aE is])∧Below w.heap.size w w'
theorem HO (S:Nat->Prop) (b:Nat) (f:Value) (w:ab) (h:eD w S b []):Calls au 254 #[af (R ⟨b,0,U⟩),f] w (pI ⟨0,0⟩ false w):=by
 obtain⟨a,c,i,j,m,n,o,d,p,q⟩:=h;have e:a= .nil:=by
  cases a with
  |nil=>rfl
  |node b l k lev r=>simp[T.keys] at d
 subst e;have s:=c.cell 0 (v:=af U) rfl;have t:=c.lt;go_enter func254,ntmps254;go_wp2;exact bodyPost_ret (qY (v0:=I J 0) (v1:=I J 0) (g:=w.heap.size) (T:=218) rfl rfl rfl (ak.new w #[I J 0,I J 0] 218)) rfl ⟨rfl,(Below.refl _ _).alloc (bM _) _⟩
theorem HP (S:Nat->Prop) (b:Nat) (k:Key) (u:List Key) (w:ab) (h:eD w S b (k::u)):Calls au 254 #[af (R ⟨b,0,U⟩),.func (.func 255) #[] #[]] w (pI k true w):=by
 obtain⟨a,f,n,x,y,z,A,c,B,D⟩:=h;have d:a≠ .nil:=λo=>by rw[o] at c;simp[T.keys] at c
 obtain⟨m,i⟩:=T.uL a d;have p:a.first=k:=by rw[c] at i;exact(List.cons.inj i).1.symm
 have q:=f.cell 0 (v:=af a.bF) rfl;have K:=f.lt;have s:=(bz w (av #[I J 0,I J 0] 218));have E:=C (n.mod (Mod.below (S:=λ_=>False) s) (λ_ _=>id));have F:=C d;have G:=C p;obtain⟨t,L,M,N,O,j⟩:∃b l k lev r,a= .node b l k lev r:=by
  cases a with
  |nil=>exact absurd rfl d
  |node b l k lev r=>exact⟨b,l,k,lev,r,rfl⟩
 have P:w.cell? ⟨b,0,U⟩=R (af (R ⟨t,0,U⟩)):=by rw[q,j];rfl
 have H:=C (by rw[j];rfl:a.bF=R ⟨t,0,U⟩);clear f n x y z A c B D q i j d p s;go_enter func254,ntmps254;go_wp2_with fail;rw[<-H.out];refine(zK a _ E F).mono ?_;rintro o Q ⟨V,W,X,Y,rfl,e,_,rfl⟩;rw[G.out] at e;have Z:=e.cell 0 (v:=I J k.v) rfl;have aa:=e.cell 1 (v:=I J k.id) rfl;clear e;go_wp2;exact bodyPost_ret (qY (v0:=I J k.v) (v1:=I J k.id) (g:=w.heap.size) (T:=218) rfl rfl rfl (ak.new w #[I J k.v,I J k.id] 218)) rfl ⟨rfl,bz _ _⟩
theorem An (b:Nat) (x:Key) (is:Bool) (w:ab) (e:∀w',Below w.heap.size w w'->Calls au 254 #[af (R ⟨b,0,U⟩),.func (.func 255) #[] #[]] w' (pI x is w')):Calls au 233 #[af (R ⟨b,0,U⟩)] w (pI x is w):=by have c:=(bz w (av #[I J 0,I J 0] 218));have i:=C (ak.new w #[I J 0,I J 0] 218);have f:=C c;have h:=C (e _ c);clear e c;go_enter func233,ntmps233;go_wp2_with fail;refine h.mono ?_;rintro l m ⟨rfl,d⟩;have a:=i.next d;have n:=a.cell 0 (v:=I J 0) rfl;have o:=a.cell 1 (v:=I J 0) rfl;have q:=a.free 0;have r:=a.free 1;have j:=C a;have k:=C (f.trans (d.mono f.size));clear d a h;unfold dT;go_wp2;exact bodyPost_ret (qY (v0:=I J x.v) (v1:=I J x.id) (g:=w.heap.size) (T:=218) rfl rfl rfl ((j.set 0 (I J x.v)).set 1 (I J x.id))) rfl ⟨rfl,(k.setCell (p:=⟨w.heap.size,0,U⟩) (bM _) _).setCell (p:=⟨w.heap.size,1,U⟩) (bM _) _⟩
theorem Ao (S:Nat->Prop) (b:Nat) (w:ab) (h:eD w S b []):Calls au 233 #[af (R ⟨b,0,U⟩)] w (pI ⟨0,0⟩ false w):=An b _ _ w λw' a=>HO S b _ w' (h.frame (Mod.below (S:=λ_=>False) a) (λ_ _=>id))
theorem wj (S:Nat->Prop) (b:Nat) (k:Key) (a:List Key) (w:ab) (h:eD w S b (k::a)):Calls au 233 #[af (R ⟨b,0,U⟩)] w (pI k true w):=An b _ _ w λw' c=>HP S b k a w' (h.frame (Mod.below (S:=λ_=>False) c) (λ_ _=>id))
def hd (x:Key) (l:List Key):Option Key:=l.find? λy=>decide (x.lt y)
def T.next (x:Key):T->Option Key->Option Key
 | .nil,f=>f
 | .node _ l k _ r,f=>if x.lt k then T.next x l (R k) else T.next x r f
theorem HQ {l:List Key} (h:∀y∈l,¬x.lt y):hd x l=U:=by unfold hd;rw[List.find?_eq_none];intro y a;simp[h y a]
theorem HR (x:Key) (t:T) (f:Option Key) (h:gU t.keys):T.next x t f=(hd x t.keys).or f:=by
 induction t generalizing f with
 |nil=>rfl
 |node b l k lev r c d=>
  obtain⟨e,i,j,q,s⟩:=sd h;have m:hd x (T.node b l k lev r).keys=(hd x l.keys).or (hd x (k::r.keys)):=by show hd x (l.keys++k::r.keys)=_;unfold hd;rw[List.find?_append]
  rw[m];by_cases a:x.lt k;·show(if x.lt k then T.next x l (R k) else T.next x r f)=_;rw[aj a,c _ e];have:hd x (k::r.keys)=R k:=(by unfold hd;rw[List.find?_cons_of_pos];simp[a]);rw[this];cases hd x l.keys<;>rfl
  ·show(if x.lt k then T.next x l (R k) else T.next x r f)=_;rw[z0 a,d _ i];have n:hd x l.keys=U:=HQ λy o g=>a (Key.lt_trans g (j y o));have p:hd x (k::r.keys)=hd x r.keys:=(by unfold hd;rw[List.find?_cons_of_neg];simp[a]);rw[n,p];rfl
def Found (w:ab) (v:Value):Option Key->Prop
 |none=>v=af U
 |some y=>∃(b:Nat) (l:T) (lev:Nat) (r:T),v=af (R ⟨b,0,U⟩)∧ak w b (T.cells l y lev r) 331
theorem Found.next {w w':ab} {v:Value} {f:Option Key} (h:Found w v f) (a:Below w.heap.size w w'):Found w' v f:=by
 cases f with
 |none=>exact h
 |some y=>obtain⟨b,l,lev,r,c,d⟩:=h;exact⟨b,l,lev,r,c,d.next a⟩
def wm (f:Option Key) (w:ab) (e:Ending) (w':ab):Prop:=e=aK (bD #[dT (f.getD ⟨0,0⟩),aE f.isSome])∧Below w.heap.size w w'
theorem HS {e:Ending} {f:Option Key} (a:f=U) (b:e=aK (bD #[dT ⟨0,0⟩,aE false])) (c:Below w.heap.size w w'):wm f w e w':=by subst a;exact⟨b,c⟩
theorem HT {e:Ending} {f:Option Key} {y:Key} (a:f=R y) (b:e=aK (bD #[dT y,aE true])) (c:Below w.heap.size w w'):wm f w e w':=by subst a;exact⟨b,c⟩
theorem HU (S:Nat->Prop) (b:Nat) (O:List Key) (x:Key) (w:ab) (h:eD w S b O):Calls au 234 #[af (R ⟨b,0,U⟩),dT x] w (wm (hd x O) w):=by
 obtain⟨d,P,aB,aw,bc,bf,az,rfl,bg,an⟩:=h;have Q:=C (by rw[HR x d U az];cases hd x d.keys<;>rfl:T.next x d U=hd x d.keys);generalize hd x d.keys=F at Q;have W:=P.cell 0 (v:=af d.bF) rfl;have aC:=P.lt;generalize aF:d.bF=p at W;have ae:=C aF;show Calls au 234 #[af (R ⟨b,0,U⟩),bm #[I J x.v,I J x.id]] w _;go_enter func234,ntmps234;go_upto_region 3 with(fail);have am:(w.alloc (av #[I J x.v,I J x.id] 218)).heap.size=w.heap.size+1:=by simp
 generalize A:j_ (j_ w _) _=V;have q:=C (by rw[<-A];exact((Below.refl _ _).alloc (bM _) _).alloc (by omega) _:Below w.heap.size w V);have aM:=C (by rw[<-A];exact(ak.new w _ _).alloc _:ak V w.heap.size #[I J x.v,I J x.id] 218);have ap:=C (by rw[<-A,<-am];exact ak.new _ _ _:ak V (w.heap.size+1) #[I J 0,I J 0] 218);have aO:=C (aB.mod (Mod.below (S:=λ_=>False) q) (λ_ _=>id));have ax:=b1 q aC W;have ah:=q.out.size;go_wp2_with fail;go_loopg [6,7] d.size (λg aQ aS wr=>∃(u:T) (n:Option Key),aS=af u.bF∧g=u.size∧u.At wr∧Found wr aQ n∧T.next x u n=F∧Below V.heap.size V wr);case atStart=>exact⟨d,U,by rw[ae.out],rfl,aO,rfl,Q,Below.refl _ _⟩
 case round=>
  obtain⟨u,n,rfl,aU,e,aP,aT,i⟩:=hrel;have B:=aM.next (i.mono (bM _));have j:=ap.next (i.mono (bM _));have D:=C aP;have s:=C aT;have X:=C aU;have Y:=C (q.trans (i.mono ah));have Z:=i.size;cases u with
  |nil=>
   have bk:=j.cell 0 (v:=I J 0) rfl;have bl:=j.cell 1 (v:=I J 0) rfl;have bn:=j.free 0;have aA:=j.free 1;rw[show T.nil.bF=U from rfl];cases n with
   |none=>have E:u6=af U:=D;subst E;have hF:F=U:=s.symm;have G:=C hF;clear hF;go_wp2;exact bodyPost_ret (qY (v0:=I J 0) (v1:=I J 0) (g:=w.heap.size+1) (T:=218) rfl rfl rfl ((j.set 0 (I J 0)).set 1 (I J 0))) rfl (HS G rfl ((Y.setCell (p:=⟨w.heap.size+1,0,U⟩) (by simp only;omega) _).setCell (p:=⟨w.heap.size+1,1,U⟩) (by simp only;omega) _))
   |some y=>obtain⟨bp,bq,ai,br,E,H⟩:=D;subst E;have hF:F=R y:=s.symm;have G:=C hF;have aE:=H.cell 0 (v:=I J y.v) rfl;have a0:=H.cell 1 (v:=I J y.id) rfl;clear hF H;go_wp2;exact bodyPost_ret (qY (v0:=I J y.v) (v1:=I J y.id) (g:=w.heap.size+1) (T:=218) rfl rfl rfl ((j.set 0 (I J y.v)).set 1 (I J y.id))) rfl (HT G rfl ((Y.setCell (p:=⟨w.heap.size+1,0,U⟩) (by simp only;omega) _).setCell (p:=⟨w.heap.size+1,1,U⟩) (by simp only;omega) _))
  |node f l k lev r=>
   rw[show(T.node f l k lev r).bF=R ⟨f,0,U⟩ from rfl];have aa:=e.1.cell 0 (v:=I J k.v) rfl;have ao:=e.1.cell 1 (v:=I J k.id) rfl;have aV:=e.1.cell 3 (v:=af l.bF) rfl;have aZ:=e.1.cell 4 (v:=af r.bF) rfl;have ac:=B.cell 0 (v:=I J x.v) rfl;have ay:=B.cell 1 (v:=I J x.id) rfl;have m:=e.1.lt;have t:=B.lt;obtain⟨c,K⟩:=aX (fa k x);have ad:=C K;by_cases o:x.lt k
   ·have a6:(0:Int)<c:=(by rw[<-K];unfold fa;rw[z0 (Key.jK o).symm,z0 (Key.lt_asymm o)];decide);have L:=C o;go_wp2_with fail;go_region_held3 (λW'=>W'.cell? ⟨w.heap.size,0,U⟩=R (I J x.v)∧W'.cell? ⟨w.heap.size,1,U⟩=R (I J x.id)∧W'.cell? ⟨f,0,U⟩=R (I J k.v)∧W'.cell? ⟨f,1,U⟩=R (I J k.id)) ((refine⟨?_,?_,?_,?_⟩)<;>(first|assumption|(with_reducible refine b7 ?_;assumption))) (first|(go_at_call 256;refine(l5 k x _).mono ?_;rintro a8 M ⟨rfl,a⟩;rw[ad.out];have N:=C a;have a_:=b1 a t ac;have aq:=b1 a t ay;have ba:=b1 a m aa;have ag:=b1 a m ao;have bw:=b1 a m aV;clear a));go_wp2_with fail;go_quiet (fail);go_wp2;have a:Below wr.heap.size wr M:=(Below.refl _ wr).drew.trans N;have z:=C (e.mod (Mod.below (S:=λ_=>False) a) (λ_ _=>id));go_roundg l.size;case measure=>rw[X.out];show _<1+(l.size+r.size);omega
    case rel=>exact⟨l,R k,rfl,rfl,z.2.1.drewN _,⟨f,l,lev,r,rfl,z.1⟩,by rw[<-s.out];show _=(if x.lt k then _ else _);rw[aj L.out],below_drewN (i.trans (a.mono Z)) _⟩
   ·have a6:¬(0:Int)<c:=by
     rw[<-K];unfold fa;split;·decide
     ·next bb=>rw[aj (Key.pj o (Ne.symm bb))];decide
    have L:=C o;go_wp2_with fail;go_region_held3 (λW'=>W'.cell? ⟨w.heap.size,0,U⟩=R (I J x.v)∧W'.cell? ⟨w.heap.size,1,U⟩=R (I J x.id)∧W'.cell? ⟨f,0,U⟩=R (I J k.v)∧W'.cell? ⟨f,1,U⟩=R (I J k.id)) ((refine⟨?_,?_,?_,?_⟩)<;>(first|assumption|(with_reducible refine b7 ?_;assumption))) (first|(go_at_call 256;refine(l5 k x _).mono ?_;rintro a8 M ⟨rfl,a⟩;rw[ad.out];have N:=C a;have a_:=b1 a t ac;have aq:=b1 a t ay;have ba:=b1 a m aa;have ag:=b1 a m ao;have a2:=b1 a m aZ;clear a));go_wp2;have a:Below wr.heap.size wr M:=(Below.refl _ wr).drew.trans N;have z:=C (e.mod (Mod.below (S:=λ_=>False) a) (λ_ _=>id));go_roundg r.size;case measure=>rw[X.out];show _<1+(l.size+r.size);omega
    case rel=>exact⟨r,n,rfl,rfl,z.2.2,D.next a,by rw[<-s.out];show _=(if x.lt k then _ else _);rw[z0 L.out],i.trans (a.mono Z)⟩
variable {pf:Int->Nat} {e:aI} {aJ:Bool}
theorem ej.drew {w:ab} {m n:Nat} {f:Int->Option Value} (h:ej w m f n):ej w.drew m f n:=h.mod (Mod.refl (λ_=>False) w).drew id
def eR (pf:Int->Nat) (l:List aI) (k:Int):Option Value:=if cK k l then R (af (R ⟨pf k,0,U⟩)) else U
def ih (m t:Nat) (q:aD) (cB:Int) (aJ:Bool):Array Value:=#[.map (R m),af (R ⟨t,0,U⟩),I J q.cur,I J q.mn,I ah cB,aE aJ]
structure du (w:ab) (S:Nat->Prop) (b:Nat) (q:aD) (m t:Nat) (cB:Int) (aJ:Bool) (pf:Int->Nat) (al:Nat->Prop):Prop where
 cs:ak w b (ih m t q cB aJ) 215
 map:ej w m (eR pf q.es) q.es.length
 tree:eD w al t (q.es.map aI.key)
 cC:∀e∈q.es,ak w (pf e.id) (dn e) 79∧S (pf e.id)∧¬al (pf e.id)∧pf e.id≠b
 apart:∀e∈q.es,∀d∈q.es,pf e.id=pf d.id->e.id=d.id
 own:S b∧S m∧(∀k,al k->S k)∧¬al b∧¬al m
def ev (w:ab) (S:Nat->Prop) (b:Nat) (q:aD):Prop:=∃m t cB aJ pf al,du w S b q m t cB aJ pf al
section
variable {w w':ab} {S:Nat->Prop} {b:Nat} {q:aD} {m t:Nat} {cB:Int} {aJ:Bool} {pf:Int->Nat} {al:Nat->Prop}
theorem du.oB (h:du w S b q m t cB aJ pf al):b≠m:=by intro e;obtain⟨f,c,d,_⟩:=h.map;have a:=h.cs;unfold ak at a;rw[e,d] at a;cases a
theorem du.em (h:du w S b q m t cB aJ pf al) (d:e∈q.es):pf e.id≠m:=by intro q;obtain⟨g,c,f,_⟩:=h.map;have a:=(h.cC e d).1;unfold ak at a;rw[q,f] at a;cases a
theorem du.frame {Z:Nat->Prop} (h:du w S b q m t cB aJ pf al) (a:Mod Z w w') (c:∀k,S k->¬Z k):du w' S b q m t cB aJ pf al:=⟨h.cs.mod a (c b h.own.1),h.map.mod a (c m h.own.2.1),h.tree.frame a (λk f=>c k (h.own.2.2.1 k f)),λe d=>⟨(h.cC e d).1.mod a (c _ (h.cC e d).2.1),(h.cC e d).2⟩,h.apart,h.own⟩
theorem ev.frame {Z:Nat->Prop} (h:ev w S b q) (a:Mod Z w w') (c:∀k,S k->¬Z k):ev w' S b q:=by obtain⟨m,t,cB,aJ,pf,al,h⟩:=h;exact⟨m,t,cB,aJ,pf,al,h.frame a c⟩
theorem ev.next (h:ev w S b q) (a:Below w.heap.size w w'):ev w' S b q:=h.frame (Mod.below (S:=λ_=>False) a) (λ_ _=>id)
theorem ev.mono {T:Nat->Prop} (h:ev w S b q) (c:∀k,k<w.heap.size->S k->T k):ev w T b q:=by obtain⟨m,t,cB,aJ,pf,al,h⟩:=h;refine⟨m,t,cB,aJ,pf,λk=>al k∧k<w.heap.size,h.cs,h.map,?_,λe a=>⟨(h.cC e a).1,c _ (h.cC e a).1.lt (h.cC e a).2.1,λg=>(h.cC e a).2.2.1 g.1,(h.cC e a).2.2.2⟩,h.apart,c _ h.cs.lt h.own.1,c _ h.map.lt h.own.2.1,λk d=>c k d.2 (h.own.2.2.1 k d.1),λg=>h.own.2.2.2.1 g.1,λg=>h.own.2.2.2.2 g.1⟩;exact h.tree.mono (λk d f=>⟨f,d⟩)
end
theorem Ap (w:ab):Calls au 82 #[] w λe w'=>∃b,e=aK (af (R ⟨b,0,U⟩))∧ev w' (λk=>w.heap.size<=k) b kD∧Below w.heap.size w w':=by
 have l:=@run_makeMap au;go_enter func82,ntmps82;go_wp2_with fail;refine(HN _).mono ?_;rintro e a ⟨rfl,d,c⟩;have i:=C d;have j:=C c;clear d c;go_wp2;go_ret;have f:(w.alloc (.map #[] 0)).heap.size=w.heap.size+1:=by simp
 have d:=i.out;have c:=j.out;rw[f] at d c;have m:w.heap.size+1<=a.heap.size:=f▸c.size;have g:=(Below.refl a.heap.size a).alloc (bM _) (av #[.map (R w.heap.size),af (R ⟨w.heap.size+1,0,U⟩),I J (-1),I J 0,I ah 0,aE false] 215);refine⟨a.heap.size,rfl,⟨w.heap.size,w.heap.size+1,0,false,λ_=>0,λk=>k=w.heap.size+1,?_⟩,?_⟩
 ·refine⟨ak.new a _ _,?_,?_,by simp[kD],by simp[kD],?_⟩;·exact(((ej.new w).next (by rw[f];exact c)).next g).congr (λk=>rfl) rfl
  ·exact(d.frame (Mod.below (S:=λ_=>False) g) (λ_ _=>id)).mono (λk _ h=>h.symm)
  ·exact⟨show w.heap.size<=a.heap.size by omega,bM _,λk h=>by have:k=w.heap.size+1:=h;show w.heap.size<=k;omega,show¬a.heap.size=w.heap.size+1 by have:=d.own;omega,show¬w.heap.size=w.heap.size+1 by omega⟩
 ·exact((bz w (.map #[] 0)).trans (c.mono (Nat.le_succ _))).trans (g.mono (by omega))
theorem sV (n:Nat) (w:ab):Calls au 198 #[I ah (n:Int)] w λe w'=>e=aK (aE (lQ n))∧w'=w:=by
 unfold lQ;go_enter func198,ntmps198;go_wp2;all_goals go_ret
 all_goals(refine⟨?_,rfl⟩;simp_all;try omega)
theorem HV {p:Tmp} {a:Act} {w:ab} {T:Nat} {v0:Value} (h:fn.results=#[.cell p 218]) (b:a.tmps.getD p undef=af (R ⟨g,0,U⟩)) (c:w.heap[g]?=R (av #[v0,v1] T (0,0))):(results fn a.tmps).run au w= .ok (bm #[v0,v1]) w:=results_cell_row h a.tmps w g T _ _ _ b c underlying218 rfl Am
theorem sW (p:Nat) (e:aI) (w:ab) (h:ak w p (dn e) 79):Calls au 212 #[af (R ⟨p,0,U⟩)] w λr w'=>r=aK (dT e.key)∧Below w.heap.size w w':=by have a:=h.cell 0 (v:=I J e.id) rfl;have b:=h.cell 2 (v:=I J e.v) rfl;have c:=h.lt;clear h;go_enter func212,ntmps212;go_wp2_with fail;go_region;go_wp2;exact bodyPost_ret (HV (g:=w.heap.size) (T:=218) rfl rfl (ak.new w _ _)) rfl ⟨rfl,(bz _ _).drew⟩
theorem du.sX {w w':ab} {S:Nat->Prop} {b:Nat} {q c:aD} {m t:Nat} {cB ld':Int} {aJ ov':Bool} {pf:Int->Nat} {al:Nat->Prop} (h:du w S b q m t cB aJ pf al) (d:Mod (λk=>k=b) w w') (g:ak w' b (ih m t c ld' ov') 215) (a:c.es=q.es):du w' S b c m t ld' ov' pf al:=by
 refine⟨g,?_,?_,?_,?_,h.own⟩;·rw[a];exact h.map.mod d (Ne.symm h.oB)
 ·rw[a];exact h.tree.frame d (λk i e=>h.own.2.2.2.1 (e▸i))
 ·rw[a];intro e f;exact⟨(h.cC e f).1.mod d (h.cC e f).2.2.2,(h.cC e f).2⟩
 ·rw[a];exact h.apart
theorem HW (w:ab) (O:Obj) (v:Value) (T:TypeId):((w.alloc O).alloc (av #[v] T)).drew.cell? ⟨w.heap.size+1,0,U⟩=R v:=by have h:=(ak.new (w.alloc O) #[v] T).cell 0 (v:=v) rfl;rw[show(w.alloc O).heap.size=w.heap.size+1 by simp] at h;exact h
def HX (S:Nat->Prop) (b:Nat) (q:aD) (m t:Nat) (cB:Int) (aJ:Bool) (pf:Int->Nat) (al:Nat->Prop) (w:ab) (e:Ending) (w':ab):Prop:=e=aK (bD #[])∧du w' S b q.raise m t cB aJ pf al∧Mod (λk=>k=b) w w'
theorem sY (S:Nat->Prop) (b:Nat) (q:aD) (m t:Nat) (cB:Int) (aJ:Bool) (pf:Int->Nat) (al:Nat->Prop) (u:FrameMode) (w:ab) (h:du w S b q m t cB aJ pf al):CallsD au 209 #[af (R ⟨b,0,U⟩)] u w λe p w'=>p=u∧HX S b q m t cB aJ pf al w e w':=by
 have s:=h.cs.cell 1 (v:=af (R ⟨t,0,U⟩)) rfl;have r:=h.cs.lt;have f:=h.tree;cases c:q.es with
 |nil=>rw[c] at f;have i:=C (Ao al t w f);have j:=C (by unfold aD.raise;cases q;simp only at c;rw[c];rfl:q.raise=q);clear f c;go_enter_d func209,ntmps209;go_wp2_with fail;refine i.mono ?_;rintro e k ⟨rfl,a⟩;have d:=C a;clear a;unfold dT;go_wp2;go_end0;refine⟨rfl,?_⟩;rw[j.out];exact⟨h.frame (Mod.below (S:=λ_=>False) (d.alloc d.size _)) (λ_ _=>id),Mod.below (d.alloc d.size _)⟩
 |cons x l=>rw[c] at f;have i:=C (wj al t x.key (l.map aI.key) w f);have j:=C (by unfold aD.raise;rw[c];rfl:q.raise={q with mn:=max q.mn x.v});clear f c;go_enter_d func209,ntmps209;go_wp2_with fail;refine i.mono ?_;rintro e k ⟨rfl,a⟩;have y:=(h.cs.next a).cell 3 (v:=I J q.mn) rfl;have z:=(h.cs.next a).free 3;have A:b<k.heap.size:=dm r a.size;have d:=C a;clear a;unfold dT;go_wp2_with fail;go_region_with (first|(go_at_call 239;refine(Hi q.mn x.key.v _ _ (HW _ _ _ _)).mono ?_;rintro e B ⟨rfl,rfl⟩));all_goals go_wp2;go_end0;refine⟨rfl,?_⟩;rw[j.out];have n:=(((Mod.one k b 3 (I J (max q.mn x.key.v))).alloc (av #[I J x.key.v,I J x.key.id] 218)).alloc (av #[I J x.key.v] 2)).drew;have o:=h.frame (Mod.below (S:=λ_=>False) d) (λ_ _=>id);exact⟨o.sX n ((((o.cs.set 3 (I J (max q.mn x.key.v))).alloc _).alloc _):_) rfl,(Mod.below d).trans n (λ_ _ g=>g)⟩
structure ij {α:Type} (F:cm α) (T E:TypeId) (bytes:Nat):Prop where
 slice:prog.underlying T=R (.slice E)
 info:∃z,(prog.info? E).map (λi=>(i.zero,i.size,i.bytes))=R (R z,F.c,bytes)∧z.cells.size=F.c
 cA:bytes<=1000
section
variable {α:Type} {F:cm α} {T E bytes:Nat}
theorem jv (H:ij F T E bytes) {f:Array Oper} {rest:List Oper} {o:Oper} {a:Act} {g:Exit->Act->ab->Prop} (k:o.guard=U) (s x:Operand) (l:o.op= .call {callee:=.builtin .append,args:=#[s,x],argTypes:=#[T,T]}) (base:Nat) (v:Value) (n:Nat) (zs:List α) (m:a.eval s=v) (p:Own F w base E v n zs) (b c:Nat) (y:α) (q:a.eval x=aA (R ⟨b,0,U⟩) 1 c) (r:∀i u,(F.e y)[i]?=R u->w.cell? ⟨b,i,U⟩=R u) (t:n<=10000000) (z:base<=w.heap.size) (h:∀d w',Own F w' base E d (n+1) (zs++[y])->w.grownBy w' v.ownBlock->(d.ownBlock=v.ownBlock∨d.ownBlock=R w.heap.size)->wpList au f g rest (a.put o.dst d) w'):wpList au f g (o::rest) a w:=by
 obtain⟨A,B,C⟩:=H.info;obtain⟨D,G,I,J,K⟩:=info_parts B;have L:(n+1)*bytes<=140737488355328:=cJ (qc (Nat.succ_le_succ t) H.cA) (by decide);refine wpList_append_own_at _ k s x T l base E D A F.c bytes H.slice G I J K C F.pos v n _ m p ⟨b,0,U⟩ 1 c (F.e y) q (by rw[F.len];omega) ?_ (λu M=>F.one y u M) (by unfold maxLen;omega) L z ?_;·intro j u N;rw[addr_add,mq];exact r j u N
 ·intro d w' O P _ Q;exact h d w' (by unfold Own;rw[cm.ur];exact O) P Q
theorem oC (H:ij F T E bytes) {f:Array Oper} {o:Oper} {a:Act} {g:Act->ab->Prop} {k:Exit->Act->ab->Prop} {l:Prop} (m:o.guard=U) (s x:Operand) (p:o.op= .call {callee:=.builtin .append,args:=#[s,x],argTypes:=#[T,T]}) (base:Nat) (v:Value) (n:Nat) (zs:List α) (q:a.eval s=v) (r:Own F w base E v n zs) (b c:Nat) (y:α) (t:a.eval x=aA (R ⟨b,0,U⟩) 1 c) (z:∀i u,(F.e y)[i]?=R u->w.cell? ⟨b,i,U⟩=R u) (A:n<=10000000) (B:base<=w.heap.size) (h:∀d w',Own F w' base E d (n+1) (zs++[y])->w.grownBy w' v.ownBlock->(d.ownBlock=v.ownBlock∨d.ownBlock=R w.heap.size)->g (a.put o.dst d) w'):if Region.wanted o (yielded f a.tmps)=true then Oper.wp au o a w g k else l:=by
 have C:Region.wanted o (yielded f a.tmps)=true:=by simp[Region.wanted,m]
 rw[aj C];obtain⟨D,G,I⟩:=H.info;obtain⟨J,K,L,M,N⟩:=info_parts G;have O:(n+1)*bytes<=140737488355328:=cJ (qc (Nat.succ_le_succ A) H.cA) (by decide);obtain⟨d,w',Q,S,V,Z,W⟩:=run_append_own_at (P:=au) w base T o.type E J D F.c bytes H.slice K L M N I F.pos v n _ r ⟨b,0,U⟩ 1 c (F.e y) (by rw[F.len];omega) (λj u X=>by rw[addr_add,mq];exact z j u X) (λu Y=>F.one y u Y) (by unfold maxLen;omega) O B;unfold Oper.wp execOp;simp only[p,resolve,invoke,builtin,Sem.run_bind,Sem.run_pure,Result.andThen_ok,List.map_toArray,j9,List.map_nil,q,t,Q];exact h d w' (by unfold Own;rw[cm.ur];exact S) V W
structure Grow (w w':ab) (v Aq:Value):Prop where
 d_:w.grownBy w' v.ownBlock
 loc:Aq.ownBlock=v.ownBlock∨∃g,Aq.ownBlock=R g∧w.heap.size<=g
theorem Grow.refl (w:ab) (v:Value):Grow w w v v:=⟨⟨rfl,rfl,rfl,bM _,λ_ _ _=>rfl⟩,.inl rfl⟩
theorem Grow.trans {x y z:ab} {v v1 v2:Value} (h:Grow x y v v1) (k:Grow y z v1 v2):Grow x z v v2:=by
 refine⟨⟨k.d_.os.trans h.d_.os,k.d_.tape.trans h.d_.tape,k.d_.output.trans h.d_.output,cJ h.d_.size k.d_.size,λi b d=>(k.d_.block i (dm b h.d_.size) ?_).trans (h.d_.block i b d)⟩,?_⟩
 ·rcases h.loc with a|⟨g,a,e⟩;·rw[a];exact d
  ·rw[a];intro c;have:=Option.some.inj c;omega
 ·rcases k.loc with a|⟨g,a,e⟩;·rw[a];exact h.loc
  ·exact .inr ⟨g,a,cJ h.d_.size e⟩
theorem Grow.alloc {x y:ab} {v v1:Value} (h:Grow x y v v1) (O:Obj):Grow x (y.alloc O) v v1:=h.trans ⟨⟨rfl,rfl,rfl,by simp,λa b _=>((Below.refl y.heap.size y).alloc (bM _) O).block a b⟩,.inl rfl⟩
theorem Grow.Ar {x:ab} (h:Grow (x.drewN n) y v v1):Grow x y v v1:=⟨⟨h.d_.os,h.d_.tape,h.d_.output,h.d_.size,h.d_.block⟩,h.loc⟩
theorem Grow.cell {x:ab} (h:Grow x y v v1) (c:b<x.heap.size) (d:R b≠v.ownBlock) (e:x.cell? ⟨b,o,U⟩=R u):y.cell? ⟨b,o,U⟩=R u:=(lH (a:=⟨b,o,U⟩) (h.d_.block b c d)).trans e
theorem Grow.below {x:ab} (h:Grow x y v v1) (d:B<=x.heap.size) (b:∀g,v.ownBlock=R g->B<=g):Below B x y:=⟨h.d_.os,h.d_.tape,h.d_.output,h.d_.size,λa e=>h.d_.block a (by omega) (λc=>by have:=b a c.symm;omega)⟩
theorem Grow.gK {x:ab} {a:Value} (h:x.grownBy y v.ownBlock) (b:a.ownBlock=v.ownBlock∨a.ownBlock=R x.heap.size):Grow x y v a:=⟨h,b.imp id λc=>⟨_,c,bM _⟩⟩
theorem Own.next' {zs:List α} (h:Own F w B E v n zs) (b:Below w.heap.size w w'):Own F w' B E v n zs:=by
 refine⟨h.1,?_⟩;rcases h.2 with c|⟨g,cap,d,e,f,a,i⟩;·exact .inl c
 ·exact .inr ⟨g,cap,d,e,f,(b.block g (iQ.1 a).1).trans a,i⟩
end
def q6 (m:Nat) (A a:ab):Prop:=a.heap[m]?=A.heap[m]?∧a.heap[m+1]?=A.heap[m+1]?
theorem wA {k:Fence} {P:Program} {α:Type} {g:Operand} {r:Array Tmp} {assign body:Code} {C:Exit->Act->ab->Prop} {a:Act} (N:k.round=U) (O:1<=n) {gf:Nat} {lb:Array Value} (Q:a.eval g= .func (.func gf) #[] lb) (T:k.fn gf) (V:∀args w,(callFunc gf args).run P w= .ok (.enter gf args) w) {encs:α->Array Value} (X:∀b,(encs b).size=r.size) (e:List α->ab->Prop) (s:List α->α->ab->Prop) (S:List α->Prop) (hI:∀ag A f,e ag A->Mod (λh=>h=w.heap.size∨h=w.heap.size+1) A f->e ag f) (hI':∀ag b A f,s ag b A->Mod (λh=>h=w.heap.size∨h=w.heap.size+1) A f->s ag b f) (h0:e [] w) (hiter:∀(l:Nat) (B:ab->Prop) (c:ab),(∀A f,B A->q6 w.heap.size A f->B f)->(∀A,B A->w.heap.size+2<=A.heap.size)->Below w.heap.size w c->e [] c->B c->(∀i b W,s i b W->B W->YieldAt k (n-1-1) P l (encs b) W λd W'=>d=aK (aE true)∧e (i++[b]) W'∧B W')->CallsIn k (n-1) P gf (#[.func (.yield l) #[] #[]]++lb) c λd W'=>(∃v,d=aK v)∧∃ag,S ag∧e ag W'∧B W') (D:α->Act) (Y:∀(l:Nat) (b:α) (W:ab) (E:Act->ab->Prop),E (D b) W->assign.wpIn (k.inRound l) (n-1-1) P (Exit.then E (λ_ _ _=>False)) {tmps:=(r.zip (encs b)).foldl (λF (p,v)=>F.setIfInBounds p v) a.tmps,defers:=[]} W) (Z:∀(l:Nat) (i:List α) (b:α) (W:ab),s i b W->w.heap.size+2<=W.heap.size->body.wpIn (k.inRound l) (n-1-1) P (λd _ W'=>match d with| .normal=>q6 w.heap.size W W'∧e (i++[b]) W'|_=>False) (D b) W) (aa:∀(ag:List α) (W:ab),S ag->e ag W->W.heap[w.heap.size]?=R (.deferred (R []))->C .normal {a with defers:={target:=.collected w.heap.size,args:=#[]}::a.defers} W):(Code.rangeFunc g r assign body).wpIn k n P C a w:=by
 refine wpIn_rangeFunc ?_;intro fn ao;rw[N];obtain⟨rec,j⟩:∃rec:LoopState->Option Code->Loop,rec=λac ay=>{state:=ac,pending:=ay,fn,tmps:=a.tmps,params:=r,assign,body,defers:=w.heap.size}:=⟨_,rfl⟩;obtain⟨c,t⟩:=aX ((w.alloc (.deferred (R []))).alloc (.loop (rec .ready U)));have ad:c.heap[w.heap.size+1]?=R (.loop (rec .ready U)):=by rw[<-t];have:=World.alloc_heap_new (w.alloc (.deferred (R []))) (.loop (rec .ready U));rwa[k4] at this
 have aB:c.heap[w.heap.size]?=R (.deferred (R [])):=by rw[<-t];exact(Below.heap_alloc _ _ _ (by simp)).trans (World.alloc_heap_new w _)
 have G:Below w.heap.size w c:=by rw[<-t];exact((Below.refl _ w).alloc (bM _) _).alloc (by simp) _
 have az:e [] c:=hI [] w c h0 (Mod.below G);have y:∀(A:ab) (o:Obj),Mod (λh=>h=w.heap.size∨h=w.heap.size+1) A (A.putObj (w.heap.size+1) o):=λA o=>⟨rfl,rfl,rfl,by simp,λh u aC=>p5 (λd=>aC (.inr d))⟩;refine⟨w.heap.size+1,[{target:=.collected w.heap.size,args:=#[]}],c,{target:=.fn (.func gf) lb,args:=#[.func (.yield (w.heap.size+1)) #[] #[]]},c,gf,#[.func (.yield (w.heap.size+1)) #[] #[]]++lb,c,?_,?_,?_,?_,λ_=>O,?_⟩;·rw[<-t,j];exact run_enterLoop_outer _ _ _ _ _
 ·simp only[resolve,Q];simp[go_sem]
 ·intro aj H;simp[Target.leads] at H;subst H;exact T
 ·simp[invoke,go_sem,V]
 ·refine(hiter (w.heap.size+1) (λW=>W.heap[w.heap.size+1]?=R (.loop (rec .ready U))∧W.heap[w.heap.size]?=R (.deferred (R []))) c (λA f x I=>⟨I.2.trans x.1,I.1.trans x.2⟩) (λA x=>(iQ.1 x.1).1) G az ⟨ad,aB⟩ ?_).mono ?_;·rintro i b W z ⟨q,u⟩;have aF:w.heap.size+1<W.heap.size:=(iQ.1 q).1;have J:=run_yield (P:=P) (args:=encs b) q (by rw[j];exact X b);rw[j] at J;refine⟨fn,_,assign,body,J,roundIn_of_wpIn ao (Y _ b W _ ⟨_,run_beginRound q (by rw[j]),?_⟩)⟩;have af:(W.putObj (w.heap.size+1) (.loop {rec .ready U with state:=.busy})).heap[w.heap.size+1]?=R (.loop {rec .ready U with state:=.busy}):=World.putObj_heap_same aF;have ae:(W.putObj (w.heap.size+1) (.loop {rec .ready U with state:=.busy})).heap[w.heap.size]?=R (.deferred (R [])):=(p5 (by omega)).trans u;refine wpIn_mono (Z _ i b _ (hI' i b _ _ z (y _ _)) (by simp;omega)) ?_;rintro d ap aO m;cases d with
   |normal=>obtain⟨K,am⟩:=m;have L:=K.2.trans af;have M:=run_endRound (P:=P) U L;rw[j] at M;exact⟨_,_,M,rfl,hI _ _ _ am (y _ _),World.putObj_heap_same (iQ.1 L).1|>.trans (by rw[j];rfl),(p5 (by omega)).trans (K.1.trans ae)⟩
   |ret=>exact m.elim
   |exit id=>exact m.elim
   |goto F=>exact m.elim
   |panic ah=>exact m.elim
   |outgrown=>exact m.elim
  ·rintro d aQ ⟨⟨v,rfl⟩,ag,aM,z,q,u⟩;exact⟨U,_,by have:=run_endLoop (P:=P) q (by rw[j];simp);rw[j] at this;exact this,aa ag _ aM (hI _ _ _ z (y _ _)) ((p5 (by omega)).trans u)⟩
variable {ar:Array Value}
theorem jZ (w:ab):(zeroValue 219).run au w= .ok (af U) w:=by kernel_rfl
theorem du.trim {q:aD} {t:Nat} {d:Int} (h:du w S b q m t d aJ pf al):du w S b q m t d aJ pf (λk=>al k∧k<w.heap.size):=⟨h.cs,h.map,h.tree.mono (λk c f=>⟨f,c⟩),λe a=>⟨(h.cC e a).1,(h.cC e a).2.1,λg=>(h.cC e a).2.2.1 g.1,(h.cC e a).2.2.2⟩,h.apart,h.own.1,h.own.2.1,λk c=>h.own.2.2.1 k c.1,λg=>h.own.2.2.2.1 g.1,λg=>h.own.2.2.2.2 g.1⟩
theorem du.It {s w wk z u:ab} {S':Nat->Prop} {q:aD} {t:Nat} {K ld':Int} {ov':Bool} {a:aI} (h:du s S b q m t K aJ pf al) (o:∀d∈q.es,d.id≠a.id) (x:∀k,S k->S' k) (L:S' n) (D:¬al n) (E:n≠b) (F:∀e∈q.es,pf e.id≠n) (M:∀k,wk.heap.size<=k->S' k) (v:ak s n (dn a) 79) (G:Mod (λk=>k=m) s w) (N:ej w m (nx (eR pf q.es) a.id (af (R ⟨n,0,U⟩))) (q.es.length+1)) (A:Below w.heap.size w wk) (H:Mod al wk z) (O:eD z (c6 al wk) t (fh a.key (q.es.map aI.key))) (B:Mod (λk=>k=b) z u) (P:ak u b (ih m t q ld' ov') 215):du u S' b {q with es:=fi a q.es} m t ld' ov' (λk=>if k=a.id then n else pf k) (c6 al wk):=by
 have ao:s.heap.size<=wk.heap.size:=cJ G.size A.size;have I:=mv (k:=a.id) rfl o;have r:∀e,e∈fi a q.es↔e=a∨e∈q.es:=λe=>oa I;have Q:n≠m:=by intro e;obtain⟨es,c,V,_⟩:=h.map;unfold ak at v;rw[e,V] at v;cases v
 have J:∀{p:Nat} {ar:Array Value} {T:TypeId},ak s p ar T->p≠m->¬al p->p≠b->ak u p ar T:=λW X Y Z=>(((W.mod G X).next A).mod H Y).mod B Z;refine⟨P,?_,?_,?_,?_,?_⟩
 ·have aa:(fi a q.es).length=q.es.length+1:=(uQ I).length_eq;refine(((N.next A).mod H h.own.2.2.2.2).mod B (Ne.symm h.oB)).congr ?_ aa.symm;intro k;unfold nx eR;dsimp only;by_cases e:k=a.id;·rw[aj e,aj (dG.2 ⟨a,(r a).2 (.inl rfl),e.symm⟩),aj e]
  ·rw[z0 e,z0 e];have:cK k (fi a q.es)=cK k q.es:=by
    rw[hK,dG,dG];constructor
    ·rintro⟨d,j,f⟩;rcases(r d).1 j with rfl|j;·exact absurd f.symm e
     ·exact⟨d,j,f⟩
    ·rintro⟨d,j,f⟩;exact⟨d,(r d).2 (.inr j),f⟩
   rw[this]
 ·show eD u _ t ((fi a q.es).map aI.key);rw[uP];exact O.frame B (λk f e=>by
  subst e;rcases f with g|g;·exact h.own.2.2.2.1 g
  ·have:=h.cs.lt;omega)
 ·intro e C;rcases(r e).1 C with rfl|i;·rw[aj rfl];exact⟨J v Q D E,L,λg=>g.elim D (λg=>by have:=v.lt;omega),E⟩
  ·rw[z0 (o e i)];have l:=h.cC e i;exact⟨J l.1 (h.em i) l.2.2.1 l.2.2.2,x _ l.2.1,λg=>g.elim l.2.2.1 (λg=>by have:=l.1.lt;omega),l.2.2.2⟩
 ·intro e C d j g;rcases(r e).1 C with rfl|i<;>rcases(r d).1 j with rfl|y;·rfl
  ·rw[aj rfl,z0 (o d y)] at g;exact absurd g.symm (F d y)
  ·rw[aj rfl,z0 (o e i)] at g;exact absurd g (F e i)
  ·rw[z0 (o e i),z0 (o d y)] at g;exact h.apart e i d y g
 ·exact⟨x _ h.own.1,x _ h.own.2.1,λk f=>f.elim (λg=>x _ (h.own.2.2.1 k g)) (λg=>M k g),λg=>g.elim h.own.2.2.2.1 (λg=>by have:=h.cs.lt;omega),λg=>g.elim h.own.2.2.2.2 (λg=>by have:=h.map.lt;omega)⟩
theorem nA {P:Program} {al:Ending->ab->Prop} {s:Code} {c:Act->ab->Prop} {a:Act} (h:s.wp P (Exit.then c (bodyPost P fn (λ_ _=>False))) a w):s.wp P (Exit.then c (bodyPostD P fn al)) a w:=by
 refine wp_mono h ?_;intro e f w' b;cases e with
 |normal=>exact b
 |exit id=>exact b.elim
 |goto l=>exact b.elim
 |ret=>obtain⟨_,_,_,d⟩:=b;exact d.elim
 |panic g=>exact b.2.elim
 |outgrown=>exact b.elim
def AJ (S:Nat->Prop) (b:Nat) (q:aD) (a:aI) (w:ab) (e:Ending) (w':ab):Prop:=e=aK (I J (q.dI a))∧ev w' (c6 S w) b (q.put a)∧Mod S w w'
theorem q8 {q:aD} {a:aI} {n:Int} (h:ev w S b q) (c:q.dI a=n) (e:n≠0) (d:Below w.heap.size w w'):AJ S b q a w (aK (I J n)) w':=⟨by rw[c],by unfold aD.put;rw[z0 (by rw[c];exact e)];exact(h.next d).mono (λk _ f=>.inl f),Mod.below d⟩
theorem Iu (S:Nat->Prop) (b:Nat) (q:aD) (a:aI) (w:ab) (h:ev w S b q) (aO:q.Ok):Calls au 192 #[af (R ⟨b,0,U⟩),bm #[I J a.id,I ah (a.wt:Int),I J a.v,I ah (a.rem:Int)]] w (AJ S b q a w):=by
 have y:=C h;obtain⟨m,d,r,aJ,pf,al,h⟩:=h;replace h:=h.trim;obtain⟨al,Q,T⟩:∃V,(∀k,V k->k<w.heap.size)∧du w S b q m d r aJ pf V:=⟨_,λk G=>G.2,h⟩;replace h:=T;have W:=C Q;clear T Q;obtain⟨X,z⟩:=aX (w.alloc (av #[I J a.id,I ah (a.wt:Int),I J a.v,I ah (a.rem:Int)] 79));have j:Below w.heap.size w X:=z▸bz _ _;have c:=h.frame (Mod.below (S:=λ_=>False) j) (λ_ _=>id);have s:ak X w.heap.size (dn a) 79:=z▸ak.new w _ _;have aQ:=s.cell 0 (v:=I J a.id) rfl;have Y:=s.cell 1 (v:=I ah a.wt) rfl;have aS:=s.cell 3 (v:=I ah a.rem) rfl;have aU:=c.cs.cell 0 (v:=.map (R m)) rfl;have aP:=c.cs.cell 1 (v:=af (R ⟨d,0,U⟩)) rfl;have bl:=c.cs.lt;have aT:=s.lt;have H:=C z;clear z;go_enter_defers func192,ntmps192;by_cases aV:a.id<0;·go_wp2_with fail;rw[H.out];refine⟨_,results_tmp rfl _ _ _,?_⟩;exact q8 y (by unfold aD.dI;rw[aj aV]) (by omega) j
 by_cases l:lQ a.wt=false;·have K:=C l;go_wp2_with fail;rw[H.out];refine(sV a.wt _).mono ?_;rintro e A ⟨rfl,rfl⟩;rw[K.out];go_wp2_with fail;refine⟨_,results_tmp rfl _ _ _,?_⟩;exact q8 y (by unfold aD.dI;rw[z0 (by omega),aj l]) (by omega) j
 have K:=C (by simpa using l:lQ a.wt=true);go_wp2_with fail;rw[H.out];refine(sV a.wt _).mono ?_;rintro e A ⟨rfl,rfl⟩;rw[K.out];by_cases B:a.wt<=a.rem
 ·have aZ:(a.wt:Int)<=(a.rem:Int):=by omega
  go_wp2_with fail;refine⟨_,results_tmp rfl _ _ _,?_⟩;exact q8 y (by unfold aD.dI;rw[z0 (by omega),z0 l,aj B]) (by omega) j
 have aZ:¬(a.wt:Int)<=(a.rem:Int):=by omega
 by_cases o:cK a.id q.es=true;·have t:=c.map.drew.look underlying212 underlying3 (jZ _) a.id;rw[show eR pf q.es a.id=R (af (R ⟨pf a.id,0,U⟩)) by unfold eR;rw[aj o]] at t;simp only[j8] at t;go_wp2_with fail;go_region;go_wp2_with fail;refine⟨_,results_tmp rfl _ _ _,?_⟩;exact q8 y (by unfold aD.dI;rw[z0 (by omega),z0 l,z0 B,aj o]) (by omega) j.drew
 have t:=c.map.drew.look underlying212 underlying3 (jZ _) a.id;rw[show eR pf q.es a.id=U by unfold eR;rw[z0 o]] at t;simp only[p_] at t;go_wp2_with fail;go_region;clear t;have Z:=c.map.drew.len (P:=au) underlying212 3;by_cases L:q.es.length=128;·rw[L] at Z;go_wp2_with fail;refine⟨_,results_tmp rfl _ _ _,?_⟩;exact q8 y (by unfold aD.dI;rw[z0 (by omega),z0 l,z0 B,z0 o,aj L]) (by omega) j.drew
 have bn:¬(q.es.length:Int)=128:=by omega
 go_wp2_with fail;clear Z;have aa:=C (qq (by simpa using o:cK a.id q.es=false));obtain⟨ao,ac,M⟩:=c.map.drew.drew.put underlying212 underlying3 a.id (.pointer (R ⟨w.heap.size,0,U⟩));rw[aj (by unfold eR;rw[z0 o]:eR pf q.es a.id=U)] at M;generalize ay:ed A.drew.drew m ao=D at ac M;have p:Mod (λk=>k=m) A D:=ay▸(qW A.drew.drew m ao).jf.jf;clear ay;go_region;clear ac;have ad:=c.oB;have a6:w.heap.size≠m:=λe=>by have:=h.map.lt;omega
 have a8:w.heap.size≠b:=λe=>by have:=h.cs.lt;omega
 have a_:=((c.cs.mod p ad)).cell 1 (v:=af (R ⟨d,0,U⟩)) rfl;have aB:=C (s.mod p.drew a6:ak D.drew w.heap.size (dn a) 79);have aq:=C (c.tree.frame p.drew (λk G e=>c.own.2.2.2.2 (e▸G)):eD D.drew al d (q.es.map aI.key));have az:=C (c.cs.mod p.drew ad:ak D.drew b (ih m d q r aJ) 215);have ba:=C (mv (k:=a.id) (x:=a) rfl aa);have ag:=C (by have:=aO.cA;simp;omega:(q.es.map aI.key).length<=198);clear aQ Y aS aU aP;go_wp2_with fail;refine nA ?_;go_region_with (first|(go_at_call 212;refine(sW w.heap.size a _ aB).mono ?_;rintro e bb ⟨rfl,N⟩;have a_:=((az.next N).cell 1 (v:=af (R ⟨d,0,U⟩)) rfl);have u:=C N;clear N)|(go_at_call 213;refine(zO al d _ a.key _ (aq.frame (Mod.below (S:=λ_=>False) u) (λ_ _=>id)) ba ag).mono ?_;rintro e aC ⟨rfl,aF,E⟩;have F:=(az.next u).mod E c.own.2.2.2.1;have ae:=(aB.next u).mod E (λg=>by have:=W _ g;omega);have aA:=F.cell 4 (v:=I ah r) rfl;have bp:=F.free 4;have Y:=ae.cell 1 (v:=I ah a.wt) rfl;have aw:=C F;have bc:=C aF;have am:=C E;clear aF E F ae));all_goals
  go_wp2_with fail;refine nA ?_;go_region;go_wp2_with fail;have O:=(Mod.one aC b 4 (I ah (IntKind.u64.wrap (r+(a.wt:Int))))).drew;have bq:w.heap.size<=bb.heap.size:=cJ (Nat.le_of_lt aT) (cJ p.size u.size);have bf:=du.It (S':=c6 S w) (n:=w.heap.size) (ld':=IntKind.u64.wrap (r+(a.wt:Int))) (ov':=aJ) c aa (λk g=>.inl g) (.inr (bM _)) (λg=>by have:=W _ g;omega) a8 (λe bg=>by have:=(h.cC e bg).1.lt;omega) (λk g=>.inr (by omega)) s p.drew M.drew u am bc O (aw.set 4 (I ah (IntKind.u64.wrap (r+(a.wt:Int)))));have aM:Mod S w aC:=((((Mod.below (S:=S) j).trans p.drew (λi _ e=>e▸c.own.2.1)).trans (Mod.below (S:=S) u) (λ_ _ g=>g)).trans am (λi _ g=>c.own.2.2.1 i g));have an:=C (aM.trans O (λi _ e=>e▸c.own.1));clear aM O;refine leaves_cons (f:=209) (args:=#[af (R ⟨b,0,U⟩)]) (by simp) (by simp[go_sem]) ?_;refine(sY _ b _ m d _ aJ _ _ .returning _ bf).mono ?_;rintro e ai br ⟨rfl,rfl,ax,bk⟩;have ap:q.dI a=0:=by unfold aD.dI;rw[z0 (by omega),z0 l,z0 B,z0 o,z0 L]
  refine⟨_,results_tmp rfl _ _ _,by rw[ap];rfl,?_,an.trans bk (λi _ e=>e▸c.own.1)⟩;unfold aD.put;rw[aj ap];exact⟨_,_,_,_,_,_,ax⟩
theorem Iv:(prog.info? 79).map (·.size)=R 4:=by kernel_rfl
theorem oH {p u:Tmp} {T:Nat} {v0 v2 v3 r:Value} (h:fn.results=#[.cell p 79,.tmp u]) (a:tmps.getD p undef=af (R ⟨g,0,U⟩)) (b:tmps.getD u undef=r) (c:w.heap[g]?=R (av #[v0,v1,v2,v3] T (0,0))):(results fn tmps).run au w= .ok (bD #[bm #[v0,v1,v2,v3],r]) w:=by rw[results_cell_tmp h,a,b];simp only[asAddr,Sem.run_pure,Result.andThen_ok];rw[run_loadVar_row w g T 79 _ _ _ c underlying79 rfl Iv];rfl
theorem du.dropped {o l wk r j:ab} {q:aD} {t:Nat} {A ld':Int} {ov':Bool} {c:Int} (h:du o S b q m t A aJ pf al) (s:q.Ok) (u:e∈q.es) (B:Mod (λk=>k=m) o l) (C:ej l m (qX (eR pf q.es) e.id) (q.es.length-1)) (w:Below l.heap.size l wk) (y:Mod al wk r) (D:eD r al t (eO e.key (q.es.map aI.key))) (v:Mod (λk=>k=b) r j) (E:ak j b (ih m t {q with es:=eP e.id q.es,cur:=c} ld' ov') 215):du j S b {q with es:=eP e.id q.es,cur:=c} m t ld' ov' pf al:=by
 have F:∀{p:Nat} {ar:Array Value} {T:TypeId},ak o p ar T->p≠m->¬al p->p≠b->ak j p ar T:=λG H I J=>(((G.mod B H).next w).mod y I).mod v J;refine⟨E,?_,?_,?_,?_,h.own⟩
 ·refine(((C.next w).mod y h.own.2.2.2.2).mod v (Ne.symm h.oB)).congr ?_ ?_
  ·intro k;unfold qX eR;dsimp only;by_cases g:k=e.id;·rw[if_pos g,if_neg];rw[dG];rintro⟨f,d,i⟩;exact(hs.1 d).2 (i.trans g)
   ·rw[if_neg g];have:cK k (eP e.id q.es)=cK k q.es:=by
     rw[hK,dG,dG];constructor;·rintro⟨f,d,i⟩;exact⟨f,(hs.1 d).1,i⟩
     ·rintro⟨f,d,i⟩;exact⟨f,hs.2 ⟨d,by rw[i];exact g⟩,i⟩
    rw[this]
  ·have z:=vS s.sorted (x:=e.key) (e0.2 ⟨e,u,rfl⟩);rw[<-qo s.ids u] at z;simp only[ep] at z;show q.es.length-1=(eP e.id q.es).length;omega
 ·show eD j al t ((eP e.id q.es).map aI.key);rw[qo s.ids u];exact D.frame v (λk K g=>h.own.2.2.2.1 (g▸K))
 ·intro f d;have n:=h.cC f (hs.1 d).1;exact⟨F n.1 (h.em (hs.1 d).1) n.2.2.1 n.2.2.2,n.2⟩
 ·intro f d a L g;exact h.apart f (hs.1 d).1 a (hs.1 L).1 g
theorem du.Iw {q:aD} {t:Nat} {c:Int} (h:du w S b q m t c aJ pf al) (f:∀k,al k->k<w.heap.size):du w (λk=>S k∧k<w.heap.size) b q m t c aJ pf al:=⟨h.cs,h.map,h.tree,λe a=>⟨(h.cC e a).1,⟨(h.cC e a).2.1,(h.cC e a).1.lt⟩,(h.cC e a).2.2⟩,h.apart,⟨h.own.1,h.cs.lt⟩,⟨h.own.2.1,h.map.lt⟩,λk d=>⟨h.own.2.2.1 k d,f k d⟩,h.own.2.2.2⟩
def Ix (S:Nat->Prop) (b:Nat) (q:aD) (k:Int) (w:ab) (e:Ending) (w':ab):Prop:=e=aK (bD #[bm (dn (q.er k)),I J (q.e5 k)])∧ev w' S b (q.drop k)∧Mod S w w'
theorem Iy (S:Nat->Prop) (b:Nat) (q:aD) (k:Int) (w:ab) (h:ev w S b q) (O:q.Ok):Calls au 193 #[af (R ⟨b,0,U⟩),I J k] w (Ix S b q k w):=by
 have bn:=C h;obtain⟨m,o,x,aJ,pf,al,h⟩:=h;replace h:=h.trim;obtain⟨al,am,a6⟩:∃a8,(∀k,a8 k->k<w.heap.size)∧du w S b q m o x aJ pf a8:=⟨_,λk j=>j.2,h⟩;replace h:=a6;obtain⟨D,a_,aq,ba⟩:∃D,(∀k,D k->S k)∧(∀k,D k->k<w.heap.size)∧du w D b q m o x aJ pf al:=⟨_,λk j=>j.1,λk j=>j.2,h.Iw am⟩;replace h:=ba;have ag:=C am;have s:=C a_;have bb:=C aq;clear a6 am a_ aq ba;obtain⟨l,Q⟩:∃l,w.alloc (av #[I J 0,I ah 0,I J 0,I ah 0] 79)=l:=⟨_,rfl⟩;have aM:Below w.heap.size w l:=Q▸bz _ _;have n:=h.frame (Mod.below (S:=λ_=>False) aM) (λ_ _=>id);have aA:=C (show ak l w.heap.size (dn la) 79 from Q▸ak.new w _ _);have aw:=n.cs.cell 0 (v:=.map (R m)) rfl;have bX:=n.cs.lt;have t:=n.map.look underlying212 underlying3 (jZ _) k;have bc:l.heap.size=w.heap.size+1:=by rw[<-Q];simp
 have aj:=C Q;have E:=C bc;have bp:=h.cs.cell 0 (v:=.map (R m)) rfl;have cr:=h.cs.lt;clear Q bc;by_cases p:cK k q.es=true
 ·obtain⟨a,F,j⟩:=dG.1 p;subst j;rw[show eR pf q.es a.id=R (af (R ⟨pf a.id,0,U⟩)) by unfold eR;rw[if_pos p]] at t;simp only[j8] at t;have ac:=C (n.cC a F);have bq:=ac.out.1.cell 0 (v:=I J a.id) rfl;have ai:=ac.out.1.cell 1 (v:=I ah a.wt) rfl;have br:=ac.out.1.cell 2 (v:=I J a.v) rfl;have aE:=ac.out.1.cell 3 (v:=I ah a.rem) rfl;have a0:=C t;rw[<-aj.out] at t;go_enter_defers func193,ntmps193;go_upto_region 4 with fail;clear t bp;have t:=a0.out;rw[aj.out];go_upto_region 5 with fail;clear t;obtain⟨B,ay⟩:∃B,l.alloc (av #[I J a.id,I ah (a.wt:Int),I J a.v,I ah (a.rem:Int)] 79)=B:=⟨_,rfl⟩;rw[ay];have ad:Below l.heap.size l B:=ay▸bz _ _;have bw:=C (show ak B l.heap.size (dn a) 79 from ay▸ak.new l _ _);have G:=C (n.frame (Mod.below (S:=λ_=>False) ad) (λ_ _=>id));have a2:=G.out.cs.cell 0 (v:=.map (R m)) rfl;clear ay bq ai br aE aw;obtain⟨bf,bg,aB⟩:=G.out.map.del (P:=au) underlying212 underlying3 0 a.id;rw[if_neg (show eR pf q.es a.id≠U by unfold eR;rw[if_pos p];simp)] at aB;obtain⟨y,ap⟩:∃y,ed B m bf=y:=⟨_,rfl⟩;rw[ap] at bg aB;have z:Mod (λk=>k=m) B y:=ap▸(qW B m bf);clear ap;go_upto_region 6 with fail;clear bg;have a3:=n.oB;have a4:l.heap.size≠m:=λe=>by have:=h.map.lt;have:=E.out;omega
  have an:=C (show ak y.drew l.heap.size (dn a) 79 from bw.out.mod z.drew a4);have a5:=C (show eD y.drew al o (q.es.map aI.key) from G.out.tree.frame z.drew (λk j e=>n.own.2.2.2.2 (e▸j)));have aO:ak y b (ih m o q x aJ) 215:=G.out.cs.mod z a3;have ax:=C (show ak y.drew b (ih m o q x aJ) 215 from aO);have aK:=aO.cell 1 (v:=af (R ⟨o,0,U⟩)) rfl;have bC:=C (show a.key∈q.es.map aI.key from e0.2 ⟨a,F,rfl⟩);have aR:=C (show(q.es.map aI.key).length<=200 by have:=O.cA;simp;omega);have a9:¬al l.heap.size:=λg=>by have:=ag.out _ g;have:=E.out;omega
  have bG:¬al w.heap.size:=λg=>by have:=ag.out _ g;omega
  have bH:=n.own.2.2.2.1;have bd:=C (show ak y.drew w.heap.size (dn la) 79 from(aA.out.next ad).mod z.drew (λe=>by have:=h.map.lt;omega));clear aO a2;refine nA ?_;go_region_with (first|(go_at_call 212;refine(sW l.heap.size a _ an.out).mono ?_;rintro e cu ⟨rfl,aQ⟩;have aK:=((ax.out.next aQ).cell 1 (v:=af (R ⟨o,0,U⟩)) rfl);have A:=C aQ;clear aQ)|(go_at_call 211;refine(zP al o _ a.key _ (a5.out.frame (Mod.below (S:=λ_=>False) A.out) (λ_ _=>id)) bC.out aR.out).mono ?_;rintro e V ⟨rfl,bk,az⟩;have H:=(ax.out.next A.out).mod az bH;have K:=(an.out.next A.out).mod az a9;have be:=H.cell 4 (v:=I ah x) rfl;have bK:=H.free 4;have W:=H.cell 2 (v:=I J q.cur) rfl;have aC:=H.free 2;have bL:=K.cell 0 (v:=I J a.id) rfl;have aN:=K.cell 1 (v:=I ah a.wt) rfl;have bi:=K.cell 2 (v:=I J a.v) rfl;have bP:=K.cell 3 (v:=I ah a.rem) rfl;have aY:=C H;have bR:=C K;have bl:=C bk;have X:=C az;clear bk az H K));all_goals
   go_upto_region 7 with fail;refine nA ?_;go_region;go_upto_region 8 with fail;clear be bK W aC bL aN bi bP;generalize aS:(V.setCell ⟨b,4,U⟩ (I ah (IntKind.u64.wrap (x-(a.wt:Int))))).drew=u;have L:Mod (λk=>k=b) V u:=aS▸(Mod.one V b 4 _).drew;have M:ak u b (ih m o q (IntKind.u64.wrap (x-(a.wt:Int))) aJ) 215:=aS▸aY.out.set 4 _;have aF:ak u l.heap.size (dn a) 79:=bR.mod L (λe=>by have:=E;omega);have ae:ak u w.heap.size (dn la) 79:=((bd.next A).mod X bG).mod L (λe=>by omega);have W:=M.cell 2 (v:=I J q.cur) rfl;have aC:=M.free 2;clear aS;by_cases aU:q.cur=a.id
   ·rw[aU] at W;obtain⟨Y,N⟩:=aX (u.setCell ⟨b,2,U⟩ (I J (-1)));have Z:Mod (λk=>k=b) V Y:=N▸L.setCell rfl _;have aP:ak Y b (ih m o {q with es:=eP a.id q.es,cur:=-1} (IntKind.u64.wrap (x-(a.wt:Int))) aJ) 215:=N▸M.set 2 _;have r:ak Y l.heap.size (dn a) 79:=N▸aF.other (λe=>by have:=E;omega) _;have c:ak Y w.heap.size (dn la) 79:=N▸ae.other (λe=>by omega) _;clear L M aF ae;have bU:=C N;clear N;go_upto_region 10 with fail;rw[bU.out];have bY:=c.cell 0 (v:=I J 0) rfl;have bZ:=c.cell 1 (v:=I ah 0) rfl;have b2:=c.cell 2 (v:=I J 0) rfl;have bQ:=c.cell 3 (v:=I ah 0) rfl;have bs:=c.free 0;have b9:=c.free 1;have a1:=c.free 2;have bv:=c.free 3;have a7:=r.cell 0 (v:=I J a.id) rfl;have cb:=r.cell 1 (v:=I ah a.wt) rfl;have cf:=r.cell 2 (v:=I J a.v) rfl;have cg:=r.cell 3 (v:=I ah a.rem) rfl;clear r W aC;go_wp2_with fail;refine leaves_cons (f:=209) (args:=#[af (R ⟨b,0,U⟩)]) (by simp) (by simp[go_sem]) ?_;have aT:=du.dropped G O F z.drew aB.drew A X bl Z aP;have aV:=(((c.set 0 (I J a.id)).set 1 (I ah a.wt)).set 2 (I J a.v)).set 3 (I ah a.rem);have aa:=(((Mod.one Y w.heap.size 0 (I J a.id)).setCell (i:=1) rfl (I ah a.wt)).setCell (i:=2) rfl (I J a.v)).setCell (i:=3) rfl (I ah a.rem);refine(sY D b _ m o _ aJ _ _ .returning _ (aT.frame aa (λk j e=>by have:=bb k j;omega))).mono ?_;rintro e ch cj ⟨rfl,rfl,aZ,ao⟩;refine⟨_,oH (g:=w.heap.size) (T:=79) rfl rfl rfl (aV.mod ao (λe=>by omega)),?_,?_,?_⟩;·unfold aD.er aD.e5;rw[qn O.ids F,if_pos p];rfl
    ·unfold aD.drop;rw[if_pos p,if_pos aU];exact ev.mono ⟨_,_,_,_,_,_,aZ⟩ (λk _ j=>s k j)
    ·have cn:=E;exact((((((((Mod.below (S:=S) aM).trans (Mod.below (S:=S) ad) (λ_ _ g=>g)).trans z.drew (λi _ e=>e▸s.out _ n.own.2.1)).trans (Mod.below (S:=S) A) (λ_ _ g=>g)).trans X (λi _ g=>s _ (n.own.2.2.1 i g))).trans Z (λi _ e=>e▸s.out _ n.own.1)).trans aa (λi b5 e=>by omega)).trans ao (λi _ e=>e▸s.out _ n.own.1))
   ·have Z:Mod (λk=>k=b) V u:=L;have aP:ak u b (ih m o {q with es:=eP a.id q.es,cur:=q.cur} (IntKind.u64.wrap (x-(a.wt:Int))) aJ) 215:=M;have r:ak u l.heap.size (dn a) 79:=aF;have c:ak u w.heap.size (dn la) 79:=ae;clear L M aF ae;go_upto_region 10 with fail;have bY:=c.cell 0 (v:=I J 0) rfl;have bZ:=c.cell 1 (v:=I ah 0) rfl;have b2:=c.cell 2 (v:=I J 0) rfl;have bQ:=c.cell 3 (v:=I ah 0) rfl;have bs:=c.free 0;have b9:=c.free 1;have a1:=c.free 2;have bv:=c.free 3;have a7:=r.cell 0 (v:=I J a.id) rfl;have cb:=r.cell 1 (v:=I ah a.wt) rfl;have cf:=r.cell 2 (v:=I J a.v) rfl;have cg:=r.cell 3 (v:=I ah a.rem) rfl;clear r W aC;go_wp2_with fail;refine leaves_cons (f:=209) (args:=#[af (R ⟨b,0,U⟩)]) (by simp) (by simp[go_sem]) ?_;have aT:=du.dropped G O F z.drew aB.drew A X bl Z aP;have aV:=(((c.set 0 (I J a.id)).set 1 (I ah a.wt)).set 2 (I J a.v)).set 3 (I ah a.rem);have aa:=(((Mod.one u w.heap.size 0 (I J a.id)).setCell (i:=1) rfl (I ah a.wt)).setCell (i:=2) rfl (I J a.v)).setCell (i:=3) rfl (I ah a.rem);refine(sY D b _ m o _ aJ _ _ .returning _ (aT.frame aa (λk j e=>by have:=bb k j;omega))).mono ?_;rintro e ch cj ⟨rfl,rfl,aZ,ao⟩;refine⟨_,oH (g:=w.heap.size) (T:=79) rfl rfl rfl (aV.mod ao (λe=>by omega)),?_,?_,?_⟩;·unfold aD.er aD.e5;rw[qn O.ids F,if_pos p];rfl
    ·unfold aD.drop;rw[if_pos p,if_neg aU];exact ev.mono ⟨_,_,_,_,_,_,aZ⟩ (λk _ j=>s k j)
    ·have cn:=E;exact((((((((Mod.below (S:=S) aM).trans (Mod.below (S:=S) ad) (λ_ _ g=>g)).trans z.drew (λi _ e=>e▸s.out _ n.own.2.1)).trans (Mod.below (S:=S) A) (λ_ _ g=>g)).trans X (λi _ g=>s _ (n.own.2.2.1 i g))).trans Z (λi _ e=>e▸s.out _ n.own.1)).trans aa (λi b5 e=>by omega)).trans ao (λi _ e=>e▸s.out _ n.own.1))
 ·rw[show eR pf q.es k=U by unfold eR;rw[if_neg p]] at t;simp only[p_] at t;rw[<-aj.out] at t;clear aw;go_enter_defers func193,ntmps193;go_wp2_with fail;have cp:q.drop k=q:=by unfold aD.drop;rw[if_neg p]
  refine⟨_,oH (g:=w.heap.size) (T:=79) rfl rfl rfl (ak.new w _ _),?_,?_,Mod.below (bz _ _)⟩
  ·unfold aD.er aD.e5
   rw[if_neg p,show gV k q.es=U by
    cases bB:gV k q.es with
    |none=>rfl
    |some d=>exact absurd (by unfold cK;rw[bB];rfl) p];rfl
  ·rw[cp];exact bn.next (bz _ _)
theorem du.Iz {i:ab} {q:aD} {t:Nat} {r ld':Int} (h:du w S b q m t r aJ pf al) (s:q.Ok) (j:e∈q.es) (p:Mod (λk=>k=b∨k=pf e.id) w i) (u:ak i b (ih m t q ld' aJ) 215) (v:ak i (pf e.id) (dn (e.bV n)) 79):du i S b {q with es:=q.es.map λc=>if c.id=e.id then c.bV n else c} m t ld' aJ pf al:=by
 have l:∀c:aI,(if c.id=e.id then c.bV n else c).id=c.id:=λc=>by split<;>rfl
 have z:∀c:aI,(if c.id=e.id then c.bV n else c).key=c.key:=λc=>by split<;>rfl
 have A:∀k,cK k (q.es.map λc=>if c.id=e.id then c.bV n else c)=cK k q.es:=by
  intro k;rw[hK,dG,dG];constructor;·rintro⟨x,o,f⟩;obtain⟨c,d,rfl⟩:=e0.1 o;exact⟨c,d,(l c).symm.trans f⟩
  ·rintro⟨c,d,f⟩;exact⟨_,e0.2 ⟨c,d,rfl⟩,(l c).trans f⟩
 refine⟨u,?_,?_,?_,?_,h.own⟩;·refine(h.map.mod p (λg=>g.elim (λg=>h.oB g.symm) (λg=>h.em j g.symm))).congr (λk=>?_) (by simp);unfold eR;dsimp only;rw[A]
 ·show eD i al t ((q.es.map _).map aI.key);rw[List.map_map,show(aI.key∘λc=>if c.id=e.id then c.bV n else c)=aI.key from funext z];exact h.tree.frame p (λk f g=>g.elim (λg=>h.own.2.2.2.1 (g▸f)) (λg=>(h.cC e j).2.2.1 (g▸f)))
 ·intro x o;obtain⟨c,d,rfl⟩:=e0.1 o;rw[l];by_cases g:c.id=e.id;·rw[aj g,uR s.ids d j g];exact⟨v,(h.cC e j).2⟩
  ·rw[z0 g];exact⟨(h.cC c d).1.mod p (λq=>q.elim (h.cC c d).2.2.2 (λq=>g (h.apart c d e j q))),(h.cC c d).2⟩
 ·intro x o y B g;obtain⟨c,d,rfl⟩:=e0.1 o;obtain⟨a,C,rfl⟩:=e0.1 B;rw[l,l] at g⊢;exact h.apart c d a C g
def IA (S:Nat->Prop) (b:Nat) (q:aD) (k:Int) (n:Nat) (w:ab) (e:Ending) (w':ab):Prop:=e=aK (I J (q.fP k n))∧ev w' S b (q.bV k n)∧Mod S w w'
theorem IB (S:Nat->Prop) (b:Nat) (q:aD) (k:Int) (n:Nat) (w:ab) (h:ev w S b q) (F:q.Ok):Calls au 149 #[af (R ⟨b,0,U⟩),I J k,I ah (n:Int)] w (IA S b q k n w):=by
 have P:=C h;have ay:=C F;obtain⟨m,Q,u,aJ,pf,al,h⟩:=h;have y:=C h;have aP:=h.cs.cell 0 (v:=.map (R m)) rfl;have o:=h.map.look underlying212 underlying3 (jZ _) k;by_cases f:cK k q.es=true;·obtain⟨a,d,G⟩:=dG.1 f;subst G;rw[show eR pf q.es a.id=R (af (R ⟨pf a.id,0,U⟩)) by unfold eR;rw[aj f]] at o;simp only[j8] at o;cases hw:lQ n with
  |false=>have z:=C hw;clear h d;go_enter func149,ntmps149;go_wp2_with fail;refine(sV n _).mono ?_;rintro e i ⟨rfl,rfl⟩;rw[z.out];go_wp2_with fail;go_ret;have c:q.fP a.id n=4:=(by unfold aD.fP;rw[aj f,hw];rfl);exact⟨by rw[c];rfl,by unfold aD.bV;rw[z0 (by rw[c];decide)];exact P,Mod.refl _ _⟩
  |true=>have z:=C hw;have H:=C (h.cC a d);have T:=C d;have aT:=h.cs.lt;have aV:=(h.cC a d).1.lt;have K:pf a.id≠b:=(h.cC a d).2.2.2;have L:=H.1.cell 1 (v:=I ah a.wt) rfl;have V:=H.1.cell 3 (v:=I ah a.rem) rfl;have A:=C (by have g:=F.rt a d;have:=qp.1 hw;have ad:a.rem*n<=262144*262144:=qc (by omega) (by omega);exact⟨by omega,by omega,by omega,by omega⟩:a.rem<18446744073709551616∧n<18446744073709551616∧a.rem*n<18446744073709551616∧0<a.wt);have W:=C (oA a.rem n a.wt A.1 A.2.1 A.2.2.1 A.2.2.2);obtain⟨p,M⟩:∃p,a.rem*n/a.wt=p:=⟨_,rfl⟩;obtain⟨r,X⟩:∃r,a.rem*n%a.wt=r:=⟨_,rfl⟩;rw[M,X] at W;have aB:=C M;clear h d hw F M X;go_enter func149,ntmps149;go_wp2_with fail;refine(sV n _).mono ?_;rintro e i ⟨rfl,rfl⟩;rw[z.out];go_upto_region 6 with fail;clear o;go_region_with (first|(go_at_call 102;refine(W _).mono ?_;rintro e az ⟨rfl,N⟩;have B:=ak.next (w:=i.drew) H.1 N;have V:=B.cell 3 (v:=I ah a.rem) rfl;have aC:=B.free 3;have aF:=C B;have Y:=C N;clear N B));all_goals clear L;go_upto_region 7 with fail;obtain⟨j,s⟩:∃j,az.setCell ⟨pf a.id,3,U⟩ (I ah (p:Int))=j:=⟨_,rfl⟩;rw[s];have Z:Mod (λk=>k=b∨k=pf a.id) i j:=s▸(Mod.below (S:=λk=>k=b∨k=pf a.id) (x:=i.drew) Y).jf.setCell (.inr rfl) _;have O:ak j (pf a.id) (dn {a with rem:=p}) 79:=s▸aF.out.set 3 _;have D:ak j b (ih m Q q u aJ) 215:=s▸(ak.next (w:=i.drew) y.cs Y).other (Ne.symm K) _;have L:=O.cell 1 (v:=I ah a.wt) rfl;have ae:=D.cell 4 (v:=I ah u) rfl;have am:=D.free 4;have aM:=C Z;have ap:=C O;have aO:=C D;clear s Z O D V aC;go_region;go_upto_region 8 with fail;obtain⟨l,t⟩:∃l,(j.setCell ⟨b,4,U⟩ (I ah (IntKind.u64.wrap (u+IntKind.u64.wrap ((n:Int)-(a.wt:Int)))))).drew=l:=⟨_,rfl⟩;rw[t];have aa:Mod (λk=>k=b∨k=pf a.id) i l:=t▸(aM.setCell (.inl rfl) _).drew;have E:ak l (pf a.id) (dn {a with rem:=p}) 79:=t▸ap.out.other K _;have ao:ak l b (ih m Q q (IntKind.u64.wrap (u+IntKind.u64.wrap ((n:Int)-(a.wt:Int)))) aJ) 215:=t▸aO.out.set 4 _;have L:=E.cell 1 (v:=I ah a.wt) rfl;have ad:=E.free 1;have ac:=C aa;have aQ:=C E;have aS:=C ao;clear t aa E ao ae am;go_wp2_with fail;go_ret;have c:q.fP a.id n=0:=(by unfold aD.fP;rw[aj f,z.out];rfl);have aU:=du.Iz y ay T (n:=n) (ac.setCell (.inr rfl) _) (aS.other (Ne.symm K) _) (by have:=aQ.set 1 (I ah (n:Int));unfold aI.bV;rw[aB.out];exact this:ak (l.setCell ⟨pf a.id,1,U⟩ (I ah (n:Int))) (pf a.id) (dn (a.bV n)) 79);refine⟨by rw[c];rfl,?_,(ac.setCell (.inr rfl) _).mono (λk _ G=>G.elim (λg=>g▸y.out.own.1) (λg=>g▸(y.cC a T).2.1))⟩;unfold aD.bV;rw[aj c];exact⟨_,_,_,_,_,_,aU⟩
 ·rw[show eR pf q.es k=U by unfold eR;rw[z0 f]] at o;simp only[p_] at o;clear h;go_enter func149,ntmps149;go_wp2_with fail;go_ret;have c:q.fP k n=12:=by unfold aD.fP;rw[z0 f]
  exact⟨by rw[c];rfl,by unfold aD.bV;rw[z0 (by rw[c];decide)];exact P,Mod.refl _ _⟩
theorem IC (S:Nat->Prop) (b:Nat) (q:aD) (w:ab) (h:ev w S b q):Calls au 79 #[af (R ⟨b,0,U⟩)] w λe w'=>e=aK (I J q.cur)∧w'=w:=by obtain⟨m,a,c,aJ,pf,al,h⟩:=h;have d:=h.cs.cell 2 (v:=I J q.cur) rfl;clear h;go_enter func79,ntmps79;go_wp2;go_ret;exact⟨rfl,rfl⟩
theorem ID (S:Nat->Prop) (b:Nat) (q:aD) (w:ab) (h:ev w S b q):Calls au 132 #[af (R ⟨b,0,U⟩)] w λe w'=>e=aK (I J q.mn)∧w'=w:=by obtain⟨m,a,c,aJ,pf,al,h⟩:=h;have d:=h.cs.cell 3 (v:=I J q.mn) rfl;clear h;go_enter func132,ntmps132;go_wp2;go_ret;exact⟨rfl,rfl⟩
theorem AK (j k:Nat) (a c:aI) (b:Int) (w:ab) (d:ak w j (dn a) 79) (f:ak w k (dn c) 79):Calls au 202 #[af (R ⟨j,0,U⟩),af (R ⟨k,0,U⟩),I J b] w λe w'=>e=aK (aE (n_ a c b))∧Below w.heap.size w w':=by
 have p:=d.cell 2 (v:=I J a.v) rfl;have u:=f.cell 2 (v:=I J c.v) rfl;have y:=d.lt;have z:=f.lt;obtain⟨l,g⟩:=aX (n9 b 0 1099511627776);obtain⟨q,h⟩:=aX (kd c.v l);have m:n_ a c b=decide (a.v<=q):=by unfold n_;rw[g,h]
 rw[m];have n:=C (_f b 0 1099511627776);rw[g] at n;have o:=C (sK c.v l);rw[h] at o;have r:=C d;clear d f m g h;go_enter func202,ntmps202;go_wp2_with fail;go_region_with (first|(go_at_call 197;refine(n _).mono ?_;rintro e s ⟨rfl,rfl⟩)|(go_at_call 162;refine(o _).mono ?_;rintro e s ⟨rfl,i⟩;have p:=(ak.next (w:=w.drew) r i).cell 2 (v:=I J a.v) rfl;have t:=C i;clear i));all_goals go_wp2_with fail;go_ret;refine⟨?_,((Mod.below (S:=λ_=>False) (x:=w.drew) t).jf).toBelow⟩;first
  |rfl
  |simp_all
theorem IE {l:List Key} (h:gU (k::l)):hd k (k::l)=l.head?:=by
 have b:=o7.1 h;unfold hd;rw[List.find?_cons_of_neg (by simp only[decide_eq_true_eq];exactλg=>Key.jK g rfl)];cases l with
 |nil=>rfl
 |cons a l=>rw[List.find?_cons_of_pos (by simpa using b.1 a ey)];rfl
def oI (pf:Int->Nat):Option aI->Value
 |none=>af U
 |some o=>af (R ⟨pf o.id,0,U⟩)
def q9 (pf:Int->Nat) (o:Option aI) (w:ab) (e:Ending) (w':ab):Prop:=e=aK (oI pf o)∧Below w.heap.size w w'
theorem IF (S:Nat->Prop) (b:Nat) (q:aD) (m t:Nat) (i:Int) (aJ:Bool) (pf:Int->Nat) (al:Nat->Prop) (w:ab) (h:du w S b q m t i aJ pf al) (a:q.es=[]):Calls au 201 #[af (R ⟨b,0,U⟩)] w (q9 pf q.first w):=by
 have d:q.first=U:=by unfold aD.first;rw[a]
 rw[d];have k:=h.cs.cell 1 (v:=af (R ⟨t,0,U⟩)) rfl;have c:=h.tree;rw[a] at c;have j:=C (Ao al t w c);clear c a d h;go_enter func201,ntmps201;go_wp2_with fail;refine j.mono ?_;rintro e l ⟨rfl,f⟩;have g:=C f;clear f;unfold dT;go_wp2_with fail;go_region;go_wp2_with fail;go_ret;exact⟨rfl,(g.alloc g.size _).drew⟩
theorem IG (S:Nat->Prop) (b:Nat) (q:aD) (m t:Nat) (j:Int) (aJ:Bool) (pf:Int->Nat) (al:Nat->Prop) (w:ab) (h:du w S b q m t j aJ pf al) (a:aI) (l:List aI) (d:q.es=a::l) (k:a.id≠q.cur):Calls au 201 #[af (R ⟨b,0,U⟩)] w (q9 pf q.first w):=by
 have g:q.first=R a:=by unfold aD.first;rw[d];simp[k]
 rw[g];have n:=h.cs.cell 1 (v:=af (R ⟨t,0,U⟩)) rfl;have o:=h.cs.lt;have f:=h.tree;rw[d] at f;have p:=C (wj al t a.key (l.map aI.key) w f);have r:=C (by unfold eR;rw[if_pos (dG.2 ⟨a,by rw[d];exact ey,rfl⟩)]:eR pf q.es a.id=R (af (R ⟨pf a.id,0,U⟩)));clear f d g;go_enter func201,ntmps201;go_wp2_with fail;refine p.mono ?_;rintro e s ⟨rfl,c⟩;have u:=dm o c.size;have x:=(h.cs.next c).cell 0 (v:=.map (R m)) rfl;have y:=(h.cs.next c).cell 2 (v:=I J q.cur) rfl;clear n;unfold dT;rw[show a.key.v=a.v from rfl,show a.key.id=a.id from rfl];go_wp2_with fail;go_region;go_wp2_with fail;have i:=(((h.map.next c).next (bz s (.cells #[.int .i64 a.v,.int .i64 a.id] 218))).drew.drew).look underlying212 underlying3 (jZ _) a.id;rw[r.out] at i;simp only[j8] at i;go_region;go_wp2_with fail;go_ret;exact⟨rfl,((c.alloc c.size _).drew).drew⟩
theorem IH (S:Nat->Prop) (b:Nat) (q:aD) (m t:Nat) (P:Int) (aJ:Bool) (pf:Int->Nat) (al:Nat->Prop) (w:ab) (h:du w S b q m t P aJ pf al) (Q:q.Ok) (c:aI) (l:List aI) (z:q.es=c::l) (A:c.id=q.cur):Calls au 201 #[af (R ⟨b,0,U⟩)] w (q9 pf q.first w):=by
 have G:q.first=l.head?:=by unfold aD.first;rw[z];simp[A]
 rw[G];have T:=h.cs.cell 1 (v:=af (R ⟨t,0,U⟩)) rfl;have V:=h.cs.lt;have B:=h.tree;have D:=Q.sorted;rw[z] at B D;have W:=C (wj al t c.key (l.map aI.key) w B);have X:=C (IE D);clear D G;go_enter func201,ntmps201;go_wp2_with fail;refine W.out.mono ?_;rintro e d ⟨rfl,i⟩;have ad:=dm V i.size;have Y:=(h.cs.next i).cell 1 (v:=af (R ⟨t,0,U⟩)) rfl;have H:=(h.cs.next i).cell 2 (v:=I J q.cur) rfl;rw[<-A] at H;clear T;unfold dT;rw[show c.key.v=c.v from rfl,show c.key.id=c.id from rfl];go_wp2_with fail;go_region;go_wp2_with fail;obtain⟨j,n⟩:∃j,d.alloc (av #[I J c.v,I J q.cur] 218)=j:=⟨_,rfl⟩;rw[n];have o:Below w.heap.size w j:=n▸i.alloc i.size _;have p:ak j d.heap.size #[I J c.v,I J q.cur] 218:=n▸ak.new d _ _;have K:=h.cs.next o;have Y:=K.cell 1 (v:=af (R ⟨t,0,U⟩)) rfl;have aB:=p.cell 0 (v:=I J c.v) rfl;have az:=p.cell 1 (v:=I J q.cur) rfl;have E:=C (show ak j.drew.drew d.heap.size #[I J c.v,I J q.cur] 218 from p);have r:=C (HU al t _ ⟨c.v,q.cur⟩ j.drew.drew ((B.frame (Mod.below (S:=λ_=>False) o) (λ_ _=>id)).frame (Mod.refl (λ_=>False) j).drew.drew (λ_ _=>id)));have L:=C (show(⟨c.v,q.cur⟩:Key)=c.key by rw[<-A];rfl);rw[j9,L.out,X.out] at r;clear p K n H;rw[<-L.out] at r;cases l with
 |nil=>go_region_with (first|(go_at_call 234;refine(r.out).mono ?_;rintro e M ⟨rfl,k⟩;have f:=E.out.next k;have Z:=f.cell 0 (v:=I J c.v) rfl;have aa:=f.cell 1 (v:=I J q.cur) rfl;have ao:=f.free 0;have ac:=f.free 1;have s:=C k;clear k f;simp only[List.map_nil,j9,List.head?_nil,List.head?_cons,p_,j8,Option.isSome_none,Option.isSome_some];unfold dT;try simp only[aI.key]));all_goals go_wp2_with fail;go_ret;exact⟨rfl,((((Mod.below (S:=λ_=>False) o).trans ((Mod.below (S:=λ_=>False) (x:=j.drew.drew) s.out).jf.jf) (λ_ _ g=>g)).fw (b:=d.heap.size) i.size _).fw (b:=d.heap.size) i.size _).toBelow⟩
 |cons a l'=>go_region_with (first|(go_at_call 234;refine(r).mono ?_;rintro e M ⟨rfl,k⟩;have f:=E.next k;have Z:=f.cell 0 (v:=I J c.v) rfl;have aa:=f.cell 1 (v:=I J q.cur) rfl;have ao:=f.free 0;have ac:=f.free 1;have s:=C k;clear k f;simp only[List.map_nil,j9,List.head?_nil,List.head?_cons,p_,j8,Option.isSome_none,Option.isSome_some];unfold dT;try simp only[aI.key]));all_goals obtain⟨u,F⟩:∃u,(M.setCell ⟨d.heap.size,0,U⟩ (I J a.v)).setCell ⟨d.heap.size,1,U⟩ (I J a.id)=u:=⟨_,rfl⟩;go_upto_region 6 with fail;have y:Below w.heap.size w u:=F▸((((Mod.below (S:=λ_=>False) o).trans ((Mod.below (S:=λ_=>False) (x:=j.drew.drew) s).jf.jf) (λ_ _ g=>g)).fw (b:=d.heap.size) i.size _).fw (b:=d.heap.size) i.size _).toBelow;have N:ak u d.heap.size #[I J a.v,I J a.id] 218:=F▸((E.next s).set 0 (I J a.v)).set 1 (I J a.id);have aC:=(h.cs.next y).cell 0 (v:=.map (R m)) rfl;have aF:=N.cell 1 (v:=I J a.id) rfl;have O:=(h.map.next y).drew.look underlying212 underlying3 (jZ _) a.id;rw[show eR pf q.es a.id=R (af (R ⟨pf a.id,0,U⟩)) by unfold eR;rw[if_pos (dG.2 ⟨a,by rw[z];exact gD _ ey,rfl⟩)]] at O;simp only[j8] at O;have ay:=C y;clear y N F;go_region;go_wp2_with fail;go_ret;exact⟨rfl,ay.drew⟩
theorem AL (S:Nat->Prop) (b:Nat) (q:aD) (m t:Nat) (a:Int) (aJ:Bool) (pf:Int->Nat) (al:Nat->Prop) (w:ab) (h:du w S b q m t a aJ pf al) (f:q.Ok):Calls au 201 #[af (R ⟨b,0,U⟩)] w (q9 pf q.first w):=by
 cases c:q.es with
 |nil=>exact IF S b q m t a aJ pf al w h c
 |cons d l=>
  by_cases e:d.id=q.cur;·exact IH S b q m t a aJ pf al w h f d l c e
  ·exact IG S b q m t a aJ pf al w h d l c e
theorem du.below {w w':ab} {S:Nat->Prop} {b:Nat} {q:aD} {m t:Nat} {a:Int} {aJ:Bool} {pf:Int->Nat} {al:Nat->Prop} (h:du w S b q m t a aJ pf al) (c:Below w.heap.size w w'):du w' S b q m t a aJ pf al:=h.frame (Mod.below (S:=λ_=>False) c) (λ_ _=>id)
theorem wB {l:List aI} {k:Int} (h:gV k l=R e):eR pf l k=R (af (R ⟨pf e.id,0,U⟩)):=by obtain⟨b,a⟩:=ld h;unfold eR;rw[aj (dG.2 ⟨e,b,a⟩),a]
theorem AM {l:List aI} {k:Int} (h:gV k l=U):eR pf l k=U:=by unfold eR cK;rw[h];rfl
def AN (S:Nat->Prop) (b:Nat) (a:aD) (w:ab) (e:Ending) (w':ab):Prop:=e=aK (I J a.cur)∧ev w' S b a∧Mod S w w'
theorem s9 (S:Nat->Prop) (b:Nat) (q:aD) (g:Int) (w:ab) (h:ev w S b q) (r:q.Ok):Calls au 178 #[af (R ⟨b,0,U⟩),I J g] w (AN S b (q.pick g) w):=by
 obtain⟨m,P,Q,aJ,pf,al,h⟩:=h;have d:=C h;have Z:=C r;have s:=C (AL S b q m P Q aJ pf al w h r);have y:=h.cs.lt;cases j:q.first with
 |none=>
  have k:q.pick g=q:=by unfold aD.pick;rw[j]
  rw[j] at s;rw[k];clear h r;go_enter func178,ntmps178;go_wp2_with fail;refine s.mono ?_;rintro e B ⟨rfl,a⟩;unfold oI;have f:=C a;have D:=dm y a.size;have E:=(d.cs.next a).cell 0 (v:=.map (R m)) rfl;have A:=(d.cs.next a).cell 2 (v:=I J q.cur) rfl;have l:=(d.map.next a).drew.look underlying212 underlying3 (jZ _) q.cur;clear a;go_wp2_with fail;go_region;go_wp2_with fail;go_ret;exact⟨rfl,⟨_,_,_,_,_,_,d.below f.drew⟩,Mod.below f.drew⟩
 |some o=>
  have F:=aD.ob j;have G:=C (h.cC o F);rw[j] at s;cases n:gV q.cur q.es with
  |none=>have k:q.pick g={q with cur:=o.id}:=(by unfold aD.pick;rw[j];dsimp only;rw[n]);have H:=C (AM (pf:=pf) n);rw[k];clear h r F j n k;go_enter func178,ntmps178;go_wp2_with fail;refine s.mono ?_;rintro e B ⟨rfl,a⟩;unfold oI;have f:=C a;have D:=dm y a.size;have E:=(d.cs.next a).cell 0 (v:=.map (R m)) rfl;have A:=(d.cs.next a).cell 2 (v:=I J q.cur) rfl;have T:=(d.cs.next a).free 2;have V:=(G.1.next a).cell 0 (v:=I J o.id) rfl;have l:=(d.map.next a).drew.look underlying212 underlying3 (jZ _) q.cur;rw[H.out] at l;simp only[p_] at l;clear a;go_wp2_with fail;go_region;go_wp2_with fail;go_ret;have t:=(Mod.one B.drew b 2 (I J o.id));refine⟨rfl,⟨_,_,_,_,_,_,(d.below f.drew).sX t ((d.cs.next f.drew).set 2 _) rfl⟩,(Mod.below f.drew).trans t (λi _ e=>e▸d.out.own.1)⟩
  |some c=>
   obtain⟨L,W⟩:=ld n;have X:=C (h.cC c L);have H:=C (wB (pf:=pf) n);obtain⟨v,K⟩:=aX (n_ c o g);have k:q.pick g=if v then q else {q with cur:=o.id}:=(by unfold aD.pick;rw[j];dsimp only;rw[n];dsimp only;rw[K]);have Y:=C K;generalize u:q.pick g=z at k⊢;have M:=C k;clear h r F j n k L W K u;go_enter func178,ntmps178;go_wp2_with fail;refine s.mono ?_;rintro e B ⟨rfl,a⟩;unfold oI;have f:=C a;have D:=dm y a.size;have E:=(d.cs.next a).cell 0 (v:=.map (R m)) rfl;have A:=(d.cs.next a).cell 2 (v:=I J q.cur) rfl;have l:=(d.map.next a).drew.look underlying212 underlying3 (jZ _) q.cur;rw[H.out] at l;simp only[j8] at l;clear a;go_wp2_with fail;go_region;clear l E A;go_wp2_with fail;refine(AK (pf c.id) (pf o.id) c o g _ (X.1.next f.drew) (G.1.next f.drew)).mono ?_;rintro e N ⟨rfl,O⟩;rw[Y.out];have p:Below w.heap.size w N:=f.drew.trans (O.mono f.size);have D:=dm y p.size;have A:=(d.cs.next p).cell 2 (v:=I J q.cur) rfl;have T:=(d.cs.next p).free 2;have V:=(G.1.next p).cell 0 (v:=I J o.id) rfl;have x:=C p;clear O p;cases v;·go_wp2_with fail;go_ret;have u:z={q with cur:=o.id}:=M;subst u;have t:=(Mod.one N b 2 (I J o.id));refine⟨rfl,⟨_,_,_,_,_,_,(d.below x).sX t ((d.cs.next x).set 2 _) rfl⟩,(Mod.below x).trans t (λi _ e=>e▸d.out.own.1)⟩
   ·go_wp2_with fail;go_ret;have u:z=q:=M;subst u;exact⟨rfl,⟨_,_,_,_,_,_,d.below x⟩,Mod.below x⟩
theorem II (S:Nat->Prop) (b:Nat) (q:aD) (f:Int) (w:ab) (h:ev w S b q) (B:q.Ok):Calls au 154 #[af (R ⟨b,0,U⟩),I J f] w (AN S b (q.yield f) w):=by
 have N:=C B;obtain⟨m,ac,ay,aJ,pf,al,h⟩:=h;have d:=C h;have t:=C (AL S b q m ac ay aJ pf al w h B);have H:=h.cs.lt;cases r:gV q.cur q.es with
 |none=>
  have n:q.yield f=q.pick f:=by unfold aD.yield;rw[r];cases q.first<;>rfl
  have K:=C (AM (pf:=pf) r);rw[n];generalize k:q.pick f=u;have D:=C k;clear h B r n k;obtain⟨o,j⟩:=aX (oI pf q.first);unfold q9 at t;rw[j] at t;have ad:o=af U∨∃x,o=af (R ⟨x,0,U⟩):=by
   rw[<-j];cases q.first with
   |none=>exact .inl rfl
   |some y=>exact .inr ⟨_,rfl⟩
  clear j;go_enter func154,ntmps154;go_wp2_with fail;refine t.mono ?_;rintro e V ⟨rfl,a⟩;have l:=C a;have O:=dm H a.size;have P:=(d.cs.next a).cell 0 (v:=.map (R m)) rfl;have L:=(d.cs.next a).cell 2 (v:=I J q.cur) rfl;have p:=(d.map.next a).drew.look underlying212 underlying3 (jZ _) q.cur;rw[K.out] at p;simp only[p_] at p;clear a;rcases ad with rfl|⟨x,rfl⟩;all_goals go_wp2_with fail;go_region;go_wp2_with fail;refine(s9 S b q f _ ⟨_,_,_,_,_,_,d.below l.drew⟩ N).mono ?_;rintro e M ⟨rfl,s,E⟩;rw[D.out] at s⊢;go_wp2_with fail;go_ret;exact⟨rfl,s,(Mod.below l.drew).trans E (λ_ _ g=>g)⟩
 |some c=>
  obtain⟨Q,W⟩:=ld r;have aB:=C (h.cC c Q);have K:=C (wB (pf:=pf) r);cases j:q.first with
  |none=>have n:q.yield f=q.pick f:=(by unfold aD.yield;rw[j]);rw[n];obtain⟨u,k⟩:∃u,q.pick f=u:=⟨_,rfl⟩;rw[k];have D:=C k;rw[j] at t;clear h B r n k Q W j;go_enter func154,ntmps154;go_wp2_with fail;refine t.mono ?_;rintro e V ⟨rfl,a⟩;unfold oI;have l:=C a;have O:=dm H a.size;have P:=(d.cs.next a).cell 0 (v:=.map (R m)) rfl;have L:=(d.cs.next a).cell 2 (v:=I J q.cur) rfl;have p:=(d.map.next a).drew.look underlying212 underlying3 (jZ _) q.cur;rw[K.out] at p;simp only[j8] at p;clear a;go_wp2_with fail;go_region;go_wp2_with fail;refine(s9 S b q f _ ⟨_,_,_,_,_,_,d.below l.drew⟩ N).mono ?_;rintro e M ⟨rfl,s,E⟩;rw[D.out] at s⊢;go_wp2_with fail;go_ret;exact⟨rfl,s,(Mod.below l.drew).trans E (λ_ _ g=>g)⟩
  |some o=>
   have X:=aD.ob j;have Y:=C (h.cC o X);rw[j] at t;obtain⟨v,T⟩:=aX (n_ o c f);obtain⟨u,k⟩:=aX (q.pick f);have n:q.yield f=if v then {q with cur:=o.id} else u:=(by unfold aD.yield;rw[j,r];dsimp only;rw[T,k]);have az:=C T;have D:=C k;generalize F:q.yield f=z at n⊢;have Z:=C n;clear h B X j r n Q W T k F;go_enter func154,ntmps154;go_wp2_with fail;refine t.mono ?_;rintro e V ⟨rfl,a⟩;unfold oI;have l:=C a;have O:=dm H a.size;have P:=(d.cs.next a).cell 0 (v:=.map (R m)) rfl;have L:=(d.cs.next a).cell 2 (v:=I J q.cur) rfl;have p:=(d.map.next a).drew.look underlying212 underlying3 (jZ _) q.cur;rw[K.out] at p;simp only[j8] at p;clear a;go_wp2_with fail;go_region;clear p P L;go_wp2_with fail;refine(AK (pf o.id) (pf c.id) o c f _ (Y.1.next l.drew) (aB.1.next l.drew)).mono ?_;rintro e M ⟨rfl,aa⟩;rw[az.out];have A:Below w.heap.size w M:=l.drew.trans (aa.mono l.size);have O:=dm H A.size;have L:=(d.cs.next A).cell 2 (v:=I J q.cur) rfl;have aC:=(d.cs.next A).free 2;have aF:=(Y.1.next A).cell 0 (v:=I J o.id) rfl;have G:=C A;clear aa A;cases v;·go_wp2_with fail;refine(s9 S b q f _ ⟨_,_,_,_,_,_,d.below G⟩ N).mono ?_;rintro e ae ⟨rfl,s,E⟩;rw[D.out] at s⊢;go_wp2_with fail;go_ret;have F:z=u:=Z;subst F;exact⟨rfl,s,(Mod.below G).trans E (λ_ _ g=>g)⟩
   ·go_wp2_with fail;go_ret;have F:z={q with cur:=o.id}:=Z;subst F;have ao:=(Mod.one M b 2 (I J o.id));exact⟨rfl,⟨_,_,_,_,_,_,(d.below G).sX ao ((d.cs.next G).set 2 _) rfl⟩,(Mod.below G).trans ao (λi _ e=>e▸d.out.own.1)⟩
def l6:cm Key:=⟨2,λx=>[I J x.v,I J x.id],λ_=>rfl,λ_ u h=>by simp at h;rcases h with rfl|rfl<;>rfl,by decide⟩
theorem AO:ij l6 211 218 16:=⟨underlying211,⟨.agg #[.int .i64 0,.int .i64 0],by kernel_rfl,rfl⟩,by decide⟩
def NE (B:Nat) (v:Value) (n:Nat) (zs:List Key) (t:T) (w:ab) (e:Ending) (w':ab):Prop:=∃a,e=aK a∧Own l6 w' B 218 a (n+t.size) (zs++t.keys)∧Grow w w' v a
theorem AP (w:ab) (k:Key):∀q u,(l6.e k)[q]?=R u->(w.alloc (av #[I J k.v,I J k.id] 218)).cell? ⟨w.heap.size,q,U⟩=R u:=λq u h=>dE.trans (by rw[<-h];show([I J k.v,I J k.id]:List Value).toArray[q]?=_;rw[ff];rfl)
theorem IN (b:Nat) (l:T) (k:Key) (lev:Nat) (r:T) (w:ab) (B:Nat) (v:Value) (n:Nat) (zs:List Key) (h:(T.node b l k lev r).At w) (H:∀x∈(T.node b l k lev r).blocks,x<B) (m:B<=w.heap.size) (Q:Own l6 w B 218 v n zs) (ac:n+(T.node b l k lev r).size<=1000000) (K:∀(w:ab) (v:Value) (n:Nat) (zs:List Key),l.At w->B<=w.heap.size->Own l6 w B 218 v n zs->n+l.size<=1000000->Calls au 187 #[af l.bF,v] w (NE B v n zs l w)) (L:∀(w:ab) (v:Value) (n:Nat) (zs:List Key),r.At w->B<=w.heap.size->Own l6 w B 218 v n zs->n+r.size<=1000000->Calls au 187 #[af r.bF,v] w (NE B v n zs r w)):Calls au 187 #[af (R ⟨b,0,U⟩),v] w (NE B v n zs (.node b l k lev r) w):=by
 have V:(T.node b l k lev r).size=1+(l.size+r.size):=rfl;rw[V] at ac;have M:=h.1.cell 0 (v:=I J k.v) rfl;have N:=h.1.cell 1 (v:=I J k.id) rfl;have A:=h.1.cell 3 (v:=af l.bF) rfl;have D:=h.1.cell 4 (v:=af r.bF) rfl;have ay:=H b T.ki;obtain⟨p,W⟩:=aX l.bF;obtain⟨q,X⟩:=aX r.bF;rw[W] at A K;rw[X] at D L;have Y:=C K;have ad:=C L;have O:=C h;have s:=C Q;have aB:=C H;clear V h H Q K L W X;go_enter func187,ntmps187;go_wp2_with fail;have a:b<w.heap.size:=dm ay m;have c:R b≠v.ownBlock:=λe=>by have:=(s.lt b e.symm).1;omega
 have az:R w.heap.size≠v.ownBlock:=λe=>by have:=(s.lt _ e.symm).2;omega
 have aC:=C (AP w k);go_region_held3 (λW'=>W'.cell? ⟨b,0,U⟩=R (I J k.v)∧W'.cell? ⟨b,1,U⟩=R (I J k.id)∧W'.cell? ⟨b,3,U⟩=R (af p)∧W'.cell? ⟨b,4,U⟩=R (af q)) ((refine⟨?_,?_,?_,?_⟩)<;>(repeat(first|assumption|(with_reducible refine b7 ?_)|(with_reducible refine fo _ ?_ ?_)|(with_reducible refine jV ?_ ?_)))) (first
  |(
   go_at_call_of 187 (af p);first|(refine(Y (w.drewN 1) v n zs (O.2.1.drewN 1) m s.drew (by omega)).mono ?_;rintro e t ⟨v1,rfl,E,j⟩;have d:=C j.Ar;have aF:=C (E.alloc (av #[I J k.v,I J k.id] 218));have ae:=C (AP t k);have am:B<=(t.alloc (av #[I J k.v,I J k.id] 218)).heap.size:=(by have:=d.d_.size;simp;omega);clear j)|(refine(Y ((w.alloc (av #[I J k.v,I J k.id] 218)).drewN 1) v n zs ((O.2.1.mod (Mod.below (S:=λ_=>False) (bz w _)) (λ_ _=>id)).drewN 1) (by show B<=(w.alloc _).heap.size;simp;omega) ((s.alloc _).drew) (by omega)).mono ?_;rintro e t ⟨v1,rfl,E,j⟩;have aM:=C (λq u h=>j.cell (b:=w.heap.size) (o:=q) (u:=u) (by show _<(w.alloc _).heap.size;simp) az (aC q u h));have d:=C (((Grow.refl w v).alloc (av #[I J k.v,I J k.id] 218)).trans j.Ar);clear j)
   have aj:=C E;have aZ:=d.cell a c M;have ak:=d.cell a c N;have a6:=d.cell a c A;have a8:=d.cell a c D;have ap:=cJ m d.d_.size;have a_:b<t.heap.size:=(by omega);have Z:n+l.size<=10000000:=(by omega);clear E)|(go_at_call_of 187 (af q);refine(ad _ _ (n+l.size+1) (zs++l.keys++[k]) aO ah aQ (by omega)).mono ?_;rintro e aq ⟨aS,rfl,aa,ao⟩;have y:=C (f.trans ao);have aU:=C aa;have ba:=y.cell a c M;have ag:=y.cell a c N;have bb:=y.cell a c A;have aw:=y.cell a c D;clear aa ao)|(
   first|(refine oC AO (by rfl) _ _ (by rfl) B _ (n+l.size) (zs++l.keys) (by rfl) aF t.heap.size _ k (by rfl) ae Z am ?_;intro aP u P F G;have f:=C ((d.alloc (av #[I J k.v,I J k.id] 218)).trans (Grow.gK F G)))|(refine oC AO (by rfl) _ _ (by rfl) B _ (n+l.size) (zs++l.keys) (by rfl) aj w.heap.size _ k (by rfl) aM Z ap ?_;intro aP u P F G;have f:=C (d.trans (Grow.gK F G)))
   have aQ:=C P;have z:=C (f.below m (λg e=>(s.lt g e).1));have aO:=C (O.2.2.mod (Mod.mono (T:=λx=>B<=x) ⟨z.os,z.tape,z.output,z.size,λi _ aT=>z.block i (Nat.lt_of_not_le aT)⟩ (λ_ _ h=>h)) (λx aV h=>absurd (aB x (T.de.2 (.inr (.inr aV)))) (Nat.not_lt.2 h)));have bc:=f.cell a c M;have bf:=f.cell a c N;have bg:=f.cell a c A;have an:=f.cell a c D;have ah:=cJ m f.d_.size;clear P F G))
 all_goals go_wp2;go_ret;refine⟨aS,rfl,?_,y⟩;have:=aU;rw[show n+(T.node b l k lev r).size=n+l.size+1+r.size from by show n+(1+(l.size+r.size))=_;omega,show zs++(T.node b l k lev r).keys=zs++l.keys++[k]++r.keys from by show zs++(l.keys++k::r.keys)=_;simp];exact this
theorem IP (t:T) (B:Nat) (a:∀x∈t.blocks,x<B) (w:ab) (v:Value) (n:Nat) (zs:List Key) (h:t.At w) (e:B<=w.heap.size) (c:Own l6 w B 218 v n zs) (f:n+t.size<=1000000):Calls au 187 #[af t.bF,v] w (NE B v n zs t w):=by
 induction t generalizing w v n zs with
 |nil=>have g:=C c;clear c a h;show Calls au 187 #[af U,v] w _;go_enter func187,ntmps187;go_wp2;go_ret;exact⟨v,rfl,by have:=g;rw[show zs++T.nil.keys=zs from qa _];exact this,Grow.refl _ _⟩
 |node b l k lev r i j=>exact IN b l k lev r w B v n zs h a e c f (i (λx d=>a x (T.de.2 (.inr (.inl d))))) (j (λx d=>a x (T.de.2 (.inr (.inr d)))))
def IQ (a:List Key) (w:ab) (e:Ending) (w':ab):Prop:=∃b,e=aK b∧Own l6 w' w.heap.size 218 b a.length a∧Below w.heap.size w w'
theorem IS (S:Nat->Prop) (b:Nat) (a:List Key) (w:ab) (h:eD w S b a) (m:a.length<=1000):Calls au 129 #[af (R ⟨b,0,U⟩)] w (IQ a w):=by obtain⟨c,f,d,n,o,q,r,rfl,s,t⟩:=h;have u:=f.cell 0 (v:=af c.bF) rfl;obtain⟨p,e⟩:∃p,c.bF=p:=⟨_,rfl⟩;rw[e] at u;rw[T.sh] at m;have x:=C (IP c w.heap.size d.lt w (aA U 0 0) 0 [] d (bM _) (Own.nil _ _ _) (by omega));have y:=C e;clear f d n o q r s t e;go_enter func129,ntmps129;go_wp2_with fail;rw[<-y.out];refine x.mono ?_;rintro i z ⟨A,rfl,j,k⟩;have l:Below w.heap.size w z:=k.below (bM _) (λg i=>by simp[Value.ownBlock] at i);have B:=C j;have D:=C l;clear j l k;go_wp2;go_ret;exact⟨A,rfl,by have:=B;rw[T.sh];rw[mq,iU] at this;exact this,D⟩
def q_:cm aI:=⟨4,λx=>[I J x.id,I ah (x.wt:Int),I J x.v,I ah (x.rem:Int)],λ_=>rfl,λ_ u h=>by simp at h;rcases h with rfl|rfl|rfl|rfl<;>rfl,by decide⟩
theorem IT:ij q_ 100 79 32:=⟨underlying100,⟨.agg #[.int .i64 0,.int .u64 0,.int .i64 0,.int .u64 0],by kernel_rfl,rfl⟩,by decide⟩
theorem Own.lower {α:Type} {E:cm α} {a T:Nat} {zs:List α} (h:Own E W B T v n zs) (b:a<=B):Own E W a T v n zs:=by
 refine⟨h.1,?_⟩;rcases h.2 with c|⟨g,cap,d,e,f,r⟩;·exact .inl c
 ·exact .inr ⟨g,cap,d,e,cJ b f,r⟩
def AQ (es:List aI) (w:ab) (e:Ending) (w':ab):Prop:=∃v,e=aK v∧Own q_ w' w.heap.size 79 v es.length es∧Below w.heap.size w w'
theorem IU (w:ab) (e:aI):∀q u,(q_.e e)[q]?=R u->(w.alloc (av (dn e) 79)).cell? ⟨w.heap.size,q,U⟩=R u:=λq u h=>dE.trans (by rw[<-h];show([I J e.id,I ah (e.wt:Int),I J e.v,I ah (e.rem:Int)]:List Value).toArray[q]?=_;rw[ff];rfl)
theorem IV (S:Nat->Prop) (b:Nat) (q:aD) (w:ab) (h:ev w S b q) (Z:q.Ok):Calls au 72 #[af (R ⟨b,0,U⟩)] w (AQ q.es w):=by
 obtain⟨m,G,bl,aJ,pf,al,h⟩:=h;have bn:=h.cs.lt;have aA:=h.cs.cell 1 (v:=af (R ⟨G,0,U⟩)) rfl;have bp:=Z.cA;have aa:=C (IS al G (q.es.map aI.key) w h.tree (by simp;omega));go_enter func72,ntmps72;go_wp2_with fail;refine aa.mono ?_;rintro e d ⟨ao,rfl,p,r⟩;obtain⟨s,bq,ai,rfl,ac,ay,ad,aB⟩:=p.rd;simp only[ep] at ac ay ad s⊢;go_wp2_with fail;go_loopw [3,14] (λaz B wr=>∃i:Nat,i<=q.es.length∧B=I J (i:Int)∧Own q_ wr d.heap.size 79 az i (q.es.take i)∧Below d.heap.size d wr) (λ_ B _=>q.es.length-(intOf B).toNat);case atStart=>exact⟨0,hq _,rfl,Own.nil _ _ _,Below.refl _ _⟩
 case round=>
  obtain⟨i,br,rfl,j,k⟩:=hrel;have aC:=C (aB.next k);have D:=C (r.trans (k.mono r.size));by_cases aF:i<q.es.length
  ·have ae:(i:Int)<(q.es.length:Int):=(by omega);obtain⟨aE,H,rfl,a0,am⟩:=aC.cells (by simp;omega);obtain⟨e,a⟩:∃e,q.es[i]?=R e:=⟨_,b6 aF⟩;have E:e∈q.es:=ea a;have n:=am i e.key (by simp[a]);have aM:=n 0 (I J e.v) rfl;have ap:=n 1 (I J e.id) rfl;have aO:=C a;rw[show i*l6.c+0=i*2 from rfl] at aM;rw[show H+(i*l6.c+1)=H+i*2+1 from rfl] at ap;go_upto_region 7 with fail;generalize F:wr.alloc (av #[I J e.v,I J e.id] 218)=V;have t:Below wr.heap.size wr V:=F▸bz _ _;have n:ak V wr.heap.size #[I J e.v,I J e.id] 218:=F▸ak.new wr _ _;have aQ:Own q_ V d.heap.size 79 u3 i (q.es.take i):=F▸j.alloc _;have aS:Below w.heap.size w V:=D.trans (t.mono D.size);have y:=h.frame (Mod.below (S:=λ_=>False) aS) (λ_ _=>id);have aU:=y.cs.cell 0 (v:=.map (R m)) rfl;have aP:=n.cell 1 (v:=I J e.id) rfl;have a:=(y.cC e E).1;have aT:=a.cell 0 (v:=I J e.id) rfl;have aV:=a.cell 1 (v:=I ah e.wt) rfl;have aZ:=a.cell 2 (v:=I J e.v) rfl;have a6:=a.cell 3 (v:=I ah e.rem) rfl;have K:=y.map.drew.look underlying212 underlying3 (jZ _) e.id;rw[show eR pf q.es e.id=R (af (R ⟨pf e.id,0,U⟩)) by unfold eR;rw[aj (dG.2 ⟨e,E,rfl⟩)]] at K;simp only[j8] at K;have a8:=C ((aQ.drew).alloc (av (dn e) 79));have a_:=C (IU V.drew e);have L:d.heap.size<=(V.drew.alloc (av (dn e) 79)).heap.size:=(by have:=k.size;have:=t.size;show _<=(V.drew.alloc _).heap.size;simp;omega);have bw:=r.size;have aq:b<V.drew.heap.size:=y.cs.lt;have ba:wr.heap.size<V.drew.heap.size:=n.lt;have ag:pf e.id<V.drew.heap.size:=a.lt;have bb:i<=10000000:=(by omega);have aw:b<V.drew.heap.size:=aq;have bc:wr.heap.size<V.drew.heap.size:=ba;have z:pf e.id<V.drew.heap.size:=ag;have bf:R b≠u3.ownBlock:=λx=>by have:=(j.lt _ x.symm).1;omega
   have bg:R wr.heap.size≠u3.ownBlock:=λx=>by have:=(j.lt _ x.symm).2;omega
   have A:R (pf e.id)≠u3.ownBlock:=λx=>by have:=(j.lt _ x.symm).1;have:=(h.cC e E).1.lt;omega
   have l:=C (λ(x o:Nat) (u:Value) (M:x<V.drew.heap.size) (an:V.cell? ⟨x,o,U⟩=R u)=>bx (uq (O:=av (dn e) 79) M) (fo (av (dn e) 79) M (b7 an)));have N:=C (l b 0 _ aw aU);have P:=C (l _ 1 _ bc aP);have Q:=C (l _ 0 _ z aT);have T:=C (l _ 1 _ z aV);have W:=C (l _ 2 _ z aZ);have X:=C (l _ 3 _ z a6);go_region_held3 (λW'=>W'.cell? ⟨b,0,U⟩=R (.map (R m))∧W'.cell? ⟨wr.heap.size,1,U⟩=R (I J e.id)∧W'.cell? ⟨pf e.id,0,U⟩=R (I J e.id)∧W'.cell? ⟨pf e.id,1,U⟩=R (I ah e.wt)∧W'.cell? ⟨pf e.id,2,U⟩=R (I J e.v)∧W'.cell? ⟨pf e.id,3,U⟩=R (I ah e.rem)) ((refine⟨?_,?_,?_,?_,?_,?_⟩)<;>(repeat(first|assumption|(with_reducible refine b7 ?_)|(with_reducible refine fo _ ?_ ?_)))) ((refine oC IT (by rfl) _ _ (by rfl) d.heap.size _ i (q.es.take i) (by rfl) a8 V.drew.heap.size _ e (by rfl) a_ bb L ?_;intro ao u p Y s;have f:=C (Grow.gK Y s);have a2:=f.cell N.1 bf N.2;have a3:=f.cell P.1 bg P.2;have a4:=f.cell Q.1 A Q.2;have a5:=f.cell T.1 A T.2;have aK:=f.cell W.1 A W.2;have bC:=f.cell X.1 A X.2;have ax:=C p;clear p Y s));all_goals
    go_wp2;go_roundw;case rel=>have bk:Below d.heap.size d u:=((k.trans (t.mono k.size)).drew.alloc (cJ k.size t.size) _).trans (f.below L (λg x=>(j.lt g x).1));refine⟨i+1,by omega,by go_num,?_,bk⟩;have:=ax;rw[show q.es.take (i+1)=q.es.take i++[e] by rw[gE,aO.out];rfl];exact this
    case measure=>simp[intOf];omega
  ·have ae:¬(i:Int)<(q.es.length:Int):=(by omega);obtain rfl:i=q.es.length:=by omega
   go_wp2;go_ret;exact⟨u3,rfl,by have:=j.lower r.size;rw[h3] at this;exact this,D⟩
theorem Mod.setCells {S:Nat->Prop} {x:ab} (b:Nat) (c:S b):∀(a:List Value) (o:Nat) (y:ab),Mod S x y->Mod S x (y.setCells b o a)
 |[],_,_,h=>h
 |v::a,o,y,h=>Mod.setCells b c a (o+1) _ (h.setCell c v)
theorem Mod.lower {x:ab} (h:Mod S x y) (d:B<=x.heap.size) (b:∀a,S a->B<=a):Below B x y:=⟨h.os,h.tape,h.output,h.size,λa e=>h.block a (by omega) (λc=>by have:=b a c;omega)⟩
theorem mS {x z:ab} (h:Below B x y) (d:B<=x.heap.size) (k:Mod S y z) (a:∀i,i<y.heap.size->S i->B<=i):Below B x z:=⟨k.os.trans h.os,k.tape.trans h.tape,k.output.trans h.output,cJ h.size k.size,λi b=>by have:=h.size;exact(k.block i (by omega) (λc=>by have:=a i (by omega) c;omega)).trans (h.block i b)⟩
variable {n₀:Nat}
def encI:cm Int:=⟨1,λx=>[I J x],λ_=>rfl,λ_ u h=>by simp at h;subst h;rfl,by decide⟩
def rat (l:List Int) (p:Nat):Int:=l[p]?.getD 0
theorem Jc (h:p<l.length):l[p]?=R (rat l p):=by unfold rat;rw[b6 h];rfl
theorem Rd.ints (h:Rd encI n₀ W a n zs) (d:0<n):∃b c,a=R ⟨b,c,U⟩∧b<n₀∧∀j,j<n->W.cell? ⟨b,c+j,U⟩=R (I J (rat zs j)):=by obtain⟨b,c,e,f,g⟩:=h.cells d;refine⟨b,c,e,f,λj i=>?_⟩;have:=g j _ (Jc (by rw[h.1];exact i)) 0 _ rfl;simpa[encI] using this
def BB (d:TypeDesc):Bool:=match d with| .struct _| .array _ _=>false|_=>true
theorem Kh {t:TypeId} {d:TypeDesc} (h:prog.underlying t=R d) (a:BB d=true) (w:ab):(isAgg t).run au w= .ok false w:=by unfold isAgg;simp only[Sem.run_bind,run_underlying h,Result.andThen_ok];cases d<;>first|rfl|cases a
theorem BC {T e:TypeId} {i:TypeInfo} {d:TypeDesc} (b:prog.underlying T=R (.array n e)) (c:prog.info? e=R i) (f:prog.cellsOf e=1) (g:prog.underlying e=R d) (h:BB d=true) (L:List Value) (k:Nat) (v:Value) (hk:k<n) (hv:L[k]?=R v) (w:ab):(Instr.index T (bm L.toArray) (I J (k:Int))).run au w= .ok v w:=by
 have j:(0:Int)<=(k:Int)∧(k:Int)<(n:Int):=by omega
 have l:(L.toArray)[k]?=R v:=by rw[ff];exact hv
 have a:=run_sizeOf (P:=au) (w:=w) c;rw[f] at a;have m:=Kh g h w;unfold Instr.index part;simp only[asIntOf,Sem.run_bind,Sem.run_pure,Result.andThen_ok,run_underlying b,aj j,a,m,cd,Nat.mul_one,jD,if_false,l]
theorem tD (L:List Value) (k:Nat) (v:Value) (hk:k<32) (hv:L[k]?=R v) (w:ab):(Instr.index 160 (bm L.toArray) (I J (k:Int))).run au w= .ok v w:=BC (i:=(prog.info? 128).get (by kernel_rfl)) underlying160 (by kernel_rfl) (by kernel_rfl) underlying128 rfl L k v hk hv w
end Go.Proofs.YtddbkdjcjoofpaaGreatDoor
