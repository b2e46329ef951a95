import Derived.Test.YtddbkdjcjoofpaaGreatDoorLA
import Derived.WalkSmall
import Derived.Outline
import Derived.RegionTactic
import Derived.ChangeAlike
import Derived.BigQuiet
import Derived.Laws.StructEq
import Derived.Deep.RegionHeld3
import Derived.Deep.Cut
import Derived.Deep.CutRange
import Derived.Deep.LoopGhost
import Derived.Shelf.Sort.Plain
import Derived.Shelf.Bits.Mul64
import Derived.Shelf.Slices.Turned
import Derived.Shelf.Slices.Reverse
import Derived.Ground.Names2Prog
import Derived.Shelf.Slices.CompactI
import Derived.Shelf.Slices.Cells
import Derived.Shelf.Slices.In.SortNone
import Derived.Ground.SlgnProg
import Derived.Shelf.SlicesG.Turned
import Derived.Laws.ResultCell
import Derived.MapKept
import Derived.Maps.OwnSet
import Derived.Defers
import Derived.RangeFuncNested
import Derived.RangeFuncBound
import Derived.RangeFuncCalls
import Derived.RangeFuncLeaves
import Derived.RangeFuncBox
import Derived.Shelf.Abstract
import Derived.ChangeKeysEq
import Derived.Deep.MidRow
namespace Go.Proofs.YtddbkdjcjoofpaaGreatDoor
set_option linter.unusedVariables false
set_option linter.unusedSimpArgs false
set_option maxRecDepth 100000
set_option maxHeartbeats 20000000
open _root_.Go.Proofs.Tryz Go.RowKit
open Go renaming World→ab
open _root_.Go.Proofs.Tryz renaming prog→au
open Option renaming none→U,some→R
open _root_.Go.Value renaming int→I,pointer→af,slice→ay,bool→aD,agg→bk,tuple→bC
open _root_.Go.IntKind renaming i64→J,u64→ah,wrap_u64→ni
open _root_.Go.Obj renaming cells→av
open _root_.Go.Ending renaming returned→aK
open _root_.Nat renaming le_refl→bK,le_trans→cA,lt_of_lt_of_le→dd,zero_add→lZ,lt_or_ge→nm,pow_le_pow_right→sf,zero_le→gN,lt_of_le_of_lt→n9,mul_le_mul→qx
open _root_.Array renaming getElem?_eq_some_iff→iZ
open _root_.Go.World renaming cell?_of_block→lq,alloc→kn,size_alloc→lr,putObj_heap_other→qq
open _root_.Go renaming World→ab
open _root_.List renaming getElem?_eq_getElem→b5,map_cons→km,getElem?_eq_some_iff→bD,length_cons→dX,getElem?_append_right→gJ,getElem?_append_left→ja,mem_map→eY,cons_append→gM,mem_cons→gZ,mem_iff_getElem?→lp,getElem?_toArray→fg,mem_of_getElem?→ea,length_map→dY,nodup_cons→jL,pairwise_cons→pz,mem_cons_self→e5,mem_cons_of_mem→hK,replicate→gY,mem_append→nj,mem_singleton→qt,getElem?_singleton→qs,take_add_one→gL,nil_append→jc,take_length→hL,append_nil→qw
open _root_.Bool renaming eq_iff_iff→hN,false_eq_true→jI
open _root_.And renaming intro→br
open _root_.Int renaming toNat_natCast→bZ
open _root_.Option renaming getD_some→kl,map_eq_some_iff→h9,getD_none→qv
variable {b n g i p j lev c B m o:Nat} {S Z:Nat->Prop} {w W y A:ab} {v u:Value} {a:Option Addr} {k x:Key} {l:List Int} {r:T} {P:List (List Nat)} {V:List (Int×Int)->ab->Prop} {L:List ByteArray}
namespace T
def dQ:T->Prop
 |nil=>True
 |node _ l _ lev r=>l.dQ∧r.dQ∧lev=l.h+1∧(r.h=lev∨r.h+1=lev)∧r.ht<lev
theorem eC {l:T} (a:l.dQ) (c:r.dQ) (d:lev=l.h+1) (e:r.h=lev∨r.h+1=lev) (f:r.ht<lev):(node b l k lev r).dQ:=⟨a,c,d,e,f⟩
theorem GP {l:T} (h:(node b l k lev r).dQ):1<=lev:=by obtain⟨_,_,a,_,_⟩:=h;omega
theorem mM {t:T} (h:t.dQ):t.ht<=t.h:=by
 cases t with
 |nil=>exact bK _
 |node b l k lev r=>obtain⟨_,_,_,a,_⟩:=h;show r.h<=lev;omega
theorem GQ {t:T} (h:t.dQ):t.h<=t.size:=by
 induction t with
 |nil=>exact bK _
 |node b l k lev r a d=>obtain⟨c,_,e,_,_⟩:=h;have:=a c;show lev<=1+(l.size+r.size);omega
theorem mN {t:T} (h0:t.h≠0):∃b l k lev r,t=node b l k lev r:=by
 cases t with
 |nil=>exact absurd rfl h0
 |node b l k lev r=>exact⟨b,l,k,lev,r,rfl⟩
theorem mO {l:T} (h:l.h≠lev):cw (node b l k lev r)=node b l k lev r:=by
 cases l with
 |nil=>rfl
 |node lb a c d e=>exact z0 h
theorem pT {lb:Nat} {a:Key} {c d:T}:cw (node b (node lb c a lev d) k lev r)=node lb c a lev (node b d k lev r):=aj rfl
theorem pU {l:T} (h:r.ht≠lev):split (node b l k lev r)=node b l k lev r:=by
 cases r with
 |nil=>rfl
 |node rb rl rk rlev rr=>
  cases rr with
  |nil=>rfl
  |node a jA ck c d=>exact z0 h
theorem pV {rb rlev:Nat} {rk:Key} {l rl rr:T} (h:rr.h=lev) (a:1<=lev):split (node b l k lev (node rb rl rk rlev rr))=node rb (node b l k lev rl) rk (rlev+1) rr:=by
 cases rr with
 |nil=>have:0=lev:=h;omega
 |node c jA ck d e=>exact aj h
theorem ra {rb rlev:Nat} {rk:Key} {l rl rr:T} (h:rr.h≠lev):split (node b l k lev (node rb rl rk rlev rr))=node b l k lev (node rb rl rk rlev rr):=pU (r:=node rb rl rk rlev rr) h
theorem sW {rb a rlev:Nat} {rk ck:Key} {l rl c d:T} (e:1<=lev):split (node b l k lev (node rb rl rk rlev (node a c ck lev d)))=node rb (node b l k lev rl) rk (rlev+1) (node a c ck lev d):=pV (rr:=node a c ck lev d) rfl e
theorem oJ {t:T} (h:t.dQ):t.cw=t:=by
 cases t with
 |nil=>rfl
 |node b l k lev r=>obtain⟨_,_,a,_,_⟩:=h;exact mO (by omega)
theorem re {t:T} (h:t.dQ):t.split=t:=by
 cases t with
 |nil=>rfl
 |node b l k lev r=>obtain⟨_,_,_,_,a⟩:=h;exact pU (by omega)
structure Aw (t t':T):Prop where
 mP:t'.dQ
 h:t'.h=t.h∨(t'.h=t.h+1∧t'.ht+1=t'.h)
 stay:t.ht<t.h->t'.h=t.h
theorem GR {l:T} (g:l.dQ) (e:r.dQ) (a:l.h+1=lev∨(l.h=lev∧l.ht+1=lev)) (i:r.h=lev∨r.h+1=lev) (j:r.ht<lev):(split (cw (node b l k lev r))).dQ∧((split (cw (node b l k lev r))).h=lev∨((split (cw (node b l k lev r))).h=lev+1∧(split (cw (node b l k lev r))).ht=lev))∧(r.h<lev->(split (cw (node b l k lev r))).h=lev):=by
 rcases a with a|⟨a,c⟩;·rw[mO (by omega),pU (by omega)];exact⟨eC g e a.symm i j,.inl rfl,λ_=>rfl⟩
 ·obtain⟨s,u,v,d,p,rfl⟩:=mN (t:=l) (by omega);obtain rfl:d=lev:=a;obtain⟨m,n,o,w,q⟩:=g;have c:p.h+1=d:=c;rw[pT];by_cases f:r.h=d;·rw[pV f (by omega)];refine⟨eC (eC m n o (.inr c) q) e rfl (.inr (by omega)) (by omega),.inr ⟨rfl,f⟩,λx=>by omega⟩
  ·rw[ra f];refine⟨eC m (eC n e c.symm i j) o (.inl rfl) (by omega:r.h<d),.inl rfl,λ_=>rfl⟩
theorem GS {l:T} (g:l.dQ) (e:r.dQ) (i:lev=l.h+1) (a:r.h=lev∨r.h+1=lev):(split (cw (node b l k lev r))).dQ∧((split (cw (node b l k lev r))).h=lev∨((split (cw (node b l k lev r))).h=lev+1∧(split (cw (node b l k lev r))).ht=lev))∧(r.ht<lev->(split (cw (node b l k lev r))).h=lev):=by
 have j:=mM e;rw[mO (by omega)];by_cases c:r.ht=lev
 ·obtain⟨q,s,u,d,f,rfl⟩:=mN (t:=r) (by omega);obtain⟨m,n,v,w,x⟩:=e;have c:f.h=lev:=c;have j:f.h<=d:=j;have o:d=lev:=by
   rcases a with a|a;·exact a
   ·have:d+1=lev:=a;omega
  subst o;have y:=mM m;rw[pV c (by omega)];exact⟨eC (eC g m i (.inr (by omega)) (by omega)) n rfl (.inr (by omega)) (by omega),.inr ⟨rfl,c⟩,λp=>by have:f.h<d:=p;omega⟩
 ·rw[pU c];exact⟨eC g e i a (by omega),.inl rfl,λ_=>rfl⟩
theorem wN (n:Nat) (x:Key) (t:T) (w:t.dQ):Aw t (t.ins n x).1:=by
 induction t with
 |nil=>exact⟨eC trivial trivial rfl (.inr rfl) (by decide),.inr ⟨rfl,rfl⟩,λg=>absurd g (by decide)⟩
 |node b l k lev r y z=>
  obtain⟨e,f,i,d,j⟩:=w;unfold ins;by_cases s:x=k;·rw[aj s];show Aw _ (split (cw (node b l k lev r)));rw[oJ (eC e f i d j),re (eC e f i d j)];exact⟨eC e f i d j,.inl rfl,λ_=>rfl⟩
  ·rw[z0 s];by_cases u:x.lt k;·rw[aj u];obtain⟨m,A,v⟩:=y e;obtain⟨o,p,q⟩:=GR (b:=b) (k:=k) (lev:=lev) m f (by omega) d j;exact⟨o,p.imp id λ⟨a,c⟩=>⟨a,by rw[a,c]⟩,q⟩
   ·rw[z0 u];obtain⟨m,A,v⟩:=z f;have C:=mM m;have B:(r.ins n x).1.h=lev∨(r.ins n x).1.h+1=lev:=by
     rcases d with d|d;·left;rw[v (by omega),d]
     ·omega
    obtain⟨o,p,q⟩:=GS (b:=b) (k:=k) (lev:=lev) e m i B;refine⟨o,p.imp id λ⟨a,c⟩=>⟨a,by rw[a,c]⟩,λg=>q ?_⟩;have g:r.h<lev:=g;omega
structure wO (t t':T):Prop where
 mP:t'.dQ
 h:t'.h=t.h∨t'.h+1=t.h
 stay:t.ht<t.h->t'.h=t.h->t'.ht<t'.h
theorem Ax {t:T} (h:t.dQ):t.settled=t:=by
 cases t with
 |nil=>rfl
 |node b l k lev r=>
  have c:=h;obtain⟨g,a,i,j,m⟩:=h;have d:lower (node b l k lev r)=node b l k lev r:=by show(if min l.h r.h+1<lev then _ else _)=_;rw[z0 (by omega)]
  unfold settled;rw[d,oJ c];have e:right cw (node b l k lev r)=node b l k lev r:=by show node b l k lev (cw r)=_;rw[oJ a]
  have f:right (right cw) (node b l k lev r)=node b l k lev r:=by
   show node b l k lev (right cw r)=_;cases r with
   |nil=>rfl
   |node rb rl rk rlev rr=>show node b l k lev (node rb rl rk rlev (cw rr))=_;rw[oJ a.2.1]
  rw[e,f,re c];show node b l k lev (split r)=_;rw[re a]
theorem GU {l:T} (h:¬min l.h r.h+1<lev):lower (node b l k lev r)=node b l k lev r:=by show(if min l.h r.h+1<lev then _ else _)=_;rw[z0 h]
theorem wP {l:T} (h:min l.h r.h+1<lev) (a:¬min l.h r.h+1<r.h):lower (node b l k lev r)=node b l k (min l.h r.h+1) r:=by
 cases r with
 |nil=>exact aj h
 |node rb rl rk rlev rr=>refine(aj h).trans ?_;exact congrArg (node b l k _) (z0 a)
theorem Ay {rb rlev:Nat} {rk:Key} {l rl rr:T} (h:min l.h rlev+1<lev) (a:min l.h rlev+1<rlev):lower (node b l k lev (node rb rl rk rlev rr))=node b l k (min l.h rlev+1) (node rb rl rk (min l.h rlev+1) rr):=by refine(aj h).trans ?_;exact congrArg (node b l k _) (aj a)
theorem GV {l:T} (A:l.dQ) (L:r.dQ) (B:l.h+1=lev∨l.h+2=lev) (y:r.h=lev∨r.h+1=lev) (E:r.ht<lev):(settled (node b l k lev r)).dQ∧((settled (node b l k lev r)).h=lev∨(settled (node b l k lev r)).h+1=lev)∧(r.h<lev->(settled (node b l k lev r)).h=lev->(settled (node b l k lev r)).ht<lev):=by
 rcases B with B|B;·rw[Ax (eC A L B.symm y E)];exact⟨eC A L B.symm y E,.inl rfl,λw _=>w⟩
 ·obtain⟨m,rfl⟩:∃m,lev=m+1:=⟨lev-1,by omega⟩;have M:l.h+1=m:=by omega
  obtain⟨e,p,f,c,g,rfl⟩:=mN (t:=r) (by omega);obtain⟨F,z,az,ad,aB⟩:=L;have y:c=m+1∨c+1=m+1:=y;have E:g.h<m+1:=E;have aL:=mM F;have af:=mM z;rcases y with y|y
  ·subst y;have aA:g.h=m:=(by omega);have aG:p.h=m:=(by omega);obtain⟨i,o,j,U,v,rfl⟩:=mN (t:=p) (by omega);obtain rfl:U=m:=aG;obtain⟨q,s,u,a,n,rfl⟩:=mN (t:=g) (by omega);obtain rfl:a=U:=aA;obtain⟨V,G,ae,am,W⟩:=F;obtain⟨H,N,X,Y,Z⟩:=z;have aN:=mM V;have aj:=mM H;have O:lower (node b l k (a+1) (node e (node i o j a v) f (a+1) (node q s u a n)))=node b l k a (node e (node i o j a v) f a (node q s u a n)):=(by rw[Ay (by omega) (by omega),show min l.h (a+1)+1=a by omega]);unfold settled;rw[O,mO (by omega)];have P:right cw (node b l k a (node e (node i o j a v) f a (node q s u a n)))=node b l k a (node i o j a (node e v f a (node q s u a n))):=(by show node b l k a (cw _)=_;rw[pT]);rw[P];have Q:(node b l k a o).dQ:=eC A V M.symm (.inr (by omega)) (by omega);by_cases aa:v.h=a;·obtain⟨I,J,K,d,C,rfl⟩:=mN (t:=v) (by omega);obtain rfl:d=a:=aa;have ab:=G;obtain⟨ap,aQ,ah,aR,aS⟩:=G;have W:C.h<d:=W;have D:right (right cw) (node b l k d (node i o j d (node e (node I J K d C) f d (node q s u d n))))=node b l k d (node i o j d (node I J K d (node e C f d (node q s u d n)))):=(by show node b l k d (node i o j d (cw _))=_;rw[pT]);rw[D,sW (by omega)];have x:right split (node i (node b l k d o) j (d+1) (node I J K d (node e C f d (node q s u d n))))=node i (node b l k d o) j (d+1) (node e (node I J K d C) f (d+1) (node q s u d n)):=(by show node i _ j (d+1) (split _)=_;rw[sW (by omega)]);rw[x];refine⟨eC Q (eC ab (eC H N X Y Z) rfl (.inr rfl) (by omega:n.h<d+1)) rfl (.inl rfl) (by omega:d<d+1),.inl rfl,λw=>?_⟩;have:d+1<d+1:=w;omega
   ·have D:right (right cw) (node b l k a (node i o j a (node e v f a (node q s u a n))))=node b l k a (node i o j a (node e v f a (node q s u a n))):=(by show node b l k a (node i o j a (cw _))=_;rw[mO aa]);rw[D,sW (by omega)];by_cases aq:n.h=a;·have x:right split (node i (node b l k a o) j (a+1) (node e v f a (node q s u a n)))=node i (node b l k a o) j (a+1) (node q (node e v f a s) u (a+1) n):=(by show node i _ j (a+1) (split _)=_;rw[pV aq (by omega)]);rw[x];refine⟨eC Q (eC (eC G H (by omega) (.inr (by omega)) (by omega)) N rfl (.inr (by omega)) (by omega)) rfl (.inl rfl) (by omega:n.h<a+1),.inl rfl,λw=>?_⟩;have:a+1<a+1:=w;omega
    ·have x:right split (node i (node b l k a o) j (a+1) (node e v f a (node q s u a n)))=node i (node b l k a o) j (a+1) (node e v f a (node q s u a n)):=(by show node i _ j (a+1) (split _)=_;rw[ra aq]);rw[x];refine⟨eC Q (eC G (eC H N X Y Z) (by omega) (.inl rfl) (by omega:n.h<a)) rfl (.inr rfl) (by omega:a<a+1),.inl rfl,λw=>?_⟩;have:a+1<a+1:=w;omega
  ·obtain rfl:c=m:=by omega
   have O:lower (node b l k (c+1) (node e p f c g))=node b l k c (node e p f c g):=(by have R:min l.h (node e p f c g).h+1=c:=(by show min l.h c+1=c;omega);rw[wP (by rw[R];omega) (by rw[R];show¬c<c;omega),R]);have S:(node e p f c g).dQ:=eC F z az ad aB;unfold settled;rw[O,mO (by omega)];have P:right cw (node b l k c (node e p f c g))=node b l k c (node e p f c g):=(by show node b l k c (cw _)=_;rw[oJ S]);have D:right (right cw) (node b l k c (node e p f c g))=node b l k c (node e p f c g):=(by show node b l k c (node e p f c (cw g))=_;rw[oJ z]);rw[P,D];by_cases ac:g.h=c;·rw[pV ac (by omega)];have x:right split (node e (node b l k c p) f (c+1) g)=node e (node b l k c p) f (c+1) g:=(by show node e _ f (c+1) (split g)=_;rw[re z]);rw[x];exact⟨eC (eC A F M.symm (.inr (by omega)) (by omega)) z rfl (.inr (by omega)) (by omega),.inl rfl,λ_ _=>show g.h<c+1 by omega⟩
   ·rw[ra ac];have x:right split (node b l k c (node e p f c g))=node b l k c (node e p f c g):=(by show node b l k c (split _)=_;rw[re S]);rw[x];refine⟨eC A S M.symm (.inl rfl) (by omega:g.h<c),.inr rfl,λ_ w=>?_⟩;have:c=c+1:=w;omega
theorem GW {l:T} (q:l.dQ) (o:r.dQ) (p:lev=l.h+1) (J:(r.h=lev∧r.ht<lev)∨r.h+1=lev∨r.h+2=lev):(settled (node b l k lev r)).dQ∧((settled (node b l k lev r)).h=lev∨(settled (node b l k lev r)).h+1=lev)∧(r.h<lev->(settled (node b l k lev r)).h=lev->(settled (node b l k lev r)).ht<lev):=by
 have K:=mM o;by_cases L:r.h+2=lev
 ·obtain⟨d,e,f,a,g,rfl⟩:=mN (t:=l) (by omega);obtain⟨y,z,A,M,B⟩:=q;have p:lev=a+1:=p;subst p;have C:r.h+1=a:=by omega
  have H:lower (node b (node d e f a g) k (a+1) r)=node b (node d e f a g) k a r:=by have s:min (node d e f a g).h r.h+1=a:=(by show min a r.h+1=a;omega);rw[wP (by rw[s];omega) (by rw[s];omega),s]
  unfold settled;rw[H,pT];by_cases D:g.h=a;·obtain⟨i,m,j,c,n,rfl⟩:=mN (t:=g) (by omega);obtain rfl:c=a:=D;obtain⟨E,I,N,O,P⟩:=z;have B:n.h<c:=B;have Q:=mM E;have u:right cw (node d e f c (node b (node i m j c n) k c r))=node d e f c (node i m j c (node b n k c r)):=(by show node d e f c (cw _)=_;rw[pT]);have v:right (right cw) (node d e f c (node i m j c (node b n k c r)))=node d e f c (node i m j c (node b n k c r)):=(by show node d e f c (node i m j c (cw _))=_;rw[mO (by omega)]);rw[u,v,sW (by omega)];have w:right split (node i (node d e f c m) j (c+1) (node b n k c r))=node i (node d e f c m) j (c+1) (node b n k c r):=(by show node i _ j (c+1) (split _)=_;rw[pU (by omega)]);rw[w];exact⟨eC (eC y E A (.inr (by omega)) (by omega)) (eC I o (by omega) (.inr C) (by omega)) rfl (.inr rfl) (by omega:r.h<c+1),.inl rfl,λ_ _=>show c<c+1 by omega⟩
  ·have u:right cw (node d e f a (node b g k a r))=node d e f a (node b g k a r):=(by show node d e f a (cw _)=_;rw[mO D]);have v:right (right cw) (node d e f a (node b g k a r))=node d e f a (node b g k a r):=(by show node d e f a (node b g k a (cw r))=_;rw[oJ o]);rw[u,v,ra (by omega)];have w:right split (node d e f a (node b g k a r))=node d e f a (node b g k a r):=(by show node d e f a (split _)=_;rw[pU (by omega)]);rw[w];refine⟨eC y (eC z o (by omega) (.inr C) (by omega)) A (.inl rfl) (by omega:r.h<a),.inr rfl,λ_ x=>?_⟩;have:a=a+1:=x;omega
 ·have F:r.h=lev∨r.h+1=lev:=by omega
  have G:r.ht<lev:=by omega
  rw[Ax (eC q o p F G)];exact⟨eC q o p F G,.inl rfl,λx _=>x⟩
theorem rf (t:T) (x:Key) (v:t.dQ):wO t (t.del x).1:=by
 induction t generalizing x with
 |nil=>exact⟨trivial,.inl rfl,λc=>absurd c (by decide)⟩
 |node b l k lev r w z=>
  obtain⟨n,o,p,e,A⟩:=v;have left:∀(a y:Key),wO (node b l k lev r) (settled (node b (l.del y).1 a lev r)):=by intro a y;obtain⟨f,d,q⟩:=w y n;obtain⟨i,j,m⟩:=GV (b:=b) (k:=a) (lev:=lev) f o (by omega) e A;exact⟨i,j,λc g=>by rw[g];exact m c g⟩
  have right:∀(a y:Key),wO (node b l k lev r) (settled (node b l a lev (r.del y).1)):=by
   intro a y;obtain⟨f,d,q⟩:=z y o;have B:((r.del y).1.h=lev∧(r.del y).1.ht<lev)∨(r.del y).1.h+1=lev∨(r.del y).1.h+2=lev:=by
    rcases e with e|e
    ·rcases d with d|d;·left;have:=q (by omega) d;omega
     ·omega
    ·omega
   obtain⟨i,j,m⟩:=GW (b:=b) (k:=a) (lev:=lev) n f p B;refine⟨i,j,λc g=>?_⟩;have c:r.h<lev:=c;rw[g];exact m (by omega) g
  unfold del;by_cases s:x=k;·rw[aj s];cases l with
   |node lb D E F G=>exact left _ _
   |nil=>
    cases r with
    |node rb rl rk rlev rr=>exact right _ _
    |nil=>have C:lev=1:=p;subst C;exact⟨trivial,.inr rfl,λ_ (g:0=1)=>absurd g (by decide)⟩
  ·rw[z0 s];by_cases u:x.lt k;·rw[aj u];exact left _ _
   ·rw[z0 u];exact right _ _
end T
variable {w':ab}
namespace T
def bE:T->Option Addr
 |nil=>U
 |node b _ _ _ _=>R ⟨b,0,U⟩
def ptr (t:T):Value:=af t.bE
def cells (l:T) (k:Key) (lev:Nat) (r:T):Array Value:=#[I J k.v,I J k.id,I J (lev:Int),l.ptr,r.ptr]
def At (w:ab):T->Prop
 |nil=>True
 |node b l k lev r=>ak w b (cells l k lev r) 331∧l.At w∧r.At w
theorem At.lt {w:ab} {t:T} (h:t.At w):∀b∈t.blocks,b<w.heap.size:=by
 induction t with
 |nil=>intro b c;cases c
 |node b l k lev r d e=>
  obtain⟨f,g,i⟩:=h;intro x a;rcases gZ.1 a with rfl|a;·exact f.lt
  ·rcases nj.1 a with a|a;·exact d g x a
   ·exact e i x a
theorem At.mod {S:Nat->Prop} {w w':ab} {t:T} (h:t.At w) (d:Mod S w w') (a:∀b∈t.blocks,¬S b):t.At w':=by
 induction t with
 |nil=>trivial
 |node b l k lev r e f=>obtain⟨g,i,j⟩:=h;exact⟨g.mod d (a b (by simp[blocks])),e i (λx c=>a x (by simp[blocks,c])),f j (λx c=>a x (by simp[blocks,c]))⟩
theorem At.drewN {w:ab} {t:T} (h:t.At w) (n:Nat):t.At (w.drewN n):=h.mod ((Mod.refl (λ_=>False) w).drewN n) (λ_ _ h=>h)
theorem dn {l:T} (h:(node b l k lev r).blocks.Nodup):b∉l.blocks∧b∉r.blocks∧l.blocks.Nodup∧r.blocks.Nodup∧∀x,x∈l.blocks->x∉r.blocks:=by simp only[blocks,jL,List.nodup_append,nj,not_or] at h;exact⟨h.1.1,h.1.2,h.2.1,h.2.2.1,λx a c=>h.2.2.2 x a x c rfl⟩
theorem ky {l:T}:b∈(node b l k lev r).blocks:=by simp[blocks]
def dW:T->Prop
 |nil=>True
 |node _ l _ lev r=>1<=lev∧lev<=1000∧l.dW∧r.dW
theorem dW.h {t:T} (h:t.dW):t.h<=1000:=by
 cases t with
 |nil=>exact gN _
 |node b l k lev r=>exact h.2.1
theorem kz {t:T} (h:t.dQ) (a:t.size<=1000):t.dW:=by
 induction t with
 |nil=>trivial
 |node b l k lev r d e=>have f:=GP h;have c:=GQ h;obtain⟨g,i,_,_,_⟩:=h;have a:1+(l.size+r.size)<=1000:=a;have c:lev<=1+(l.size+r.size):=c;exact⟨f,by omega,d g (by omega),e i (by omega)⟩
theorem pW {t:T} (h:t.dW):t.cw.dW:=by
 unfold cw;split
 ·split;·next e=>subst e;obtain⟨g,i,⟨a,b,c,d⟩,f⟩:=h;exact⟨a,b,c,a,b,d,f⟩
  ·exact h
 ·exact h
theorem pX {l:T} (a:1<=lev) (c:lev<=1000) (d:l.dW) (e:r.dW):(node b l k lev r).dW:=⟨a,c,d,e⟩
theorem oK {l:T} (a:b∉l.blocks) (c:b∉r.blocks) (d:l.blocks.Nodup) (e:r.blocks.Nodup) (f:∀x,x∈l.blocks->x∉r.blocks):(node b l k lev r).blocks.Nodup:=by simp only[blocks,jL,List.nodup_append,nj,not_or];exact⟨⟨a,c⟩,d,e,λx g y h i=>f x g (i▸h)⟩
theorem c6 {x:Nat} {l:T}:x∈(node b l k lev r).blocks↔x=b∨x∈l.blocks∨x∈r.blocks:=by simp[blocks]
end T
def wQ (t':T) (B:List Nat) (w:ab) (e:Ending) (w':ab):Prop:=e=aK (af t'.bE)∧t'.At w'∧Mod (· ∈B) w w'
theorem Az (t:T) (w:ab) (h:t.At w):Calls au 286 #[t.ptr] w λa w'=>a=aK (I J (t.h:Int))∧w'=w:=by
 cases t with
 |nil=>show Calls au 286 #[af U] w _;go_enter func286,ntmps286;go_wp2;go_ret;exact⟨rfl,rfl⟩
 |node b l k lev r=>have c:=h.1.cell 2 (v:=I J (lev:Int)) rfl;show Calls au 286 #[af (R ⟨b,0,U⟩)] w _;go_enter func286,ntmps286;go_wp2;go_ret;exact⟨rfl,rfl⟩
theorem GX (t:T) (p:Option Addr) (n:Nat) (w:ab) (h:t.At w) (b:t.bE=p) (c:t.h=n):Calls au 286 #[af p] w λa w'=>a=aK (I J (n:Int))∧w=w':=by subst b c;exact(Az t w h).mono λa w' ⟨d,e⟩=>⟨d,e.symm⟩
theorem oL (t:T) (p:Value) (n:Nat) (w:ab) (h:t.At w) (b:t.ptr=p) (c:t.h=n) (k:Nat):Calls au 286 #[p] (w.drewN k) λa d=>a=aK (I J (n:Int))∧∃m,d=w.drewN m:=by subst b c;exact(Az t (w.drewN k) (h.drewN k)).mono λa w' ⟨e,f⟩=>⟨e,k,f⟩
theorem pY (t:T) (w:ab) (h:t.At w) (z:t.blocks.Nodup) (hv:t.dW):Calls au 264 #[t.ptr] w (wQ t.cw t.blocks w):=by
 cases t with
 |nil=>show Calls au 264 #[af U] w _;go_enter func264,ntmps264;go_wp2_with fail;go_quiet (fail);go_wp2;go_ret;exact⟨rfl,trivial,(Mod.refl _ _).drewN _⟩
 |node b l k lev r=>
  have F:=oL l l.ptr l.h w h.2.1 rfl rfl;have Q:=h.1.cell 2 (v:=I J (lev:Int)) rfl;have s:=h.1.cell 3 (v:=l.ptr) rfl;have G:=C F;by_cases f:l.h=lev
  ·have A:l≠ .nil:=λu=>by rw[u] at f;have:=hv.1;have:0=lev:=f;omega
   cases l with
   |nil=>exact absurd rfl A
   |node lb H K d g=>
    have S:=h.1.free 3;have L:=h.2.1.1.cell 4 (v:=af g.bE) rfl;have V:=h.2.1.1.free 4;obtain rfl:d=lev:=f;have B:((d:Int)!=(d:Int))=false:=(by simp);have y:=C (oL (.node lb H K d g) (af (R ⟨lb,0,U⟩)) d w h.2.1 rfl rfl);have e:b≠lb:=λu=>by subst u;simp[T.blocks] at z
    have M:=C e;clear A e G;obtain⟨p,c⟩:=aW g.bE;have W:w.cell? ⟨b,3,U⟩=R (af (R ⟨lb,0,U⟩)):=s;rw[c] at L;have N:=C c;clear s c;show Calls au 264 #[af (R ⟨b,0,U⟩)] w _;go_enter func264,ntmps264;go_wp2_with fail;go_quiet ((go_at_call 286;with_reducible exact y.out _));go_wp2;go_ret;rw[<-N.out];obtain⟨i,⟨j,m,o⟩,q⟩:=h;have O:=z;have e:=M.out;have a:Mod (λk=>k=b∨k=lb) w (((w.drewN nq).setCell ⟨b,3,U⟩ (af g.bE)).setCell ⟨lb,4,U⟩ (af (R ⟨b,0,U⟩))):=(((Mod.refl _ _).drewN nq).setCell (.inl rfl) _).setCell (.inr rfl) _;simp only[T.blocks,jL,List.nodup_append,nj,gZ,gM,not_or] at O;rw[T.pT];refine⟨rfl,⟨?_,m.mod a ?_,?_,o.mod a ?_,q.mod a ?_⟩,a.mono ?_⟩;·exact((j:ak (w.drewN nq) lb _ _).other (Ne.symm e) _).set 4 _
    ·clear a j m o q i;rintro x D (rfl|rfl)<;>simp_all
    ·exact((i:ak (w.drewN nq) b _ _).set 3 _).other e _
    ·clear a j m o q i;rintro x D (rfl|rfl)<;>simp_all
    ·clear a j m o q i;rintro x D (rfl|rfl)<;>simp_all
    ·rintro x _ (rfl|rfl)<;>simp[T.blocks]
  ·have B:((l.h:Int)!=(lev:Int))=true:=(by simp;omega);have P:=C (T.mO (b:=b) (k:=k) (r:=r) f);obtain⟨p,c⟩:∃p,l.ptr=p:=⟨_,rfl⟩;obtain⟨n,E⟩:∃n,l.h=n:=⟨_,rfl⟩;rw[c] at s;rw[E] at B;have y:=C (oL l p n w h.2.1 c E);show Calls au 264 #[af (R ⟨b,0,U⟩)] w _;go_enter func264,ntmps264;go_wp2_with fail;go_quiet ((go_at_call 286;with_reducible exact y.out _));go_wp2;go_ret;rw[P.out];exact⟨rfl,h.drewN _,(Mod.refl _ _).drewN _⟩
theorem rh (t:T) (w:ab) (h:t.At w) (o:t.blocks.Nodup) (hv:t.dW):Calls au 263 #[t.ptr] w (wQ t.split t.blocks w):=by
 cases t with
 |nil=>show Calls au 263 #[af U] w _;go_enter func263,ntmps263;go_wp2_with fail;go_quiet (fail);go_wp2;go_ret;exact⟨rfl,trivial,(Mod.refl _ _).drewN _⟩
 |node b l k lev r=>
  have O:=h.1.cell 2 (v:=I J (lev:Int)) rfl;cases r with
  |nil=>have y:=h.1.cell 4 (v:=af U) rfl;show Calls au 263 #[af (R ⟨b,0,U⟩)] w _;go_enter func263,ntmps263;go_wp2_with fail;go_quiet (fail);go_wp2;go_ret;exact⟨rfl,h.drewN _,(Mod.refl _ _).drewN _⟩
  |node rb rl rk rlev rr=>
   have y:=h.1.cell 4 (v:=af (R ⟨rb,0,U⟩)) rfl;have z:=h.2.2.1.cell 4 (v:=af rr.bE) rfl;generalize f:rr.bE=p at z;by_cases c:rr.h=lev
   ·have g:=C (oL rr (af p) lev w h.2.2.2.2 (congrArg af f) c);have A:((lev:Int)!=(lev:Int))=false:=(by simp);have j:=C (T.pV (b:=b) (rb:=rb) (k:=k) (rk:=rk) (l:=l) (rl:=rl) (rlev:=rlev) c hv.1);have P:=h.1.free 4;have B:=h.2.2.1.cell 3 (v:=af rl.bE) rfl;have Q:=h.2.2.1.cell 2 (v:=I J (rlev:Int)) rfl;have S:=h.2.2.1.free 3;have V:=h.2.2.1.free 2;have W:rlev<=1000:=hv.2.2.2.2.1;have d:b≠rb:=λD=>by subst D;simp[T.blocks] at o
    have E:=C d;generalize s:rl.bE=q at B;have F:=C s;clear d hv c f s;show Calls au 263 #[af (R ⟨b,0,U⟩)] w _;go_enter func263,ntmps263;go_wp2_with fail;go_quiet ((go_at_call 286;with_reducible exact g.out _));clear g;go_wp2;go_ret;rw[<-F.out];obtain⟨G,H,K,L,M⟩:=h;have N:=o;have d:=E.out;rw[j.out];have i:Mod (λk=>k=b∨k=rb) w ((((w.drewN nq).setCell ⟨b,4,U⟩ (af rl.bE)).setCell ⟨rb,3,U⟩ (af (R ⟨b,0,U⟩))).setCell ⟨rb,2,U⟩ (I J ((rlev:Int)+1))):=((((Mod.refl _ _).drewN nq).setCell (.inl rfl) _).setCell (.inr rfl) _).setCell (.inr rfl) _;have e:=T.dn N;have u:=T.dn e.2.2.2.1;refine⟨rfl,⟨?_,⟨?_,H.mod i ?_,L.mod i ?_⟩,M.mod i ?_⟩,i.mono ?_⟩;·exact(((K:ak (w.drewN nq) rb _ _).other (Ne.symm d) _).set 3 _).set 2 _
    ·exact(((G:ak (w.drewN nq) b _ _).set 4 _).other d _).other d _
    ·rintro x a (rfl|rfl);·exact e.1 a
     ·exact e.2.2.2.2 _ a T.ky
    ·rintro x a (rfl|rfl);·exact e.2.1 (by simp[T.blocks,a])
     ·exact u.1 a
    ·rintro x a (rfl|rfl);·exact e.2.1 (by simp[T.blocks,a])
     ·exact u.2.1 a
    ·rintro x _ (rfl|rfl)<;>simp[T.blocks]
   ·obtain⟨n,m⟩:∃n,rr.h=n:=⟨_,rfl⟩;have g:=C (oL rr (af p) n w h.2.2.2.2 (congrArg af f) m);have j:=C (T.ra (b:=b) (rb:=rb) (k:=k) (rk:=rk) (l:=l) (rl:=rl) (rlev:=rlev) c);rw[m] at c;have A:((n:Int)!=(lev:Int))=true:=(by simp;omega);clear c f m;show Calls au 263 #[af (R ⟨b,0,U⟩)] w _;go_enter func263,ntmps263;go_wp2_with fail;go_quiet ((go_at_call 286;with_reducible exact g.out _));go_wp2;go_ret;rw[j.out];exact⟨rfl,h.drewN _,(Mod.refl _ _).drewN _⟩
def e_ (a b:Key):Int:=if a=b then 0 else if a.lt b then-1 else 1
theorem ml (a b:Key) (w:ab):Calls au 256 #[bk #[I J a.v,I J a.id],bk #[I J b.v,I J b.id]] w λd w'=>d=aK (I J (e_ a b))∧Below w.heap.size w w':=by
 rcases Int.lt_trichotomy a.v b.v with c|c|c
 ·have f:(a.v==b.v)=false:=by simp;omega
  have e:=C (by unfold e_;rw[z0 (λd=>by rw[d] at c;omega),aj (.inl c)]:e_ a b=-1);go_enter func256,ntmps256;go_wp2;go_ret;exact⟨by rw[e.out];rfl,((Below.refl _ _).alloc zK9 _).alloc (by simp) _⟩
 ·rcases Int.lt_trichotomy a.id b.id with g|g|g;·have f:(a.v==b.v)=true:=(by simp[c]);have h:(a.id==b.id)=false:=(by simp;omega);have i:¬a.v<b.v:=(by omega);have e:=C (by unfold e_;rw[z0 (λd=>by rw[d] at g;omega),aj (.inr ⟨c,g⟩)]:e_ a b=-1);clear c;go_enter func256,ntmps256;go_wp2;go_ret;exact⟨by rw[e.out];rfl,((Below.refl _ _).alloc zK9 _).alloc (by simp) _⟩
  ·have f:(a.v==b.v)=true:=(by simp[c]);have h:(a.id==b.id)=true:=(by simp[g]);have e:=C (by unfold e_;rw[aj ((Key.eq_iff a b).2 ⟨c,g⟩)]:e_ a b=0);clear c g;go_enter func256,ntmps256;go_wp2;go_ret;exact⟨by rw[e.out];rfl,((Below.refl _ _).alloc zK9 _).alloc (by simp) _⟩
  ·have f:(a.v==b.v)=true:=(by simp[c]);have h:(a.id==b.id)=false:=(by simp;omega);have i:¬a.v<b.v:=(by omega);have j:¬a.id<b.id:=(by omega);have e:=C (by unfold e_;rw[z0 (λd=>by rw[d] at g;omega),z0 (by unfold Key.lt;omega)]:e_ a b=1);clear c;go_enter func256,ntmps256;go_wp2;go_ret;exact⟨by rw[e.out];rfl,((Below.refl _ _).alloc zK9 _).alloc (by simp) _⟩
 ·have f:(a.v==b.v)=false:=by simp;omega
  have i:¬a.v<b.v:=by omega
  have e:=C (by unfold e_;rw[z0 (λd=>by rw[d] at c;omega),z0 (by unfold Key.lt;omega)]:e_ a b=1);go_enter func256,ntmps256;go_wp2;go_ret;exact⟨by rw[e.out];rfl,((Below.refl _ _).alloc zK9 _).alloc (by simp) _⟩
variable {W':ab} {ag:List (Int×Int)}
def dR (x:Key):Value:=bk #[I J x.v,I J x.id]
def oM (t:T) (x:Key) (w:ab) (e:Ending) (w':ab):Prop:=∃a,w.heap.size<=a∧e=aK (bC #[af (t.ins a x).1.bE,aD (t.ins a x).2])∧(t.ins a x).1.At w'∧Mod (· ∈t.blocks) w w'
theorem GY (x:Key) (w:ab):Calls au 241 #[af U,dR x] w (oM .nil x w):=by show Calls au 241 #[af U,bk #[I J x.v,I J x.id]] w _;go_enter func241,ntmps241;go_wp2;go_ret2;refine⟨w.heap.size+1,by omega,rfl,⟨?_,trivial,trivial⟩,((Mod.refl _ _).alloc _).alloc _⟩;have:=ak.new (w.alloc (av #[I J x.v,I J x.id] 218)) #[I J x.v,I J x.id,I J 1,af U,af U] 331;rw[show(w.alloc (av #[I J x.v,I J x.id] 218)).heap.size=w.heap.size+1 by simp] at this;exact this
theorem GZ (b:Nat) (l:T) (k:Key) (lev:Nat) (r:T) (x:Key) (w:ab) (h:(T.node b l k lev r).At w) (Z:(T.node b l k lev r).blocks.Nodup) (hv:(T.node b l k lev r).dQ) (aa:(T.node b l k lev r).size<=200) (u:x.lt k) (aq:∀w,l.At w->Calls au 241 #[l.ptr,dR x] w (oM l x w)):Calls au 241 #[af (R ⟨b,0,U⟩),dR x] w (oM (.node b l k lev r) x w):=by
 have ac:e_ x k=-1:=by unfold e_;rw[z0 (Key.jQ u),aj u]
 have az:=C ac;have D:=C h;have ad:=C aq;have aB:=h.1.cell 0 (v:=I J k.v) rfl;have aA:=h.1.cell 1 (v:=I J k.id) rfl;have K:=h.1.cell 3 (v:=af l.bE) rfl;have z:=h.1.lt;generalize aG:l.bE=p at K;have aL:=C aG;show Calls au 241 #[af (R ⟨b,0,U⟩),bk #[I J x.v,I J x.id]] w _;go_enter func241,ntmps241;go_upto_region 4 with(fail);generalize L:kn w _=V;have E:=C (by rw[<-L];exact ak.new _ _ _:ak V w.heap.size #[I J x.v,I J x.id] 218);have f:=C (by rw[<-L];exact(Below.refl _ _).alloc (bK _) _:Below w.heap.size w V);have ae:=E.cell 0 (v:=I J x.v) rfl;have am:=E.cell 1 (v:=I J x.id) rfl;have aN:=bY f z aB;have ap:=bY f z aA;have aQ:=bY f z K;have ag:=E.out.lt;have A:=dd z f.size;go_region_held3 (λW'=>W'.cell? ⟨w.heap.size,0,U⟩=R (I J x.v)∧W'.cell? ⟨w.heap.size,1,U⟩=R (I J x.id)∧W'.cell? ⟨b,0,U⟩=R (I J k.v)∧W'.cell? ⟨b,1,U⟩=R (I J k.id)) ((refine⟨?_,?_,?_,?_⟩)<;>(first|assumption|(with_reducible refine b2 ?_;assumption))) (first|(go_at_call 256;refine(ml x k _).mono ?_;rintro c n ⟨rfl,j⟩;rw[az.out];have M:=C j;have ah:=bY j ag ae;have aR:=bY j ag am;have bg:=bY j A aN;have bj:=bY j A ap;have an:=bY j A aQ));have B:=C (f.drew.trans (M.mono f.size));have N:=M.out.size;have O:=dd ag N;have aS:=dd A N;have aw:w.heap.size≠b:=by omega
 have o:=C (D.mod (Mod.below (S:=λ_=>False) B) (λ_ _ h=>h));have d:=C (T.dn Z);have q:=C (by have bl:1+(l.size+r.size)<=200:=aa;have g:=T.kz hv (by omega);exact⟨g.1,g.2.1,hv.1,g.2.2.2,by omega⟩:1<=lev∧lev<=1000∧l.dQ∧r.dW∧l.size<=200);go_wp2_with fail;go_region_with (first|(go_at_call 241;rw[<-aL.out];refine(ad _ (o.2.1.drewN 1)).mono ?_;rintro c P ⟨a,aU,rfl,s,m⟩;replace m:=m.mL;have Q:=C m;have aP:=C s;have t:=C aU;have bo:=m.cell ah O (λh=>absurd (D.2.1.lt _ h) (by omega));have bm:=m.cell aR O (λh=>absurd (D.2.1.lt _ h) (by omega));have F:=C ((o.1).mod m d.1);have ay:=F.free 3;have bq:=F.cell 3 (v:=af l.bE) rfl));all_goals
  have aV:=C (F.set 3 (af (l.ins a x).1.bE));have aZ:a∉l.blocks:=λg=>absurd (o.2.1.lt _ g) (by have:n.heap.size<=a:=t;omega);have a6:a∉r.blocks:=λg=>absurd (o.2.2.lt _ g) (by have:n.heap.size<=a:=t;omega);have a7:b≠a:=λg=>absurd aS (by have:n.heap.size<=a:=t;omega);have W:b∉(l.ins a x).1.blocks:=λg=>(T.nw g).elim a7 d.1;have X:=C (T.oK (k:=k) (lev:=lev) W d.2.1 (T.vF d.2.2.1 aZ) d.2.2.2.1 (λy e=>(T.nw e).elim (λc=>c▸a6) (λg=>d.2.2.2.2 y g)));have a8:=C (⟨aV,aP.mod ((Mod.refl (· =b) _).setCell rfl _) (λy e c=>W (c▸e)),(o.2.2.mod Q (λy e g=>d.2.2.2.2 y g e)).mod ((Mod.refl (· =b) _).setCell rfl _) (λy e c=>d.2.1 (c▸e))⟩:(T.node b (l.ins a x).1 k lev r).At (P.setCell ⟨b,3,U⟩ (af (l.ins a x).1.bE)));have Y:=C (T.pX q.1 q.2.1 (T.kz (T.wN a x l q.2.2.1).mP (by have:=T.ze a x l;have:=q.2.2.2.2;omega)) q.2.2.2.1:(T.node b (l.ins a x).1 k lev r).dW);go_wp2_with fail;refine(pY (.node b (l.ins a x).1 k lev r) _ a8 X Y).mono ?_;rintro c wc ⟨rfl,s,G⟩;have ba:=C s;have av:=C G;go_wp2_with fail;refine(rh (T.cw (.node b (l.ins a x).1 k lev r)) _ ba ((T.rs _).nodup_iff.2 X) (T.pW Y)).mono ?_;rintro c bt ⟨rfl,s,G⟩;have ao:=C s;have bb:=C G;go_wp2;go_ret2;refine⟨a,by have:n.heap.size<=a:=t;have:=B.size;omega,by rw[T.zf u];rfl,by rw[T.zf u];exact ao,?_⟩;have bf:Mod (· ∈(T.node b l k lev r).blocks) w P:=(Mod.below B).trans Q (λi _ g=>T.c6.2 (.inr (.inl g)));have ax:=bf.setCell (i:=3) (T.c6.2 (.inl rfl)) (af (l.ins a x).1.bE);have H:∀i,i<w.heap.size->i∈(T.node b (l.ins a x).1 k lev r).blocks->i∈(T.node b l k lev r).blocks:=λi H g=>by
   rcases T.c6.1 g with g|g|g;·exact T.c6.2 (.inl g)
   ·rcases T.nw g with g|g;·have:n.heap.size<=a:=t;have:=B.size;omega
    ·exact T.c6.2 (.inr (.inl g))
   ·exact T.c6.2 (.inr (.inr g))
  exact(ax.trans av H).trans bb (λi bc g=>H i bc ((T.rs _).mem_iff.1 g))
theorem G0 (b:Nat) (l:T) (k:Key) (lev:Nat) (r:T) (x:Key) (w:ab) (h:(T.node b l k lev r).At w) (Z:(T.node b l k lev r).blocks.Nodup) (hv:(T.node b l k lev r).dQ) (aa:(T.node b l k lev r).size<=200) (u:k.lt x) (aq:∀w,r.At w->Calls au 241 #[r.ptr,dR x] w (oM r x w)):Calls au 241 #[af (R ⟨b,0,U⟩),dR x] w (oM (.node b l k lev r) x w):=by
 have ac:e_ x k=1:=by unfold e_;rw[z0 (Key.jQ u).symm,z0 (Key.lt_asymm u)]
 have az:=C ac;have D:=C h;have ad:=C aq;have aB:=h.1.cell 0 (v:=I J k.v) rfl;have aA:=h.1.cell 1 (v:=I J k.id) rfl;have K:=h.1.cell 4 (v:=af r.bE) rfl;have z:=h.1.lt;generalize aG:r.bE=p at K;have aL:=C aG;show Calls au 241 #[af (R ⟨b,0,U⟩),bk #[I J x.v,I J x.id]] w _;go_enter func241,ntmps241;go_upto_region 4 with(fail);generalize L:kn w _=V;have E:=C (by rw[<-L];exact ak.new _ _ _:ak V w.heap.size #[I J x.v,I J x.id] 218);have f:=C (by rw[<-L];exact(Below.refl _ _).alloc (bK _) _:Below w.heap.size w V);have ae:=E.cell 0 (v:=I J x.v) rfl;have am:=E.cell 1 (v:=I J x.id) rfl;have aN:=bY f z aB;have aj:=bY f z aA;have ap:=bY f z K;have ag:=E.out.lt;have A:=dd z f.size;go_region_held3 (λW'=>W'.cell? ⟨w.heap.size,0,U⟩=R (I J x.v)∧W'.cell? ⟨w.heap.size,1,U⟩=R (I J x.id)∧W'.cell? ⟨b,0,U⟩=R (I J k.v)∧W'.cell? ⟨b,1,U⟩=R (I J k.id)) ((refine⟨?_,?_,?_,?_⟩)<;>(first|assumption|(with_reducible refine b2 ?_;assumption))) (first|(go_at_call 256;refine(ml x k _).mono ?_;rintro c n ⟨rfl,j⟩;rw[az.out];have M:=C j;have aQ:=bY j ag ae;have ah:=bY j ag am;have bc:=bY j A aN;have bg:=bY j A aj;have bj:=bY j A ap));have B:=C (f.drew.trans (M.mono f.size));have N:=M.out.size;have O:=dd ag N;have aR:=dd A N;have an:w.heap.size≠b:=by omega
 have o:=C (D.mod (Mod.below (S:=λ_=>False) B) (λ_ _ h=>h));have d:=C (T.dn Z);have q:=C (by have aw:1+(l.size+r.size)<=200:=aa;have g:=T.kz hv (by omega);exact⟨g.1,g.2.1,hv.2.1,g.2.2.1,by omega⟩:1<=lev∧lev<=1000∧r.dQ∧l.dW∧r.size<=200);go_wp2_with fail;go_region_with (first|(go_at_call 241;rw[<-aL.out];refine(ad _ (o.2.2.drewN 1)).mono ?_;rintro c P ⟨a,aS,rfl,s,m⟩;replace m:=m.mL;have Q:=C m;have aU:=C s;have t:=C aS;have bl:=m.cell aQ O (λh=>absurd (D.2.2.lt _ h) (by omega));have bo:=m.cell ah O (λh=>absurd (D.2.2.lt _ h) (by omega));have F:=C ((o.1).mod m d.2.1);have bm:=F.free 4;have ay:=F.cell 4 (v:=af r.bE) rfl));all_goals
  have aP:=C (F.set 4 (af (r.ins a x).1.bE));have aV:a∉l.blocks:=λg=>absurd (o.2.1.lt _ g) (by have:n.heap.size<=a:=t;omega);have aZ:a∉r.blocks:=λg=>absurd (o.2.2.lt _ g) (by have:n.heap.size<=a:=t;omega);have a6:b≠a:=λg=>absurd aR (by have:n.heap.size<=a:=t;omega);have W:b∉(r.ins a x).1.blocks:=λg=>(T.nw g).elim a6 d.2.1;have X:=C (T.oK (k:=k) (lev:=lev) d.1 W d.2.2.1 (T.vF d.2.2.2.1 aZ) (λy e g=>(T.nw g).elim (λc=>aV (c▸e)) (λg=>d.2.2.2.2 y e g)));have a7:=C (⟨aP,(o.2.1.mod Q (λy e g=>d.2.2.2.2 y e g)).mod ((Mod.refl (· =b) _).setCell rfl _) (λy e c=>d.1 (c▸e)),aU.mod ((Mod.refl (· =b) _).setCell rfl _) (λy e c=>W (c▸e))⟩:(T.node b l k lev (r.ins a x).1).At (P.setCell ⟨b,4,U⟩ (af (r.ins a x).1.bE)));have Y:=C (T.pX q.1 q.2.1 q.2.2.2.1 (T.kz (T.wN a x r q.2.2.1).mP (by have:=T.ze a x r;have:=q.2.2.2.2;omega)):(T.node b l k lev (r.ins a x).1).dW);go_wp2_with fail;refine(pY (.node b l k lev (r.ins a x).1) _ a7 X Y).mono ?_;rintro c wc ⟨rfl,s,G⟩;have a8:=C s;have ba:=C G;go_wp2_with fail;refine(rh (T.cw (.node b l k lev (r.ins a x).1)) _ a8 ((T.rs _).nodup_iff.2 X) (T.pW Y)).mono ?_;rintro c bq ⟨rfl,s,G⟩;have av:=C s;have ao:=C G;go_wp2;go_ret2;refine⟨a,by have:n.heap.size<=a:=t;have:=B.size;omega,by rw[T.zg u];rfl,by rw[T.zg u];exact av,?_⟩;have bb:Mod (· ∈(T.node b l k lev r).blocks) w P:=(Mod.below B).trans Q (λi _ g=>T.c6.2 (.inr (.inr g)));have bf:=bb.setCell (i:=4) (T.c6.2 (.inl rfl)) (af (r.ins a x).1.bE);have H:∀i,i<w.heap.size->i∈(T.node b l k lev (r.ins a x).1).blocks->i∈(T.node b l k lev r).blocks:=λi H g=>by
   rcases T.c6.1 g with g|g|g;·exact T.c6.2 (.inl g)
   ·exact T.c6.2 (.inr (.inl g))
   ·rcases T.nw g with g|g;·have:n.heap.size<=a:=t;have:=B.size;omega
    ·exact T.c6.2 (.inr (.inr g))
  exact(bf.trans ba H).trans ao (λi ax g=>H i ax ((T.rs _).mem_iff.1 g))
theorem G1 (b:Nat) (l:T) (k:Key) (lev:Nat) (r:T) (w:ab) (h:(T.node b l k lev r).At w) (t:(T.node b l k lev r).blocks.Nodup) (hv:(T.node b l k lev r).dQ) (N:(T.node b l k lev r).size<=200):Calls au 241 #[af (R ⟨b,0,U⟩),dR k] w (oM (.node b l k lev r) k w):=by have u:=C (by unfold e_;rw[aj rfl]:e_ k k=0);have x:=C h;have m:=C t;have n:=C (T.kz hv (by omega));have y:=h.1.cell 0 (v:=I J k.v) rfl;have z:=h.1.cell 1 (v:=I J k.id) rfl;have d:=h.1.lt;show Calls au 241 #[af (R ⟨b,0,U⟩),bk #[I J k.v,I J k.id]] w _;go_enter func241,ntmps241;go_upto_region 4 with(fail);generalize o:kn w _=V;have e:=C (by rw[<-o];exact ak.new _ _ _:ak V w.heap.size #[I J k.v,I J k.id] 218);have a:=C (by rw[<-o];exact(Below.refl _ _).alloc zK9 _:Below w.heap.size w V);have A:=e.cell 0 (v:=I J k.v) rfl;have B:=e.cell 1 (v:=I J k.id) rfl;have D:=bY a d y;have E:=bY a d z;have ag:=e.lt;have p:=dd d a.size;go_region_held3 (λW'=>W'.cell? ⟨w.heap.size,0,U⟩=R (I J k.v)∧W'.cell? ⟨w.heap.size,1,U⟩=R (I J k.id)∧W'.cell? ⟨b,0,U⟩=R (I J k.v)∧W'.cell? ⟨b,1,U⟩=R (I J k.id)) ((refine⟨?_,?_,?_,?_⟩)<;>(first|assumption|(with_reducible refine b2 ?_;assumption))) (first|(go_at_call 256;refine(ml k k _).mono ?_;rintro q O ⟨rfl,c⟩;rw[u.out];have F:=C c;have P:=bY c ag A;have Q:=bY c ag B;have S:=bY c p D;have W:=bY c p E));have s:=C (a.drew.trans (F.mono a.size));have G:=C (x.mod (zF9 s) (λ_ _ h=>h));go_wp2_with fail;refine(pY (.node b l k lev r) _ G m n).mono ?_;rintro q wc ⟨rfl,f,j⟩;have H:=C f;have K:=C j;go_wp2_with fail;refine(rh (T.cw (.node b l k lev r)) _ H ((T.rs _).nodup_iff.2 m) (T.pW n)).mono ?_;rintro q X ⟨rfl,f,j⟩;have L:=C f;have M:=C j;go_wp2;go_ret2;refine⟨w.heap.size,bK _,by rw[T.zh];rfl,by rw[T.zh];exact L,?_⟩;exact((Mod.below s).trans K (λi _ g=>g)).trans M (λi _ g=>(T.rs _).mem_iff.1 g)
theorem G2 (t:T) (x:Key) (w:ab) (h:t.At w) (a:t.blocks.Nodup) (hv:t.dQ) (c:t.size<=200):Calls au 241 #[t.ptr,dR x] w (oM t x w):=by
 induction t generalizing w with
 |nil=>exact GY x w
 |node b l k lev r g i=>
  have j:1+(l.size+r.size)<=200:=c;by_cases e:x=k;·subst e;exact G1 b l x lev r w h a hv c
  ·by_cases f:x.lt k;·exact GZ b l k lev r x w h a hv c f (λw d=>g w d (T.dn a).2.2.1 hv.1 (by omega))
   ·exact G0 b l k lev r x w h a hv c (Key.pJ f e) (λw d=>i w d (T.dn a).2.2.2.1 hv.2.1 (by omega))
variable {al:Nat->Prop} {v1:Value} {ai:Int->Nat}
namespace T
theorem At.right {l a:T} (h:(node b l k lev r).At w) (i:(node b l k lev r).blocks.Nodup) (e:Mod (· ∈r.blocks) w w') (j:a.At w') (m:∀y,y∈a.blocks->y∈r.blocks):(node b l k lev a).At (w'.setCell ⟨b,4,U⟩ (af a.bE)):=by obtain⟨o,p,q⟩:=h;have n:=T.dn i;have f:=Mod.one w' b 4 (af a.bE);exact⟨(o.mod e n.2.1).set 4 _,(p.mod e (λy c g=>n.2.2.2.2 y c g)).mod f (λy c d=>n.1 (d▸c)),j.mod f (λy c d=>n.2.1 (d▸m y c))⟩
theorem wR {l c:T} (d:(node b l k lev r).blocks.Nodup) (a:c.blocks.Perm r.blocks):(node b l k lev c).blocks.Nodup:=by have n:=T.dn d;exact oK n.1 (λg=>n.2.1 (a.mem_iff.1 g)) n.2.2.1 (a.nodup_iff.2 n.2.2.2.1) (λy e g=>n.2.2.2.2 y e (a.mem_iff.1 g))
theorem G3 {l:T}:∃a c d e f,cw (node b l k lev r)=node a c d e f:=by
 unfold cw;split;·split<;>exact⟨_,_,_,_,_,rfl⟩
 ·exact⟨_,_,_,_,_,rfl⟩
theorem G4 {l:T}:∃a c d e f,split (node b l k lev r)=node a c d e f:=by
 unfold T.split;split;·split<;>exact⟨_,_,_,_,_,rfl⟩
 ·exact⟨_,_,_,_,_,rfl⟩
theorem G5 {l:T}:∃c d,lower (node b l k lev r)=node b l k c d:=by
 by_cases a:min l.h r.h+1<lev;·exact⟨_,_,aj a⟩
 ·exact⟨_,_,z0 a⟩
theorem G6 {t:T} (h:t.dW):t.lower.dW:=by
 unfold lower;split;·next b l k lev r=>
  obtain⟨f,g,a,c⟩:=h;have m:=a.h;have n:=c.h;split
  ·refine⟨by omega,by omega,a,?_⟩;split;·next rb rl rk rlev rr=>
    obtain⟨i,j,d,e⟩:=c;split;·exact⟨by omega,by omega,d,e⟩
    ·exact⟨i,j,d,e⟩
   ·trivial
  ·exact⟨f,g,a,c⟩
 ·exact h
theorem wS {l a:T} (h:(node b l k lev r).dW) (c:a.dW):(node b l k lev a).dW:=⟨h.1,h.2.1,h.2.2.1,c⟩
theorem ri {l a:T} (h:a.blocks.Perm r.blocks):(node b l k lev a).blocks.Perm (node b l k lev r).blocks:=List.Perm.cons _ (List.Perm.append_left _ h)
structure j1 (B:List Nat) (w w':ab) (t:T):Prop where
 at_:t.At w'
 dn:t.blocks.Nodup
 lO:t.dW
 perm:t.blocks.Perm B
 mod:Mod (· ∈B) w w'
theorem j1.G7 {B:List Nat} {a:ab} {t:T} (h:j1 B w w' t) (b:t.cw.At a) (c:Mod (· ∈t.blocks) w' a):j1 B w a t.cw:=⟨b,(rs t).nodup_iff.2 h.dn,pW h.lO,(rs t).trans h.perm,h.mod.trans c λi _ g=>h.perm.mem_iff.1 g⟩
theorem j1.ef {B:List Nat} {c:ab} {l a:T} (h:j1 B w w' (node b l k lev r)) (d:a.blocks.Perm r.blocks) (hv:a.dW) (f:a.At c) (e:Mod (· ∈r.blocks) w' c):j1 B w (c.setCell ⟨b,4,U⟩ (af a.bE)) (node b l k lev a):=⟨h.at_.right h.dn e f (λy j=>d.mem_iff.1 j),wR h.dn d,wS h.lO hv,(ri d).trans h.perm,(h.mod.trans e λi _ g=>h.perm.mem_iff.1 (c6.2 (.inr (.inr g)))).setCell (h.perm.mem_iff.1 ky) _⟩
theorem j1.G8 {B:List Nat} {c:ab} {k d v2 v3:Nat} {l m:Key} {o p a:T} (h:j1 B w w' (node k o l v2 (node d p m v3 r))) (f:a.blocks.Perm r.blocks) (hv:a.dW) (s:a.At c) (e:Mod (· ∈r.blocks) w' c):j1 B w (c.setCell ⟨d,4,U⟩ (af a.bE)) (node k o l v2 (node d p m v3 a)):=by obtain⟨t,u,v⟩:=h.at_;have n:=T.dn h.dn;have x:=v.right n.2.2.2.1 e s (λy b=>f.mem_iff.1 b);have q:=Mod.one c d 4 (af a.bE);exact⟨⟨(t.mod e (λg=>n.2.1 (c6.2 (.inr (.inr g))))).mod q (λj=>n.2.1 (j▸ky)),(u.mod e (λy b g=>n.2.2.2.2 y b (c6.2 (.inr (.inr g))))).mod q (λy b j=>n.2.2.2.2 y b (j▸ky)),x⟩,wR h.dn (ri f),wS h.lO (wS h.lO.2.2.2 hv),(ri (ri f)).trans h.perm,(h.mod.trans e λi _ g=>h.perm.mem_iff.1 (c6.2 (.inr (.inr (c6.2 (.inr (.inr g))))))).setCell (h.perm.mem_iff.1 (c6.2 (.inr (.inr ky)))) _⟩
structure sX (B:List Nat) (w w':ab) (t:T):Prop where
 at_:t.At w'
 dn:t.blocks.Nodup
 perm:t.blocks.Perm B
 mod:Mod (· ∈B) w w'
theorem j1.G9 {B:List Nat} {a:ab} {t:T} (h:j1 B w w' t) (b:t.split.At a) (c:Mod (· ∈t.blocks) w' a):sX B w a t.split:=⟨b,(nv t).nodup_iff.2 h.dn,(nv t).trans h.perm,h.mod.trans c λi _ g=>h.perm.mem_iff.1 g⟩
theorem sX.ef {B:List Nat} {c:ab} {l a:T} (h:sX B w w' (node b l k lev r)) (d:a.blocks.Perm r.blocks) (f:a.At c) (e:Mod (· ∈r.blocks) w' c):sX B w (c.setCell ⟨b,4,U⟩ (af a.bE)) (node b l k lev a):=⟨h.at_.right h.dn e f (λy j=>d.mem_iff.1 j),wR h.dn d,(ri d).trans h.perm,(h.mod.trans e λi _ g=>h.perm.mem_iff.1 (c6.2 (.inr (.inr g)))).setCell (h.perm.mem_iff.1 ky) _⟩
theorem G_ {d f:Nat} {g:Key} {l l' c:T} (h:(node b l k lev r).dW) (e:split (node b l k lev r)=node d l' g f c):c.dW:=by
 unfold T.split at e;split at e
 ·split at e;·cases e;next a=>cases a;exact h.2.2.2.2.2.2
  ·cases e;next a=>cases a;exact h.2.2.2
 ·cases e;exact h.2.2.2
end T
theorem sY (b:Nat) (l:T) (k:Key) (lev:Nat) (r:T) (w:ab) (h:(T.node b l k lev r).At w) (F:(T.node b l k lev r).blocks.Nodup) (hv:(T.node b l k lev r).dW):Calls au 262 #[af (R ⟨b,0,U⟩)] w (wQ (T.node b l k lev r).settled (T.node b l k lev r).blocks w):=by
 have aP:=h.1.cell 2 (v:=I J (lev:Int)) rfl;have aV:=h.1.cell 3 (v:=af l.bE) rfl;have aZ:=h.1.cell 4 (v:=af r.bE) rfl;have bq:=h.1.free 2;have bt:=T.dW.h hv.2.2.1;have ai:=T.dW.h hv.2.2.2;obtain⟨p,aG⟩:=aW l.bE;obtain⟨Y,Z⟩:=aW r.bE;obtain⟨n,aa⟩:=aW l.h;obtain⟨m,aq⟩:=aW r.h;have a6:=C (oL l (af p) n w h.2.1 (congrArg af aG) aa);have Q:=C (oL r (af Y) m w h.2.2 (congrArg af Z) aq);rw[aG] at aV;rw[Z] at aZ;rw[aa] at bt;rw[aq] at ai;have be:=hv.2.1;have aL:=C Z;have ae:=C aa;have G:=C aq;generalize a7:(T.node b l k lev r).blocks=B;generalize ac:(T.node b l k lev r).settled=S;have am:=C a7;have bw:=C ac;clear aG Z aa aq a7 ac;go_enter func262,ntmps262;go_wp2_with fail;go_quiet ((first|(go_at_call 286;with_reducible exact a6.out _)|(go_at_call 286;with_reducible exact Q.out _)));obtain⟨e,a8⟩:=aW (min n m+1);obtain⟨u,aN⟩:=aW ((if m<n then(m:Int) else(n:Int)):Int);have c:u+1=(e:Int):=by rw[<-aN];split<;>omega
 (first|rw[aN,c]|rw[show min (n:Int) (m:Int)+1=(e:Int) from by omega]);have aj:=C a8;have bN:e<=1001:=by omega
 clear c a8 aN a6 Q;go_upto_if 21 with(fail);go_cut [2,21] from 22 to 39 (λv _ az=>v=af U∧(T.lower (.node b l k lev r)).At az∧Mod (· ∈B) w az);case first=>
  by_cases H:e<lev
  ·have q:=C H;have bS:(w.drewN nq).cell? ⟨b,2,U⟩=R (I J (lev:Int)):=aP;have ad:((w.drewN nq).setCell ⟨b,2,U⟩ (I J (e:Int))).cell? ⟨b,4,U⟩=R (af Y):=((h.1:ak (w.drewN nq) b _ _).set 2 _).cell 4 (by rw[<-aL.out];rfl);have D:r.At ((w.drewN nq).setCell ⟨b,2,U⟩ (I J (e:Int))):=h.2.2.mod (((Mod.refl (λy=>y=b) w).drewN nq).setCell rfl _) (λy s c=>(T.dn F).2.1 (c▸s));have Q:=C (GX r Y m _ D aL G);have ba:Mod (· ∈B) w ((w.drewN nq).setCell ⟨b,2,U⟩ (I J (e:Int))):=((Mod.refl _ w).drewN nq).setCell (by rw[<-am.out];exact T.ky) _;have av:ak ((w.drewN nq).setCell ⟨b,2,U⟩ (I J (e:Int))) b (T.cells l k e r) 331:=(h.1:ak (w.drewN nq) b _ _).set 2 _;have ao:=C (h.2.1.mod (((Mod.refl (λy=>y=b) w).drewN nq).setCell rfl _) (λy s c=>(T.dn F).1 (c▸s)):l.At ((w.drewN nq).setCell ⟨b,2,U⟩ (I J (e:Int))));by_cases E:e<m;·have i:=C E;have aD:(e:Int)<(m:Int):=(by omega);obtain⟨ap,aM,bi,aQ,bT,rfl⟩:=T.mN (t:=r) (by have:=G.out;omega);obtain rfl:R ⟨ap,0,U⟩=Y:=aL.out;obtain rfl:aQ=m:=G.out;have aX:=D.1.cell 2 (v:=I J (aQ:Int)) rfl;have bX:=D.1.free 2;have bb:b≠ap:=λc=>(T.dn F).2.1 (c▸T.ky);have a0:=C bb;clear bb;go_wp2_with fail;refine Q.mono ?_;rintro c ag ⟨rfl,rfl⟩;go_wp2;go_meet;have x:min l.h aQ+1=e:=(by rw[ae.out];exact aj);refine⟨rfl,?_,ba.setCell (by rw[<-am.out];simp[T.blocks]) _⟩;rw[T.Ay (by rw[x];exact q.out) (by rw[x];exact i.out),x];have bf:=T.dn (T.dn F).2.2.2.1;have aB:=Mod.one ((w.drewN nq).setCell ⟨b,2,U⟩ (I J (e:Int))) ap 2 (I J (e:Int));refine⟨av.mod aB a0,ao.mod aB (λy s c=>(T.dn F).2.2.2.2 y s (c▸T.ky)),D.1.set 2 _,D.2.1.mod aB (λy s c=>bf.1 (c▸s)),D.2.2.mod aB (λy s c=>bf.2.1 (c▸s))⟩
   ·have i:=C E;have aD:¬(e:Int)<(m:Int):=(by omega);go_wp2_with fail;refine Q.mono ?_;rintro c ag ⟨rfl,rfl⟩;go_wp2;go_meet;have x:min l.h r.h+1=e:=(by rw[ae.out,G.out];exact aj);refine⟨rfl,?_,ba⟩;rw[T.wP (by rw[x];exact q.out) (by rw[x,G.out];exact i.out),x];exact⟨av,ao,D⟩
  ·have q:=C H;have bV:¬(e:Int)<(lev:Int):=(by omega);go_wp2;go_meet;have x:min l.h r.h+1=e:=(by rw[ae.out,G.out];exact aj);refine⟨rfl,?_,(Mod.refl _ _).drewN _⟩;rw[T.GU (by rw[x];exact q.out)];exact h.drewN _
 case rest=>
  obtain⟨rfl,f,d⟩:=hcut;have a:T.j1 B w wc (T.lower (.node b l k lev r)):=⟨f,by rw[T.vB];exact F,T.G6 hv,by rw[T.vB,am.out],d⟩;obtain⟨v1,ax,H⟩:=T.G5 (b:=b) (l:=l) (k:=k) (lev:=lev) (r:=r);rw[H] at a;have q:=C a;have bz:=C H;clear f d H a aP aV aZ bq;go_wp2_with fail;apply(pY (.node b l k v1 ax) _ q.at_ q.dn q.lO).mono;rintro c b1 ⟨rfl,f,d⟩;have a:=q.G7 f d;obtain⟨z,K,L,M,A,E⟩:=T.G3 (b:=b) (l:=l) (k:=k) (lev:=v1) (r:=ax);rw[E] at a;rw[E,show(T.node z K L M A).bE=R ⟨z,0,U⟩ from rfl];have i:=C a;have a2:=C E;have ad:=a.at_.1.cell 4 (v:=af A.bE) rfl;clear f d E a q;go_wp2_with fail;apply(pY A _ i.at_.2.2 (T.dn i.dn).2.2.2.1 i.lO.2.2.2).mono;rintro c a3 ⟨rfl,f,d⟩;have a:=i.ef (T.rs A) (T.pW i.lO.2.2.2) f d;have j:=i.at_.1.mod d (T.dn i.dn).2.1;have bc:=j.cell 4 (v:=af A.bE) rfl;have bg:=j.free 4;have V:=a.at_.1.cell 4 (v:=af (T.cw A).bE) rfl;generalize bj:T.cw A=ah at a V⊢;have a4:=C bj;have o:=C a;clear f d a j ad bj i;go_upto_if 54 with(fail);clear bc bg;generalize a5:World.setCell a3 _ _=aK at o V⊢;clear a5;go_cut [54] from 55 to 68 (λ_ az=>T.j1 B w az (T.right (T.right T.cw) (.node z K L M ah)));case first=>
   cases ah with
   |nil=>go_wp2;go_meet;exact o
   |node an al b3 v3 aA=>have b6:=o.at_.2.2.1.cell 4 (v:=af aA.bE) rfl;have aR:=C (T.dn o.dn);have aw:=C (T.dn aR.2.2.2.1);have bR:z≠an:=λc=>aR.2.1 (c▸T.ky);have bF:aK.cell? ⟨z,4,U⟩=R (af (R ⟨an,0,U⟩)):=V;clear V;have aO:=o.at_.1.lt;go_wp2_with fail;go_region_with (first|(go_at_call 264;refine(pY aA _ (o.at_.2.2.2.2.drewN 1) aw.2.2.2.1 o.lO.2.2.2.2.2.2).mono ?_;rintro c ag ⟨rfl,f,d⟩;replace d:=d.mL;have a9:=C f;have aC:=C d;have bs:=d.cell bF aO (λg=>aR.2.1 (T.c6.2 (.inr (.inr g))));have j:=o.at_.2.2.1.mod d aw.2.1;have b9:=j.cell 4 (v:=af aA.bE) rfl;have aY:=j.free 4;have bv:=C j;clear f d j));all_goals go_wp2_with fail;go_meet;exact o.G8 (T.rs aA) (T.pW o.lO.2.2.2.2.2.2) a9 aC
  case rest=>obtain⟨W,aS⟩:∃W,T.right T.cw ah=W:=⟨_,rfl⟩;have a:T.j1 B w wc (.node z K L M W):=(by rw[<-aS];exact hcut);have N:=C a;have bI:=C aS;clear hcut a aS V o;go_wp2_with fail;refine(rh (.node z K L M W) _ N.at_ N.dn N.lO).mono ?_;rintro c a1 ⟨rfl,f,d⟩;have a:=N.G9 f d;obtain⟨aU,bl,bo,bm,O,X⟩:=T.G4 (b:=z) (l:=K) (k:=L) (lev:=M) (r:=W);have bL:=C (T.G_ N.lO X);rw[X] at a;rw[X,show(T.node aU bl bo bm O).bE=R ⟨aU,0,U⟩ from rfl];have P:=C a;have bd:=C X;have ad:=a.at_.1.cell 4 (v:=af O.bE) rfl;clear f d X a N;go_wp2_with fail;refine(rh O _ P.at_.2.2 (T.dn P.dn).2.2.2.1 bL).mono ?_;rintro c cc ⟨rfl,f,d⟩;have a:=P.ef (T.nv O) f d;have j:=P.at_.1.mod d (T.dn P.dn).2.1;have bc:=j.cell 4 (v:=af O.bE) rfl;have bg:=j.free 4;have ay:=C a;clear f d a j ad P;go_wp2;go_ret;have ac:S= .node aU bl bo bm (T.split O):=(by rw[<-bw.out];unfold T.settled;rw[bz.out,a2.out];show T.right T.split (T.split (T.node z K L M (T.right T.cw (T.cw A))))=_;rw[a4.out,bI.out,bd.out];rfl);rw[ac];exact⟨rfl,ay.at_,ay.mod⟩
def AA (t:T) (x:Key) (w:ab) (e:Ending) (w':ab):Prop:=∃(b:Nat) (l:T) (lev:Nat) (r:T),e=aK (af (R ⟨b,0,U⟩))∧ak w b (T.cells l x lev r) 331∧b∈t.blocks∧w=w'
theorem AB (t:T) (w:ab) (h:t.At w) (o:t≠ .nil):Calls au 255 #[af t.bE] w (AA t t.first w):=by
 generalize q:t.bE=p;have s:=C q;have z:=C o;generalize A:t.first=x;have B:=C A;go_enter func255,ntmps255;go_wp2_with fail;go_loopg [0] t.size (λg v wr=>∃u:T,v=af u.bE∧g=u.size∧u≠ .nil∧u.At w∧u.first=x∧(∀b∈u.blocks,b∈t.blocks)∧w=wr);case atStart=>exact⟨t,by rw[s.out],rfl,z,h,B,λb a=>a,rfl⟩
 case round=>
  obtain⟨u,rfl,D,E,c,F,a,rfl⟩:=hrel;cases u with
  |nil=>exact absurd rfl E
  |node b l k lev r=>
   have d:=c.1.cell 3 (v:=af l.bE) rfl;have G:=C D;have e:=C F;have f:=C a;rw[show(T.node b l k lev r).bE=R ⟨b,0,U⟩ from rfl];cases l with
   |nil=>have H:w.cell? ⟨b,3,U⟩=R (af U):=d;clear d;go_wp2;go_ret;have I:k=x:=e;subst I;exact⟨b,.nil,lev,r,rfl,c.1,f _ T.ky,rfl⟩
   |node lb i j m n=>
    have H:w.cell? ⟨b,3,U⟩=R (af (R ⟨lb,0,U⟩)):=d;go_wp2;go_roundg (T.node lb i j m n).size;case measure=>rw[G.out];simp[T.size];omega
    case rel=>exact⟨.node lb i j m n,rfl,rfl,by simp,c.2.1,e,λy J=>f y (T.c6.2 (.inr (.inl J))),rfl⟩
theorem Ha (t:T) (w:ab) (h:t.At w) (i:t≠ .nil):Calls au 261 #[af t.bE] w (AA t t.last w):=by
 generalize j:t.bE=p;have m:=C j;have n:=C i;generalize o:t.last=x;have q:=C o;go_enter func261,ntmps261;go_wp2_with fail;go_loopg [0] t.size (λg v wr=>∃u:T,v=af u.bE∧g=u.size∧u≠ .nil∧u.At w∧u.last=x∧(∀b∈u.blocks,b∈t.blocks)∧w=wr);case atStart=>exact⟨t,by rw[m.out],rfl,n,h,q,λb a=>a,rfl⟩
 case round=>
  obtain⟨u,rfl,s,z,c,A,a,rfl⟩:=hrel;cases u with
  |nil=>exact absurd rfl z
  |node b l k lev r=>
   have d:=c.1.cell 4 (v:=af r.bE) rfl;have B:=C s;have e:=C A;have f:=C a;rw[show(T.node b l k lev r).bE=R ⟨b,0,U⟩ from rfl];cases r with
   |nil=>have D:w.cell? ⟨b,4,U⟩=R (af U):=d;clear d;go_wp2;go_ret;have E:k=x:=e;subst E;exact⟨b,l,lev,.nil,rfl,c.1,f _ T.ky,rfl⟩
   |node rb rl rk rlev rr=>
    have D:w.cell? ⟨b,4,U⟩=R (af (R ⟨rb,0,U⟩)):=d;go_wp2;go_roundg (T.node rb rl rk rlev rr).size;case measure=>rw[B.out];simp[T.size];omega
    case rel=>exact⟨.node rb rl rk rlev rr,rfl,rfl,by simp,c.2.2,e,λy F=>f y (T.c6.2 (.inr (.inr F))),rfl⟩
namespace T
theorem AD {l:T} (h:x.lt k):(node b l k lev r).del x=(settled (node b (l.del x).1 k lev r),(l.del x).2):=by
 conv=>lhs;unfold del
 rw[z0 (Key.jQ h),aj h]
theorem AE {l:T} (h:k.lt x):(node b l k lev r).del x=(settled (node b l k lev (r.del x).1),(r.del x).2):=by
 conv=>lhs;unfold del
 rw[z0 (Key.jQ h).symm,z0 (Key.lt_asymm h)]
theorem Hb {lb a:Nat} {c:Key} {d e:T}:(node b (node lb d c a e) x lev r).del x=(settled (node b ((node lb d c a e).del (node lb d c a e).last).1 (node lb d c a e).last lev r),true):=by
 conv=>lhs;unfold del
 rw[aj rfl]
theorem Hc {rb rlev:Nat} {rk:Key} {rl rr:T}:(node b nil x lev (node rb rl rk rlev rr)).del x=(settled (node b nil (node rb rl rk rlev rr).first lev ((node rb rl rk rlev rr).del (node rb rl rk rlev rr).first).1),true):=by
 conv=>lhs;unfold del
 rw[aj rfl]
theorem AF:(node b nil x lev nil).del x=(nil,true):=by
 conv=>lhs;unfold del
 rw[aj rfl]
end T
def kA (t:T) (x:Key) (w:ab) (e:Ending) (w':ab):Prop:=e=aK (bC #[af (t.del x).1.bE,aD (t.del x).2])∧(t.del x).1.At w'∧Mod (· ∈t.blocks) w w'
theorem Hd (x:Key) (w:ab):Calls au 240 #[af U,dR x] w (kA .nil x w):=by show Calls au 240 #[af U,bk #[I J x.v,I J x.id]] w _;go_enter func240,ntmps240;go_wp2;go_ret2;exact⟨rfl,trivial,(Mod.refl _ _).alloc _⟩
theorem He (b:Nat) (l:T) (k:Key) (lev:Nat) (r:T) (x:Key) (w:ab) (h:(T.node b l k lev r).At w) (Q:(T.node b l k lev r).blocks.Nodup) (hv:(T.node b l k lev r).dQ) (W:(T.node b l k lev r).size<=200) (m:x.lt k) (X:∀w,l.At w->Calls au 240 #[af l.bE,dR x] w (kA l x w)):Calls au 240 #[af (R ⟨b,0,U⟩),dR x] w (kA (T.node b l k lev r) x w):=by
 have Y:=C (by unfold e_;rw[z0 (Key.jQ m),aj m]:e_ x k=-1);have Z:=C X;have E:=h.1.cell 3 (v:=af l.bE) rfl;generalize aa:l.bE=p at E;have aq:=C aa;have q:=C h;have a:=C (T.dn Q);have F:=C hv;have G:=C W;have ac:=h.1.cell 0 (v:=I J k.v) rfl;have az:=h.1.cell 1 (v:=I J k.id) rfl;have n:=h.1.lt;show Calls au 240 #[af (R ⟨b,0,U⟩),bk #[I J x.v,I J x.id]] w _;go_enter func240,ntmps240;go_upto_region 4 with(fail);generalize H:kn w _=V;have s:=C (by rw[<-H];exact ak.new _ _ _:ak V w.heap.size #[I J x.v,I J x.id] 218);have f:=C (by rw[<-H];exact(Below.refl _ _).alloc (bK _) _:Below w.heap.size w V);have ad:=s.cell 0 (v:=I J x.v) rfl;have aB:=s.cell 1 (v:=I J x.id) rfl;have aA:=bY f n ac;have aG:=bY f n az;have ag:=s.out.lt;have t:=dd n f.size;go_region_held3 (λW'=>W'.cell? ⟨w.heap.size,0,U⟩=R (I J x.v)∧W'.cell? ⟨w.heap.size,1,U⟩=R (I J x.id)∧W'.cell? ⟨b,0,U⟩=R (I J k.v)∧W'.cell? ⟨b,1,U⟩=R (I J k.id)) ((refine⟨?_,?_,?_,?_⟩)<;>(first|assumption|(with_reducible refine b2 ?_;assumption))) (first|(go_at_call 256;refine(ml x k _).mono ?_;rintro d aZ ⟨rfl,j⟩;rw[Y.out];have K:=C j;have aL:=bY j ag ad;have ae:=bY j ag aB;have a6:=bY j t aA;have a7:=bY j t aG));have u:=C (f.drew.trans (K.mono f.size));have L:=K.out.size;have M:=dd ag L;have a8:=dd t L;have ba:w.heap.size≠b:=by omega
 have z:=C (q.mod (Mod.below (S:=λ_=>False) u) (λ_ _ h=>h));have av:=bY u n E;have o:=C (by have ao:1+(l.size+r.size)<=200:=G.out;have g:=T.kz F.out (by have:=G.out;omega);exact⟨g.1,g.2.1,T.kz (T.rf l x F.1).mP (by have:=T.sD x l;omega),g.2.2.2⟩:1<=lev∧lev<=1000∧(l.del x).1.dW∧r.dW);go_wp2_with fail;go_region_with (first|(go_at_call 240;rw[<-aq.out];refine(Z _ (z.2.1.drewN 1)).mono ?_;rintro d A ⟨rfl,B,e⟩;replace e:=e.mL;have N:=C e;have am:=C B;have bb:=e.cell aL M (λh=>absurd (q.2.1.lt _ h) (by omega));have bf:=e.cell ae M (λh=>absurd (q.2.1.lt _ h) (by omega));have D:=C ((z.1).mod e a.1);have ax:=D.free 3;have bc:=D.cell 3 (v:=af l.bE) rfl));all_goals have aN:=C (D.set 3 (af (l.del x).1.bE));have O:b∉(l.del x).1.blocks:=λg=>a.1 (T.kq g);have ap:=C (T.oK (k:=k) (lev:=lev) O a.2.1 (T.qH a.2.2.1) a.2.2.2.1 (λy c g=>a.2.2.2.2 y (T.kq c) g));have P:=Mod.one A b 3 (af (l.del x).1.bE);have aQ:=C (⟨aN,am.mod P (λy c d=>O (d▸c)),(z.2.2.mod N (λy c g=>a.2.2.2.2 y g c)).mod P (λy c d=>a.2.1 (d▸c))⟩:(T.node b (l.del x).1 k lev r).At (A.setCell ⟨b,3,U⟩ (af (l.del x).1.bE)));have ah:=C (T.pX o.1 o.2.1 o.2.2.1 o.2.2.2:(T.node b (l.del x).1 k lev r).dW);go_wp2_with fail;refine(sY b (l.del x).1 k lev r _ aQ ap ah).mono ?_;rintro d wc ⟨rfl,B,aR⟩;have aS:=C B;have aU:=C aR;go_wp2;go_ret2;refine⟨by rw[T.AD m];rfl,by rw[T.AD m];exact aS,?_⟩;have aP:Mod (· ∈(T.node b l k lev r).blocks) w A:=(Mod.below u).trans N (λi _ g=>T.c6.2 (.inr (.inl g)));have aV:=aP.setCell (i:=3) (T.c6.2 (.inl rfl)) (af (l.del x).1.bE);exact aV.trans aU (λi _ g=>by
  rcases T.c6.1 g with g|g|g;·exact T.c6.2 (.inl g)
  ·exact T.c6.2 (.inr (.inl (T.kq g)))
  ·exact T.c6.2 (.inr (.inr g)))
theorem Hf (b:Nat) (l:T) (k:Key) (lev:Nat) (r:T) (x:Key) (w:ab) (h:(T.node b l k lev r).At w) (Q:(T.node b l k lev r).blocks.Nodup) (hv:(T.node b l k lev r).dQ) (W:(T.node b l k lev r).size<=200) (m:k.lt x) (X:∀w,r.At w->Calls au 240 #[af r.bE,dR x] w (kA r x w)):Calls au 240 #[af (R ⟨b,0,U⟩),dR x] w (kA (T.node b l k lev r) x w):=by
 have Y:=C (by unfold e_;rw[z0 (Key.jQ m).symm,z0 (Key.lt_asymm m)]:e_ x k=1);have Z:=C X;have E:=h.1.cell 4 (v:=af r.bE) rfl;generalize aa:r.bE=p at E;have aq:=C aa;have q:=C h;have a:=C (T.dn Q);have F:=C hv;have G:=C W;have ac:=h.1.cell 0 (v:=I J k.v) rfl;have az:=h.1.cell 1 (v:=I J k.id) rfl;have n:=h.1.lt;show Calls au 240 #[af (R ⟨b,0,U⟩),bk #[I J x.v,I J x.id]] w _;go_enter func240,ntmps240;go_upto_region 4 with(fail);generalize H:kn w _=V;have s:=C (by rw[<-H];exact ak.new _ _ _:ak V w.heap.size #[I J x.v,I J x.id] 218);have f:=C (by rw[<-H];exact(Below.refl _ _).alloc (bK _) _:Below w.heap.size w V);have ad:=s.cell 0 (v:=I J x.v) rfl;have aB:=s.cell 1 (v:=I J x.id) rfl;have aA:=bY f n ac;have aG:=bY f n az;have ag:=s.out.lt;have t:=dd n f.size;go_region_held3 (λW'=>W'.cell? ⟨w.heap.size,0,U⟩=R (I J x.v)∧W'.cell? ⟨w.heap.size,1,U⟩=R (I J x.id)∧W'.cell? ⟨b,0,U⟩=R (I J k.v)∧W'.cell? ⟨b,1,U⟩=R (I J k.id)) ((refine⟨?_,?_,?_,?_⟩)<;>(first|assumption|(with_reducible refine b2 ?_;assumption))) (first|(go_at_call 256;refine(ml x k _).mono ?_;rintro d aV ⟨rfl,j⟩;rw[Y.out];have K:=C j;have aL:=bY j ag ad;have ae:=bY j ag aB;have aZ:=bY j t aA;have a6:=bY j t aG));have u:=C (f.drew.trans (K.mono f.size));have L:=K.out.size;have M:=dd ag L;have a7:=dd t L;have a8:w.heap.size≠b:=by omega
 have z:=C (q.mod (Mod.below (S:=λ_=>False) u) (λ_ _ h=>h));have ba:=bY u n E;have o:=C (by have av:1+(l.size+r.size)<=200:=G.out;have g:=T.kz F.out (by have:=G.out;omega);exact⟨g.1,g.2.1,T.kz (T.rf r x F.2.1).mP (by have:=T.sD x r;omega),g.2.2.1⟩:1<=lev∧lev<=1000∧(r.del x).1.dW∧l.dW);go_wp2_with fail;go_region_with (first|(go_at_call 240;rw[<-aq.out];refine(Z _ (z.2.2.drewN 1)).mono ?_;rintro d A ⟨rfl,B,e⟩;replace e:=e.mL;have N:=C e;have am:=C B;have ao:=e.cell aL M (λh=>absurd (q.2.2.lt _ h) (by omega));have bb:=e.cell ae M (λh=>absurd (q.2.2.lt _ h) (by omega));have D:=C ((z.1).mod e a.2.1);have bf:=D.free 4;have ax:=D.cell 4 (v:=af r.bE) rfl));all_goals have aN:=C (D.set 4 (af (r.del x).1.bE));have O:b∉(r.del x).1.blocks:=λg=>a.2.1 (T.kq g);have aj:=C (T.oK (k:=k) (lev:=lev) a.1 O a.2.2.1 (T.qH a.2.2.2.1) (λy c g=>a.2.2.2.2 y c (T.kq g)));have P:=Mod.one A b 4 (af (r.del x).1.bE);have ap:=C (⟨aN,(z.2.1.mod N (λy c g=>a.2.2.2.2 y c g)).mod P (λy c d=>a.1 (d▸c)),am.mod P (λy c d=>O (d▸c))⟩:(T.node b l k lev (r.del x).1).At (A.setCell ⟨b,4,U⟩ (af (r.del x).1.bE)));have aQ:=C (T.pX o.1 o.2.1 o.2.2.2 o.2.2.1:(T.node b l k lev (r.del x).1).dW);go_wp2_with fail;refine(sY b l k lev (r.del x).1 _ ap aj aQ).mono ?_;rintro d wc ⟨rfl,B,ah⟩;have aR:=C B;have aS:=C ah;go_wp2;go_ret2;refine⟨by rw[T.AE m];rfl,by rw[T.AE m];exact aR,?_⟩;have aU:Mod (· ∈(T.node b l k lev r).blocks) w A:=(Mod.below u).trans N (λi _ g=>T.c6.2 (.inr (.inr g)));have aP:=aU.setCell (i:=4) (T.c6.2 (.inl rfl)) (af (r.del x).1.bE);exact aP.trans aS (λi _ g=>by
  rcases T.c6.1 g with g|g|g;·exact T.c6.2 (.inl g)
  ·exact T.c6.2 (.inr (.inl g))
  ·exact T.c6.2 (.inr (.inr (T.kq g))))
theorem Hg (b lb:Nat) (a:T) (c:Key) (d:Nat) (e:T) (k:Key) (lev:Nat) (r:T) (w:ab) (h:(T.node b (T.node lb a c d e) k lev r).At w) (L:(T.node b (T.node lb a c d e) k lev r).blocks.Nodup) (hv:(T.node b (T.node lb a c d e) k lev r).dQ) (aq:(T.node b (T.node lb a c d e) k lev r).size<=200) (M:∀y w,(T.node lb a c d e).At w->Calls au 240 #[af (T.node lb a c d e).bE,dR y] w (kA (T.node lb a c d e) y w)):Calls au 240 #[af (R ⟨b,0,U⟩),dR k] w (kA (T.node b (T.node lb a c d e) k lev r) k w):=by obtain⟨x,D⟩:∃x,x=k:=⟨_,rfl⟩;have ac:=C (by unfold e_;rw[aj D]:e_ x k=0);rw[show dR k=dR x by rw[D]];have az:=C (M (T.node lb a c d e).last);have ad:=h.1.cell 3 (v:=af (R ⟨lb,0,U⟩)) rfl;clear M D;have l:=C (T.dn L);have aB:=h.1.cell 0 (v:=I J k.v) rfl;have aA:=h.1.cell 1 (v:=I J k.id) rfl;have u:=h.1.lt;clear L;show Calls au 240 #[af (R ⟨b,0,U⟩),bk #[I J x.v,I J x.id]] w _;go_enter func240,ntmps240;go_upto_region 4 with(fail);generalize N:kn w _=V;have E:=C (by rw[<-N];exact ak.new _ _ _:ak V w.heap.size #[I J x.v,I J x.id] 218);have n:=C (by rw[<-N];exact(Below.refl _ _).alloc (bK _) _:Below w.heap.size w V);have aG:=E.cell 0 (v:=I J x.v) rfl;have aL:=E.cell 1 (v:=I J x.id) rfl;have ae:=bY n u aB;have am:=bY n u aA;have ag:=E.out.lt;have O:=dd u n.size;go_region_held3 (λW'=>W'.cell? ⟨w.heap.size,0,U⟩=R (I J x.v)∧W'.cell? ⟨w.heap.size,1,U⟩=R (I J x.id)∧W'.cell? ⟨b,0,U⟩=R (I J k.v)∧W'.cell? ⟨b,1,U⟩=R (I J k.id)) ((refine⟨?_,?_,?_,?_⟩)<;>(first|assumption|(with_reducible refine b2 ?_;assumption))) (first|(go_at_call 256;refine(ml x k _).mono ?_;rintro f o ⟨rfl,p⟩;rw[ac.out];have P:=C p;have ba:=bY p ag aG;have av:=bY p ag aL;have ao:=bY p O ae;have bb:=bY p O am));have F:=C (n.drew.trans (P.mono n.size));have bf:=P.out.size;have q:=C (h.mod (Mod.below (S:=λ_=>False) F) (λ_ _ h=>h));have ax:=bY F u ad;have z:=C (by have aN:=aq;have bc:1+((T.node lb a c d e).size+r.size)<=200:=aN;have g:=T.kz hv (by omega);exact⟨g.1,g.2.1,T.kz (T.rf (T.node lb a c d e) (T.node lb a c d e).last hv.1).mP (by have:=T.sD (T.node lb a c d e).last (T.node lb a c d e);omega),g.2.2.2⟩:1<=lev∧lev<=1000∧((T.node lb a c d e).del (T.node lb a c d e).last).1.dW∧r.dW);have Q:=q.1;have bg:=Q.free 0;have bj:=Q.free 1;go_wp2_with fail;refine(Ha (T.node lb a c d e) _ q.2.1 (by simp)).mono ?_;rintro f an ⟨aw,bl,bo,bm,rfl,W,ay,rfl⟩;have bq:=W.cell 0 (v:=I J (T.node lb a c d e).last.v) rfl;have bt:=W.cell 1 (v:=I J (T.node lb a c d e).last.id) rfl;generalize G:(T.node lb a c d e).last=m at*;have ap:=C G;go_upto_region 12 with(fail);have s:=C ((q.1.set 0 _).set 1 _:ak ((o.setCell ⟨b,0,U⟩ (I J m.v)).setCell ⟨b,1,U⟩ (I J m.id)) b (T.cells (T.node lb a c d e) m lev r) 331);have A:=C ((Mod.one o b 0 _).setCell rfl _:Mod (λy=>y=b) o ((o.setCell ⟨b,0,U⟩ (I J m.v)).setCell ⟨b,1,U⟩ (I J m.id)));generalize World.setCell (World.setCell o _ _) _ _=aQ at s A⊢;have ah:=C (q.2.1.mod A (λy j f=>l.1 (f▸j)));have aR:=C (q.2.2.mod A (λy j f=>l.2.1 (f▸j)));have ai:=s.cell 0 (v:=I J m.v) rfl;have bw:=s.cell 1 (v:=I J m.id) rfl;have aD:=s.cell 3 (v:=af (R ⟨lb,0,U⟩)) rfl;go_region_with (first|(go_at_call 240;refine(az _ (ah.drewN 1)).mono ?_;rintro f H ⟨rfl,K,B⟩;replace B:=B.mL;have X:=C B;have aS:=C K;have t:=C (s.mod B l.1);have a0:=t.free 3;have bz:=t.cell 3 (v:=af (R ⟨lb,0,U⟩)) rfl;have a2:=t.cell 0 (v:=I J m.v) rfl;have a3:=t.cell 1 (v:=I J m.id) rfl));all_goals
 have aU:=C (t.set 3 (af ((T.node lb a c d e).del m).1.bE));have Y:b∉((T.node lb a c d e).del m).1.blocks:=λg=>l.1 (T.kq g);have aP:=C (T.oK (k:=m) (lev:=lev) Y l.2.1 (T.qH l.2.2.1) l.2.2.2.1 (λy j g=>l.2.2.2.2 y (T.kq j) g));have Z:=Mod.one H b 3 (af ((T.node lb a c d e).del m).1.bE);have aV:=C (⟨aU,aS.mod Z (λy j f=>Y (f▸j)),(aR.mod X (λy j g=>l.2.2.2.2 y g j)).mod Z (λy j f=>l.2.1 (f▸j))⟩:(T.node b ((T.node lb a c d e).del m).1 m lev r).At (H.setCell ⟨b,3,U⟩ (af ((T.node lb a c d e).del m).1.bE)));have aZ:=C (T.pX z.1 z.2.1 z.2.2.1 z.2.2.2:(T.node b ((T.node lb a c d e).del m).1 m lev r).dW);go_wp2_with fail;refine(sY b ((T.node lb a c d e).del m).1 m lev r _ aV aP aZ).mono ?_;rintro f wc ⟨rfl,K,G⟩;go_wp2;go_ret2;have aa:(T.node b (T.node lb a c d e) k lev r).del k=(T.settled (T.node b ((T.node lb a c d e).del m).1 m lev r),true):=by rw[T.Hb,ap.out]
 refine⟨by rw[aa];rfl,by rw[aa];exact K,?_⟩;have a6:Mod (· ∈(T.node b (T.node lb a c d e) k lev r).blocks) w aQ:=(Mod.below F).trans A (λi _ g=>T.c6.2 (.inl g));have a7:Mod (· ∈(T.node b (T.node lb a c d e) k lev r).blocks) w H:=a6.trans X (λi _ g=>T.c6.2 (.inr (.inl g)));have a8:=a7.setCell (i:=3) (T.c6.2 (.inl rfl)) (af ((T.node lb a c d e).del m).1.bE);exact a8.trans G (λi _ g=>by
  rcases T.c6.1 g with g|g|g;·exact T.c6.2 (.inl g)
  ·exact T.c6.2 (.inr (.inl (T.kq g)))
  ·exact T.c6.2 (.inr (.inr g)))
theorem Hh (b lb:Nat) (a:T) (c:Key) (d:Nat) (e:T) (k:Key) (lev:Nat) (w:ab) (h:(T.node b .nil k lev (T.node lb a c d e)).At w) (M:(T.node b .nil k lev (T.node lb a c d e)).blocks.Nodup) (hv:(T.node b .nil k lev (T.node lb a c d e)).dQ) (aq:(T.node b .nil k lev (T.node lb a c d e)).size<=200) (N:∀y w,(T.node lb a c d e).At w->Calls au 240 #[af (T.node lb a c d e).bE,dR y] w (kA (T.node lb a c d e) y w)):Calls au 240 #[af (R ⟨b,0,U⟩),dR k] w (kA (T.node b .nil k lev (T.node lb a c d e)) k w):=by obtain⟨x,B⟩:∃x,x=k:=⟨_,rfl⟩;have ac:=C (by unfold e_;rw[aj B]:e_ x k=0);rw[show dR k=dR x by rw[B]];have az:=C (N (T.node lb a c d e).first);have ad:=h.1.cell 4 (v:=af (R ⟨lb,0,U⟩)) rfl;have aB:=h.1.cell 3 (v:=af U) rfl;clear N B;have t:=C (T.dn M);have O:=h.1.cell 0 (v:=I J k.v) rfl;have P:=h.1.cell 1 (v:=I J k.id) rfl;have j:=h.1.lt;clear M;show Calls au 240 #[af (R ⟨b,0,U⟩),bk #[I J x.v,I J x.id]] w _;go_enter func240,ntmps240;go_upto_region 4 with(fail);generalize D:kn w _=V;have E:=C (by rw[<-D];exact ak.new _ _ _:ak V w.heap.size #[I J x.v,I J x.id] 218);have n:=C (by rw[<-D];exact(Below.refl _ _).alloc (bK _) _:Below w.heap.size w V);have aA:=E.cell 0 (v:=I J x.v) rfl;have aG:=E.cell 1 (v:=I J x.id) rfl;have aL:=bY n j O;have ae:=bY n j P;have ag:=E.out.lt;have Q:=dd j n.size;clear D O P;go_region_held3 (λW'=>W'.cell? ⟨w.heap.size,0,U⟩=R (I J x.v)∧W'.cell? ⟨w.heap.size,1,U⟩=R (I J x.id)∧W'.cell? ⟨b,0,U⟩=R (I J k.v)∧W'.cell? ⟨b,1,U⟩=R (I J k.id)) ((refine⟨?_,?_,?_,?_⟩)<;>(first|assumption|(with_reducible refine b2 ?_;assumption))) (first|(go_at_call 256;refine(ml x k _).mono ?_;rintro f o ⟨rfl,p⟩;rw[ac.out];have W:=C p;have ba:=bY p ag aA;have av:=bY p ag aG;have ao:=bY p Q aL;have bb:=bY p Q ae));have u:=C (n.drew.trans (W.mono n.size));have bf:=W.out.size;have z:=C (h.mod (Mod.below (S:=λ_=>False) u) (λ_ _ h=>h));have ax:=bY u j ad;have bc:=bY u j aB;have F:=C (by have am:=aq;have bg:1+(T.nil.size+(T.node lb a c d e).size)<=200:=am;have g:=T.kz hv (by omega);exact⟨g.1,g.2.1,T.kz (T.rf (T.node lb a c d e) (T.node lb a c d e).first hv.2.1).mP (by have:=T.sD (T.node lb a c d e).first (T.node lb a c d e);omega),trivial⟩:1<=lev∧lev<=1000∧((T.node lb a c d e).del (T.node lb a c d e).first).1.dW∧T.nil.dW);have X:=z.1;have bj:=X.free 0;have an:=X.free 1;go_wp2_with fail;refine(AB (T.node lb a c d e) _ z.2.2 (by simp)).mono ?_;rintro f aw ⟨bl,bo,bm,ay,rfl,Y,bq,rfl⟩;have bt:=Y.cell 0 (v:=I J (T.node lb a c d e).first.v) rfl;have ai:=Y.cell 1 (v:=I J (T.node lb a c d e).first.id) rfl;generalize G:(T.node lb a c d e).first=m at*;have aN:=C G;go_upto_region 15 with(fail);have q:=C ((z.1.set 0 _).set 1 _:ak ((o.setCell ⟨b,0,U⟩ (I J m.v)).setCell ⟨b,1,U⟩ (I J m.id)) b (T.cells .nil m lev (T.node lb a c d e)) 331);have H:=C ((Mod.one o b 0 _).setCell rfl _:Mod (λy=>y=b) o ((o.setCell ⟨b,0,U⟩ (I J m.v)).setCell ⟨b,1,U⟩ (I J m.id)));generalize World.setCell (World.setCell o _ _) _ _=ap at q H⊢;have aQ:=C (z.2.2.mod H (λy r f=>t.2.1 (f▸r)));have bw:=q.cell 0 (v:=I J m.v) rfl;have aD:=q.cell 1 (v:=I J m.id) rfl;have a0:=q.cell 4 (v:=af (R ⟨lb,0,U⟩)) rfl;go_region_with (first|(go_at_call 240;refine(az _ (aQ.drewN 1)).mono ?_;rintro f K ⟨rfl,L,A⟩;replace A:=A.mL;have ah:=C A;have aR:=C L;have s:=C (q.mod A t.2.1);have bz:=s.free 4;have a2:=s.cell 4 (v:=af (R ⟨lb,0,U⟩)) rfl;have a3:=s.cell 0 (v:=I J m.v) rfl;have a4:=s.cell 1 (v:=I J m.id) rfl));all_goals
 have aS:=C (s.set 4 (af ((T.node lb a c d e).del m).1.bE));have Z:b∉((T.node lb a c d e).del m).1.blocks:=λg=>t.2.1 (T.kq g);have aU:=C (T.oK (k:=m) (lev:=lev) (l:=.nil) (by simp[T.blocks]) Z (by simp[T.blocks]) (T.qH t.2.2.2.1) (λy r g=>by simp[T.blocks] at r));have aP:=Mod.one K b 4 (af ((T.node lb a c d e).del m).1.bE);have aV:=C (⟨aS,trivial,aR.mod aP (λy r f=>Z (f▸r))⟩:(T.node b .nil m lev ((T.node lb a c d e).del m).1).At (K.setCell ⟨b,4,U⟩ (af ((T.node lb a c d e).del m).1.bE)));have aZ:=C (T.pX F.1 F.2.1 trivial F.2.2.1:(T.node b .nil m lev ((T.node lb a c d e).del m).1).dW);go_wp2_with fail;refine(sY b .nil m lev ((T.node lb a c d e).del m).1 _ aV aU aZ).mono ?_;rintro f wc ⟨rfl,L,G⟩;go_wp2;go_ret2;have aa:(T.node b .nil k lev (T.node lb a c d e)).del k=(T.settled (T.node b .nil m lev ((T.node lb a c d e).del m).1),true):=by rw[T.Hc,aN.out]
 refine⟨by rw[aa];rfl,by rw[aa];exact L,?_⟩;have a6:Mod (· ∈(T.node b .nil k lev (T.node lb a c d e)).blocks) w ap:=(Mod.below u).trans H (λi _ g=>T.c6.2 (.inl g));have a7:Mod (· ∈(T.node b .nil k lev (T.node lb a c d e)).blocks) w K:=a6.trans ah (λi _ g=>T.c6.2 (.inr (.inr g)));have a8:=a7.setCell (i:=4) (T.c6.2 (.inl rfl)) (af ((T.node lb a c d e).del m).1.bE);exact a8.trans G (λi _ g=>by
  rcases T.c6.1 g with g|g|g;·exact T.c6.2 (.inl g)
  ·exact T.c6.2 (.inr (.inl g))
  ·exact T.c6.2 (.inr (.inr (T.kq g))))
theorem Hi (b:Nat) (k:Key) (lev:Nat) (w:ab) (h:(T.node b .nil k lev .nil).At w):Calls au 240 #[af (R ⟨b,0,U⟩),dR k] w (kA (.node b .nil k lev .nil) k w):=by obtain⟨x,e⟩:∃x,x=k:=⟨_,rfl⟩;have o:=C (by unfold e_;rw[aj e]:e_ x k=0);rw[show dR k=dR x by rw[e]];have p:=h.1.cell 3 (v:=af U) rfl;have q:=h.1.cell 4 (v:=af U) rfl;clear e;have j:=h.1.cell 0 (v:=I J k.v) rfl;have l:=h.1.cell 1 (v:=I J k.id) rfl;have a:=h.1.lt;show Calls au 240 #[af (R ⟨b,0,U⟩),bk #[I J x.v,I J x.id]] w _;go_enter func240,ntmps240;go_upto_region 4 with(fail);generalize f:kn w _=V;have g:=C (by rw[<-f];exact ak.new _ _ _:ak V w.heap.size #[I J x.v,I J x.id] 218);have c:=C (by rw[<-f];exact(Below.refl _ _).alloc zK9 _:Below w.heap.size w V);have r:=g.cell 0 (v:=I J x.v) rfl;have s:=g.cell 1 (v:=I J x.id) rfl;have t:=bY c a j;have u:=bY c a l;have ag:=g.out.lt;have m:=dd a c.size;clear f j l;go_region_held3 (λW'=>W'.cell? ⟨w.heap.size,0,U⟩=R (I J x.v)∧W'.cell? ⟨w.heap.size,1,U⟩=R (I J x.id)∧W'.cell? ⟨b,0,U⟩=R (I J k.v)∧W'.cell? ⟨b,1,U⟩=R (I J k.id)) ((refine⟨?_,?_,?_,?_⟩)<;>(first|assumption|(with_reducible refine b2 ?_;assumption))) (first|(go_at_call 256;refine(ml x k _).mono ?_;rintro y z ⟨rfl,d⟩;rw[o.out];have n:=C d;have A:=bY d ag r;have B:=bY d ag s;have D:=bY d m t;have E:=bY d m u));have i:=C (c.drew.trans (n.mono c.size));have F:=n.out.size;have G:=bY i a p;have H:=bY i a q;go_wp2;go_ret2;exact⟨by rw[T.AF];rfl,by rw[T.AF];trivial,Mod.below i⟩
theorem Hj (t:T) (x:Key) (w:ab) (h:t.At w) (c:t.blocks.Nodup) (hv:t.dQ) (d:t.size<=200):Calls au 240 #[af t.bE,dR x] w (kA t x w):=by
 induction t generalizing x w with
 |nil=>exact Hd x w
 |node b l k lev r j m=>
  have s:1+(l.size+r.size)<=200:=d;have e:∀y w,l.At w->Calls au 240 #[af l.bE,dR y] w (kA l y w):=λy w a=>j y w a (T.dn c).2.2.1 hv.1 (by omega);have f:∀y w,r.At w->Calls au 240 #[af r.bE,dR y] w (kA r y w):=λy w a=>m y w a (T.dn c).2.2.2.1 hv.2.1 (by omega);by_cases g:x=k;·subst g;cases l with
   |node lb n o p q=>exact Hg b lb n o p q x lev r w h c hv d e
   |nil=>
    cases r with
    |node rb rl rk rlev rr=>exact Hh b rb rl rk rlev rr x lev w h c hv d f
    |nil=>exact Hi b x lev w h
  ·by_cases i:x.lt k;·exact He b l k lev r x w h c hv d i (λw a=>e x w a)
   ·exact Hf b l k lev r x w h c hv d (Key.pJ i g) (λw a=>f x w a)
def eD (w:ab) (S:Nat->Prop) (b:Nat) (c:List Key):Prop:=∃a:T,ak w b #[af a.bE,I J (c.length:Int)] 289∧a.At w∧b∉a.blocks∧a.blocks.Nodup∧a.dQ∧ha c∧a.keys=c∧S b∧∀x∈a.blocks,S x
theorem eD.sorted {a:List Key} (h:eD w S b a):ha a:=by obtain⟨c,_,_,_,_,_,h,_⟩:=h;exact h
theorem eD.own {a:List Key} (h:eD w S b a):S b∧b<w.heap.size:=by obtain⟨d,c,_,_,_,_,_,_,h,_⟩:=h;exact⟨h,c.lt⟩
theorem eD.frame {a:List Key} (h:eD w S b a) (c:Mod al w w') (d:∀k,S k->¬al k):eD w' S b a:=by obtain⟨g,i,j,l,m,n,o,p,e,f⟩:=h;exact⟨g,i.mod c (d b e),j.mod c (λx q=>d x (f x q)),l,m,n,o,p,e,f⟩
theorem eD.mono {S':Nat->Prop} {a:List Key} (h:eD w S b a) (c:∀k,k<w.heap.size->S k->S' k):eD w S' b a:=by obtain⟨g,d,e,i,j,l,m,n,o,p⟩:=h;exact⟨g,d,e,i,j,l,m,n,c _ d.lt o,λx f=>c x (e.lt x f) (p x f)⟩
theorem Hk {l:List Key} (b:ha l) (h:x∉l):(fj x l).length=l.length+1:=by
 induction l with
 |nil=>rfl
 |cons a l c=>
  have d:=pz.1 b;have e:x≠a:=λf=>h (by simp[f]);show(if x=a then a::l else if x.lt a then x::a::l else a::fj x l).length=_;rw[z0 e];split;·rfl
  ·rw[dX,c d.2 (λg=>h (by simp[g])),dX]
theorem wT {l:List Key} (d:ha l) (h:x∈l):(eM x l).length+1=l.length:=by
 induction l with
 |nil=>cases h
 |cons a l e=>
  have c:=pz.1 d;by_cases b:a=x;·subst b;rw[sw,oj (λg=>Key.lt_irrefl _ (c.1 _ g))];rfl
  ·rw[vA b,dX,dX,e c.2 ((gZ.1 h).resolve_left (Ne.symm b))]
def Hl (S:Nat->Prop) (b:Nat) (a:List Key) (x:Key) (w:ab) (e:Ending) (w':ab):Prop:=e=aK (aD true)∧eD w' (cS S w) b (fj x a)∧Mod S w w'
theorem AG (S:Nat->Prop) (b:Nat) (j:List Key) (x:Key) (w:ab) (h:eD w S b j) (O:x∉j) (P:j.length<=198):Calls au 213 #[af (R ⟨b,0,U⟩),dR x] w (Hl S b j x w):=by
 obtain⟨a,k,l,Q,u,z,W,rfl,X,Y⟩:=h;have A:=k.cell 0 (v:=af a.bE) rfl;have Z:=k.cell 1 (v:=I J (a.keys.length:Int)) rfl;have B:=k.lt;have aa:a.size<=200:=by rw[<-T.sB];omega
 generalize aq:a.keys.length=n at Z P;have D:=C aq;generalize ac:a.bE=p at A;have E:=C ac;have F:=C O;have G:=C Q;have m:=C W;have q:=C X;have H:=C Y;show Calls au 213 #[af (R ⟨b,0,U⟩),bk #[I J x.v,I J x.id]] w _;go_enter func213,ntmps213;go_upto_region 3 with(fail);generalize K:kn w _=V;have r:=C (by rw[<-K];exact ak.new _ _ _:ak V w.heap.size #[I J x.v,I J x.id] 218);have e:=C (by rw[<-K];exact(Below.refl _ _).alloc zK9 _:Below w.heap.size w V);have az:=r.cell 0 (v:=I J x.v) rfl;have ad:=r.cell 1 (v:=I J x.id) rfl;have ah:=bY e B A;have ag:=r.out.lt;have aR:=dd B e.size;have aB:=C (k.mod (zF9 e) id);have aA:=C (l.mod (zF9 e) (λ_ _=>id));go_region_held3 (λW'=>W'.cell? ⟨w.heap.size,0,U⟩=R (I J x.v)∧W'.cell? ⟨w.heap.size,1,U⟩=R (I J x.id)∧W'.cell? ⟨b,0,U⟩=R (af p)) ((refine⟨?_,?_,?_⟩)<;>(first|assumption|(with_reducible refine b2 ?_;assumption))) (first|(go_at_call 241;rw[<-E.out];refine(G2 a x _ (aA.drewN 1) u z aa).mono ?_;rintro o L ⟨c,s,rfl,M,d⟩;replace d:=d.mL;rw[show(a.ins c x).2=true by rw[(T.zc c x a m.out).2];exact decide_eq_true F.out];have aG:=C d;have aL:=C M;have ae:=C (s:V.heap.size<=c);have aS:=d.cell az ag (λh=>absurd (l.lt _ h) (by omega));have aU:=d.cell ad ag (λh=>absurd (l.lt _ h) (by omega));have f:=C (aB.mod d G);have am:=f.cell 0 (v:=af a.bE) rfl;have aN:=f.cell 1 (v:=I J (a.keys.length:Int)) rfl;have aP:=f.free 0;have aV:=f.free 1;rw[E.out] at am;rw[D.out] at aN;clear d M s));go_wp2;go_ret;have s:V.heap.size<=c:=ae;have N:b∉(a.ins c x).1.blocks:=λg=>(T.nw g).elim (λo=>by omega) G;have aj:c∉a.blocks:=λg=>absurd (l.lt _ g) (by omega);have ap:=Hk m F;have aQ:Mod S w L:=(Mod.below e).trans aG (λi _ g=>H i g);refine⟨rfl,⟨(a.ins c x).1,?_,?_,N,T.vF u aj,(T.wN c x a z).mP,y_ m,(T.zc c x a m).1,.inl q,λy t=>?_⟩,(aQ.setCell q _).setCell q _⟩;·rw[ap];have:=(f.set 0 (af (a.ins c x).1.bE)).set 1 (I J ((n:Int)+1));rw[<-D.out] at this⊢;exact this
 ·exact aL.mod ((Mod.one L b 0 _).setCell (i:=1) rfl _) (λy t o=>N (o▸t))
 ·exact(T.nw t).elim (λo=>.inr (by omega)) (λg=>.inl (H y g))
def Hm (S:Nat->Prop) (b:Nat) (a:List Key) (x:Key) (w:ab) (e:Ending) (w':ab):Prop:=e=aK (aD true)∧eD w' S b (eM x a)∧Mod S w w'
theorem AH (S:Nat->Prop) (b:Nat) (e:List Key) (x:Key) (w:ab) (h:eD w S b e) (l:x∈e) (L:e.length<=200):Calls au 211 #[af (R ⟨b,0,U⟩),dR x] w (Hm S b e x w):=by
 obtain⟨a,f,m,M,t,u,N,rfl,O,P⟩:=h;have z:=f.cell 0 (v:=af a.bE) rfl;have Q:=f.cell 1 (v:=I J (a.keys.length:Int)) rfl;have W:=f.lt;have X:a.size<=200:=by rw[<-T.sB];omega
 generalize Y:a.keys.length=n at Q L;have o:=C Y;generalize Z:a.bE=p at z;have A:=C Z;have B:=C M;have j:=C N;have q:=C O;have D:=C P;show Calls au 211 #[af (R ⟨b,0,U⟩),bk #[I J x.v,I J x.id]] w _;go_enter func211,ntmps211;go_upto_region 3 with(fail);generalize E:kn w _=V;have r:=C (by rw[<-E];exact ak.new _ _ _:ak V w.heap.size #[I J x.v,I J x.id] 218);have k:=C (by rw[<-E];exact(Below.refl _ _).alloc (bK _) _:Below w.heap.size w V);have aa:=r.cell 0 (v:=I J x.v) rfl;have aq:=r.cell 1 (v:=I J x.id) rfl;have am:=bY k W z;have ag:=r.out.lt;have ac:=C (f.mod (Mod.below (S:=λ_=>False) k) id);have az:=C (m.mod (Mod.below (S:=λ_=>False) k) (λ_ _=>id));go_region_held3 (λW'=>W'.cell? ⟨w.heap.size,0,U⟩=R (I J x.v)∧W'.cell? ⟨w.heap.size,1,U⟩=R (I J x.id)∧W'.cell? ⟨b,0,U⟩=R (af p)) ((refine⟨?_,?_,?_⟩)<;>(first|assumption|(with_reducible refine b2 ?_;assumption))) (first|(go_at_call 240;rw[<-A.out];refine(Hj a x _ (az.drewN 1) t u X).mono ?_;rintro F G ⟨rfl,H,c⟩;replace c:=c.mL;rw[show(a.del x).2=true by rw[(T.zd a x j.out).2];exact decide_eq_true l];have ad:=C c;have aB:=C H;have aN:=c.cell aa ag (λh=>absurd (m.lt _ h) (by omega));have aj:=c.cell aq ag (λh=>absurd (m.lt _ h) (by omega));have d:=C (ac.mod c B);have aA:=d.cell 0 (v:=af a.bE) rfl;have aG:=d.cell 1 (v:=I J (a.keys.length:Int)) rfl;have ap:=d.free 0;have aQ:=d.free 1;rw[A.out] at aA;rw[o.out] at aG;clear c H));have ah:1<=n:=by rw[<-o.out];exact List.length_pos_of_mem l
 go_wp2;go_ret;have K:b∉(a.del x).1.blocks:=λg=>B (T.kq g);have aL:=wT j l;have ae:Mod S w G:=(Mod.below k).trans ad (λi _ g=>D i g);refine⟨rfl,⟨(a.del x).1,?_,?_,K,T.qH t,(T.rf a x u).mP,FH j,(T.zd a x j).1,q,λy s=>D y (T.kq s)⟩,(ae.setCell q _).setCell q _⟩;·have:=(d.set 0 (af (a.del x).1.bE)).set 1 (I J ((n:Int)-1));rw[o.out] at aL;rw[show(n:Int)-1=((eM x a.keys).length:Int) by omega] at this⊢;exact this
 ·exact aB.mod ((Mod.one G b 0 _).setCell (i:=1) rfl _) (λy s F=>K (F▸s))
theorem wU (a b:Int) (w:ab):Calls au 210 #[I J a,I J b] w λe w'=>e=aK (bC #[I J (l5 a b).1,aD (l5 a b).2])∧w'=w:=by
 unfold l5 pL cK;go_enter func210,ntmps210;go_wp2;all_goals go_ret2
 all_goals(simp_all;try omega)
theorem AI (a b:Int) (w:ab):Calls au 73 #[I J a,I J b] w λe w'=>e=aK (bC #[I J (mz a b).1,aD (mz a b).2])∧w'=w:=by
 unfold mz pM cK;go_enter func73,ntmps73;go_wp2;all_goals go_ret2
 all_goals(simp_all;try omega)
theorem _f (n a b:Int) (w:ab):Calls au 197 #[I J n,I J a,I J b] w λc w'=>c=aK (I J (om n a b))∧w'=w:=by
 unfold om;go_enter func197,ntmps197;go_wp2;all_goals go_ret
 all_goals(simp_all;try omega)
theorem sZ (a b:Int) (w:ab):Calls au 162 #[I J a,I J b] w λf w'=>f=aK (I J (kr a b))∧Below w.heap.size w w':=by
 have d:=C (show kr a b=if pL a b then(if 0<b then 9223372036854775807 else-9223372036854775808) else cK (a+b) from rfl);have e:=C (show l5 a b=if pL a b then(0,false) else(cK (a+b),true) from rfl);obtain⟨r,c⟩:∃r,kr a b=r:=⟨_,rfl⟩;rw[c];rw[c] at d;obtain⟨n,g⟩:∃n,cK (a+b)=n:=⟨_,rfl⟩;rw[g] at d e;obtain⟨o,h⟩:∃o,pL a b=o:=⟨_,rfl⟩;rw[h] at d e;clear h g c;go_enter func162,ntmps162;go_wp2_with fail;apply(wU a b _).mono;rintro f j ⟨rfl,rfl⟩;rw[e.out];cases o;·have c:=d;simp only[jI,if_false] at c;subst c;simp only[jI,if_false];go_wp2;go_ret;exact⟨rfl,bx _ _⟩
 ·simp only[if_true];have c:=d.out;simp only[if_true] at c;by_cases i:0<b;·rw[aj i] at c;subst c;go_wp2;go_ret;exact⟨rfl,bx _ _⟩
  ·rw[z0 i] at c;subst c;go_wp2;go_ret;exact⟨rfl,bx _ _⟩
theorem AJ (a b:Int) (w:ab):Calls au 74 #[I J a,I J b] w λf w'=>f=aK (I J (nx a b))∧Below w.heap.size w w':=by
 have d:=C (show nx a b=if pM a b then(if b<0 then 9223372036854775807 else-9223372036854775808) else cK (a-b) from rfl);have e:=C (show mz a b=if pM a b then(0,false) else(cK (a-b),true) from rfl);obtain⟨r,c⟩:∃r,nx a b=r:=⟨_,rfl⟩;rw[c];rw[c] at d;obtain⟨n,g⟩:∃n,cK (a-b)=n:=⟨_,rfl⟩;rw[g] at d e;obtain⟨o,h⟩:∃o,pM a b=o:=⟨_,rfl⟩;rw[h] at d e;clear h g c;go_enter func74,ntmps74;go_wp2_with fail;apply(AI a b _).mono;rintro f j ⟨rfl,rfl⟩;rw[e.out];cases o;·have c:=d;simp only[jI,if_false] at c;subst c;simp only[jI,if_false];go_wp2;go_ret;exact⟨rfl,bx _ _⟩
 ·simp only[if_true];have c:=d.out;simp only[if_true] at c;by_cases i:b<0;·rw[aj i] at c;subst c;go_wp2;go_ret;exact⟨rfl,bx _ _⟩
  ·rw[z0 i] at c;subst c;go_wp2;go_ret;exact⟨rfl,bx _ _⟩
variable {cap:Nat} {zs:List Int}
section
open Go.Shelf
def HI:Go.Shelf.Ren:=⟨λ|189=>236|125=>259|257=>258|128=>285|129=>232|294=>276|295=>277|296=>278|297=>279|298=>280|299=>281|216=>282|300=>283|301=>284|328=>296|329=>297|330=>298|331=>299|332=>300|215=>242|343=>304|n=>n,λ|28=>46|3=>3|46=>92|0=>0|51=>353|53=>31|4=>4|183=>370|182=>369|131=>173|5=>5|9=>9|218=>385|222=>275|228=>394|229=>395|n=>n,λ|n=>n⟩
theorem AX:Go.Proofs.Lays.n189 au HI:={
 mixed:=by kernel_rfl
 f125:=func259.trans (congrArg R (by kernel_rfl))
 f128:=func285.trans (congrArg R (by kernel_rfl))
 f129:=func232.trans (congrArg R (by kernel_rfl))
 f189:=func236.trans (congrArg R (by kernel_rfl))
 f215:=func242.trans (congrArg R (by kernel_rfl))
 f216:=func282.trans (congrArg R (by kernel_rfl))
 f257:=func258.trans (congrArg R (by kernel_rfl))
 f294:=func276.trans (congrArg R (by kernel_rfl))
 f295:=func277.trans (congrArg R (by kernel_rfl))
 f296:=func278.trans (congrArg R (by kernel_rfl))
 f297:=func279.trans (congrArg R (by kernel_rfl))
 f298:=func280.trans (congrArg R (by kernel_rfl))
 f299:=func281.trans (congrArg R (by kernel_rfl))
 f300:=func283.trans (congrArg R (by kernel_rfl))
 f301:=func284.trans (congrArg R (by kernel_rfl))
 f328:=func296.trans (congrArg R (by kernel_rfl))
 f329:=func297.trans (congrArg R (by kernel_rfl))
 f330:=func298.trans (congrArg R (by kernel_rfl))
 f331:=func299.trans (congrArg R (by kernel_rfl))
 f332:=func300.trans (congrArg R (by kernel_rfl))
 f343:=func304.trans (congrArg R (by kernel_rfl))
 t0:=underlying0
 a0:=isAgg0
 z0:=sizeOf0
 v0:=zeroValue0
 t3:=underlying3
 a3:=isAgg3
 z3:=sizeOf3
 v3:=zeroValue3
 t4:=underlying4
 a4:=isAgg4
 z4:=sizeOf4
 v4:=zeroValue4
 t5:=underlying5
 a5:=isAgg5
 z5:=sizeOf5
 v5:=zeroValue5
 t9:=underlying9
 a9:=isAgg9
 z9:=sizeOf9
 v9:=zeroValue9
 t28:=underlying46
 a28:=isAgg46
 z28:=sizeOf46
 v28:=zeroValue46
 t46:=underlying92
 a46:=isAgg92
 z46:=sizeOf92
 v46:=zeroValue92
 t51:=underlying353
 a51:=isAgg353
 z51:=sizeOf353
 v51:=zeroValue353
 t53:=underlying31
 a53:=isAgg31
 z53:=sizeOf31
 v53:=zeroValue31
 t131:=underlying173
 a131:=isAgg173
 z131:=sizeOf173
 v131:=zeroValue173
 t182:=underlying369
 a182:=isAgg369
 z182:=sizeOf369
 v182:=zeroValue369
 t183:=underlying370
 a183:=isAgg370
 z183:=sizeOf370
 v183:=zeroValue370
 t218:=underlying385
 a218:=isAgg385
 z218:=sizeOf385
 v218:=zeroValue385
 t222:=underlying275
 a222:=isAgg275
 z222:=sizeOf275
 v222:=zeroValue275
 t228:=underlying394
 a228:=isAgg394
 z228:=sizeOf394
 v228:=zeroValue394
 t229:=underlying395
 a229:=isAgg395
 z229:=sizeOf395
 v229:=zeroValue395}
open Go.Sort Go.RowKit in
theorem slices_Sort_int (a b cap:Nat) (zs:List Int) (w:ab) (c:Holds (I J) w a b zs.toArray) (d:a<w.heap.size) (e:zs.length<4611686018427387904):Calls au 236 #[ay (R ⟨a,b,U⟩) zs.length cap] w λf w'=>f=aK (bC #[])∧∃n g,w'=grow (putRow (I J) (Sort.ahead w n) a b (zs.mergeSort λh y=>decide (h<=y)).toArray) g:=Any.slices_Sort_int AX a b cap zs w c d e
def HJ:Go.Shelf.Ren:=⟨λ|264=>199|n=>n,λ|53=>31|46=>92|n=>n,λ|n=>n⟩
theorem HK:Go.Proofs.Lays.n264 au HJ:={
 mixed:=by kernel_rfl
 f264:=func199.trans (congrArg R (by kernel_rfl))
 t46:=underlying92
 a46:=isAgg92
 z46:=sizeOf92
 v46:=zeroValue92
 t53:=underlying31
 a53:=isAgg31
 z53:=sizeOf31
 v53:=zeroValue31}
open Go.RowKit Go.Lib in
theorem bits_Mul64 (x y:Nat) (a:x<18446744073709551616) (b:y<18446744073709551616) (w:ab):Calls au 199 #[I ah x,I ah y] w λc w'=>c=aK (bC #[I ah ((x*y/18446744073709551616:Nat):Int),I ah ((x*y%18446744073709551616:Nat):Int)])∧w'=w:=Any.bits_Mul64 HK x y a b w
def HL:Go.Shelf.Ren:=⟨λ|112=>204|n=>n,λ|28=>46|3=>3|4=>4|0=>0|n=>n,λ|n=>n⟩
theorem AY:Go.Proofs.Lays.n112 au HL:={
 mixed:=by kernel_rfl
 f112:=func204.trans (congrArg R (by kernel_rfl))
 t0:=underlying0
 a0:=isAgg0
 z0:=sizeOf0
 v0:=zeroValue0
 t3:=underlying3
 a3:=isAgg3
 z3:=sizeOf3
 v3:=zeroValue3
 t4:=underlying4
 a4:=isAgg4
 z4:=sizeOf4
 v4:=zeroValue4
 t28:=underlying46
 a28:=isAgg46
 z28:=sizeOf46
 v28:=zeroValue46}
open Go.RowKit Go.Lib Go.Sort in
theorem slices_Reverse_int_empty (a:Option Addr) (cap:Nat) (w:ab):Calls au 204 #[ay a 0 cap] w λe w'=>e=aK (bC #[])∧w'=w:=Any.slices_Reverse_int_empty AY a cap w
def HM:Go.Shelf.Ren:=⟨λ|20=>207|n=>n,λ|22=>46|3=>3|4=>4|0=>0|n=>n,λ|n=>n⟩
theorem HN:Go.Proofs.Lays2.n20 au HM:={
 mixed:=by kernel_rfl
 f20:=func207.trans (congrArg R (by kernel_rfl))
 t0:=underlying0
 a0:=isAgg0
 z0:=sizeOf0
 v0:=zeroValue0
 t3:=underlying3
 a3:=isAgg3
 z3:=sizeOf3
 v3:=zeroValue3
 t4:=underlying4
 a4:=isAgg4
 z4:=sizeOf4
 v4:=zeroValue4
 t22:=underlying46
 a22:=isAgg46
 z22:=sizeOf46
 v22:=zeroValue46
 i3:=by kernel_rfl}
open Go.RowKit Go.Lib Go.Sort in
theorem slices_Compact_int (a b cap:Nat) (zs:List Int) (w:ab) (c:Holds (I J) w a b zs.toArray) (d:zs.length<=9223372036854775807) (e:zs.length<=cap):Calls au 207 #[ay (R ⟨a,b,U⟩) zs.length cap] w λf w'=>f=aK (ay (R ⟨a,b,U⟩) (Lib.compact zs).length cap)∧∃g,w'=putRow (I J) (Sort.ahead w g) a b (Lib.compact zs++gY (zs.length-(Lib.compact zs).length) 0).toArray:=Any.slices_Compact_int HN a b cap zs w c d e
open Go.RowKit Go.Lib Go.Sort in
theorem slices_Reverse_int_cells (b a n c:Nat) (zs:List Int) (w:ab) (d:n<=zs.length) (e:n<=9223372036854775807) (f:∀j,j<zs.length->w.cell? ⟨b,a+j,U⟩=R (I J (zs.getD j 0))) (g:∀j,j<n->w.frozen? ⟨b,a+j,U⟩=false):Calls au 204 #[ay (R ⟨b,a,U⟩) n c] w λh w'=>h=aK (bC #[])∧∃i,w'=(w.drewN i).setCells b a ((zs.take n).reverse.map (I J)):=Any.slices_Reverse_int_cells AY b a n c zs w d e f g
open Go.RowKit Go.Sort in
theorem slices_Sort_int_none (p:Option Addr) (cap:Nat) (w:ab):Calls au 236 #[ay p 0 cap] w λe w'=>e=aK (bC #[])∧w'=w:=Any.slices_Sort_int_none AX p cap w
def HO:Go.Shelf.Ren:=⟨λ|39=>260|n=>n,λ|22=>120|23=>2|3=>3|4=>4|9=>9|20=>20|0=>0|n=>n,λ|n=>n⟩
theorem HP:Go.Proofs.SlLaysN.n39 au HO:={
 mixed:=by kernel_rfl
 f39:=⟨f260.name,by decide,func260.trans (congrArg R (by kernel_rfl))⟩
 t0:=underlying0
 a0:=isAgg0
 z0:=sizeOf0
 v0:=zeroValue0
 t3:=underlying3
 a3:=isAgg3
 z3:=sizeOf3
 v3:=zeroValue3
 t4:=underlying4
 a4:=isAgg4
 z4:=sizeOf4
 v4:=zeroValue4
 t9:=underlying9
 a9:=isAgg9
 z9:=sizeOf9
 v9:=zeroValue9
 t20:=underlying20
 a20:=isAgg20
 z20:=sizeOf20
 v20:=zeroValue20
 t22:=underlying120
 a22:=isAgg120
 z22:=sizeOf120
 v22:=zeroValue120
 t23:=underlying2
 a23:=isAgg2
 z23:=sizeOf2
 v23:=zeroValue2}
open Go.Lib in
theorem slices_Min_int (b a n c:Nat) (zs:List Int) (w:ab) (d:0<n) (e:n<=zs.length) (f:n<=9223372036854775807) (g:∀j,j<zs.length->w.cell? ⟨b,a+j,U⟩=R (I J (zs.getD j 0))):Calls au 260 #[ay (R ⟨b,a,U⟩) n c] w λh w'=>h=aK (I J (Lib.minOf (zs.take n)))∧w'=w:=AnyG.slices_Min_int HP b a n c zs w d e f g
end
theorem AZ (own mn a:Int) (w:ab):Calls au 146 #[I J own,I J mn,I J a] w λc w'=>c=aK (I J (ic own mn a))∧Below w.heap.size w w':=by
 have d:=C (show ic own mn a=max own (nx mn (om a 0 1099511627776)) from rfl);obtain⟨r,b⟩:∃r,ic own mn a=r:=⟨_,rfl⟩;rw[b];rw[b] at d;go_enter func146,ntmps146;go_wp2_with fail;apply(_f _ _ _ _).mono;rintro c g ⟨rfl,rfl⟩;go_wp2_with fail;apply(AJ _ _ _).mono;rintro c g ⟨rfl,h⟩;obtain⟨e,f⟩:∃e,nx mn (om a 0 1099511627776)=e:=⟨_,rfl⟩;rw[f];rw[f] at d;have b:=d.out;go_wp2;all_goals go_ret
 all_goals exact⟨by rw[b];(first|rfl|(simp only[Ending.returned.injEq,Value.int.injEq,true_and];omega)),h⟩
def rn (x:Int×Bool) (w:ab) (e:Ending) (w':ab):Prop:=e=aK (bC #[I J x.1,aD x.2])∧Below w.heap.size w w'
theorem HQ (v mn:Int) (w:ab):Calls au 75 #[bk #[.func (.func 73) #[] #[],.func (.func 74) #[] #[]],I J v,I J mn] w (rn (kT v mn) w):=by
 have b:=C (show kT v mn=if(mz v mn).2 then((mz v mn).1,false) else(nx v mn,true) from rfl);obtain⟨r,a⟩:∃r,kT v mn=r:=⟨_,rfl⟩;rw[a];rw[a] at b;obtain⟨⟨n,is⟩,d⟩:∃n,mz v mn=n:=⟨_,rfl⟩;rw[d] at b;have c:=C d;go_enter func75,ntmps75;go_wp2_with fail;apply(AI _ _ _).mono;rintro f g ⟨rfl,rfl⟩;rw[c.out];cases is;·have a:=b;clear b c;simp only[jI,if_false] at a;subst a;simp only[jI,if_false];go_wp2_with fail;refine(AJ _ _ _).mono ?_;rintro f g ⟨rfl,e⟩;have h:=C ((bx w _).trans (e.mono (by simp)));clear e;go_wp2;go_ret2;exact⟨rfl,h⟩
 ·have a:=b;clear b c;simp only[if_true] at a;subst a;simp only[if_true];go_wp2;go_ret2;exact⟨rfl,bx _ _⟩
theorem HR (v mn:Int) (w:ab):Calls au 75 #[bk #[.func (.func 210) #[] #[],.func (.func 162) #[] #[]],I J v,I J mn] w (rn (l6 v mn) w):=by
 have b:=C (show l6 v mn=if(l5 v mn).2 then((l5 v mn).1,false) else(kr v mn,true) from rfl);obtain⟨r,a⟩:∃r,l6 v mn=r:=⟨_,rfl⟩;rw[a];rw[a] at b;obtain⟨⟨n,is⟩,d⟩:∃n,l5 v mn=n:=⟨_,rfl⟩;rw[d] at b;have c:=C d;go_enter func75,ntmps75;go_wp2_with fail;apply(wU _ _ _).mono;rintro f g ⟨rfl,rfl⟩;rw[c.out];cases is;·have a:=b;clear b c;simp only[jI,if_false] at a;subst a;simp only[jI,if_false];go_wp2_with fail;refine(sZ _ _ _).mono ?_;rintro f g ⟨rfl,e⟩;have h:=C ((bx w _).trans (e.mono (by simp)));clear e;go_wp2;go_ret2;exact⟨rfl,h⟩
 ·have a:=b;clear b c;simp only[if_true] at a;subst a;simp only[if_true];go_wp2;go_ret2;exact⟨rfl,bx _ _⟩
theorem HS (v mn:Int) (w:ab):Calls au 35 #[I J v,I J mn] w (rn (kT v mn) w):=by obtain⟨⟨n,is⟩,a⟩:∃r,kT v mn=r:=⟨_,rfl⟩;have c:=C a;rw[a];clear a;go_enter func35,ntmps35;go_wp2_with fail;refine(HQ v mn _).mono ?_;rintro e f ⟨rfl,b⟩;have d:=C b;clear b;rw[c.out];go_wp2;go_ret2;exact⟨rfl,d⟩
theorem HT (v mn:Int) (w:ab):Calls au 191 #[I J v,I J mn] w (rn (l6 v mn) w):=by obtain⟨⟨n,is⟩,a⟩:∃r,l6 v mn=r:=⟨_,rfl⟩;have c:=C a;rw[a];clear a;go_enter func191,ntmps191;go_wp2_with fail;refine(HR v mn _).mono ?_;rintro e f ⟨rfl,b⟩;have d:=C b;clear b;rw[c.out];go_wp2;go_ret2;exact⟨rfl,d⟩
theorem A0 (v a b:Int) (w:ab):Calls au 141 #[I J v,I J a,I J b] w (rn (kU v a b) w):=by
 have c:=C (show kU v a b=((l6 (kT v a).1 b).1,(kT v a).2||(l6 (kT v a).1 b).2) from rfl);obtain⟨⟨n,is⟩,e⟩:∃r,kU v a b=r:=⟨_,rfl⟩;rw[e];rw[e] at c;obtain⟨⟨f,l⟩,g⟩:∃r,kT v a=r:=⟨_,rfl⟩;rw[g] at c;obtain⟨⟨q,s⟩,h⟩:∃r,l6 f b=r:=⟨_,rfl⟩;simp only[h] at c;have m:=C g;have o:=C h;go_enter func141,ntmps141;go_wp2_with fail;apply(HS v a _).mono;rintro p t ⟨rfl,d⟩;have i:=C d;rw[m.out];go_wp2_with fail;apply(HT f b _).mono;rintro p u ⟨rfl,d⟩;have j:=C (i.trans (d.mono i.size));rw[o.out];have k:=c.out;cases l;·go_wp2;go_ret2;exact⟨by rw[k];rfl,j⟩
 ·go_wp2;go_ret2;exact⟨by rw[k];rfl,j⟩
theorem HU (m v:Int) (b:Nat) (w:ab) (c:w.cell? ⟨b,0,U⟩=R (I J v)):Calls au 239 #[I J m,ay (R ⟨b,0,U⟩) 1 1] w λa w'=>a=aK (I J (max m v))∧w'=w:=by
 have d:=C (slices_Min_int b 0 1 1 [v] w (by omega) (by simp) (by omega) (λj e=>by
  have:j=0:=by simpa using e
  subst this;exact c))
 go_enter func239,ntmps239;go_wp2_with fail;apply d.mono;rintro a g ⟨rfl,rfl⟩;have f:=C (by simp[Lib.minOf]:Lib.minOf (List.take 1 [v])=v);rw[f.out];go_wp2;all_goals go_ret
 all_goals exact⟨by(first|rfl|(simp only[Ending.returned.injEq,Value.int.injEq,true_and];omega)),rfl⟩
variable {tmps:Array Value} {fn:Func}
theorem w1 (n:Nat) (h:n<18446744073709551616):IntKind.u64.wrap (n:Int)=(n:Int):=by rw[ni];omega
theorem HV (x c:Nat) (f:0<c) (b:x<18446744073709551616) (w:ab):Calls au 151 #[I ah 0,I ah (x:Int),I ah (c:Int)] w λd w'=>d=aK (bC #[I ah ((x/c:Nat):Int),I ah ((x%c:Nat):Int)])∧Below w.heap.size w w':=by have e:=C (w1 (x/c) (n9 (Nat.div_le_self _ _) b));go_enter func151,ntmps151;go_wp2_with fail;go_region;go_wp2;go_ret2;refine⟨?_,(Below.refl _ _).drew⟩;have a:=e.out;rw[Int.natCast_ediv] at a;show Ending.returned (bC #[I ah (IntKind.u64.wrap ((x:Int)/(c:Int))),I ah ((x:Int)%(c:Int))])=_;rw[a,Int.natCast_ediv,Int.natCast_emod]
theorem HW:(prog.info? 245).map (·.size)=R 2:=by kernel_rfl
theorem HX {p:Tmp} {a:Act} {T:Nat} {v0:Value} (h:fn.results=#[.cell p 245]) (b:a.tmps.getD p undef=af (R ⟨g,0,U⟩)) (c:w.heap[g]?=R (av #[v0,v1] T (0,0))):(results fn a.tmps).run au w= .ok (bk #[v0,v1]) w:=results_cell_row h a.tmps w g T _ _ _ b c underlying245 rfl HW
theorem HY (a b:Nat) (j:a<18446744073709551616) (k:b<18446744073709551616) (h:a*b<18446744073709551616) (w:ab):Calls au 150 #[I ah (a:Int),I ah (b:Int)] w λc w'=>c=aK (bk #[I ah 0,I ah ((a*b:Nat):Int)])∧Below w.heap.size w w':=by have l:=C (bits_Mul64 a b j k);have d:=C (Nat.div_eq_of_lt h);have e:=C (Nat.mod_eq_of_lt h);obtain⟨f,i⟩:∃f:Nat,a*b=f:=⟨_,rfl⟩;rw[i] at d e⊢;have m:=C i;go_enter func150,ntmps150;go_wp2_with fail;refine(l _).mono ?_;rintro c n ⟨rfl,rfl⟩;rw[m.out,d.out,e.out];go_wp2;exact bodyPost_ret (HX (g:=w.heap.size) (T:=245) rfl rfl (ak.new w _ _)) rfl ⟨rfl,bx _ _⟩
theorem oO (a b c:Nat) (j:a<18446744073709551616) (d:b<18446744073709551616) (h:a*b<18446744073709551616) (k:0<c) (w:ab):Calls au 102 #[I ah (a:Int),I ah (b:Int),I ah (c:Int)] w λe w'=>e=aK (bC #[I ah ((a*b/c:Nat):Int),I ah ((a*b%c:Nat):Int),aD true])∧Below w.heap.size w w':=by
 have p:¬(c:Int)<=0:=by omega
 have g:=C (HY a b j d h);generalize q:(a*b:Nat)=z at g h⊢;have i:=C (HV z c k h);obtain⟨s,l⟩:=aW (z/c:Nat);obtain⟨r,m⟩:=aW (z%c:Nat);rw[l,m] at i⊢;go_enter func102,ntmps102;go_wp2_with fail;apply(g _).mono;rintro e n ⟨rfl,d⟩;have f:=C d;go_wp2_with fail;apply(i _).mono;rintro e t ⟨rfl,d⟩;have o:=C ((f.trans ((bx n _).mono f.size)).trans (d.mono (cA f.size (by simp))));go_wp2;go_ret3;exact⟨rfl,o⟩
theorem s8 (n t:Nat) (q:t<1000) (h:∀i,i<=t->n^i<18446744073709551616) (w:ab):Calls au 144 #[I ah (n:Int),I J (t:Int)] w λf w'=>f=aK (I ah ((n^t:Nat):Int))∧w'=w:=by
 obtain⟨a,b⟩:∃a:Nat->Nat,∀i,n^i=a i:=⟨λi=>n^i,λ_=>rfl⟩;have g:=C (λi=>by rw[<-b,<-b,Nat.pow_succ]:∀i,a (i+1)=a i*n);have j:=C (by rw[<-b];rfl:a 0=1);have k:=C (λi d=>by rw[<-b];exact h i d:∀i,i<=t->a i<18446744073709551616);rw[b];go_enter func144,ntmps144;go_wp2_with fail;go_loop [5,7] (λl c=>∃i:Nat,i<=t∧c=I J (i:Int)∧l=I ah ((a i:Nat):Int)) (λ_ c=>t-(intOf c).toNat);case atStart=>exact⟨0,gN _,rfl,by rw[j.out];rfl⟩
 case round=>
  obtain⟨i,d,rfl,rfl⟩:=hrel;by_cases m:i<t
  ·have o:(i:Int)<(t:Int):=(by omega);have p:=C (by have e:=k (i+1) m;rw[g.out] at e⊢;rw[<-Int.natCast_mul];exact w1 _ e:IntKind.u64.wrap ((a i:Int)*(n:Int))=((a (i+1):Nat):Int));go_wp2;go_round;case rel=>exact⟨i+1,by omega,by go_num,by rw[<-p.out]⟩
   case measure=>simp[intOf,wrap64];omega
  ·have o:¬(i:Int)<(t:Int):=(by omega);obtain rfl:i=t:=by omega
   go_wp2;go_ret;exact⟨rfl,rfl⟩
theorem w2:∀i,i<=20->5^i<18446744073709551616:=λi a=>n9 (sf (by omega) a) (by decide)
theorem w3:∀i,i<=20->4^i<18446744073709551616:=λi a=>n9 (sf (by omega) a) (by decide)
theorem HZ:∀i,i<=20->1024*5^i<18446744073709551616:=λi a=>n9 (Nat.mul_le_mul_left _ (sf (by omega) a)) (by decide)
theorem H0:∀i,i<=20->1024*4^i<18446744073709551616:=λi a=>n9 (Nat.mul_le_mul_left _ (sf (by omega) a)) (by decide)
def nE (n:Int) (w:ab) (e:Ending) (w':ab):Prop:=e=aK (bC #[I ah (ei n:Int),I J (e8 n)])∧Below w.heap.size w w'
theorem w4 (n:Int) (w:ab):Calls au 97 #[I J n] w (nE n w):=by
 by_cases m:n< -20
 ·have b:ei n=0:=by unfold ei;rw[aj (.inl m)]
  have c:e8 n=1:=by unfold e8;rw[aj (.inl m)]
  unfold nE;rw[b,c];go_enter func97,ntmps97;go_wp2;go_ret2;exact⟨rfl,Below.refl _ _⟩
 by_cases o:19<n
 ·have b:ei n=0:=by unfold ei;rw[aj (.inr o)]
  have c:e8 n=1:=by unfold e8;rw[aj (.inr o)]
  unfold nE;rw[b,c];go_enter func97,ntmps97;go_wp2;go_ret2;exact⟨rfl,Below.refl _ _⟩
 have c:e8 n=0:=by unfold e8;rw[z0 (by omega)]
 by_cases p:n<0
 ·obtain⟨k,rfl⟩:∃k:Nat,n=-(k:Int):=⟨n.natAbs,by omega⟩;have d:k<=20:=by omega
  have b:ei (-(k:Int))=1024*5^k/4^k:=by unfold ei;rw[z0 (by omega),aj p];simp
  have e:=C (s8 5 k (by omega) (λi h=>w2 i (by omega)));have f:=C (s8 4 k (by omega) (λi h=>w3 i (by omega)));have a:=C (oO 1024 (5^k) (4^k) (by omega) (w2 k d) (HZ k d) (Nat.pow_pos (by omega)));unfold nE;rw[b,c];generalize 1024*5^k/4^k=q at a⊢;generalize 1024*5^k%4^k=r at a;generalize 5^k=x at a e;generalize 4^k=y at a f;go_enter func97,ntmps97;go_wp2_with fail;apply(e _).mono;rintro g j ⟨rfl,rfl⟩;go_wp2_with fail;apply(f _).mono;rintro g j ⟨rfl,rfl⟩;go_wp2_with fail;apply(a _).mono;rintro g s ⟨rfl,l⟩;go_wp2;go_ret2;exact⟨rfl,l⟩
 ·obtain⟨k,rfl⟩:∃k:Nat,n=(k:Int):=⟨n.natAbs,by omega⟩;have d:k<=20:=by omega
  have b:ei (k:Int)=1024*4^k/5^k:=by unfold ei;rw[z0 (by omega),z0 p];simp
  have e:=C (s8 5 k (by omega) (λi h=>w2 i (by omega)));have f:=C (s8 4 k (by omega) (λi h=>w3 i (by omega)));have a:=C (oO 1024 (4^k) (5^k) (by omega) (w3 k d) (H0 k d) (Nat.pow_pos (by omega)));unfold nE;rw[b,c];generalize 1024*4^k/5^k=q at a⊢;generalize 1024*4^k%5^k=r at a;generalize 5^k=y at a e;generalize 4^k=x at a f;go_enter func97,ntmps97;go_wp2_with fail;apply(f _).mono;rintro g j ⟨rfl,rfl⟩;go_wp2_with fail;apply(e _).mono;rintro g j ⟨rfl,rfl⟩;go_wp2_with fail;apply(a _).mono;rintro g s ⟨rfl,l⟩;go_wp2;go_ret2;exact⟨rfl,l⟩
def s9 (wt rem:Nat):Int:=if wt<2∨262144<wt then 4 else if wt<=rem then 1 else 0
theorem H2 (wt rem:Nat) (w:ab):Calls au 238 #[I ah (wt:Int),I ah (rem:Int)] w λe w'=>e=aK (I J (s9 wt rem))∧w'=w:=by
 unfold s9;go_enter func238,ntmps238;go_wp2;all_goals go_ret
 all_goals(refine⟨?_,rfl⟩;repeat' split)
 all_goals first|rfl|omega
theorem H3 (wt rem ns:Nat) (e:2<=wt) (f:wt<=262144) (g:rem<wt) (h:ns<=1000000000) (w:ab):Calls au 208 #[I ah (wt:Int),I ah (rem:Int),I ah (ns:Int)] w λc w'=>c=aK (bC #[I J (((rem+ns*1024)/wt:Nat):Int),I ah (((rem+ns*1024)%wt:Nat):Int),I J 0])∧Below w.heap.size w w':=by
 have b:rem+ns*1024<2000000000000:=by omega
 have a:(rem+ns*1024)/wt<2000000000000:=n9 (Nat.div_le_self _ _) b;have i:=C (by unfold s9;rw[z0 (by omega),z0 (by omega)]:s9 wt rem=0);have d:=C (by rw[ni];omega:IntKind.u64.wrap ((rem:Int)+(ns:Int)*1024)=((rem+ns*1024:Nat):Int));have l:¬(wt:Int)<=0:=by omega
 have m:(ns:Int)<=1000000000:=by omega
 generalize j:(rem+ns*1024:Nat)=z at d a b⊢;clear j e f g h b;have k:=C a;clear a;go_enter func208,ntmps208;go_wp2_with fail;go_step3;go_wp2_with fail;apply(H2 wt rem _).mono;rintro c n ⟨rfl,rfl⟩;rw[i.out];go_wp2_with fail;go_step3;go_wp2_with fail;rw[d.out];go_region;go_wp2;simp only[Exit.noGoto];go_ret3;refine⟨?_,(Below.refl _ _).drew⟩;show Ending.returned (bC #[I J (wrap64 (IntKind.u64.wrap ((z:Int)/(wt:Int)))),I ah ((z:Int)%(wt:Int)),I J 0])=_;have a:=k.out;rw[<-Int.natCast_ediv,<-Int.natCast_emod];generalize z/wt=q at a⊢;rw[w1 _ (by omega),show wrap64 (q:Int)=(q:Int) by unfold wrap64;omega]
section
open Go.MapKept
def ej (w:ab) (m:Nat) (f:Int->Option Value) (n:Nat):Prop:=∃b e,w.heap[m]?=R (.map b e)∧(∀a∈b.toList,∃c:Int,a.key=I J c)∧(∀(i j:Nat) (a d:MapEntry),b.toList[i]?=R a->b.toList[j]?=R d->a.key=d.key->i=j)∧(∀c v,f c=R v↔∃a∈b.toList,a.key=I J c∧a.val=v)∧n=b.size
section
variable {P:Program} {w:ab} {T K E:TypeId} {m n:Nat} {f:Int->Option Value}
theorem ej.lt (h:ej w m f n):m<w.heap.size:=by obtain⟨b,c,a,_⟩:=h;exact jd a
theorem ej.mod (h:ej w m f n) (a:Mod S w w') (b:¬S m):ej w' m f n:=by obtain⟨d,c,e,g⟩:=h;exact⟨d,c,a.keep e b,g⟩
theorem ej.next (h:ej w m f n) (a:Below w.heap.size w w'):ej w' m f n:=h.mod (Mod.below (S:=λ_=>False) a) id
theorem ej.new (w:ab):ej (w.alloc (.map #[] 0)) w.heap.size (λ_=>U) 0:=⟨#[],0,l2 w _,by simp,by simp,by simp,rfl⟩
theorem ej.congr {g:Int->Option Value} {b:Nat} (h:ej w m f n) (d:∀a,f a=g a) (e:n=b):ej w m g b:=by obtain⟨i,c,j,k,l,o,p⟩:=h;exact⟨i,c,j,k,l,λa v=>by rw[<-d];exact o a v,e▸p⟩
theorem ta (hk:P.underlying K=R (.int .i64)) (w:ab) (es:List MapEntry) (c:∀a∈es,∃k:Int,a.key= .int .i64 k) (k:Int):((Instr.findKey K (I J k) es).run P w= .ok U w∧∀a∈es,a.key≠I J k)∨∃j a,(Instr.findKey K (I J k) es).run P w= .ok (R (j,a.val)) w∧es[j]?=R a∧a.key=I J k:=by
 have b:∀k:Int,IsKey (.int .i64) (.int .i64 k):=λk=>by simp[IsKey]
 rcases findNow_spec (b k) es 0 (λa d=>by obtain⟨e,f⟩:=c a d;rw[f];exact b e) with⟨aq,aA⟩|⟨j,a,aq,aA,aZ⟩;·exact .inl ⟨run_findKey hk aq,aA⟩
 ·exact .inr ⟨j,a,by rw[run_findKey hk aq,lZ],aA,aZ⟩
theorem nF (hk:P.underlying K=R (.int .i64)) (w:ab) (a:Bool) (k:Int):(Instr.checkKey a 10000 K (.int .i64 k)).run P w= .ok () w:=run_checkKey hk (by simp[IsKey]) a 9999
theorem ej.look (h:ej w m f n) (e:P.underlying T=R (.map K E)) (hk:P.underlying K=R (.int .i64)) {z:Value} (l:(zeroValue E).run P w= .ok z w) (k:Int):(Instr.lookup T (.map (R m)) (I J k) false).run P w= .ok ((f k).getD z) w:=by
 obtain⟨o,c,g,p,u,i,x⟩:=h;rcases ta hk w o.toList p k with⟨b,d⟩|⟨j,a,b,d,q⟩
 ·have:f k=U:=by
   cases r:f k with
   |none=>rfl
   |some v=>obtain⟨a,s,t,_⟩:=(i k v).1 r;exact absurd t (d a s)
  simp[Instr.lookup,run_underlying e,MapKept.run_getObj_map g,nF hk,b,l,Result.andThen,this]
 ·have:f k=R a.val:=(i k a.val).2 ⟨a,ea d,q,rfl⟩;simp[Instr.lookup,run_underlying e,MapKept.run_getObj_map g,nF hk,b,Result.andThen,this]
theorem ej.A8 (h:ej w m f n) (e:P.underlying T=R (.map K E)) (hk:P.underlying K=R (.int .i64)) {z:Value} (l:(zeroValue E).run P w= .ok z w) (k:Int):(Instr.lookup T (.map (R m)) (I J k) true).run P w= .ok (bC #[(f k).getD z,aD (f k).isSome]) w:=by
 obtain⟨o,c,g,p,u,i,x⟩:=h;rcases ta hk w o.toList p k with⟨b,d⟩|⟨j,a,b,d,q⟩
 ·have:f k=U:=by
   cases r:f k with
   |none=>rfl
   |some v=>obtain⟨a,s,t,_⟩:=(i k v).1 r;exact absurd t (d a s)
  simp[Instr.lookup,run_underlying e,MapKept.run_getObj_map g,nF hk,b,l,Result.andThen,this]
 ·have:f k=R a.val:=(i k a.val).2 ⟨a,ea d,q,rfl⟩;simp[Instr.lookup,run_underlying e,MapKept.run_getObj_map g,nF hk,b,Result.andThen,this]
theorem ej.len (h:ej w m f n) (a:P.underlying T=R (.map K E)) (b:TypeId):(Builtin.len_ #[T] b #[.map (R m)]).run P w= .ok (goInt n) w:=by obtain⟨g,c,d,i,j,k,e⟩:=h;simp[Builtin.len_,run_underlying a,MapKept.run_getObj_map d,Result.andThen,e]
def ef (w:ab) (m:Nat) (O:Obj):ab:={w with heap:=w.heap.setIfInBounds m O}
theorem ru (w:ab) (m:Nat) (O:Obj):Mod (λy=>y=m) w (ef w m O):=⟨rfl,rfl,rfl,by simp[ef],λb c a=>by simp only[ef];rw[Array.getElem?_setIfInBounds_ne (Ne.symm a)]⟩
def nG (f:Int->Option Value) (k:Int) (v:Value):Int->Option Value:=λx=>if x=k then R v else f x
def rv (f:Int->Option Value) (k:Int):Int->Option Value:=λx=>if x=k then U else f x
theorem ej.put (h:ej w m f n) (Y:P.underlying T=R (.map K E)) (hk:P.underlying K=R (.int .i64)) (k:Int) (v:Value):∃Z,(Instr.mapUpdate T (.map (R m)) (I J k) v).run P w= .ok () (ef w m Z)∧ej (ef w m Z) m (nG f k v) (if f k=U then n+1 else n):=by
 obtain⟨z,c,C,S,G,O,aa⟩:=h;rcases ta hk w z.toList S k with⟨V,t⟩|⟨j,d,V,t,D⟩
 ·have az:f k=U:=by
   cases ad:f k with
   |none=>rfl
   |some v=>obtain⟨d,e,g,_⟩:=(O k v).1 ad;exact absurd g (t d e)
  refine⟨.map (z.push {key:=I J k,val:=v,born:=c}) (c+1),?_,?_⟩;·simp[Instr.mapUpdate,run_underlying Y,MapKept.run_getObj_map C,nF hk,V,MapKept.run_setObj_map _ C,Result.andThen,ef]
  ·refine⟨_,_,(heap_set C).1,?_,?_,?_,?_⟩
   ·intro d e;rw[Array.toList_push,nj] at e;rcases e with e|e;·exact S d e
    ·rw[qt] at e;subst e;exact⟨k,rfl⟩
   ·intro i j d l o x A;rw[Array.toList_push] at o x;rcases nm i z.toList.length with H|H<;>rcases nm j z.toList.length with L|L;·rw[ja H] at o;rw[ja L] at x;exact G i j d l o x A
    ·rw[ja H] at o;rw[gJ L,qs] at x;split at x;·have:=Option.some.inj x;subst this;exact absurd A (t d (ea o))
     ·simp at x
    ·rw[ja L] at x;rw[gJ H,qs] at o;split at o;·have:=Option.some.inj o;subst this;exact absurd A.symm (t l (ea x))
     ·simp at o
    ·rw[gJ H,qs] at o;rw[gJ L,qs] at x;split at o
     ·split at x;·omega
      ·simp at x
     ·simp at o
   ·intro q u;simp only[nG];rw[Array.toList_push];by_cases p:q=k
    ·subst p;rw[aj rfl];constructor;·intro M;exact⟨_,List.mem_append_right _ (List.mem_singleton_self _),rfl,Option.some.inj M⟩
     ·rintro⟨d,e,g,r⟩;rcases nj.1 e with e|e;·exact absurd g (t d e)
      ·rw[qt] at e;subst e;rw[<-r]
    ·rw[z0 p,O];constructor;·rintro⟨d,e,g,r⟩;exact⟨d,List.mem_append_left _ e,g,r⟩
     ·rintro⟨d,e,g,r⟩;rcases nj.1 e with e|e;·exact⟨d,e,g,r⟩
      ·rw[qt] at e;subst e;simp only[Value.int.injEq,true_and] at g;exact absurd g.symm p
   ·rw[aj az];simp[aa]
 ·have aB:f k=R d.val:=(O k d.val).2 ⟨d,ea t,D,rfl⟩;have aA:z[j]?=R d:=by rw[<-Array.getElem?_toList];exact t
  have aG:(Instr.keyThatStays (I J k) (I J k)).run P w= .ok (I J k) w:=by have:Instr.sameBits 10000 (I J k) (I J k)=true:=(by simp[Instr.sameBits]);simp[Instr.keyThatStays,this]
  refine⟨.map (z.modify j λd=>{d with key:=I J k,val:=v}) c,?_,?_⟩;·simp[Instr.mapUpdate,run_underlying Y,MapKept.run_getObj_map C,nF hk,V,MapKept.run_setObj_map _ C,Result.andThen,ef,aA,D,aG]
  ·have W:∀i,(z.modify j λd=>{d with key:=I J k,val:=v}).toList[i]?=(z.toList[i]?).map (λl=>if i=j then {l with key:=I J k,val:=v} else l):=(by intro i;rw[Array.toList_modify,List.getElem?_modify];cases z.toList[i]?<;>simp[eq_comm]);have N:∀l,l∈(z.modify j λd=>{d with key:=I J k,val:=v}).toList↔∃i q,z.toList[i]?=R q∧l=(if i=j then {q with key:=I J k,val:=v} else q):=by
    intro l;rw[lp];constructor;·rintro⟨i,o⟩;rw[W] at o;obtain⟨q,p,rfl⟩:=h9.1 o;exact⟨i,q,p,rfl⟩
    ·rintro⟨i,q,p,rfl⟩;exact⟨i,by rw[W,p];rfl⟩
   refine⟨_,_,(heap_set C).1,?_,?_,?_,?_⟩
   ·intro l B;obtain⟨i,q,p,rfl⟩:=(N l).1 B;split;·exact⟨k,rfl⟩
    ·exact S q (ea p)
   ·intro i X a b aq ac A;rw[W] at aq ac;obtain⟨q,p,rfl⟩:=h9.1 aq;obtain⟨y,F,rfl⟩:=h9.1 ac;by_cases s:i=j<;>by_cases Q:X=j;·omega
    ·rw[aj s,z0 Q] at A;exact s.trans (G j X d y t F (D.trans A))
    ·rw[z0 s,aj Q] at A;exact(G i j q d p t (A.trans D.symm)).trans Q.symm
    ·rw[z0 s,z0 Q] at A;exact G i X q y p F A
   ·intro q u;simp only[nG];by_cases p:q=k
    ·subst p;rw[aj rfl];constructor;·intro M;refine⟨{d with key:=I J q,val:=v},(N _).2 ⟨j,d,t,by rw[aj rfl]⟩,rfl,Option.some.inj M⟩
     ·rintro⟨l,B,g,r⟩;obtain⟨i,y,F,rfl⟩:=(N l).1 B;by_cases s:i=j;·rw[aj s] at r;rw[<-r]
      ·rw[z0 s] at g;exact absurd (G i j y d F t (g.trans D.symm)) s
    ·rw[z0 p,O];constructor
     ·rintro⟨l,B,g,r⟩;obtain⟨i,o⟩:=lp.1 B;have s:i≠j:=λM=>by subst M;rw[t] at o;have:=Option.some.inj o;subst this;rw[D] at g;simp only[Value.int.injEq,true_and] at g;exact p g.symm
      exact⟨l,(N l).2 ⟨i,l,o,by rw[z0 s]⟩,g,r⟩
     ·rintro⟨l,B,g,r⟩;obtain⟨i,y,F,rfl⟩:=(N l).1 B;by_cases s:i=j;·rw[aj s] at g;simp only[Value.int.injEq,true_and] at g;exact absurd g.symm p
      ·rw[z0 s] at g r;exact⟨y,ea F,g,r⟩
   ·rw[z0 (by rw[aB];simp)];simp[aa]
theorem ej.del (h:ej w m f n) (S:P.underlying T=R (.map K E)) (hk:P.underlying K=R (.int .i64)) (Z:TypeId) (k:Int):∃V,(Builtin.delete_ #[T,K] Z #[.map (R m),I J k]).run P w= .ok (bC #[]) (ef w m V)∧ej (ef w m V) m (rv f k) (if f k=U then n else n-1):=by
 obtain⟨g,c,s,L,t,B,W⟩:=h;rcases ta hk w g.toList L k with⟨M,q⟩|⟨j,o,M,q,N⟩
 ·have aa:f k=U:=by
   cases aq:f k with
   |none=>rfl
   |some v=>obtain⟨o,O,l,_⟩:=(B k v).1 aq;exact absurd l (q o O)
  refine⟨.map g c,?_,g,c,(heap_set s).1,L,t,?_,?_⟩;·simp[Builtin.delete_,run_underlying S,MapKept.run_getObj_map s,nF hk,M,MapKept.run_setObj_map _ s,Result.andThen,ef]
  ·intro C u;simp only[rv];by_cases x:C=k
   ·subst x;rw[aj rfl];constructor;·intro p;simp at p
    ·rintro⟨o,O,l,A⟩;exact absurd l (q o O)
   ·rw[z0 x];exact B C u
  ·rw[aj aa];exact W
 ·have ac:f k=R o.val:=(B k o.val).2 ⟨o,ea q,N,rfl⟩;have X:j<g.size:=by have:=(bD.1 q).1;simpa using this
  refine⟨.map (g.eraseIdxIfInBounds j) c,?_,?_⟩;·simp[Builtin.delete_,run_underlying S,MapKept.run_getObj_map s,nF hk,M,MapKept.run_setObj_map _ s,Result.andThen,ef]
  ·have Y:(g.eraseIdxIfInBounds j).toList=g.toList.eraseIdx j:=(by rw[Array.eraseIdxIfInBounds,dif_pos X,Array.toList_eraseIdx]);have D:∀i:Nat,(g.eraseIdxIfInBounds j).toList[i]?=if i<j then g.toList[i]? else g.toList[i+1]?:=(by intro i;rw[Y,List.getElem?_eraseIdx]);have F:∀e,e∈(g.eraseIdxIfInBounds j).toList↔∃i,i≠j∧g.toList[i]?=R e:=by
    intro e;rw[lp];constructor
    ·rintro⟨i,d⟩;rw[D] at d;split at d;·exact⟨i,by omega,d⟩
     ·exact⟨i+1,by omega,d⟩
    ·rintro⟨i,Q,d⟩;rcases nm i j with p|p;·exact⟨i,by rw[D,aj p];exact d⟩
     ·refine⟨i-1,?_⟩;rw[D,z0 (by omega),show i-1+1=i by omega];exact d
   refine⟨_,_,(heap_set s).1,?_,?_,?_,?_⟩;·intro e r;obtain⟨i,_,d⟩:=(F e).1 r;exact L e (ea d)
   ·intro i G a b y z H;rw[D] at y z;split at y<;>split at z;·exact t i G a b y z H
    ·have:=t i (G+1) a b y z H;omega
    ·have:=t (i+1) G a b y z H;omega
    ·have:=t (i+1) (G+1) a b y z H;omega
   ·intro C u;simp only[rv];by_cases x:C=k
    ·subst x;rw[aj rfl];constructor;·intro p;simp at p
     ·rintro⟨e,r,l,A⟩;obtain⟨i,Q,d⟩:=(F e).1 r;exact absurd (t i j e o d q (l.trans N.symm)) Q
    ·rw[z0 x,B];constructor;·rintro⟨e,r,l,A⟩;obtain⟨i,d⟩:=lp.1 r;refine⟨e,(F e).2 ⟨i,λp=>?_,d⟩,l,A⟩;subst p;rw[q] at d;have:=Option.some.inj d;subst this;rw[N] at l;simp only[Value.int.injEq,true_and] at l;exact x l.symm
     ·rintro⟨e,r,l,A⟩;obtain⟨i,Q,d⟩:=(F e).1 r;exact⟨e,ea d,l,A⟩
   ·rw[z0 (by rw[ac];simp),<-Array.length_toList,Y,List.length_eraseIdx,aj (by simpa using X),W];simp
end
end
theorem A9:(prog.info? 218).map (·.size)=R 2:=by kernel_rfl
theorem ry {p u:Tmp} {a:Act} {T:Nat} {v0 r:Value} (h:fn.results=#[.cell p 218,.tmp u]) (b:a.tmps.getD p undef=af (R ⟨g,0,U⟩)) (c:a.tmps.getD u undef=r) (d:w.heap[g]?=R (av #[v0,v1] T (0,0))):(results fn a.tmps).run au w= .ok (bC #[bk #[v0,v1],r]) w:=by rw[results_cell_tmp h,b,c];simp only[asAddr,Sem.run_pure,Result.andThen_ok];rw[run_loadVar_row w g T 218 _ _ _ d underlying218 rfl A9];rfl
theorem Is (w:ab):Calls au 134 #[] w λe w'=>e=aK (af (R ⟨w.heap.size,0,U⟩))∧eD w' (λk=>w.heap.size=k) w.heap.size []∧Below w.heap.size w w':=by go_enter func134,ntmps134;go_wp2;go_ret;refine⟨rfl,⟨.nil,ak.new _ _ _,trivial,by simp[T.blocks],by simp[T.blocks],trivial,List.Pairwise.nil,rfl,rfl,by simp[T.blocks]⟩,(Below.refl _ _).alloc (bK _) _⟩
def p1 (x:Key) (is:Bool) (w:ab) (e:Ending) (w':ab):Prop:=e=aK (bC #[dR x,aD is])∧Below w.heap.size w w'
theorem It (S:Nat->Prop) (b:Nat) (f:Value) (w:ab) (h:eD w S b []):Calls au 254 #[af (R ⟨b,0,U⟩),f] w (p1 ⟨0,0⟩ false w):=by
 obtain⟨a,c,i,j,m,n,o,d,p,q⟩:=h;have e:a= .nil:=by
  cases a with
  |nil=>rfl
  |node b l k lev r=>simp[T.keys] at d
 subst e;have s:=c.cell 0 (v:=af U) rfl;have t:=c.lt;go_enter func254,ntmps254;go_wp2;exact bodyPost_ret (ry (v0:=I J 0) (v1:=I J 0) (g:=w.heap.size) (T:=218) rfl rfl rfl (ak.new w #[I J 0,I J 0] 218)) rfl ⟨rfl,(Below.refl _ _).alloc (bK _) _⟩
theorem Iu (S:Nat->Prop) (b:Nat) (k:Key) (u:List Key) (w:ab) (h:eD w S b (k::u)):Calls au 254 #[af (R ⟨b,0,U⟩),.func (.func 255) #[] #[]] w (p1 k true w):=by
 obtain⟨a,f,n,x,y,z,A,c,B,D⟩:=h;have d:a≠ .nil:=λo=>by rw[o] at c;simp[T.keys] at c
 obtain⟨m,i⟩:=T.vC a d;have p:a.first=k:=by rw[c] at i;exact(List.cons.inj i).1.symm
 have q:=f.cell 0 (v:=af a.bE) rfl;have K:=f.lt;have s:=(bx w (av #[I J 0,I J 0] 218));have E:=C (n.mod (Mod.below (S:=λ_=>False) s) (λ_ _=>id));have F:=C d;have G:=C p;obtain⟨t,L,M,N,O,j⟩:∃b l k lev r,a= .node b l k lev r:=by
  cases a with
  |nil=>exact absurd rfl d
  |node b l k lev r=>exact⟨b,l,k,lev,r,rfl⟩
 have P:w.cell? ⟨b,0,U⟩=R (af (R ⟨t,0,U⟩)):=by rw[q,j];rfl
 have H:=C (by rw[j];rfl:a.bE=R ⟨t,0,U⟩);clear f n x y z A c B D q i j d p s;go_enter func254,ntmps254;go_wp2_with fail;rw[<-H.out];refine(AB a _ E F).mono ?_;rintro o Q ⟨V,W,X,Y,rfl,e,_,rfl⟩;rw[G.out] at e;have Z:=e.cell 0 (v:=I J k.v) rfl;have aa:=e.cell 1 (v:=I J k.id) rfl;clear e;go_wp2;exact bodyPost_ret (ry (v0:=I J k.v) (v1:=I J k.id) (g:=w.heap.size) (T:=218) rfl rfl rfl (ak.new w #[I J k.v,I J k.id] 218)) rfl ⟨rfl,bx _ _⟩
theorem A_ (b:Nat) (x:Key) (is:Bool) (w:ab) (e:∀w',Below w.heap.size w w'->Calls au 254 #[af (R ⟨b,0,U⟩),.func (.func 255) #[] #[]] w' (p1 x is w')):Calls au 233 #[af (R ⟨b,0,U⟩)] w (p1 x is w):=by have c:=(bx w (av #[I J 0,I J 0] 218));have i:=C (ak.new w #[I J 0,I J 0] 218);have f:=C c;have h:=C (e _ c);clear e c;go_enter func233,ntmps233;go_wp2_with fail;refine h.mono ?_;rintro l m ⟨rfl,d⟩;have a:=i.next d;have n:=a.cell 0 (v:=I J 0) rfl;have o:=a.cell 1 (v:=I J 0) rfl;have q:=a.free 0;have r:=a.free 1;have j:=C a;have k:=C (f.trans (d.mono f.size));clear d a h;unfold dR;go_wp2;exact bodyPost_ret (ry (v0:=I J x.v) (v1:=I J x.id) (g:=w.heap.size) (T:=218) rfl rfl rfl ((j.set 0 (I J x.v)).set 1 (I J x.id))) rfl ⟨rfl,(k.setCell (p:=⟨w.heap.size,0,U⟩) (bK _) _).setCell (p:=⟨w.heap.size,1,U⟩) (bK _) _⟩
theorem Ba (S:Nat->Prop) (b:Nat) (w:ab) (h:eD w S b []):Calls au 233 #[af (R ⟨b,0,U⟩)] w (p1 ⟨0,0⟩ false w):=A_ b _ _ w λw' a=>It S b _ w' (h.frame (Mod.below (S:=λ_=>False) a) (λ_ _=>id))
theorem w_ (S:Nat->Prop) (b:Nat) (k:Key) (a:List Key) (w:ab) (h:eD w S b (k::a)):Calls au 233 #[af (R ⟨b,0,U⟩)] w (p1 k true w):=A_ b _ _ w λw' c=>Iu S b k a w' (h.frame (Mod.below (S:=λ_=>False) c) (λ_ _=>id))
def hj (x:Key) (l:List Key):Option Key:=l.find? λy=>decide (x.lt y)
def T.next (x:Key):T->Option Key->Option Key
 | .nil,f=>f
 | .node _ l k _ r,f=>if x.lt k then T.next x l (R k) else T.next x r f
theorem Iv {l:List Key} (h:∀y∈l,¬x.lt y):hj x l=U:=by unfold hj;rw[List.find?_eq_none];intro y a;simp[h y a]
theorem Iw (x:Key) (t:T) (f:Option Key) (h:ha t.keys):T.next x t f=(hj x t.keys).or f:=by
 induction t generalizing f with
 |nil=>rfl
 |node b l k lev r c d=>
  obtain⟨e,i,j,q,s⟩:=sx h;have m:hj x (T.node b l k lev r).keys=(hj x l.keys).or (hj x (k::r.keys)):=by show hj x (l.keys++k::r.keys)=_;unfold hj;rw[List.find?_append]
  rw[m];by_cases a:x.lt k;·show(if x.lt k then T.next x l (R k) else T.next x r f)=_;rw[aj a,c _ e];have:hj x (k::r.keys)=R k:=(by unfold hj;rw[List.find?_cons_of_pos];simp[a]);rw[this];cases hj x l.keys<;>rfl
  ·show(if x.lt k then T.next x l (R k) else T.next x r f)=_;rw[z0 a,d _ i];have n:hj x l.keys=U:=Iv λy o g=>a (Key.lt_trans g (j y o));have p:hj x (k::r.keys)=hj x r.keys:=(by unfold hj;rw[List.find?_cons_of_neg];simp[a]);rw[n,p];rfl
def Found (w:ab) (v:Value):Option Key->Prop
 |none=>v=af U
 |some y=>∃(b:Nat) (l:T) (lev:Nat) (r:T),v=af (R ⟨b,0,U⟩)∧ak w b (T.cells l y lev r) 331
theorem Found.next {w w':ab} {v:Value} {f:Option Key} (h:Found w v f) (a:Below w.heap.size w w'):Found w' v f:=by
 cases f with
 |none=>exact h
 |some y=>obtain⟨b,l,lev,r,c,d⟩:=h;exact⟨b,l,lev,r,c,d.next a⟩
def xa (f:Option Key) (w:ab) (e:Ending) (w':ab):Prop:=e=aK (bC #[dR (f.getD ⟨0,0⟩),aD f.isSome])∧Below w.heap.size w w'
theorem Ix {e:Ending} {f:Option Key} (a:f=U) (b:e=aK (bC #[dR ⟨0,0⟩,aD false])) (c:Below w.heap.size w w'):xa f w e w':=by subst a;exact⟨b,c⟩
theorem Iy {e:Ending} {f:Option Key} {y:Key} (a:f=R y) (b:e=aK (bC #[dR y,aD true])) (c:Below w.heap.size w w'):xa f w e w':=by subst a;exact⟨b,c⟩
theorem Iz (S:Nat->Prop) (b:Nat) (O:List Key) (x:Key) (w:ab) (h:eD w S b O):Calls au 234 #[af (R ⟨b,0,U⟩),dR x] w (xa (hj x O) w):=by
 obtain⟨d,P,aB,ax,bc,bg,aA,rfl,bj,an⟩:=h;have Q:=C (by rw[Iw x d U aA];cases hj x d.keys<;>rfl:T.next x d U=hj x d.keys);generalize hj x d.keys=F at Q;have W:=P.cell 0 (v:=af d.bE) rfl;have aG:=P.lt;generalize aL:d.bE=p at W;have ae:=C aL;show Calls au 234 #[af (R ⟨b,0,U⟩),bk #[I J x.v,I J x.id]] w _;go_enter func234,ntmps234;go_upto_region 3 with(fail);have am:(w.alloc (av #[I J x.v,I J x.id] 218)).heap.size=w.heap.size+1:=by simp
 generalize A:kn (kn w _) _=V;have q:=C (by rw[<-A];exact((Below.refl _ _).alloc (bK _) _).alloc (by omega) _:Below w.heap.size w V);have aN:=C (by rw[<-A];exact(ak.new w _ _).alloc _:ak V w.heap.size #[I J x.v,I J x.id] 218);have ap:=C (by rw[<-A,<-am];exact ak.new _ _ _:ak V (w.heap.size+1) #[I J 0,I J 0] 218);have aQ:=C (aB.mod (Mod.below (S:=λ_=>False) q) (λ_ _=>id));have aw:=bY q aG W;have ah:=q.out.size;go_wp2_with fail;go_loopg [6,7] d.size (λg aR aS wr=>∃(u:T) (n:Option Key),aS=af u.bE∧g=u.size∧u.At wr∧Found wr aR n∧T.next x u n=F∧Below V.heap.size V wr);case atStart=>exact⟨d,U,by rw[ae.out],rfl,aQ,rfl,Q,Below.refl _ _⟩
 case round=>
  obtain⟨u,n,rfl,aU,e,aP,aV,i⟩:=hrel;have B:=aN.next (i.mono (bK _));have j:=ap.next (i.mono (bK _));have D:=C aP;have s:=C aV;have X:=C aU;have Y:=C (q.trans (i.mono ah));have Z:=i.size;cases u with
  |nil=>
   have bl:=j.cell 0 (v:=I J 0) rfl;have bo:=j.cell 1 (v:=I J 0) rfl;have bm:=j.free 0;have ay:=j.free 1;rw[show T.nil.bE=U from rfl];cases n with
   |none=>have E:u6=af U:=D;subst E;have hF:F=U:=s.symm;have G:=C hF;clear hF;go_wp2;exact bodyPost_ret (ry (v0:=I J 0) (v1:=I J 0) (g:=w.heap.size+1) (T:=218) rfl rfl rfl ((j.set 0 (I J 0)).set 1 (I J 0))) rfl (Ix G rfl ((Y.setCell (p:=⟨w.heap.size+1,0,U⟩) (by simp only;omega) _).setCell (p:=⟨w.heap.size+1,1,U⟩) (by simp only;omega) _))
   |some y=>obtain⟨bq,bt,ai,bw,E,H⟩:=D;subst E;have hF:F=R y:=s.symm;have G:=C hF;have aD:=H.cell 0 (v:=I J y.v) rfl;have a0:=H.cell 1 (v:=I J y.id) rfl;clear hF H;go_wp2;exact bodyPost_ret (ry (v0:=I J y.v) (v1:=I J y.id) (g:=w.heap.size+1) (T:=218) rfl rfl rfl ((j.set 0 (I J y.v)).set 1 (I J y.id))) rfl (Iy G rfl ((Y.setCell (p:=⟨w.heap.size+1,0,U⟩) (by simp only;omega) _).setCell (p:=⟨w.heap.size+1,1,U⟩) (by simp only;omega) _))
  |node f l k lev r=>
   rw[show(T.node f l k lev r).bE=R ⟨f,0,U⟩ from rfl];have aa:=e.1.cell 0 (v:=I J k.v) rfl;have aq:=e.1.cell 1 (v:=I J k.id) rfl;have aZ:=e.1.cell 3 (v:=af l.bE) rfl;have a6:=e.1.cell 4 (v:=af r.bE) rfl;have ac:=B.cell 0 (v:=I J x.v) rfl;have az:=B.cell 1 (v:=I J x.id) rfl;have m:=e.1.lt;have t:=B.lt;obtain⟨c,K⟩:=aW (e_ k x);have ad:=C K;by_cases o:x.lt k
   ·have a7:(0:Int)<c:=(by rw[<-K];unfold e_;rw[z0 (Key.jQ o).symm,z0 (Key.lt_asymm o)];decide);have L:=C o;go_wp2_with fail;go_region_held3 (λW'=>W'.cell? ⟨w.heap.size,0,U⟩=R (I J x.v)∧W'.cell? ⟨w.heap.size,1,U⟩=R (I J x.id)∧W'.cell? ⟨f,0,U⟩=R (I J k.v)∧W'.cell? ⟨f,1,U⟩=R (I J k.id)) ((refine⟨?_,?_,?_,?_⟩)<;>(first|assumption|(with_reducible refine b2 ?_;assumption))) (first|(go_at_call 256;refine(ml k x _).mono ?_;rintro a8 M ⟨rfl,a⟩;rw[ad.out];have N:=C a;have ba:=bY a t ac;have ao:=bY a t az;have bb:=bY a m aa;have ag:=bY a m aq;have bz:=bY a m aZ;clear a));go_wp2_with fail;go_quiet (fail);go_wp2;have a:Below wr.heap.size wr M:=(Below.refl _ wr).drew.trans N;have z:=C (e.mod (Mod.below (S:=λ_=>False) a) (λ_ _=>id));go_roundg l.size;case measure=>rw[X.out];show _<1+(l.size+r.size);omega
    case rel=>exact⟨l,R k,rfl,rfl,z.2.1.drewN _,⟨f,l,lev,r,rfl,z.1⟩,by rw[<-s.out];show _=(if x.lt k then _ else _);rw[aj L.out],below_drewN (i.trans (a.mono Z)) _⟩
   ·have a7:¬(0:Int)<c:=by
     rw[<-K];unfold e_;split;·decide
     ·next bf=>rw[aj (Key.pJ o (Ne.symm bf))];decide
    have L:=C o;go_wp2_with fail;go_region_held3 (λW'=>W'.cell? ⟨w.heap.size,0,U⟩=R (I J x.v)∧W'.cell? ⟨w.heap.size,1,U⟩=R (I J x.id)∧W'.cell? ⟨f,0,U⟩=R (I J k.v)∧W'.cell? ⟨f,1,U⟩=R (I J k.id)) ((refine⟨?_,?_,?_,?_⟩)<;>(first|assumption|(with_reducible refine b2 ?_;assumption))) (first|(go_at_call 256;refine(ml k x _).mono ?_;rintro a8 M ⟨rfl,a⟩;rw[ad.out];have N:=C a;have ba:=bY a t ac;have ao:=bY a t az;have bb:=bY a m aa;have ag:=bY a m aq;have a2:=bY a m a6;clear a));go_wp2;have a:Below wr.heap.size wr M:=(Below.refl _ wr).drew.trans N;have z:=C (e.mod (Mod.below (S:=λ_=>False) a) (λ_ _=>id));go_roundg r.size;case measure=>rw[X.out];show _<1+(l.size+r.size);omega
    case rel=>exact⟨r,n,rfl,rfl,z.2.2,D.next a,by rw[<-s.out];show _=(if x.lt k then _ else _);rw[z0 L.out],i.trans (a.mono Z)⟩
variable {pf:Int->Nat} {e:aI} {aH:Bool}
theorem ej.drew {w:ab} {m n:Nat} {f:Int->Option Value} (h:ej w m f n):ej w.drew m f n:=h.mod (Mod.refl (λ_=>False) w).drew id
def eR (pf:Int->Nat) (l:List aI) (k:Int):Option Value:=if cH k l then R (af (R ⟨pf k,0,U⟩)) else U
def iu (m t:Nat) (q:aC) (cF:Int) (aH:Bool):Array Value:=#[.map (R m),af (R ⟨t,0,U⟩),I J q.cur,I J q.mn,I ah cF,aD aH]
structure ds (w:ab) (S:Nat->Prop) (b:Nat) (q:aC) (m t:Nat) (cF:Int) (aH:Bool) (pf:Int->Nat) (al:Nat->Prop):Prop where
 cs:ak w b (iu m t q cF aH) 215
 map:ej w m (eR pf q.es) q.es.length
 tree:eD w al t (q.es.map aI.key)
 cz:∀e∈q.es,ak w (pf e.id) (dj e) 79∧S (pf e.id)∧¬al (pf e.id)∧pf e.id≠b
 apart:∀e∈q.es,∀d∈q.es,pf e.id=pf d.id->e.id=d.id
 own:S b∧S m∧(∀k,al k->S k)∧¬al b∧¬al m
def et (w:ab) (S:Nat->Prop) (b:Nat) (q:aC):Prop:=∃m t cF aH pf al,ds w S b q m t cF aH pf al
section
variable {w w':ab} {S:Nat->Prop} {b:Nat} {q:aC} {m t:Nat} {cF:Int} {aH:Bool} {pf:Int->Nat} {al:Nat->Prop}
theorem ds.oP (h:ds w S b q m t cF aH pf al):b≠m:=by intro e;obtain⟨f,c,d,_⟩:=h.map;have a:=h.cs;unfold ak at a;rw[e,d] at a;cases a
theorem ds.em (h:ds w S b q m t cF aH pf al) (d:e∈q.es):pf e.id≠m:=by intro q;obtain⟨g,c,f,_⟩:=h.map;have a:=(h.cz e d).1;unfold ak at a;rw[q,f] at a;cases a
theorem ds.frame {Z:Nat->Prop} (h:ds w S b q m t cF aH pf al) (a:Mod Z w w') (c:∀k,S k->¬Z k):ds w' S b q m t cF aH pf al:=⟨h.cs.mod a (c b h.own.1),h.map.mod a (c m h.own.2.1),h.tree.frame a (λk f=>c k (h.own.2.2.1 k f)),λe d=>⟨(h.cz e d).1.mod a (c _ (h.cz e d).2.1),(h.cz e d).2⟩,h.apart,h.own⟩
theorem et.frame {Z:Nat->Prop} (h:et w S b q) (a:Mod Z w w') (c:∀k,S k->¬Z k):et w' S b q:=by obtain⟨m,t,cF,aH,pf,al,h⟩:=h;exact⟨m,t,cF,aH,pf,al,h.frame a c⟩
theorem et.next (h:et w S b q) (a:Below w.heap.size w w'):et w' S b q:=h.frame (Mod.below (S:=λ_=>False) a) (λ_ _=>id)
theorem et.mono {T:Nat->Prop} (h:et w S b q) (c:∀k,k<w.heap.size->S k->T k):et w T b q:=by obtain⟨m,t,cF,aH,pf,al,h⟩:=h;refine⟨m,t,cF,aH,pf,λk=>al k∧k<w.heap.size,h.cs,h.map,?_,λe a=>⟨(h.cz e a).1,c _ (h.cz e a).1.lt (h.cz e a).2.1,λg=>(h.cz e a).2.2.1 g.1,(h.cz e a).2.2.2⟩,h.apart,c _ h.cs.lt h.own.1,c _ h.map.lt h.own.2.1,λk d=>c k d.2 (h.own.2.2.1 k d.1),λg=>h.own.2.2.2.1 g.1,λg=>h.own.2.2.2.2 g.1⟩;exact h.tree.mono (λk d f=>⟨f,d⟩)
end
theorem Bb (w:ab):Calls au 82 #[] w λe w'=>∃b,e=aK (af (R ⟨b,0,U⟩))∧et w' (λk=>w.heap.size<=k) b ks∧Below w.heap.size w w':=by
 have l:=@run_makeMap au;go_enter func82,ntmps82;go_wp2_with fail;refine(Is _).mono ?_;rintro e a ⟨rfl,d,c⟩;have i:=C d;have j:=C c;clear d c;go_wp2;go_ret;have f:(w.alloc (.map #[] 0)).heap.size=w.heap.size+1:=by simp
 have d:=i.out;have c:=j.out;rw[f] at d c;have m:w.heap.size+1<=a.heap.size:=f▸c.size;have g:=(Below.refl a.heap.size a).alloc (bK _) (av #[.map (R w.heap.size),af (R ⟨w.heap.size+1,0,U⟩),I J (-1),I J 0,I ah 0,aD false] 215);refine⟨a.heap.size,rfl,⟨w.heap.size,w.heap.size+1,0,false,λ_=>0,λk=>k=w.heap.size+1,?_⟩,?_⟩
 ·refine⟨ak.new a _ _,?_,?_,by simp[ks],by simp[ks],?_⟩;·exact(((ej.new w).next (by rw[f];exact c)).next g).congr (λk=>rfl) rfl
  ·exact(d.frame (Mod.below (S:=λ_=>False) g) (λ_ _=>id)).mono (λk _ h=>h.symm)
  ·exact⟨show w.heap.size<=a.heap.size by omega,bK _,λk h=>by have:k=w.heap.size+1:=h;show w.heap.size<=k;omega,show¬a.heap.size=w.heap.size+1 by have:=d.own;omega,show¬w.heap.size=w.heap.size+1 by omega⟩
 ·exact((bx w (.map #[] 0)).trans (c.mono (Nat.le_succ _))).trans (g.mono (by omega))
theorem tb (n:Nat) (w:ab):Calls au 198 #[I ah (n:Int)] w λe w'=>e=aK (aD (l7 n))∧w'=w:=by
 unfold l7;go_enter func198,ntmps198;go_wp2;all_goals go_ret
 all_goals(refine⟨?_,rfl⟩;simp_all;try omega)
theorem IA {p:Tmp} {a:Act} {w:ab} {T:Nat} {v0:Value} (h:fn.results=#[.cell p 218]) (b:a.tmps.getD p undef=af (R ⟨g,0,U⟩)) (c:w.heap[g]?=R (av #[v0,v1] T (0,0))):(results fn a.tmps).run au w= .ok (bk #[v0,v1]) w:=results_cell_row h a.tmps w g T _ _ _ b c underlying218 rfl A9
theorem tc (p:Nat) (e:aI) (w:ab) (h:ak w p (dj e) 79):Calls au 212 #[af (R ⟨p,0,U⟩)] w λr w'=>r=aK (dR e.key)∧Below w.heap.size w w':=by have a:=h.cell 0 (v:=I J e.id) rfl;have b:=h.cell 2 (v:=I J e.v) rfl;have c:=h.lt;clear h;go_enter func212,ntmps212;go_wp2_with fail;go_region;go_wp2;exact bodyPost_ret (IA (g:=w.heap.size) (T:=218) rfl rfl (ak.new w _ _)) rfl ⟨rfl,(bx _ _).drew⟩
theorem ds.td {w w':ab} {S:Nat->Prop} {b:Nat} {q c:aC} {m t:Nat} {cF ld':Int} {aH ov':Bool} {pf:Int->Nat} {al:Nat->Prop} (h:ds w S b q m t cF aH pf al) (d:Mod (λk=>k=b) w w') (g:ak w' b (iu m t c ld' ov') 215) (a:c.es=q.es):ds w' S b c m t ld' ov' pf al:=by
 refine⟨g,?_,?_,?_,?_,h.own⟩;·rw[a];exact h.map.mod d (Ne.symm h.oP)
 ·rw[a];exact h.tree.frame d (λk i e=>h.own.2.2.2.1 (e▸i))
 ·rw[a];intro e f;exact⟨(h.cz e f).1.mod d (h.cz e f).2.2.2,(h.cz e f).2⟩
 ·rw[a];exact h.apart
theorem IB (w:ab) (O:Obj) (v:Value) (T:TypeId):((w.alloc O).alloc (av #[v] T)).drew.cell? ⟨w.heap.size+1,0,U⟩=R v:=by have h:=(ak.new (w.alloc O) #[v] T).cell 0 (v:=v) rfl;rw[show(w.alloc O).heap.size=w.heap.size+1 by simp] at h;exact h
def IC (S:Nat->Prop) (b:Nat) (q:aC) (m t:Nat) (cF:Int) (aH:Bool) (pf:Int->Nat) (al:Nat->Prop) (w:ab) (e:Ending) (w':ab):Prop:=e=aK (bC #[])∧ds w' S b q.raise m t cF aH pf al∧Mod (λk=>k=b) w w'
theorem te (S:Nat->Prop) (b:Nat) (q:aC) (m t:Nat) (cF:Int) (aH:Bool) (pf:Int->Nat) (al:Nat->Prop) (u:FrameMode) (w:ab) (h:ds w S b q m t cF aH pf al):CallsD au 209 #[af (R ⟨b,0,U⟩)] u w λe p w'=>p=u∧IC S b q m t cF aH pf al w e w':=by
 have s:=h.cs.cell 1 (v:=af (R ⟨t,0,U⟩)) rfl;have r:=h.cs.lt;have f:=h.tree;cases c:q.es with
 |nil=>rw[c] at f;have i:=C (Ba al t w f);have j:=C (by unfold aC.raise;cases q;simp only at c;rw[c];rfl:q.raise=q);clear f c;go_enter_d func209,ntmps209;go_wp2_with fail;refine i.mono ?_;rintro e k ⟨rfl,a⟩;have d:=C a;clear a;unfold dR;go_wp2;go_end0;refine⟨rfl,?_⟩;rw[j.out];exact⟨h.frame (Mod.below (S:=λ_=>False) (d.alloc d.size _)) (λ_ _=>id),Mod.below (d.alloc d.size _)⟩
 |cons x l=>rw[c] at f;have i:=C (w_ al t x.key (l.map aI.key) w f);have j:=C (by unfold aC.raise;rw[c];rfl:q.raise={q with mn:=max q.mn x.v});clear f c;go_enter_d func209,ntmps209;go_wp2_with fail;refine i.mono ?_;rintro e k ⟨rfl,a⟩;have y:=(h.cs.next a).cell 3 (v:=I J q.mn) rfl;have z:=(h.cs.next a).free 3;have A:b<k.heap.size:=dd r a.size;have d:=C a;clear a;unfold dR;go_wp2_with fail;go_region_with (first|(go_at_call 239;refine(HU q.mn x.key.v _ _ (IB _ _ _ _)).mono ?_;rintro e B ⟨rfl,rfl⟩));all_goals go_wp2;go_end0;refine⟨rfl,?_⟩;rw[j.out];have n:=(((Mod.one k b 3 (I J (max q.mn x.key.v))).alloc (av #[I J x.key.v,I J x.key.id] 218)).alloc (av #[I J x.key.v] 2)).drew;have o:=h.frame (Mod.below (S:=λ_=>False) d) (λ_ _=>id);exact⟨o.td n ((((o.cs.set 3 (I J (max q.mn x.key.v))).alloc _).alloc _):_) rfl,(Mod.below d).trans n (λ_ _ g=>g)⟩
structure iv {α:Type} (F:cd α) (T E:TypeId) (bytes:Nat):Prop where
 slice:prog.underlying T=R (.slice E)
 info:∃z,(prog.info? E).map (λi=>(i.zero,i.size,i.bytes))=R (R z,F.c,bytes)∧z.cells.size=F.c
 cy:bytes<=1000
section
variable {α:Type} {F:cd α} {T E bytes:Nat}
theorem jB (H:iv F T E bytes) {f:Array Oper} {rest:List Oper} {o:Oper} {a:Act} {g:Exit->Act->ab->Prop} (k:o.guard=U) (s x:Operand) (l:o.op= .call {callee:=.builtin .append,args:=#[s,x],argTypes:=#[T,T]}) (base:Nat) (v:Value) (n:Nat) (zs:List α) (m:a.eval s=v) (p:Own F w base E v n zs) (b c:Nat) (y:α) (q:a.eval x=ay (R ⟨b,0,U⟩) 1 c) (r:∀i u,(F.e y)[i]?=R u->w.cell? ⟨b,i,U⟩=R u) (t:n<=10000000) (z:base<=w.heap.size) (h:∀d w',Own F w' base E d (n+1) (zs++[y])->w.grownBy w' v.ownBlock->(d.ownBlock=v.ownBlock∨d.ownBlock=R w.heap.size)->wpList au f g rest (a.put o.dst d) w'):wpList au f g (o::rest) a w:=by
 obtain⟨A,B,C⟩:=H.info;obtain⟨D,G,I,J,K⟩:=info_parts B;have L:(n+1)*bytes<=140737488355328:=cA (qx (Nat.succ_le_succ t) H.cy) (by decide);refine wpList_append_own_at _ k s x T l base E D A F.c bytes H.slice G I J K C F.pos v n _ m p ⟨b,0,U⟩ 1 c (F.e y) q (by rw[F.len];omega) ?_ (λu M=>F.one y u M) (by unfold maxLen;omega) L z ?_;·intro j u N;rw[addr_add,lZ];exact r j u N
 ·intro d w' O P _ Q;exact h d w' (by unfold Own;rw[cd.vk];exact O) P Q
theorem oR (H:iv F T E bytes) {f:Array Oper} {o:Oper} {a:Act} {g:Act->ab->Prop} {k:Exit->Act->ab->Prop} {l:Prop} (m:o.guard=U) (s x:Operand) (p:o.op= .call {callee:=.builtin .append,args:=#[s,x],argTypes:=#[T,T]}) (base:Nat) (v:Value) (n:Nat) (zs:List α) (q:a.eval s=v) (r:Own F w base E v n zs) (b c:Nat) (y:α) (t:a.eval x=ay (R ⟨b,0,U⟩) 1 c) (z:∀i u,(F.e y)[i]?=R u->w.cell? ⟨b,i,U⟩=R u) (A:n<=10000000) (B:base<=w.heap.size) (h:∀d w',Own F w' base E d (n+1) (zs++[y])->w.grownBy w' v.ownBlock->(d.ownBlock=v.ownBlock∨d.ownBlock=R w.heap.size)->g (a.put o.dst d) w'):if Region.wanted o (yielded f a.tmps)=true then Oper.wp au o a w g k else l:=by
 have C:Region.wanted o (yielded f a.tmps)=true:=by simp[Region.wanted,m]
 rw[aj C];obtain⟨D,G,I⟩:=H.info;obtain⟨J,K,L,M,N⟩:=info_parts G;have O:(n+1)*bytes<=140737488355328:=cA (qx (Nat.succ_le_succ A) H.cy) (by decide);obtain⟨d,w',Q,S,V,Z,W⟩:=run_append_own_at (P:=au) w base T o.type E J D F.c bytes H.slice K L M N I F.pos v n _ r ⟨b,0,U⟩ 1 c (F.e y) (by rw[F.len];omega) (λj u X=>by rw[addr_add,lZ];exact z j u X) (λu Y=>F.one y u Y) (by unfold maxLen;omega) O B;unfold Oper.wp execOp;simp only[p,resolve,invoke,builtin,Sem.run_bind,Sem.run_pure,Result.andThen_ok,List.map_toArray,km,List.map_nil,q,t,Q];exact h d w' (by unfold Own;rw[cd.vk];exact S) V W
structure Grow (w w':ab) (v Bc:Value):Prop where
 dZ:w.grownBy w' v.ownBlock
 loc:Bc.ownBlock=v.ownBlock∨∃g,Bc.ownBlock=R g∧w.heap.size<=g
theorem Grow.refl (w:ab) (v:Value):Grow w w v v:=⟨⟨rfl,rfl,rfl,bK _,λ_ _ _=>rfl⟩,.inl rfl⟩
theorem Grow.trans {x y z:ab} {v v1 v2:Value} (h:Grow x y v v1) (k:Grow y z v1 v2):Grow x z v v2:=by
 refine⟨⟨k.dZ.os.trans h.dZ.os,k.dZ.tape.trans h.dZ.tape,k.dZ.output.trans h.dZ.output,cA h.dZ.size k.dZ.size,λi b d=>(k.dZ.block i (dd b h.dZ.size) ?_).trans (h.dZ.block i b d)⟩,?_⟩
 ·rcases h.loc with a|⟨g,a,e⟩;·rw[a];exact d
  ·rw[a];intro c;have:=Option.some.inj c;omega
 ·rcases k.loc with a|⟨g,a,e⟩;·rw[a];exact h.loc
  ·exact .inr ⟨g,a,cA h.dZ.size e⟩
theorem Grow.alloc {x y:ab} {v v1:Value} (h:Grow x y v v1) (O:Obj):Grow x (y.alloc O) v v1:=h.trans ⟨⟨rfl,rfl,rfl,by simp,λa b _=>((Below.refl y.heap.size y).alloc (bK _) O).block a b⟩,.inl rfl⟩
theorem Grow.Bd {x:ab} (h:Grow (x.drewN n) y v v1):Grow x y v v1:=⟨⟨h.dZ.os,h.dZ.tape,h.dZ.output,h.dZ.size,h.dZ.block⟩,h.loc⟩
theorem Grow.cell {x:ab} (h:Grow x y v v1) (c:b<x.heap.size) (d:R b≠v.ownBlock) (e:x.cell? ⟨b,o,U⟩=R u):y.cell? ⟨b,o,U⟩=R u:=(lq (a:=⟨b,o,U⟩) (h.dZ.block b c d)).trans e
theorem Grow.below {x:ab} (h:Grow x y v v1) (d:B<=x.heap.size) (b:∀g,v.ownBlock=R g->B<=g):Below B x y:=⟨h.dZ.os,h.dZ.tape,h.dZ.output,h.dZ.size,λa e=>h.dZ.block a (by omega) (λc=>by have:=b a c.symm;omega)⟩
theorem Grow.gR {x:ab} {a:Value} (h:x.grownBy y v.ownBlock) (b:a.ownBlock=v.ownBlock∨a.ownBlock=R x.heap.size):Grow x y v a:=⟨h,b.imp id λc=>⟨_,c,bK _⟩⟩
theorem Own.next' {zs:List α} (h:Own F w B E v n zs) (b:Below w.heap.size w w'):Own F w' B E v n zs:=by
 refine⟨h.1,?_⟩;rcases h.2 with c|⟨g,cap,d,e,f,a,i⟩;·exact .inl c
 ·exact .inr ⟨g,cap,d,e,f,(b.block g (iZ.1 a).1).trans a,i⟩
end
def rF (m:Nat) (A a:ab):Prop:=a.heap[m]?=A.heap[m]?∧a.heap[m+1]?=A.heap[m+1]?
theorem xh {k:Fence} {P:Program} {α:Type} {g:Operand} {r:Array Tmp} {assign body:Code} {C:Exit->Act->ab->Prop} {a:Act} (N:k.round=U) (O:1<=n) {gf:Nat} {lb:Array Value} (Q:a.eval g= .func (.func gf) #[] lb) (T:k.fn gf) (V:∀args w,(callFunc gf args).run P w= .ok (.enter gf args) w) {encs:α->Array Value} (X:∀b,(encs b).size=r.size) (e:List α->ab->Prop) (s:List α->α->ab->Prop) (S:List α->Prop) (hI:∀ag A f,e ag A->Mod (λh=>h=w.heap.size∨h=w.heap.size+1) A f->e ag f) (hI':∀ag b A f,s ag b A->Mod (λh=>h=w.heap.size∨h=w.heap.size+1) A f->s ag b f) (h0:e [] w) (hiter:∀(l:Nat) (B:ab->Prop) (c:ab),(∀A f,B A->rF w.heap.size A f->B f)->(∀A,B A->w.heap.size+2<=A.heap.size)->Below w.heap.size w c->e [] c->B c->(∀i b W,s i b W->B W->YieldAt k (n-1-1) P l (encs b) W λd W'=>d=aK (aD true)∧e (i++[b]) W'∧B W')->CallsIn k (n-1) P gf (#[.func (.yield l) #[] #[]]++lb) c λd W'=>(∃v,d=aK v)∧∃ag,S ag∧e ag W'∧B W') (D:α->Act) (Y:∀(l:Nat) (b:α) (W:ab) (E:Act->ab->Prop),E (D b) W->assign.wpIn (k.inRound l) (n-1-1) P (Exit.then E (λ_ _ _=>False)) {tmps:=(r.zip (encs b)).foldl (λF (p,v)=>F.setIfInBounds p v) a.tmps,defers:=[]} W) (Z:∀(l:Nat) (i:List α) (b:α) (W:ab),s i b W->w.heap.size+2<=W.heap.size->body.wpIn (k.inRound l) (n-1-1) P (λd _ W'=>match d with| .normal=>rF w.heap.size W W'∧e (i++[b]) W'|_=>False) (D b) W) (aa:∀(ag:List α) (W:ab),S ag->e ag W->W.heap[w.heap.size]?=R (.deferred (R []))->C .normal {a with defers:={target:=.collected w.heap.size,args:=#[]}::a.defers} W):(Code.rangeFunc g r assign body).wpIn k n P C a w:=by
 refine wpIn_rangeFunc ?_;intro fn aq;rw[N];obtain⟨rec,j⟩:∃rec:LoopState->Option Code->Loop,rec=λac az=>{state:=ac,pending:=az,fn,tmps:=a.tmps,params:=r,assign,body,defers:=w.heap.size}:=⟨_,rfl⟩;obtain⟨c,t⟩:=aW ((w.alloc (.deferred (R []))).alloc (.loop (rec .ready U)));have ad:c.heap[w.heap.size+1]?=R (.loop (rec .ready U)):=by rw[<-t];have:=World.alloc_heap_new (w.alloc (.deferred (R []))) (.loop (rec .ready U));rwa[lr] at this
 have aB:c.heap[w.heap.size]?=R (.deferred (R [])):=by rw[<-t];exact(Below.heap_alloc _ _ _ (by simp)).trans (World.alloc_heap_new w _)
 have G:Below w.heap.size w c:=by rw[<-t];exact((Below.refl _ w).alloc (bK _) _).alloc (by simp) _
 have aA:e [] c:=hI [] w c h0 (Mod.below G);have y:∀(A:ab) (o:Obj),Mod (λh=>h=w.heap.size∨h=w.heap.size+1) A (A.putObj (w.heap.size+1) o):=λA o=>⟨rfl,rfl,rfl,by simp,λh u aG=>qq (λd=>aG (.inr d))⟩;refine⟨w.heap.size+1,[{target:=.collected w.heap.size,args:=#[]}],c,{target:=.fn (.func gf) lb,args:=#[.func (.yield (w.heap.size+1)) #[] #[]]},c,gf,#[.func (.yield (w.heap.size+1)) #[] #[]]++lb,c,?_,?_,?_,?_,λ_=>O,?_⟩;·rw[<-t,j];exact run_enterLoop_outer _ _ _ _ _
 ·simp only[resolve,Q];simp[go_sem]
 ·intro aj H;simp[Target.leads] at H;subst H;exact T
 ·simp[invoke,go_sem,V]
 ·refine(hiter (w.heap.size+1) (λW=>W.heap[w.heap.size+1]?=R (.loop (rec .ready U))∧W.heap[w.heap.size]?=R (.deferred (R []))) c (λA f x I=>⟨I.2.trans x.1,I.1.trans x.2⟩) (λA x=>(iZ.1 x.1).1) G aA ⟨ad,aB⟩ ?_).mono ?_;·rintro i b W z ⟨q,u⟩;have aL:w.heap.size+1<W.heap.size:=(iZ.1 q).1;have J:=run_yield (P:=P) (args:=encs b) q (by rw[j];exact X b);rw[j] at J;refine⟨fn,_,assign,body,J,roundIn_of_wpIn aq (Y _ b W _ ⟨_,run_beginRound q (by rw[j]),?_⟩)⟩;have af:(W.putObj (w.heap.size+1) (.loop {rec .ready U with state:=.busy})).heap[w.heap.size+1]?=R (.loop {rec .ready U with state:=.busy}):=World.putObj_heap_same aL;have ae:(W.putObj (w.heap.size+1) (.loop {rec .ready U with state:=.busy})).heap[w.heap.size]?=R (.deferred (R [])):=(qq (by omega)).trans u;refine wpIn_mono (Z _ i b _ (hI' i b _ _ z (y _ _)) (by simp;omega)) ?_;rintro d ap aQ m;cases d with
   |normal=>obtain⟨K,am⟩:=m;have L:=K.2.trans af;have M:=run_endRound (P:=P) U L;rw[j] at M;exact⟨_,_,M,rfl,hI _ _ _ am (y _ _),World.putObj_heap_same (iZ.1 L).1|>.trans (by rw[j];rfl),(qq (by omega)).trans (K.1.trans ae)⟩
   |ret=>exact m.elim
   |exit id=>exact m.elim
   |goto F=>exact m.elim
   |panic ah=>exact m.elim
   |outgrown=>exact m.elim
  ·rintro d aR ⟨⟨v,rfl⟩,ag,aN,z,q,u⟩;exact⟨U,_,by have:=run_endLoop (P:=P) q (by rw[j];simp);rw[j] at this;exact this,aa ag _ aN (hI _ _ _ z (y _ _)) ((qq (by omega)).trans u)⟩
variable {ar:Array Value}
theorem j4 (w:ab):(zeroValue 219).run au w= .ok (af U) w:=by kernel_rfl
theorem ds.trim {q:aC} {t:Nat} {d:Int} (h:ds w S b q m t d aH pf al):ds w S b q m t d aH pf (λk=>al k∧k<w.heap.size):=⟨h.cs,h.map,h.tree.mono (λk c f=>⟨f,c⟩),λe a=>⟨(h.cz e a).1,(h.cz e a).2.1,λg=>(h.cz e a).2.2.1 g.1,(h.cz e a).2.2.2⟩,h.apart,h.own.1,h.own.2.1,λk c=>h.own.2.2.1 k c.1,λg=>h.own.2.2.2.1 g.1,λg=>h.own.2.2.2.2 g.1⟩
theorem ds.I7 {s w wk z u:ab} {S':Nat->Prop} {q:aC} {t:Nat} {K ld':Int} {ov':Bool} {a:aI} (h:ds s S b q m t K aH pf al) (o:∀d∈q.es,d.id≠a.id) (x:∀k,S k->S' k) (L:S' n) (D:¬al n) (E:n≠b) (F:∀e∈q.es,pf e.id≠n) (M:∀k,wk.heap.size<=k->S' k) (v:ak s n (dj a) 79) (G:Mod (λk=>k=m) s w) (N:ej w m (nG (eR pf q.es) a.id (af (R ⟨n,0,U⟩))) (q.es.length+1)) (A:Below w.heap.size w wk) (H:Mod al wk z) (O:eD z (cS al wk) t (fj a.key (q.es.map aI.key))) (B:Mod (λk=>k=b) z u) (P:ak u b (iu m t q ld' ov') 215):ds u S' b {q with es:=fk a q.es} m t ld' ov' (λk=>if k=a.id then n else pf k) (cS al wk):=by
 have aq:s.heap.size<=wk.heap.size:=cA G.size A.size;have I:=mA (k:=a.id) rfl o;have r:∀e,e∈fk a q.es↔e=a∨e∈q.es:=λe=>oq I;have Q:n≠m:=by intro e;obtain⟨es,c,V,_⟩:=h.map;unfold ak at v;rw[e,V] at v;cases v
 have J:∀{p:Nat} {ar:Array Value} {T:TypeId},ak s p ar T->p≠m->¬al p->p≠b->ak u p ar T:=λW X Y Z=>(((W.mod G X).next A).mod H Y).mod B Z;refine⟨P,?_,?_,?_,?_,?_⟩
 ·have aa:(fk a q.es).length=q.es.length+1:=(vH I).length_eq;refine(((N.next A).mod H h.own.2.2.2.2).mod B (Ne.symm h.oP)).congr ?_ aa.symm;intro k;unfold nG eR;dsimp only;by_cases e:k=a.id;·rw[aj e,aj (dC.2 ⟨a,(r a).2 (.inl rfl),e.symm⟩),aj e]
  ·rw[z0 e,z0 e];have:cH k (fk a q.es)=cH k q.es:=by
    rw[hN,dC,dC];constructor
    ·rintro⟨d,j,f⟩;rcases(r d).1 j with rfl|j;·exact absurd f.symm e
     ·exact⟨d,j,f⟩
    ·rintro⟨d,j,f⟩;exact⟨d,(r d).2 (.inr j),f⟩
   rw[this]
 ·show eD u _ t ((fk a q.es).map aI.key);rw[vG];exact O.frame B (λk f e=>by
  subst e;rcases f with g|g;·exact h.own.2.2.2.1 g
  ·have:=h.cs.lt;omega)
 ·intro e C;rcases(r e).1 C with rfl|i;·rw[aj rfl];exact⟨J v Q D E,L,λg=>g.elim D (λg=>by have:=v.lt;omega),E⟩
  ·rw[z0 (o e i)];have l:=h.cz e i;exact⟨J l.1 (h.em i) l.2.2.1 l.2.2.2,x _ l.2.1,λg=>g.elim l.2.2.1 (λg=>by have:=l.1.lt;omega),l.2.2.2⟩
 ·intro e C d j g;rcases(r e).1 C with rfl|i<;>rcases(r d).1 j with rfl|y;·rfl
  ·rw[aj rfl,z0 (o d y)] at g;exact absurd g.symm (F d y)
  ·rw[aj rfl,z0 (o e i)] at g;exact absurd g (F e i)
  ·rw[z0 (o e i),z0 (o d y)] at g;exact h.apart e i d y g
 ·exact⟨x _ h.own.1,x _ h.own.2.1,λk f=>f.elim (λg=>x _ (h.own.2.2.1 k g)) (λg=>M k g),λg=>g.elim h.own.2.2.2.1 (λg=>by have:=h.cs.lt;omega),λg=>g.elim h.own.2.2.2.2 (λg=>by have:=h.map.lt;omega)⟩
theorem nJ {P:Program} {al:Ending->ab->Prop} {s:Code} {c:Act->ab->Prop} {a:Act} (h:s.wp P (Exit.then c (bodyPost P fn (λ_ _=>False))) a w):s.wp P (Exit.then c (bodyPostD P fn al)) a w:=by
 refine wp_mono h ?_;intro e f w' b;cases e with
 |normal=>exact b
 |exit id=>exact b.elim
 |goto l=>exact b.elim
 |ret=>obtain⟨_,_,_,d⟩:=b;exact d.elim
 |panic g=>exact b.2.elim
 |outgrown=>exact b.elim
def Bt (S:Nat->Prop) (b:Nat) (q:aC) (a:aI) (w:ab) (e:Ending) (w':ab):Prop:=e=aK (I J (q.dE a))∧et w' (cS S w) b (q.put a)∧Mod S w w'
theorem rH {q:aC} {a:aI} {n:Int} (h:et w S b q) (c:q.dE a=n) (e:n≠0) (d:Below w.heap.size w w'):Bt S b q a w (aK (I J n)) w':=⟨by rw[c],by unfold aC.put;rw[z0 (by rw[c];exact e)];exact(h.next d).mono (λk _ f=>.inl f),Mod.below d⟩
theorem I8 (S:Nat->Prop) (b:Nat) (q:aC) (a:aI) (w:ab) (h:et w S b q) (aQ:q.Ok):Calls au 192 #[af (R ⟨b,0,U⟩),bk #[I J a.id,I ah (a.wt:Int),I J a.v,I ah (a.rem:Int)]] w (Bt S b q a w):=by
 have y:=C h;obtain⟨m,d,r,aH,pf,al,h⟩:=h;replace h:=h.trim;obtain⟨al,Q,T⟩:∃V,(∀k,V k->k<w.heap.size)∧ds w S b q m d r aH pf V:=⟨_,λk G=>G.2,h⟩;replace h:=T;have W:=C Q;clear T Q;obtain⟨X,z⟩:=aW (w.alloc (av #[I J a.id,I ah (a.wt:Int),I J a.v,I ah (a.rem:Int)] 79));have j:Below w.heap.size w X:=z▸bx _ _;have c:=h.frame (Mod.below (S:=λ_=>False) j) (λ_ _=>id);have s:ak X w.heap.size (dj a) 79:=z▸ak.new w _ _;have aR:=s.cell 0 (v:=I J a.id) rfl;have Y:=s.cell 1 (v:=I ah a.wt) rfl;have aS:=s.cell 3 (v:=I ah a.rem) rfl;have aU:=c.cs.cell 0 (v:=.map (R m)) rfl;have aP:=c.cs.cell 1 (v:=af (R ⟨d,0,U⟩)) rfl;have bo:=c.cs.lt;have aV:=s.lt;have H:=C z;clear z;go_enter_defers func192,ntmps192;by_cases aZ:a.id<0;·go_wp2_with fail;rw[H.out];refine⟨_,results_tmp rfl _ _ _,?_⟩;exact rH y (by unfold aC.dE;rw[aj aZ]) (by omega) j
 by_cases l:l7 a.wt=false;·have K:=C l;go_wp2_with fail;rw[H.out];refine(tb a.wt _).mono ?_;rintro e A ⟨rfl,rfl⟩;rw[K.out];go_wp2_with fail;refine⟨_,results_tmp rfl _ _ _,?_⟩;exact rH y (by unfold aC.dE;rw[z0 (by omega),aj l]) (by omega) j
 have K:=C (by simpa using l:l7 a.wt=true);go_wp2_with fail;rw[H.out];refine(tb a.wt _).mono ?_;rintro e A ⟨rfl,rfl⟩;rw[K.out];by_cases B:a.wt<=a.rem
 ·have a6:(a.wt:Int)<=(a.rem:Int):=by omega
  go_wp2_with fail;refine⟨_,results_tmp rfl _ _ _,?_⟩;exact rH y (by unfold aC.dE;rw[z0 (by omega),z0 l,aj B]) (by omega) j
 have a6:¬(a.wt:Int)<=(a.rem:Int):=by omega
 by_cases o:cH a.id q.es=true;·have t:=c.map.drew.look underlying212 underlying3 (j4 _) a.id;rw[show eR pf q.es a.id=R (af (R ⟨pf a.id,0,U⟩)) by unfold eR;rw[aj o]] at t;simp only[kl] at t;go_wp2_with fail;go_region;go_wp2_with fail;refine⟨_,results_tmp rfl _ _ _,?_⟩;exact rH y (by unfold aC.dE;rw[z0 (by omega),z0 l,z0 B,aj o]) (by omega) j.drew
 have t:=c.map.drew.look underlying212 underlying3 (j4 _) a.id;rw[show eR pf q.es a.id=U by unfold eR;rw[z0 o]] at t;simp only[qv] at t;go_wp2_with fail;go_region;clear t;have Z:=c.map.drew.len (P:=au) underlying212 3;by_cases L:q.es.length=128;·rw[L] at Z;go_wp2_with fail;refine⟨_,results_tmp rfl _ _ _,?_⟩;exact rH y (by unfold aC.dE;rw[z0 (by omega),z0 l,z0 B,z0 o,aj L]) (by omega) j.drew
 have bm:¬(q.es.length:Int)=128:=by omega
 go_wp2_with fail;clear Z;have aa:=C (qL (by simpa using o:cH a.id q.es=false));obtain⟨aq,ac,M⟩:=c.map.drew.drew.put underlying212 underlying3 a.id (.pointer (R ⟨w.heap.size,0,U⟩));rw[aj (by unfold eR;rw[z0 o]:eR pf q.es a.id=U)] at M;generalize az:ef A.drew.drew m aq=D at ac M;have p:Mod (λk=>k=m) A D:=az▸(ru A.drew.drew m aq).jm.jm;clear az;go_region;clear ac;have ad:=c.oP;have a7:w.heap.size≠m:=λe=>by have:=h.map.lt;omega
 have a8:w.heap.size≠b:=λe=>by have:=h.cs.lt;omega
 have ba:=((c.cs.mod p ad)).cell 1 (v:=af (R ⟨d,0,U⟩)) rfl;have aB:=C (s.mod p.drew a7:ak D.drew w.heap.size (dj a) 79);have ao:=C (c.tree.frame p.drew (λk G e=>c.own.2.2.2.2 (e▸G)):eD D.drew al d (q.es.map aI.key));have aA:=C (c.cs.mod p.drew ad:ak D.drew b (iu m d q r aH) 215);have bb:=C (mA (k:=a.id) (x:=a) rfl aa);have ag:=C (by have:=aQ.cy;simp;omega:(q.es.map aI.key).length<=198);clear aR Y aS aU aP;go_wp2_with fail;refine nJ ?_;go_region_with (first|(go_at_call 212;refine(tc w.heap.size a _ aB).mono ?_;rintro e bf ⟨rfl,N⟩;have ba:=((aA.next N).cell 1 (v:=af (R ⟨d,0,U⟩)) rfl);have u:=C N;clear N)|(go_at_call 213;refine(AG al d _ a.key _ (ao.frame (Mod.below (S:=λ_=>False) u) (λ_ _=>id)) bb ag).mono ?_;rintro e aG ⟨rfl,aL,E⟩;have F:=(aA.next u).mod E c.own.2.2.2.1;have ae:=(aB.next u).mod E (λg=>by have:=W _ g;omega);have ay:=F.cell 4 (v:=I ah r) rfl;have bq:=F.free 4;have Y:=ae.cell 1 (v:=I ah a.wt) rfl;have ax:=C F;have bc:=C aL;have am:=C E;clear aL E F ae));all_goals
  go_wp2_with fail;refine nJ ?_;go_region;go_wp2_with fail;have O:=(Mod.one aG b 4 (I ah (IntKind.u64.wrap (r+(a.wt:Int))))).drew;have bt:w.heap.size<=bf.heap.size:=cA (Nat.le_of_lt aV) (cA p.size u.size);have bg:=ds.I7 (S':=cS S w) (n:=w.heap.size) (ld':=IntKind.u64.wrap (r+(a.wt:Int))) (ov':=aH) c aa (λk g=>.inl g) (.inr (bK _)) (λg=>by have:=W _ g;omega) a8 (λe bj=>by have:=(h.cz e bj).1.lt;omega) (λk g=>.inr (by omega)) s p.drew M.drew u am bc O (ax.set 4 (I ah (IntKind.u64.wrap (r+(a.wt:Int)))));have aN:Mod S w aG:=((((Mod.below (S:=S) j).trans p.drew (λi _ e=>e▸c.own.2.1)).trans (Mod.below (S:=S) u) (λ_ _ g=>g)).trans am (λi _ g=>c.own.2.2.1 i g));have an:=C (aN.trans O (λi _ e=>e▸c.own.1));clear aN O;refine leaves_cons (f:=209) (args:=#[af (R ⟨b,0,U⟩)]) (by simp) (by simp[go_sem]) ?_;refine(te _ b _ m d _ aH _ _ .returning _ bg).mono ?_;rintro e ai bw ⟨rfl,rfl,aw,bl⟩;have ap:q.dE a=0:=by unfold aC.dE;rw[z0 (by omega),z0 l,z0 B,z0 o,z0 L]
  refine⟨_,results_tmp rfl _ _ _,by rw[ap];rfl,?_,an.trans bl (λi _ e=>e▸c.own.1)⟩;unfold aC.put;rw[aj ap];exact⟨_,_,_,_,_,_,aw⟩
theorem I9:(prog.info? 79).map (·.size)=R 4:=by kernel_rfl
theorem oV {p u:Tmp} {T:Nat} {v0 v2 v3 r:Value} (h:fn.results=#[.cell p 79,.tmp u]) (a:tmps.getD p undef=af (R ⟨g,0,U⟩)) (b:tmps.getD u undef=r) (c:w.heap[g]?=R (av #[v0,v1,v2,v3] T (0,0))):(results fn tmps).run au w= .ok (bC #[bk #[v0,v1,v2,v3],r]) w:=by rw[results_cell_tmp h,a,b];simp only[asAddr,Sem.run_pure,Result.andThen_ok];rw[run_loadVar_row w g T 79 _ _ _ c underlying79 rfl I9];rfl
theorem ds.dropped {o l wk r j:ab} {q:aC} {t:Nat} {A ld':Int} {ov':Bool} {c:Int} (h:ds o S b q m t A aH pf al) (s:q.Ok) (u:e∈q.es) (B:Mod (λk=>k=m) o l) (C:ej l m (rv (eR pf q.es) e.id) (q.es.length-1)) (w:Below l.heap.size l wk) (y:Mod al wk r) (D:eD r al t (eM e.key (q.es.map aI.key))) (v:Mod (λk=>k=b) r j) (E:ak j b (iu m t {q with es:=eN e.id q.es,cur:=c} ld' ov') 215):ds j S b {q with es:=eN e.id q.es,cur:=c} m t ld' ov' pf al:=by
 have F:∀{p:Nat} {ar:Array Value} {T:TypeId},ak o p ar T->p≠m->¬al p->p≠b->ak j p ar T:=λG H I J=>(((G.mod B H).next w).mod y I).mod v J;refine⟨E,?_,?_,?_,?_,h.own⟩
 ·refine(((C.next w).mod y h.own.2.2.2.2).mod v (Ne.symm h.oP)).congr ?_ ?_
  ·intro k;unfold rv eR;dsimp only;by_cases g:k=e.id;·rw[if_pos g,if_neg];rw[dC];rintro⟨f,d,i⟩;exact(hx.1 d).2 (i.trans g)
   ·rw[if_neg g];have:cH k (eN e.id q.es)=cH k q.es:=by
     rw[hN,dC,dC];constructor;·rintro⟨f,d,i⟩;exact⟨f,(hx.1 d).1,i⟩
     ·rintro⟨f,d,i⟩;exact⟨f,hx.2 ⟨d,by rw[i];exact g⟩,i⟩
    rw[this]
  ·have z:=wT s.sorted (x:=e.key) (eY.2 ⟨e,u,rfl⟩);rw[<-qJ s.ids u] at z;simp only[dY] at z;show q.es.length-1=(eN e.id q.es).length;omega
 ·show eD j al t ((eN e.id q.es).map aI.key);rw[qJ s.ids u];exact D.frame v (λk K g=>h.own.2.2.2.1 (g▸K))
 ·intro f d;have n:=h.cz f (hx.1 d).1;exact⟨F n.1 (h.em (hx.1 d).1) n.2.2.1 n.2.2.2,n.2⟩
 ·intro f d a L g;exact h.apart f (hx.1 d).1 a (hx.1 L).1 g
theorem ds.I_ {q:aC} {t:Nat} {c:Int} (h:ds w S b q m t c aH pf al) (f:∀k,al k->k<w.heap.size):ds w (λk=>S k∧k<w.heap.size) b q m t c aH pf al:=⟨h.cs,h.map,h.tree,λe a=>⟨(h.cz e a).1,⟨(h.cz e a).2.1,(h.cz e a).1.lt⟩,(h.cz e a).2.2⟩,h.apart,⟨h.own.1,h.cs.lt⟩,⟨h.own.2.1,h.map.lt⟩,λk d=>⟨h.own.2.2.1 k d,f k d⟩,h.own.2.2.2⟩
def Ja (S:Nat->Prop) (b:Nat) (q:aC) (k:Int) (w:ab) (e:Ending) (w':ab):Prop:=e=aK (bC #[bk (dj (q.ed k)),I J (q.e6 k)])∧et w' S b (q.drop k)∧Mod S w w'
theorem Jb (S:Nat->Prop) (b:Nat) (q:aC) (k:Int) (w:ab) (h:et w S b q) (K:q.Ok):Calls au 193 #[af (R ⟨b,0,U⟩),I J k] w (Ja S b q k w):=by
 have ax:=C h;obtain⟨m,o,t,aH,pf,al,h⟩:=h;replace h:=h.trim;obtain⟨al,aR,bc⟩:∃aS,(∀k,aS k->k<w.heap.size)∧ds w S b q m o t aH pf aS:=⟨_,λk j=>j.2,h⟩;replace h:=bc;obtain⟨D,bg,bj,an⟩:∃D,(∀k,D k->S k)∧(∀k,D k->k<w.heap.size)∧ds w D b q m o t aH pf al:=⟨_,λk j=>j.1,λk j=>j.2,h.I_ aR⟩;replace h:=an;have aU:=C aR;have r:=C bg;have aP:=C bj;obtain⟨l,L⟩:∃l,w.alloc (av #[I J 0,I ah 0,I J 0,I ah 0] 79)=l:=⟨_,rfl⟩;have ad:Below w.heap.size w l:=L▸bx _ _;have n:=h.frame (Mod.below (S:=λ_=>False) ad) (λ_ _=>id);have aw:=C (show ak l w.heap.size (dj lB) 79 from L▸ak.new w _ _);have aY:=n.cs.cell 0 (v:=.map (R m)) rfl;have bv:=n.cs.lt;have u:=n.map.look underlying212 underlying3 (j4 _) k;have aV:l.heap.size=w.heap.size+1:=by rw[<-L];simp
 have aB:=C L;have E:=C aV;have bl:=h.cs.cell 0 (v:=.map (R m)) rfl;have a1:=h.cs.lt;clear L aV;by_cases p:cH k q.es=true
 ·obtain⟨a,F,j⟩:=dC.1 p;subst j;rw[show eR pf q.es a.id=R (af (R ⟨pf a.id,0,U⟩)) by unfold eR;rw[if_pos p]] at u;simp only[kl] at u;have aq:=C (n.cz a F);have cc:=aq.out.1.cell 0 (v:=I J a.id) rfl;have cf:=aq.out.1.cell 1 (v:=I ah a.wt) rfl;have cg:=aq.out.1.cell 2 (v:=I J a.v) rfl;have cj:=aq.out.1.cell 3 (v:=I ah a.rem) rfl;have bo:=C u;rw[<-aB.out] at u;go_enter_defers func193,ntmps193;go_upto_region 4 with fail;clear u bl;have u:=bo.out;rw[aB.out];go_upto_region 5 with fail;obtain⟨B,aA⟩:∃B,l.alloc (av #[I J a.id,I ah (a.wt:Int),I J a.v,I ah (a.rem:Int)] 79)=B:=⟨_,rfl⟩;rw[aA];have ac:Below l.heap.size l B:=aA▸bx _ _;have bm:=C (show ak B l.heap.size (dj a) 79 from aA▸ak.new l _ _);have G:=C (n.frame (Mod.below (S:=λ_=>False) ac) (λ_ _=>id));have cm:=G.out.cs.cell 0 (v:=.map (R m)) rfl;obtain⟨aZ,ay,az⟩:=G.out.map.del (P:=au) underlying212 underlying3 0 a.id;rw[if_neg (show eR pf q.es a.id≠U by unfold eR;rw[if_pos p];simp)] at az;obtain⟨y,a6⟩:∃y,ef B m aZ=y:=⟨_,rfl⟩;rw[a6] at ay az;have z:Mod (λk=>k=m) B y:=a6▸(ru B m aZ);go_upto_region 6 with fail;have bq:=n.oP;have bt:l.heap.size≠m:=λe=>by have:=h.map.lt;have:=E.out;omega
  have a7:=C (show ak y.drew l.heap.size (dj a) 79 from bm.out.mod z.drew bt);have ai:=C (show eD y.drew al o (q.es.map aI.key) from G.out.tree.frame z.drew (λk j e=>n.own.2.2.2.2 (e▸j)));have a8:ak y b (iu m o q t aH) 215:=G.out.cs.mod z bq;have ba:=C (show ak y.drew b (iu m o q t aH) 215 from a8);have bw:=a8.cell 1 (v:=af (R ⟨o,0,U⟩)) rfl;have aD:=C (show a.key∈q.es.map aI.key from eY.2 ⟨a,F,rfl⟩);have a0:=C (show(q.es.map aI.key).length<=200 by have:=K.cy;simp;omega);have bz:¬al l.heap.size:=λg=>by have:=aU.out _ g;have:=E.out;omega
  have a2:¬al w.heap.size:=λg=>by have:=aU.out _ g;omega
  have a3:=n.own.2.2.2.1;have a4:=C (show ak y.drew w.heap.size (dj lB) 79 from(aw.out.next ac).mod z.drew (λe=>by have:=h.map.lt;omega));refine nJ ?_;go_region_with (first|(go_at_call 212;refine(tc l.heap.size a _ a7.out).mono ?_;rintro e cn ⟨rfl,ao⟩;have bw:=((ba.out.next ao).cell 1 (v:=af (R ⟨o,0,U⟩)) rfl);have A:=C ao)|(go_at_call 211;refine(AH al o _ a.key _ (ai.out.frame (Mod.below (S:=λ_=>False) A.out) (λ_ _=>id)) aD.out a0.out).mono ?_;rintro e M ⟨rfl,a5,aG⟩;have N:=(ba.out.next A.out).mod aG a3;have O:=(a7.out.next A.out).mod aG bz;have b8:=N.cell 4 (v:=I ah t) rfl;have cr:=N.free 4;have bb:=N.cell 2 (v:=I J q.cur) rfl;have aK:=N.free 2;have bB:=O.cell 0 (v:=I J a.id) rfl;have bW:=O.cell 1 (v:=I ah a.wt) rfl;have cu:=O.cell 2 (v:=I J a.v) rfl;have cB:=O.cell 3 (v:=I ah a.rem) rfl;have bF:=C N;have aO:=C O;have ag:=C a5;have Q:=C aG));all_goals
   go_upto_region 7 with fail;refine nJ ?_;go_region;go_upto_region 8 with fail;generalize bf:(M.setCell ⟨b,4,U⟩ (I ah (IntKind.u64.wrap (t-(a.wt:Int))))).drew=s;have V:Mod (λk=>k=b) M s:=bf▸(Mod.one M b 4 _).drew;have W:ak s b (iu m o q (IntKind.u64.wrap (t-(a.wt:Int))) aH) 215:=bf▸bF.out.set 4 _;have aL:ak s l.heap.size (dj a) 79:=aO.mod V (λe=>by have:=E;omega);have ae:ak s w.heap.size (dj lB) 79:=((a4.next A).mod Q a2).mod V (λe=>by omega);have bb:=W.cell 2 (v:=I J q.cur) rfl;have aK:=W.free 2;by_cases am:q.cur=a.id
   ·rw[am] at bb;obtain⟨X,H⟩:=aW (s.setCell ⟨b,2,U⟩ (I J (-1)));have Y:Mod (λk=>k=b) M X:=H▸V.setCell rfl _;have aN:ak X b (iu m o {q with es:=eN a.id q.es,cur:=-1} (IntKind.u64.wrap (t-(a.wt:Int))) aH) 215:=H▸W.set 2 _;have x:ak X l.heap.size (dj a) 79:=H▸aL.other (λe=>by have:=E;omega) _;have c:ak X w.heap.size (dj lB) 79:=H▸ae.other (λe=>by omega) _;clear V W aL ae;have a9:=C H;clear H;go_upto_region 10 with fail;rw[a9.out];have bI:=c.cell 0 (v:=I J 0) rfl;have bL:=c.cell 1 (v:=I ah 0) rfl;have bd:=c.cell 2 (v:=I J 0) rfl;have be:=c.cell 3 (v:=I ah 0) rfl;have bN:=c.free 0;have bS:=c.free 1;have aM:=c.free 2;have bi:=c.free 3;have bT:=x.cell 0 (v:=I J a.id) rfl;have aX:=x.cell 1 (v:=I ah a.wt) rfl;have bX:=x.cell 2 (v:=I J a.v) rfl;have bV:=x.cell 3 (v:=I ah a.rem) rfl;go_wp2_with fail;refine leaves_cons (f:=209) (args:=#[af (R ⟨b,0,U⟩)]) (by simp) (by simp[go_sem]) ?_;have aj:=ds.dropped G K F z.drew az.drew A Q ag Y aN;have ap:=(((c.set 0 (I J a.id)).set 1 (I ah a.wt)).set 2 (I J a.v)).set 3 (I ah a.rem);have Z:=(((Mod.one X w.heap.size 0 (I J a.id)).setCell (i:=1) rfl (I ah a.wt)).setCell (i:=2) rfl (I J a.v)).setCell (i:=3) rfl (I ah a.rem);refine(te D b _ m o _ aH _ _ .returning _ (aj.frame Z (λk j e=>by have:=aP k j;omega))).mono ?_;rintro e b1 b3 ⟨rfl,rfl,aQ,aa⟩;refine⟨_,oV (g:=w.heap.size) (T:=79) rfl rfl rfl (ap.mod aa (λe=>by omega)),?_,?_,?_⟩;·unfold aC.ed aC.e6;rw[qI K.ids F,if_pos p];rfl
    ·unfold aC.drop;rw[if_pos p,if_pos am];exact et.mono ⟨_,_,_,_,_,_,aQ⟩ (λk _ j=>r k j)
    ·have b6:=E;exact((((((((Mod.below (S:=S) ad).trans (Mod.below (S:=S) ac) (λ_ _ g=>g)).trans z.drew (λi _ e=>e▸r.out _ n.own.2.1)).trans (Mod.below (S:=S) A) (λ_ _ g=>g)).trans Q (λi _ g=>r _ (n.own.2.2.1 i g))).trans Y (λi _ e=>e▸r.out _ n.own.1)).trans Z (λi bR e=>by omega)).trans aa (λi _ e=>e▸r.out _ n.own.1))
   ·have Y:Mod (λk=>k=b) M s:=V;have aN:ak s b (iu m o {q with es:=eN a.id q.es,cur:=q.cur} (IntKind.u64.wrap (t-(a.wt:Int))) aH) 215:=W;have x:ak s l.heap.size (dj a) 79:=aL;have c:ak s w.heap.size (dj lB) 79:=ae;go_upto_region 10 with fail;have bI:=c.cell 0 (v:=I J 0) rfl;have bL:=c.cell 1 (v:=I ah 0) rfl;have bd:=c.cell 2 (v:=I J 0) rfl;have be:=c.cell 3 (v:=I ah 0) rfl;have bN:=c.free 0;have bS:=c.free 1;have aM:=c.free 2;have bi:=c.free 3;have bT:=x.cell 0 (v:=I J a.id) rfl;have aX:=x.cell 1 (v:=I ah a.wt) rfl;have bX:=x.cell 2 (v:=I J a.v) rfl;have bV:=x.cell 3 (v:=I ah a.rem) rfl;go_wp2_with fail;refine leaves_cons (f:=209) (args:=#[af (R ⟨b,0,U⟩)]) (by simp) (by simp[go_sem]) ?_;have aj:=ds.dropped G K F z.drew az.drew A Q ag Y aN;have ap:=(((c.set 0 (I J a.id)).set 1 (I ah a.wt)).set 2 (I J a.v)).set 3 (I ah a.rem);have Z:=(((Mod.one s w.heap.size 0 (I J a.id)).setCell (i:=1) rfl (I ah a.wt)).setCell (i:=2) rfl (I J a.v)).setCell (i:=3) rfl (I ah a.rem);refine(te D b _ m o _ aH _ _ .returning _ (aj.frame Z (λk j e=>by have:=aP k j;omega))).mono ?_;rintro e b1 b3 ⟨rfl,rfl,aQ,aa⟩;refine⟨_,oV (g:=w.heap.size) (T:=79) rfl rfl rfl (ap.mod aa (λe=>by omega)),?_,?_,?_⟩;·unfold aC.ed aC.e6;rw[qI K.ids F,if_pos p];rfl
    ·unfold aC.drop;rw[if_pos p,if_neg am];exact et.mono ⟨_,_,_,_,_,_,aQ⟩ (λk _ j=>r k j)
    ·have b6:=E;exact((((((((Mod.below (S:=S) ad).trans (Mod.below (S:=S) ac) (λ_ _ g=>g)).trans z.drew (λi _ e=>e▸r.out _ n.own.2.1)).trans (Mod.below (S:=S) A) (λ_ _ g=>g)).trans Q (λi _ g=>r _ (n.own.2.2.1 i g))).trans Y (λi _ e=>e▸r.out _ n.own.1)).trans Z (λi bR e=>by omega)).trans aa (λi _ e=>e▸r.out _ n.own.1))
 ·rw[show eR pf q.es k=U by unfold eR;rw[if_neg p]] at u;simp only[qv] at u;rw[<-aB.out] at u;go_enter_defers func193,ntmps193;go_wp2_with fail;have bs:q.drop k=q:=by unfold aC.drop;rw[if_neg p]
  refine⟨_,oV (g:=w.heap.size) (T:=79) rfl rfl rfl (ak.new w _ _),?_,?_,Mod.below (bx _ _)⟩
  ·unfold aC.ed aC.e6
   rw[if_neg p,show hb k q.es=U by
    cases b9:hb k q.es with
    |none=>rfl
    |some d=>exact absurd (by unfold cH;rw[b9];rfl) p];rfl
  ·rw[bs];exact ax.next (bx _ _)
theorem ds.Jc {i:ab} {q:aC} {t:Nat} {r ld':Int} (h:ds w S b q m t r aH pf al) (s:q.Ok) (j:e∈q.es) (p:Mod (λk=>k=b∨k=pf e.id) w i) (u:ak i b (iu m t q ld' aH) 215) (v:ak i (pf e.id) (dj (e.bO n)) 79):ds i S b {q with es:=q.es.map λc=>if c.id=e.id then c.bO n else c} m t ld' aH pf al:=by
 have l:∀c:aI,(if c.id=e.id then c.bO n else c).id=c.id:=λc=>by split<;>rfl
 have z:∀c:aI,(if c.id=e.id then c.bO n else c).key=c.key:=λc=>by split<;>rfl
 have A:∀k,cH k (q.es.map λc=>if c.id=e.id then c.bO n else c)=cH k q.es:=by
  intro k;rw[hN,dC,dC];constructor;·rintro⟨x,o,f⟩;obtain⟨c,d,rfl⟩:=eY.1 o;exact⟨c,d,(l c).symm.trans f⟩
  ·rintro⟨c,d,f⟩;exact⟨_,eY.2 ⟨c,d,rfl⟩,(l c).trans f⟩
 refine⟨u,?_,?_,?_,?_,h.own⟩;·refine(h.map.mod p (λg=>g.elim (λg=>h.oP g.symm) (λg=>h.em j g.symm))).congr (λk=>?_) (by simp);unfold eR;dsimp only;rw[A]
 ·show eD i al t ((q.es.map _).map aI.key);rw[List.map_map,show(aI.key∘λc=>if c.id=e.id then c.bO n else c)=aI.key from funext z];exact h.tree.frame p (λk f g=>g.elim (λg=>h.own.2.2.2.1 (g▸f)) (λg=>(h.cz e j).2.2.1 (g▸f)))
 ·intro x o;obtain⟨c,d,rfl⟩:=eY.1 o;rw[l];by_cases g:c.id=e.id;·rw[aj g,vI s.ids d j g];exact⟨v,(h.cz e j).2⟩
  ·rw[z0 g];exact⟨(h.cz c d).1.mod p (λq=>q.elim (h.cz c d).2.2.2 (λq=>g (h.apart c d e j q))),(h.cz c d).2⟩
 ·intro x o y B g;obtain⟨c,d,rfl⟩:=eY.1 o;obtain⟨a,C,rfl⟩:=eY.1 B;rw[l,l] at g⊢;exact h.apart c d a C g
def Jd (S:Nat->Prop) (b:Nat) (q:aC) (k:Int) (n:Nat) (w:ab) (e:Ending) (w':ab):Prop:=e=aK (I J (q.fL k n))∧et w' S b (q.bO k n)∧Mod S w w'
theorem Je (S:Nat->Prop) (b:Nat) (q:aC) (k:Int) (n:Nat) (w:ab) (h:et w S b q) (F:q.Ok):Calls au 149 #[af (R ⟨b,0,U⟩),I J k,I ah (n:Int)] w (Jd S b q k n w):=by
 have P:=C h;have az:=C F;obtain⟨m,Q,u,aH,pf,al,h⟩:=h;have y:=C h;have aP:=h.cs.cell 0 (v:=.map (R m)) rfl;have o:=h.map.look underlying212 underlying3 (j4 _) k;by_cases f:cH k q.es=true;·obtain⟨a,d,G⟩:=dC.1 f;subst G;rw[show eR pf q.es a.id=R (af (R ⟨pf a.id,0,U⟩)) by unfold eR;rw[aj f]] at o;simp only[kl] at o;cases hw:l7 n with
  |false=>have z:=C hw;clear h d;go_enter func149,ntmps149;go_wp2_with fail;refine(tb n _).mono ?_;rintro e i ⟨rfl,rfl⟩;rw[z.out];go_wp2_with fail;go_ret;have c:q.fL a.id n=4:=(by unfold aC.fL;rw[aj f,hw];rfl);exact⟨by rw[c];rfl,by unfold aC.bO;rw[z0 (by rw[c];decide)];exact P,Mod.refl _ _⟩
  |true=>have z:=C hw;have H:=C (h.cz a d);have T:=C d;have aV:=h.cs.lt;have aZ:=(h.cz a d).1.lt;have K:pf a.id≠b:=(h.cz a d).2.2.2;have L:=H.1.cell 1 (v:=I ah a.wt) rfl;have V:=H.1.cell 3 (v:=I ah a.rem) rfl;have A:=C (by have g:=F.rt a d;have:=qK.1 hw;have ad:a.rem*n<=262144*262144:=qx (by omega) (by omega);exact⟨by omega,by omega,by omega,by omega⟩:a.rem<18446744073709551616∧n<18446744073709551616∧a.rem*n<18446744073709551616∧0<a.wt);have W:=C (oO a.rem n a.wt A.1 A.2.1 A.2.2.1 A.2.2.2);obtain⟨p,M⟩:∃p,a.rem*n/a.wt=p:=⟨_,rfl⟩;obtain⟨r,X⟩:∃r,a.rem*n%a.wt=r:=⟨_,rfl⟩;rw[M,X] at W;have aB:=C M;clear h d hw F M X;go_enter func149,ntmps149;go_wp2_with fail;refine(tb n _).mono ?_;rintro e i ⟨rfl,rfl⟩;rw[z.out];go_upto_region 6 with fail;clear o;go_region_with (first|(go_at_call 102;refine(W _).mono ?_;rintro e aA ⟨rfl,N⟩;have B:=ak.next (w:=i.drew) H.1 N;have V:=B.cell 3 (v:=I ah a.rem) rfl;have aG:=B.free 3;have aL:=C B;have Y:=C N;clear N B));all_goals clear L;go_upto_region 7 with fail;obtain⟨j,s⟩:∃j,aA.setCell ⟨pf a.id,3,U⟩ (I ah (p:Int))=j:=⟨_,rfl⟩;rw[s];have Z:Mod (λk=>k=b∨k=pf a.id) i j:=s▸(Mod.below (S:=λk=>k=b∨k=pf a.id) (x:=i.drew) Y).jm.setCell (.inr rfl) _;have O:ak j (pf a.id) (dj {a with rem:=p}) 79:=s▸aL.out.set 3 _;have D:ak j b (iu m Q q u aH) 215:=s▸(ak.next (w:=i.drew) y.cs Y).other (Ne.symm K) _;have L:=O.cell 1 (v:=I ah a.wt) rfl;have ae:=D.cell 4 (v:=I ah u) rfl;have am:=D.free 4;have aN:=C Z;have ap:=C O;have aQ:=C D;clear s Z O D V aG;go_region;go_upto_region 8 with fail;obtain⟨l,t⟩:∃l,(j.setCell ⟨b,4,U⟩ (I ah (IntKind.u64.wrap (u+IntKind.u64.wrap ((n:Int)-(a.wt:Int)))))).drew=l:=⟨_,rfl⟩;rw[t];have aa:Mod (λk=>k=b∨k=pf a.id) i l:=t▸(aN.setCell (.inl rfl) _).drew;have E:ak l (pf a.id) (dj {a with rem:=p}) 79:=t▸ap.out.other K _;have aq:ak l b (iu m Q q (IntKind.u64.wrap (u+IntKind.u64.wrap ((n:Int)-(a.wt:Int)))) aH) 215:=t▸aQ.out.set 4 _;have L:=E.cell 1 (v:=I ah a.wt) rfl;have ad:=E.free 1;have ac:=C aa;have aR:=C E;have aS:=C aq;clear t aa E aq ae am;go_wp2_with fail;go_ret;have c:q.fL a.id n=0:=(by unfold aC.fL;rw[aj f,z.out];rfl);have aU:=ds.Jc y az T (n:=n) (ac.setCell (.inr rfl) _) (aS.other (Ne.symm K) _) (by have:=aR.set 1 (I ah (n:Int));unfold aI.bO;rw[aB.out];exact this:ak (l.setCell ⟨pf a.id,1,U⟩ (I ah (n:Int))) (pf a.id) (dj (a.bO n)) 79);refine⟨by rw[c];rfl,?_,(ac.setCell (.inr rfl) _).mono (λk _ G=>G.elim (λg=>g▸y.out.own.1) (λg=>g▸(y.cz a T).2.1))⟩;unfold aC.bO;rw[aj c];exact⟨_,_,_,_,_,_,aU⟩
 ·rw[show eR pf q.es k=U by unfold eR;rw[z0 f]] at o;simp only[qv] at o;clear h;go_enter func149,ntmps149;go_wp2_with fail;go_ret;have c:q.fL k n=12:=by unfold aC.fL;rw[z0 f]
  exact⟨by rw[c];rfl,by unfold aC.bO;rw[z0 (by rw[c];decide)];exact P,Mod.refl _ _⟩
theorem Jf (S:Nat->Prop) (b:Nat) (q:aC) (w:ab) (h:et w S b q):Calls au 79 #[af (R ⟨b,0,U⟩)] w λe w'=>e=aK (I J q.cur)∧w'=w:=by obtain⟨m,a,c,aH,pf,al,h⟩:=h;have d:=h.cs.cell 2 (v:=I J q.cur) rfl;clear h;go_enter func79,ntmps79;go_wp2;go_ret;exact⟨rfl,rfl⟩
theorem Jg (S:Nat->Prop) (b:Nat) (q:aC) (w:ab) (h:et w S b q):Calls au 132 #[af (R ⟨b,0,U⟩)] w λe w'=>e=aK (I J q.mn)∧w'=w:=by obtain⟨m,a,c,aH,pf,al,h⟩:=h;have d:=h.cs.cell 3 (v:=I J q.mn) rfl;clear h;go_enter func132,ntmps132;go_wp2;go_ret;exact⟨rfl,rfl⟩
theorem Bu (j k:Nat) (a c:aI) (b:Int) (w:ab) (d:ak w j (dj a) 79) (f:ak w k (dj c) 79):Calls au 202 #[af (R ⟨j,0,U⟩),af (R ⟨k,0,U⟩),I J b] w λe w'=>e=aK (aD (oo a c b))∧Below w.heap.size w w':=by
 have p:=d.cell 2 (v:=I J a.v) rfl;have u:=f.cell 2 (v:=I J c.v) rfl;have y:=d.lt;have z:=f.lt;obtain⟨l,g⟩:=aW (om b 0 1099511627776);obtain⟨q,h⟩:=aW (kr c.v l);have m:oo a c b=decide (a.v<=q):=by unfold oo;rw[g,h]
 rw[m];have n:=C (_f b 0 1099511627776);rw[g] at n;have o:=C (sZ c.v l);rw[h] at o;have r:=C d;clear d f m g h;go_enter func202,ntmps202;go_wp2_with fail;go_region_with (first|(go_at_call 197;refine(n _).mono ?_;rintro e s ⟨rfl,rfl⟩)|(go_at_call 162;refine(o _).mono ?_;rintro e s ⟨rfl,i⟩;have p:=(ak.next (w:=w.drew) r i).cell 2 (v:=I J a.v) rfl;have t:=C i;clear i));all_goals go_wp2_with fail;go_ret;refine⟨?_,((Mod.below (S:=λ_=>False) (x:=w.drew) t).jm).toBelow⟩;first
  |rfl
  |simp_all
theorem Jh {l:List Key} (h:ha (k::l)):hj k (k::l)=l.head?:=by
 have b:=pz.1 h;unfold hj;rw[List.find?_cons_of_neg (by simp only[decide_eq_true_eq];exactλg=>Key.jQ g rfl)];cases l with
 |nil=>rfl
 |cons a l=>rw[List.find?_cons_of_pos (by simpa using b.1 a e5)];rfl
def oW (pf:Int->Nat):Option aI->Value
 |none=>af U
 |some o=>af (R ⟨pf o.id,0,U⟩)
def rI (pf:Int->Nat) (o:Option aI) (w:ab) (e:Ending) (w':ab):Prop:=e=aK (oW pf o)∧Below w.heap.size w w'
theorem Ji (S:Nat->Prop) (b:Nat) (q:aC) (m t:Nat) (i:Int) (aH:Bool) (pf:Int->Nat) (al:Nat->Prop) (w:ab) (h:ds w S b q m t i aH pf al) (a:q.es=[]):Calls au 201 #[af (R ⟨b,0,U⟩)] w (rI pf q.first w):=by
 have d:q.first=U:=by unfold aC.first;rw[a]
 rw[d];have k:=h.cs.cell 1 (v:=af (R ⟨t,0,U⟩)) rfl;have c:=h.tree;rw[a] at c;have j:=C (Ba al t w c);clear c a d h;go_enter func201,ntmps201;go_wp2_with fail;refine j.mono ?_;rintro e l ⟨rfl,f⟩;have g:=C f;clear f;unfold dR;go_wp2_with fail;go_region;go_wp2_with fail;go_ret;exact⟨rfl,(g.alloc g.size _).drew⟩
theorem Jj (S:Nat->Prop) (b:Nat) (q:aC) (m t:Nat) (j:Int) (aH:Bool) (pf:Int->Nat) (al:Nat->Prop) (w:ab) (h:ds w S b q m t j aH pf al) (a:aI) (l:List aI) (d:q.es=a::l) (k:a.id≠q.cur):Calls au 201 #[af (R ⟨b,0,U⟩)] w (rI pf q.first w):=by
 have g:q.first=R a:=by unfold aC.first;rw[d];simp[k]
 rw[g];have n:=h.cs.cell 1 (v:=af (R ⟨t,0,U⟩)) rfl;have o:=h.cs.lt;have f:=h.tree;rw[d] at f;have p:=C (w_ al t a.key (l.map aI.key) w f);have r:=C (by unfold eR;rw[if_pos (dC.2 ⟨a,by rw[d];exact e5,rfl⟩)]:eR pf q.es a.id=R (af (R ⟨pf a.id,0,U⟩)));clear f d g;go_enter func201,ntmps201;go_wp2_with fail;refine p.mono ?_;rintro e s ⟨rfl,c⟩;have u:=dd o c.size;have x:=(h.cs.next c).cell 0 (v:=.map (R m)) rfl;have y:=(h.cs.next c).cell 2 (v:=I J q.cur) rfl;clear n;unfold dR;rw[show a.key.v=a.v from rfl,show a.key.id=a.id from rfl];go_wp2_with fail;go_region;go_wp2_with fail;have i:=(((h.map.next c).next (bx s (.cells #[.int .i64 a.v,.int .i64 a.id] 218))).drew.drew).look underlying212 underlying3 (j4 _) a.id;rw[r.out] at i;simp only[kl] at i;go_region;go_wp2_with fail;go_ret;exact⟨rfl,((c.alloc c.size _).drew).drew⟩
theorem Jk (S:Nat->Prop) (b:Nat) (q:aC) (m t:Nat) (P:Int) (aH:Bool) (pf:Int->Nat) (al:Nat->Prop) (w:ab) (h:ds w S b q m t P aH pf al) (Q:q.Ok) (c:aI) (l:List aI) (z:q.es=c::l) (A:c.id=q.cur):Calls au 201 #[af (R ⟨b,0,U⟩)] w (rI pf q.first w):=by
 have G:q.first=l.head?:=by unfold aC.first;rw[z];simp[A]
 rw[G];have T:=h.cs.cell 1 (v:=af (R ⟨t,0,U⟩)) rfl;have V:=h.cs.lt;have B:=h.tree;have D:=Q.sorted;rw[z] at B D;have W:=C (w_ al t c.key (l.map aI.key) w B);have X:=C (Jh D);clear D G;go_enter func201,ntmps201;go_wp2_with fail;refine W.out.mono ?_;rintro e d ⟨rfl,i⟩;have ad:=dd V i.size;have Y:=(h.cs.next i).cell 1 (v:=af (R ⟨t,0,U⟩)) rfl;have H:=(h.cs.next i).cell 2 (v:=I J q.cur) rfl;rw[<-A] at H;clear T;unfold dR;rw[show c.key.v=c.v from rfl,show c.key.id=c.id from rfl];go_wp2_with fail;go_region;go_wp2_with fail;obtain⟨j,n⟩:∃j,d.alloc (av #[I J c.v,I J q.cur] 218)=j:=⟨_,rfl⟩;rw[n];have o:Below w.heap.size w j:=n▸i.alloc i.size _;have p:ak j d.heap.size #[I J c.v,I J q.cur] 218:=n▸ak.new d _ _;have K:=h.cs.next o;have Y:=K.cell 1 (v:=af (R ⟨t,0,U⟩)) rfl;have aB:=p.cell 0 (v:=I J c.v) rfl;have aA:=p.cell 1 (v:=I J q.cur) rfl;have E:=C (show ak j.drew.drew d.heap.size #[I J c.v,I J q.cur] 218 from p);have r:=C (Iz al t _ ⟨c.v,q.cur⟩ j.drew.drew ((B.frame (Mod.below (S:=λ_=>False) o) (λ_ _=>id)).frame (Mod.refl (λ_=>False) j).drew.drew (λ_ _=>id)));have L:=C (show(⟨c.v,q.cur⟩:Key)=c.key by rw[<-A];rfl);rw[km,L.out,X.out] at r;clear p K n H;rw[<-L.out] at r;cases l with
 |nil=>go_region_with (first|(go_at_call 234;refine(r.out).mono ?_;rintro e M ⟨rfl,k⟩;have f:=E.out.next k;have Z:=f.cell 0 (v:=I J c.v) rfl;have aa:=f.cell 1 (v:=I J q.cur) rfl;have aq:=f.free 0;have ac:=f.free 1;have s:=C k;clear k f;simp only[List.map_nil,km,List.head?_nil,List.head?_cons,qv,kl,Option.isSome_none,Option.isSome_some];unfold dR;try simp only[aI.key]));all_goals go_wp2_with fail;go_ret;exact⟨rfl,((((Mod.below (S:=λ_=>False) o).trans ((Mod.below (S:=λ_=>False) (x:=j.drew.drew) s.out).jm.jm) (λ_ _ g=>g)).fw (b:=d.heap.size) i.size _).fw (b:=d.heap.size) i.size _).toBelow⟩
 |cons a l'=>go_region_with (first|(go_at_call 234;refine(r).mono ?_;rintro e M ⟨rfl,k⟩;have f:=E.next k;have Z:=f.cell 0 (v:=I J c.v) rfl;have aa:=f.cell 1 (v:=I J q.cur) rfl;have aq:=f.free 0;have ac:=f.free 1;have s:=C k;clear k f;simp only[List.map_nil,km,List.head?_nil,List.head?_cons,qv,kl,Option.isSome_none,Option.isSome_some];unfold dR;try simp only[aI.key]));all_goals obtain⟨u,F⟩:∃u,(M.setCell ⟨d.heap.size,0,U⟩ (I J a.v)).setCell ⟨d.heap.size,1,U⟩ (I J a.id)=u:=⟨_,rfl⟩;go_upto_region 6 with fail;have y:Below w.heap.size w u:=F▸((((Mod.below (S:=λ_=>False) o).trans ((Mod.below (S:=λ_=>False) (x:=j.drew.drew) s).jm.jm) (λ_ _ g=>g)).fw (b:=d.heap.size) i.size _).fw (b:=d.heap.size) i.size _).toBelow;have N:ak u d.heap.size #[I J a.v,I J a.id] 218:=F▸((E.next s).set 0 (I J a.v)).set 1 (I J a.id);have aG:=(h.cs.next y).cell 0 (v:=.map (R m)) rfl;have aL:=N.cell 1 (v:=I J a.id) rfl;have O:=(h.map.next y).drew.look underlying212 underlying3 (j4 _) a.id;rw[show eR pf q.es a.id=R (af (R ⟨pf a.id,0,U⟩)) by unfold eR;rw[if_pos (dC.2 ⟨a,by rw[z];exact hK _ e5,rfl⟩)]] at O;simp only[kl] at O;have az:=C y;clear y N F;go_region;go_wp2_with fail;go_ret;exact⟨rfl,az.drew⟩
theorem Bv (S:Nat->Prop) (b:Nat) (q:aC) (m t:Nat) (a:Int) (aH:Bool) (pf:Int->Nat) (al:Nat->Prop) (w:ab) (h:ds w S b q m t a aH pf al) (f:q.Ok):Calls au 201 #[af (R ⟨b,0,U⟩)] w (rI pf q.first w):=by
 cases c:q.es with
 |nil=>exact Ji S b q m t a aH pf al w h c
 |cons d l=>
  by_cases e:d.id=q.cur;·exact Jk S b q m t a aH pf al w h f d l c e
  ·exact Jj S b q m t a aH pf al w h d l c e
theorem ds.below {w w':ab} {S:Nat->Prop} {b:Nat} {q:aC} {m t:Nat} {a:Int} {aH:Bool} {pf:Int->Nat} {al:Nat->Prop} (h:ds w S b q m t a aH pf al) (c:Below w.heap.size w w'):ds w' S b q m t a aH pf al:=h.frame (Mod.below (S:=λ_=>False) c) (λ_ _=>id)
theorem xi {l:List aI} {k:Int} (h:hb k l=R e):eR pf l k=R (af (R ⟨pf e.id,0,U⟩)):=by obtain⟨b,a⟩:=lC h;unfold eR;rw[aj (dC.2 ⟨e,b,a⟩),a]
theorem Bw {l:List aI} {k:Int} (h:hb k l=U):eR pf l k=U:=by unfold eR cH;rw[h];rfl
def Bx (S:Nat->Prop) (b:Nat) (a:aC) (w:ab) (e:Ending) (w':ab):Prop:=e=aK (I J a.cur)∧et w' S b a∧Mod S w w'
theorem tp (S:Nat->Prop) (b:Nat) (q:aC) (g:Int) (w:ab) (h:et w S b q) (r:q.Ok):Calls au 178 #[af (R ⟨b,0,U⟩),I J g] w (Bx S b (q.pick g) w):=by
 obtain⟨m,P,Q,aH,pf,al,h⟩:=h;have d:=C h;have Z:=C r;have s:=C (Bv S b q m P Q aH pf al w h r);have y:=h.cs.lt;cases j:q.first with
 |none=>
  have k:q.pick g=q:=by unfold aC.pick;rw[j]
  rw[j] at s;rw[k];clear h r;go_enter func178,ntmps178;go_wp2_with fail;refine s.mono ?_;rintro e B ⟨rfl,a⟩;unfold oW;have f:=C a;have D:=dd y a.size;have E:=(d.cs.next a).cell 0 (v:=.map (R m)) rfl;have A:=(d.cs.next a).cell 2 (v:=I J q.cur) rfl;have l:=(d.map.next a).drew.look underlying212 underlying3 (j4 _) q.cur;clear a;go_wp2_with fail;go_region;go_wp2_with fail;go_ret;exact⟨rfl,⟨_,_,_,_,_,_,d.below f.drew⟩,Mod.below f.drew⟩
 |some o=>
  have F:=aC.ot j;have G:=C (h.cz o F);rw[j] at s;cases n:hb q.cur q.es with
  |none=>have k:q.pick g={q with cur:=o.id}:=(by unfold aC.pick;rw[j];dsimp only;rw[n]);have H:=C (Bw (pf:=pf) n);rw[k];clear h r F j n k;go_enter func178,ntmps178;go_wp2_with fail;refine s.mono ?_;rintro e B ⟨rfl,a⟩;unfold oW;have f:=C a;have D:=dd y a.size;have E:=(d.cs.next a).cell 0 (v:=.map (R m)) rfl;have A:=(d.cs.next a).cell 2 (v:=I J q.cur) rfl;have T:=(d.cs.next a).free 2;have V:=(G.1.next a).cell 0 (v:=I J o.id) rfl;have l:=(d.map.next a).drew.look underlying212 underlying3 (j4 _) q.cur;rw[H.out] at l;simp only[qv] at l;clear a;go_wp2_with fail;go_region;go_wp2_with fail;go_ret;have t:=(Mod.one B.drew b 2 (I J o.id));refine⟨rfl,⟨_,_,_,_,_,_,(d.below f.drew).td t ((d.cs.next f.drew).set 2 _) rfl⟩,(Mod.below f.drew).trans t (λi _ e=>e▸d.out.own.1)⟩
  |some c=>
   obtain⟨L,W⟩:=lC n;have X:=C (h.cz c L);have H:=C (xi (pf:=pf) n);obtain⟨v,K⟩:=aW (oo c o g);have k:q.pick g=if v then q else {q with cur:=o.id}:=(by unfold aC.pick;rw[j];dsimp only;rw[n];dsimp only;rw[K]);have Y:=C K;generalize u:q.pick g=z at k⊢;have M:=C k;clear h r F j n k L W K u;go_enter func178,ntmps178;go_wp2_with fail;refine s.mono ?_;rintro e B ⟨rfl,a⟩;unfold oW;have f:=C a;have D:=dd y a.size;have E:=(d.cs.next a).cell 0 (v:=.map (R m)) rfl;have A:=(d.cs.next a).cell 2 (v:=I J q.cur) rfl;have l:=(d.map.next a).drew.look underlying212 underlying3 (j4 _) q.cur;rw[H.out] at l;simp only[kl] at l;clear a;go_wp2_with fail;go_region;clear l E A;go_wp2_with fail;refine(Bu (pf c.id) (pf o.id) c o g _ (X.1.next f.drew) (G.1.next f.drew)).mono ?_;rintro e N ⟨rfl,O⟩;rw[Y.out];have p:Below w.heap.size w N:=f.drew.trans (O.mono f.size);have D:=dd y p.size;have A:=(d.cs.next p).cell 2 (v:=I J q.cur) rfl;have T:=(d.cs.next p).free 2;have V:=(G.1.next p).cell 0 (v:=I J o.id) rfl;have x:=C p;clear O p;cases v;·go_wp2_with fail;go_ret;have u:z={q with cur:=o.id}:=M;subst u;have t:=(Mod.one N b 2 (I J o.id));refine⟨rfl,⟨_,_,_,_,_,_,(d.below x).td t ((d.cs.next x).set 2 _) rfl⟩,(Mod.below x).trans t (λi _ e=>e▸d.out.own.1)⟩
   ·go_wp2_with fail;go_ret;have u:z=q:=M;subst u;exact⟨rfl,⟨_,_,_,_,_,_,d.below x⟩,Mod.below x⟩
theorem Jl (S:Nat->Prop) (b:Nat) (q:aC) (f:Int) (w:ab) (h:et w S b q) (B:q.Ok):Calls au 154 #[af (R ⟨b,0,U⟩),I J f] w (Bx S b (q.yield f) w):=by
 have N:=C B;obtain⟨m,ac,az,aH,pf,al,h⟩:=h;have d:=C h;have t:=C (Bv S b q m ac az aH pf al w h B);have H:=h.cs.lt;cases r:hb q.cur q.es with
 |none=>
  have n:q.yield f=q.pick f:=by unfold aC.yield;rw[r];cases q.first<;>rfl
  have K:=C (Bw (pf:=pf) r);rw[n];generalize k:q.pick f=u;have D:=C k;clear h B r n k;obtain⟨o,j⟩:=aW (oW pf q.first);unfold rI at t;rw[j] at t;have ad:o=af U∨∃x,o=af (R ⟨x,0,U⟩):=by
   rw[<-j];cases q.first with
   |none=>exact .inl rfl
   |some y=>exact .inr ⟨_,rfl⟩
  clear j;go_enter func154,ntmps154;go_wp2_with fail;refine t.mono ?_;rintro e V ⟨rfl,a⟩;have l:=C a;have O:=dd H a.size;have P:=(d.cs.next a).cell 0 (v:=.map (R m)) rfl;have L:=(d.cs.next a).cell 2 (v:=I J q.cur) rfl;have p:=(d.map.next a).drew.look underlying212 underlying3 (j4 _) q.cur;rw[K.out] at p;simp only[qv] at p;clear a;rcases ad with rfl|⟨x,rfl⟩;all_goals go_wp2_with fail;go_region;go_wp2_with fail;refine(tp S b q f _ ⟨_,_,_,_,_,_,d.below l.drew⟩ N).mono ?_;rintro e M ⟨rfl,s,E⟩;rw[D.out] at s⊢;go_wp2_with fail;go_ret;exact⟨rfl,s,(Mod.below l.drew).trans E (λ_ _ g=>g)⟩
 |some c=>
  obtain⟨Q,W⟩:=lC r;have aB:=C (h.cz c Q);have K:=C (xi (pf:=pf) r);cases j:q.first with
  |none=>have n:q.yield f=q.pick f:=(by unfold aC.yield;rw[j]);rw[n];obtain⟨u,k⟩:∃u,q.pick f=u:=⟨_,rfl⟩;rw[k];have D:=C k;rw[j] at t;clear h B r n k Q W j;go_enter func154,ntmps154;go_wp2_with fail;refine t.mono ?_;rintro e V ⟨rfl,a⟩;unfold oW;have l:=C a;have O:=dd H a.size;have P:=(d.cs.next a).cell 0 (v:=.map (R m)) rfl;have L:=(d.cs.next a).cell 2 (v:=I J q.cur) rfl;have p:=(d.map.next a).drew.look underlying212 underlying3 (j4 _) q.cur;rw[K.out] at p;simp only[kl] at p;clear a;go_wp2_with fail;go_region;go_wp2_with fail;refine(tp S b q f _ ⟨_,_,_,_,_,_,d.below l.drew⟩ N).mono ?_;rintro e M ⟨rfl,s,E⟩;rw[D.out] at s⊢;go_wp2_with fail;go_ret;exact⟨rfl,s,(Mod.below l.drew).trans E (λ_ _ g=>g)⟩
  |some o=>
   have X:=aC.ot j;have Y:=C (h.cz o X);rw[j] at t;obtain⟨v,T⟩:=aW (oo o c f);obtain⟨u,k⟩:=aW (q.pick f);have n:q.yield f=if v then {q with cur:=o.id} else u:=(by unfold aC.yield;rw[j,r];dsimp only;rw[T,k]);have aA:=C T;have D:=C k;generalize F:q.yield f=z at n⊢;have Z:=C n;clear h B X j r n Q W T k F;go_enter func154,ntmps154;go_wp2_with fail;refine t.mono ?_;rintro e V ⟨rfl,a⟩;unfold oW;have l:=C a;have O:=dd H a.size;have P:=(d.cs.next a).cell 0 (v:=.map (R m)) rfl;have L:=(d.cs.next a).cell 2 (v:=I J q.cur) rfl;have p:=(d.map.next a).drew.look underlying212 underlying3 (j4 _) q.cur;rw[K.out] at p;simp only[kl] at p;clear a;go_wp2_with fail;go_region;clear p P L;go_wp2_with fail;refine(Bu (pf o.id) (pf c.id) o c f _ (Y.1.next l.drew) (aB.1.next l.drew)).mono ?_;rintro e M ⟨rfl,aa⟩;rw[aA.out];have A:Below w.heap.size w M:=l.drew.trans (aa.mono l.size);have O:=dd H A.size;have L:=(d.cs.next A).cell 2 (v:=I J q.cur) rfl;have aG:=(d.cs.next A).free 2;have aL:=(Y.1.next A).cell 0 (v:=I J o.id) rfl;have G:=C A;clear aa A;cases v;·go_wp2_with fail;refine(tp S b q f _ ⟨_,_,_,_,_,_,d.below G⟩ N).mono ?_;rintro e ae ⟨rfl,s,E⟩;rw[D.out] at s⊢;go_wp2_with fail;go_ret;have F:z=u:=Z;subst F;exact⟨rfl,s,(Mod.below G).trans E (λ_ _ g=>g)⟩
   ·go_wp2_with fail;go_ret;have F:z={q with cur:=o.id}:=Z;subst F;have aq:=(Mod.one M b 2 (I J o.id));exact⟨rfl,⟨_,_,_,_,_,_,(d.below G).td aq ((d.cs.next G).set 2 _) rfl⟩,(Mod.below G).trans aq (λi _ e=>e▸d.out.own.1)⟩
def mm:cd Key:=⟨2,λx=>[I J x.v,I J x.id],λ_=>rfl,λ_ u h=>by simp at h;rcases h with rfl|rfl<;>rfl,by decide⟩
theorem By:iv mm 211 218 16:=⟨underlying211,⟨.agg #[.int .i64 0,.int .i64 0],by kernel_rfl,rfl⟩,by decide⟩
def NE (B:Nat) (v:Value) (n:Nat) (zs:List Key) (t:T) (w:ab) (e:Ending) (w':ab):Prop:=∃a,e=aK a∧Own mm w' B 218 a (n+t.size) (zs++t.keys)∧Grow w w' v a
theorem Bz (w:ab) (k:Key):∀q u,(mm.e k)[q]?=R u->(w.alloc (av #[I J k.v,I J k.id] 218)).cell? ⟨w.heap.size,q,U⟩=R u:=λq u h=>dz.trans (by rw[<-h];show([I J k.v,I J k.id]:List Value).toArray[q]?=_;rw[fg];rfl)
theorem Jq (b:Nat) (l:T) (k:Key) (lev:Nat) (r:T) (w:ab) (B:Nat) (v:Value) (n:Nat) (zs:List Key) (h:(T.node b l k lev r).At w) (M:∀x∈(T.node b l k lev r).blocks,x<B) (j:B<=w.heap.size) (W:Own mm w B 218 v n zs) (X:n+(T.node b l k lev r).size<=1000000) (N:∀(w:ab) (v:Value) (n:Nat) (zs:List Key),l.At w->B<=w.heap.size->Own mm w B 218 v n zs->n+l.size<=1000000->Calls au 187 #[af l.bE,v] w (NE B v n zs l w)) (O:∀(w:ab) (v:Value) (n:Nat) (zs:List Key),r.At w->B<=w.heap.size->Own mm w B 218 v n zs->n+r.size<=1000000->Calls au 187 #[af r.bE,v] w (NE B v n zs r w)):Calls au 187 #[af (R ⟨b,0,U⟩),v] w (NE B v n zs (.node b l k lev r) w):=by
 have Y:(T.node b l k lev r).size=1+(l.size+r.size):=rfl;rw[Y] at X;have E:=h.1.cell 0 (v:=I J k.v) rfl;have F:=h.1.cell 1 (v:=I J k.id) rfl;have z:=h.1.cell 3 (v:=af l.bE) rfl;have A:=h.1.cell 4 (v:=af r.bE) rfl;have Z:=M b T.ky;obtain⟨p,aa⟩:=aW l.bE;obtain⟨m,aq⟩:=aW r.bE;rw[aa] at z N;rw[aq] at A O;have P:=C N;have ac:=C O;have G:=C h;have q:=C W;have az:=C M;go_enter func187,ntmps187;go_wp2_with fail;have a:b<w.heap.size:=dd Z j;have c:R b≠v.ownBlock:=λe=>by have:=(q.lt b e.symm).1;omega
 have ad:R w.heap.size≠v.ownBlock:=λe=>by have:=(q.lt _ e.symm).2;omega
 have aB:=C (Bz w k);go_region_held3 (λW'=>W'.cell? ⟨b,0,U⟩=R (I J k.v)∧W'.cell? ⟨b,1,U⟩=R (I J k.id)∧W'.cell? ⟨b,3,U⟩=R (af p)∧W'.cell? ⟨b,4,U⟩=R (af m)) ((refine⟨?_,?_,?_,?_⟩)<;>(repeat(first|assumption|(with_reducible refine b2 ?_)|(with_reducible refine fq _ ?_ ?_)|(with_reducible refine j0 ?_ ?_)))) (first
  |(
   go_at_call_of 187 (af p);first|(refine(P (w.drewN 1) v n zs (G.2.1.drewN 1) j q.drew (by omega)).mono ?_;rintro e s ⟨v1,rfl,H,D⟩;have d:=C D.Bd;have aA:=C (H.alloc (av #[I J k.v,I J k.id] 218));have aG:=C (Bz s k);have aL:B<=(s.alloc (av #[I J k.v,I J k.id] 218)).heap.size:=(by have:=d.dZ.size;simp;omega))|(refine(P ((w.alloc (av #[I J k.v,I J k.id] 218)).drewN 1) v n zs ((G.2.1.mod (Mod.below (S:=λ_=>False) (bx w _)) (λ_ _=>id)).drewN 1) (by show B<=(w.alloc _).heap.size;simp;omega) ((q.alloc _).drew) (by omega)).mono ?_;rintro e s ⟨v1,rfl,H,D⟩;have ae:=C (λm u h=>D.cell (b:=w.heap.size) (o:=m) (u:=u) (by show _<(w.alloc _).heap.size;simp) ad (aB m u h));have d:=C (((Grow.refl w v).alloc (av #[I J k.v,I J k.id] 218)).trans D.Bd))
   have am:=C H;have a6:=d.cell a c E;have ak:=d.cell a c F;have a7:=d.cell a c z;have a8:=d.cell a c A;have aN:=cA j d.dZ.size;have ba:b<s.heap.size:=(by omega);have Q:n+l.size<=10000000:=(by omega))|(go_at_call_of 187 (af m);refine(ac _ _ (n+l.size+1) (zs++l.keys++[k]) aj ap aQ (by omega)).mono ?_;rintro e ao ⟨ah,rfl,aR,aS⟩;have t:=C (f.trans aS);have aU:=C aR;have bb:=t.cell a c E;have ag:=t.cell a c F;have bf:=t.cell a c z;have ax:=t.cell a c A)|(
   first|(refine oR By (by rfl) _ _ (by rfl) B _ (n+l.size) (zs++l.keys) (by rfl) aA s.heap.size _ k (by rfl) aG Q aL ?_;intro aP u V K L;have f:=C ((d.alloc (av #[I J k.v,I J k.id] 218)).trans (Grow.gR K L)))|(refine oR By (by rfl) _ _ (by rfl) B _ (n+l.size) (zs++l.keys) (by rfl) am w.heap.size _ k (by rfl) ae Q aN ?_;intro aP u V K L;have f:=C (d.trans (Grow.gR K L)))
   have aQ:=C V;have y:=C (f.below j (λg e=>(q.lt g e).1));have aj:=C (G.2.2.mod (Mod.mono (T:=λx=>B<=x) ⟨y.os,y.tape,y.output,y.size,λi _ aV=>y.block i (Nat.lt_of_not_le aV)⟩ (λ_ _ h=>h)) (λx aZ h=>absurd (az x (T.c6.2 (.inr (.inr aZ)))) (Nat.not_lt.2 h)));have bc:=f.cell a c E;have bg:=f.cell a c F;have bj:=f.cell a c z;have an:=f.cell a c A;have ap:=cA j f.dZ.size))
 all_goals go_wp2;go_ret;refine⟨ah,rfl,?_,t⟩;have:=aU;rw[show n+(T.node b l k lev r).size=n+l.size+1+r.size from by show n+(1+(l.size+r.size))=_;omega,show zs++(T.node b l k lev r).keys=zs++l.keys++[k]++r.keys from by show zs++(l.keys++k::r.keys)=_;simp];exact this
theorem Jr (t:T) (B:Nat) (a:∀x∈t.blocks,x<B) (w:ab) (v:Value) (n:Nat) (zs:List Key) (h:t.At w) (e:B<=w.heap.size) (d:Own mm w B 218 v n zs) (f:n+t.size<=1000000):Calls au 187 #[af t.bE,v] w (NE B v n zs t w):=by
 induction t generalizing w v n zs with
 |nil=>have g:=C d;show Calls au 187 #[af U,v] w _;go_enter func187,ntmps187;go_wp2;go_ret;exact⟨v,rfl,by have:=g;rw[show zs++T.nil.keys=zs from qw _];exact this,Grow.refl _ _⟩
 |node b l k lev r i j=>exact Jq b l k lev r w B v n zs h a e d f (i (λx c=>a x (T.c6.2 (.inr (.inl c))))) (j (λx c=>a x (T.c6.2 (.inr (.inr c)))))
def Js (a:List Key) (w:ab) (e:Ending) (w':ab):Prop:=∃b,e=aK b∧Own mm w' w.heap.size 218 b a.length a∧Below w.heap.size w w'
theorem Jt (S:Nat->Prop) (b:Nat) (a:List Key) (w:ab) (h:eD w S b a) (i:a.length<=1000):Calls au 129 #[af (R ⟨b,0,U⟩)] w (Js a w):=by obtain⟨c,j,d,x,y,z,A,rfl,B,D⟩:=h;have k:=j.cell 0 (v:=af c.bE) rfl;obtain⟨p,e⟩:∃p,c.bE=p:=⟨_,rfl⟩;rw[e] at k;rw[T.sB] at i;have l:=C (Jr c w.heap.size d.lt w (ay U 0 0) 0 [] d (bK _) (Own.nil _ _ _) (by omega));have m:=C e;go_enter func129,ntmps129;go_wp2_with fail;rw[<-m.out];refine l.mono ?_;rintro f n ⟨o,rfl,q,r⟩;have s:Below w.heap.size w n:=r.below (bK _) (λg f=>by simp[Value.ownBlock] at f);have t:=C q;have u:=C s;go_wp2;go_ret;exact⟨o,rfl,by have:=t;rw[T.sB];rw[lZ,jc] at this;exact this,u⟩
def rJ:cd aI:=⟨4,λx=>[I J x.id,I ah (x.wt:Int),I J x.v,I ah (x.rem:Int)],λ_=>rfl,λ_ u h=>by simp at h;rcases h with rfl|rfl|rfl|rfl<;>rfl,by decide⟩
theorem Ju:iv rJ 100 79 32:=⟨underlying100,⟨.agg #[.int .i64 0,.int .u64 0,.int .i64 0,.int .u64 0],by kernel_rfl,rfl⟩,by decide⟩
theorem Own.lower {α:Type} {E:cd α} {a T:Nat} {zs:List α} (h:Own E W B T v n zs) (b:a<=B):Own E W a T v n zs:=by
 refine⟨h.1,?_⟩;rcases h.2 with c|⟨g,cap,d,e,f,r⟩;·exact .inl c
 ·exact .inr ⟨g,cap,d,e,cA b f,r⟩
def BA (es:List aI) (w:ab) (e:Ending) (w':ab):Prop:=∃v,e=aK v∧Own rJ w' w.heap.size 79 v es.length es∧Below w.heap.size w w'
theorem Jv (w:ab) (e:aI):∀q u,(rJ.e e)[q]?=R u->(w.alloc (av (dj e) 79)).cell? ⟨w.heap.size,q,U⟩=R u:=λq u h=>dz.trans (by rw[<-h];show([I J e.id,I ah (e.wt:Int),I J e.v,I ah (e.rem:Int)]:List Value).toArray[q]?=_;rw[fg];rfl)
theorem Jw (S:Nat->Prop) (b:Nat) (q:aC) (w:ab) (h:et w S b q) (Z:q.Ok):Calls au 72 #[af (R ⟨b,0,U⟩)] w (BA q.es w):=by
 obtain⟨m,G,bo,aH,pf,al,h⟩:=h;have bm:=h.cs.lt;have ay:=h.cs.cell 1 (v:=af (R ⟨G,0,U⟩)) rfl;have bq:=Z.cy;have aa:=C (Jt al G (q.es.map aI.key) w h.tree (by simp;omega));go_enter func72,ntmps72;go_wp2_with fail;refine aa.mono ?_;rintro e d ⟨aq,rfl,p,r⟩;obtain⟨s,bt,ai,rfl,ac,az,ad,aB⟩:=p.rd;simp only[dY] at ac az ad s⊢;go_wp2_with fail;go_loopw [3,14] (λaA B wr=>∃i:Nat,i<=q.es.length∧B=I J (i:Int)∧Own rJ wr d.heap.size 79 aA i (q.es.take i)∧Below d.heap.size d wr) (λ_ B _=>q.es.length-(intOf B).toNat);case atStart=>exact⟨0,gN _,rfl,Own.nil _ _ _,Below.refl _ _⟩
 case round=>
  obtain⟨i,bw,rfl,j,k⟩:=hrel;have aG:=C (aB.next k);have D:=C (r.trans (k.mono r.size));by_cases aL:i<q.es.length
  ·have ae:(i:Int)<(q.es.length:Int):=(by omega);obtain⟨aD,H,rfl,a0,am⟩:=aG.cells (by simp;omega);obtain⟨e,a⟩:∃e,q.es[i]?=R e:=⟨_,b5 aL⟩;have E:e∈q.es:=ea a;have n:=am i e.key (by simp[a]);have aN:=n 0 (I J e.v) rfl;have ap:=n 1 (I J e.id) rfl;have aQ:=C a;rw[show i*mm.c+0=i*2 from rfl] at aN;rw[show H+(i*mm.c+1)=H+i*2+1 from rfl] at ap;go_upto_region 7 with fail;generalize F:wr.alloc (av #[I J e.v,I J e.id] 218)=V;have t:Below wr.heap.size wr V:=F▸bx _ _;have n:ak V wr.heap.size #[I J e.v,I J e.id] 218:=F▸ak.new wr _ _;have aR:Own rJ V d.heap.size 79 u3 i (q.es.take i):=F▸j.alloc _;have aS:Below w.heap.size w V:=D.trans (t.mono D.size);have y:=h.frame (Mod.below (S:=λ_=>False) aS) (λ_ _=>id);have aU:=y.cs.cell 0 (v:=.map (R m)) rfl;have aP:=n.cell 1 (v:=I J e.id) rfl;have a:=(y.cz e E).1;have aV:=a.cell 0 (v:=I J e.id) rfl;have aZ:=a.cell 1 (v:=I ah e.wt) rfl;have a6:=a.cell 2 (v:=I J e.v) rfl;have a7:=a.cell 3 (v:=I ah e.rem) rfl;have K:=y.map.drew.look underlying212 underlying3 (j4 _) e.id;rw[show eR pf q.es e.id=R (af (R ⟨pf e.id,0,U⟩)) by unfold eR;rw[aj (dC.2 ⟨e,E,rfl⟩)]] at K;simp only[kl] at K;have a8:=C ((aR.drew).alloc (av (dj e) 79));have ba:=C (Jv V.drew e);have L:d.heap.size<=(V.drew.alloc (av (dj e) 79)).heap.size:=(by have:=k.size;have:=t.size;show _<=(V.drew.alloc _).heap.size;simp;omega);have bz:=r.size;have ao:b<V.drew.heap.size:=y.cs.lt;have bb:wr.heap.size<V.drew.heap.size:=n.lt;have ag:pf e.id<V.drew.heap.size:=a.lt;have bf:i<=10000000:=(by omega);have ax:b<V.drew.heap.size:=ao;have bc:wr.heap.size<V.drew.heap.size:=bb;have z:pf e.id<V.drew.heap.size:=ag;have bg:R b≠u3.ownBlock:=λx=>by have:=(j.lt _ x.symm).1;omega
   have bj:R wr.heap.size≠u3.ownBlock:=λx=>by have:=(j.lt _ x.symm).2;omega
   have A:R (pf e.id)≠u3.ownBlock:=λx=>by have:=(j.lt _ x.symm).1;have:=(h.cz e E).1.lt;omega
   have l:=C (λ(x o:Nat) (u:Value) (M:x<V.drew.heap.size) (an:V.cell? ⟨x,o,U⟩=R u)=>br (vj (O:=av (dj e) 79) M) (fq (av (dj e) 79) M (b2 an)));have N:=C (l b 0 _ ax aU);have P:=C (l _ 1 _ bc aP);have Q:=C (l _ 0 _ z aV);have T:=C (l _ 1 _ z aZ);have W:=C (l _ 2 _ z a6);have X:=C (l _ 3 _ z a7);go_region_held3 (λW'=>W'.cell? ⟨b,0,U⟩=R (.map (R m))∧W'.cell? ⟨wr.heap.size,1,U⟩=R (I J e.id)∧W'.cell? ⟨pf e.id,0,U⟩=R (I J e.id)∧W'.cell? ⟨pf e.id,1,U⟩=R (I ah e.wt)∧W'.cell? ⟨pf e.id,2,U⟩=R (I J e.v)∧W'.cell? ⟨pf e.id,3,U⟩=R (I ah e.rem)) ((refine⟨?_,?_,?_,?_,?_,?_⟩)<;>(repeat(first|assumption|(with_reducible refine b2 ?_)|(with_reducible refine fq _ ?_ ?_)))) ((refine oR Ju (by rfl) _ _ (by rfl) d.heap.size _ i (q.es.take i) (by rfl) a8 V.drew.heap.size _ e (by rfl) ba bf L ?_;intro aq u p Y s;have f:=C (Grow.gR Y s);have a2:=f.cell N.1 bg N.2;have a3:=f.cell P.1 bj P.2;have a4:=f.cell Q.1 A Q.2;have a5:=f.cell T.1 A T.2;have aK:=f.cell W.1 A W.2;have bF:=f.cell X.1 A X.2;have aw:=C p;clear p Y s));all_goals
    go_wp2;go_roundw;case rel=>have bl:Below d.heap.size d u:=((k.trans (t.mono k.size)).drew.alloc (cA k.size t.size) _).trans (f.below L (λg x=>(j.lt g x).1));refine⟨i+1,by omega,by go_num,?_,bl⟩;have:=aw;rw[show q.es.take (i+1)=q.es.take i++[e] by rw[gL,aQ.out];rfl];exact this
    case measure=>simp[intOf];omega
  ·have ae:¬(i:Int)<(q.es.length:Int):=(by omega);obtain rfl:i=q.es.length:=by omega
   go_wp2;go_ret;exact⟨u3,rfl,by have:=j.lower r.size;rw[hL] at this;exact this,D⟩
theorem Mod.setCells {S:Nat->Prop} {x:ab} (b:Nat) (c:S b):∀(a:List Value) (o:Nat) (y:ab),Mod S x y->Mod S x (y.setCells b o a)
 |[],_,_,h=>h
 |v::a,o,y,h=>Mod.setCells b c a (o+1) _ (h.setCell c v)
theorem Mod.lower {x:ab} (h:Mod S x y) (d:B<=x.heap.size) (b:∀a,S a->B<=a):Below B x y:=⟨h.os,h.tape,h.output,h.size,λa e=>h.block a (by omega) (λc=>by have:=b a c;omega)⟩
theorem mW {x z:ab} (h:Below B x y) (d:B<=x.heap.size) (k:Mod S y z) (a:∀i,i<y.heap.size->S i->B<=i):Below B x z:=⟨k.os.trans h.os,k.tape.trans h.tape,k.output.trans h.output,cA h.size k.size,λi b=>by have:=h.size;exact(k.block i (by omega) (λc=>by have:=a i (by omega) c;omega)).trans (h.block i b)⟩
variable {n₀:Nat}
def encI:cd Int:=⟨1,λx=>[I J x],λ_=>rfl,λ_ u h=>by simp at h;subst h;rfl,by decide⟩
def rat (l:List Int) (p:Nat):Int:=l[p]?.getD 0
theorem JO (h:p<l.length):l[p]?=R (rat l p):=by unfold rat;rw[b5 h];rfl
theorem Rd.ints (h:Rd encI n₀ W a n zs) (d:0<n):∃b c,a=R ⟨b,c,U⟩∧b<n₀∧∀j,j<n->W.cell? ⟨b,c+j,U⟩=R (I J (rat zs j)):=by obtain⟨b,c,e,f,g⟩:=h.cells d;refine⟨b,c,e,f,λj i=>?_⟩;have:=g j _ (JO (by rw[h.1];exact i)) 0 _ rfl;simpa[encI] using this
def Ck (d:TypeDesc):Bool:=match d with| .struct _| .array _ _=>false|_=>true
theorem KT {t:TypeId} {d:TypeDesc} (h:prog.underlying t=R d) (a:Ck d=true) (w:ab):(isAgg t).run au w= .ok false w:=by unfold isAgg;simp only[Sem.run_bind,run_underlying h,Result.andThen_ok];cases d<;>first|rfl|cases a
theorem Cl {T e:TypeId} {i:TypeInfo} {d:TypeDesc} (b:prog.underlying T=R (.array n e)) (c:prog.info? e=R i) (f:prog.cellsOf e=1) (g:prog.underlying e=R d) (h:Ck d=true) (L:List Value) (k:Nat) (v:Value) (hk:k<n) (hv:L[k]?=R v) (w:ab):(Instr.index T (bk L.toArray) (I J (k:Int))).run au w= .ok v w:=by
 have j:(0:Int)<=(k:Int)∧(k:Int)<(n:Int):=by omega
 have l:(L.toArray)[k]?=R v:=by rw[fg];exact hv
 have a:=run_sizeOf (P:=au) (w:=w) c;rw[f] at a;have m:=KT g h w;unfold Instr.index part;simp only[asIntOf,Sem.run_bind,Sem.run_pure,Result.andThen_ok,run_underlying b,aj j,a,m,bZ,Nat.mul_one,jI,if_false,l]
theorem tR (L:List Value) (k:Nat) (v:Value) (hk:k<32) (hv:L[k]?=R v) (w:ab):(Instr.index 160 (bk L.toArray) (I J (k:Int))).run au w= .ok v w:=Cl (i:=(prog.info? 128).get (by kernel_rfl)) underlying160 (by kernel_rfl) (by kernel_rfl) underlying128 rfl L k v hk hv w
end Go.Proofs.YtddbkdjcjoofpaaGreatDoor
