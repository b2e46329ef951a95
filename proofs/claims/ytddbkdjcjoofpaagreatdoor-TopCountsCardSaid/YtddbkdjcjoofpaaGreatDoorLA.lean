/- Joined by a program out of the session's own texts. -/
import Derived.Lib.Hide
import Derived.Test.YtddbkdjcjoofpaaGreatDoorProg
import Derived.WalkKit
import Derived.Below
import Derived.Laws.Rows
import Derived.Laws.AppendOwn
import Derived.Deep.QuietTactic
import Derived.Shelf.Spec.TrailingZeros
import Derived.Lib.Strings
import Derived.Lib.IndexBytes
import Derived.Lib.ItoaNum
import Derived.Lib.ItoaLen
import Derived.Lib.ParseIntB
import Derived.Maps.AppendAt
import Derived.Laws.AppendOwnNone
namespace Go.Proofs.YtddbkdjcjoofpaaGreatDoor
set_option linter.unusedVariables false
set_option linter.unusedSimpArgs false
set_option maxRecDepth 100000
set_option maxHeartbeats 20000000
open _root_.Go.Proofs.Tryz Go.RowKit
open Go renaming World→ab
open _root_.Go.Proofs.Tryz renaming prog→au
open Option renaming none→U,some→R
open _root_.Go.Value renaming int→I,pointer→af,slice→ay,bool→aD
open _root_.Go.IntKind renaming i64→J,u64→ah
open _root_.Go.Obj renaming cells→av
open _root_.Nat renaming le_refl→bK,le_trans→cA,lt_of_lt_of_le→dd,zero_add→lZ,mul_le_mul_right→n3,add_mul→pE,zero_le→gN,sub_self→lu
open _root_.Array renaming getElem?_eq_some_iff→iZ
open _root_.Go.World renaming cell?_of_block→lq
open _root_.Go renaming World→ab
open _root_.List renaming getElem?_eq_getElem→b5,getElem?_map→dD,map_cons→km,length_eq_zero_iff→nY,drop_eq_getElem_cons→px,getElem?_eq_some_iff→bD,length_cons→dX,length_append→eX,getElem?_append_right→gJ,getElem?_append_left→ja,isEmpty_iff→pA,mem_map→eY,cons_append→gM,mem_cons→gZ,mem_iff_getElem?→lp,getD_eq_getElem?_getD→dy,mem_of_getElem?→ea,length_map→dY,append_assoc→h_,nodup_cons→jL,pairwise_cons→pz,filter_append→sh,mem_cons_self→e5,mem_cons_of_mem→hK,length_filter_le→py,getElem?_set_self→cV,getElem?_set_ne→dN,range→gi,replicate→gY,nodup_iff_pairwise_ne→qn,foldl_cons→nk,any_eq_true→n_,mem_range→pB,getElem?_replicate→yw,getElem?_eq_none→gh,getElem?_append→va,length_set→eg,mem_append→nj,mem_singleton→qt,getElem?_set→mw,getElem?_singleton→qs,mem_iff_getElem→u_,getElem?_zipIdx→n5,getElem?_cons_succ→nh,take_add_one→gL,getElem?_range→sg,length_reverse→vd
open _root_.UInt8 renaming toNat→pD
open _root_.Bool renaming eq_iff_iff→hN,and_eq_true→jb,or_eq_true→ob,false_eq_true→jI,not_eq_true'→sj
open _root_.Int renaming toNat_natCast→bZ,le_refl→jw,eq_ofNat_of_zero_le→dS
open _root_.Option renaming getD_some→kl,isSome_iff_exists→gK,map_eq_some_iff→h9,map_some→iH,toList_some→lY
theorem aW {α:Sort _} (a:α):∃x,a=x:=⟨a,rfl⟩
theorem z0 {c:Prop} {h:Decidable c} (n:¬c) {α:Sort _} {t e:α}:ite c t e=e:=if_neg n
theorem aj {c:Prop} {h:Decidable c} (n:c) {α:Sort _} {t e:α}:ite c t e=t:=if_pos n
theorem C {p:Prop} (h:p):Go.RowKit.Hid p:=h
theorem zK9 {n:Nat}:n<=n:=Nat.le.refl
variable {b n i c B o:Nat} {w w' y:ab} {v:Value} {a:Option Addr} {ar:Array Value}
structure Kept (b:Nat) (w w':ab):Prop where
 os:w'.os=w.os
 tape:w'.tape=w.tape
 output:w'.output=w.output
 size:w.heap.size<=w'.heap.size
 block:∀k,k<w.heap.size->k≠b->w'.heap[k]?=w.heap[k]?
theorem Kept.refl (b:Nat) (w:ab):Kept b w w:=⟨rfl,rfl,rfl,bK _,λ_ _ _=>rfl⟩
theorem Kept.trans {b:Nat} {x y z:ab} (h:Kept b x y) (k:Kept b y z):Kept b x z:=⟨k.os.trans h.os,k.tape.trans h.tape,k.output.trans h.output,cA h.size k.size,λi a c=>(k.block i (dd a h.size) c).trans (h.block i a c)⟩
theorem Kept.setCell {b i:Nat} {x y:ab} (h:Kept b x y) (v:Value):Kept b x (y.setCell ⟨b,i,U⟩ v):=⟨h.os,h.tape,h.output,by simpa using h.size,λa d c=>(heap_setCell_other y ⟨b,i,U⟩ a v c).trans (h.block a d c)⟩
theorem Kept.drewN {b:Nat} {x y:ab} (h:Kept b x y) (n:Nat):Kept b x (y.drewN n):=⟨h.os,h.tape,h.output,h.size,h.block⟩
theorem Kept.below {x:ab} (h:Kept b x y) (c:B<=b) (d:B<=x.heap.size):Below B x y:=⟨h.os,h.tape,h.output,h.size,λa e=>h.block a (by omega) (by omega)⟩
theorem Kept.cell {x:ab} (h:Kept b x y) {k:Nat} (hk:k<x.heap.size) (c:k≠b) (d:x.cell? ⟨k,o,U⟩=R v):y.cell? ⟨k,o,U⟩=R v:=(lq (a:=⟨k,o,U⟩) (h.block k hk c)).trans d
theorem l0 {x:ab} (h:Below x.heap.size x y):Kept b x y:=⟨h.os,h.tape,h.output,h.size,λa c _=>h.block a c⟩
theorem bJ {T:Nat} (h:w.heap[b]?=R (av ar T (0,0))) (hv:ar[i]?=R v):w.cell? ⟨b,i,U⟩=R v:=by simp[World.cell?,h,hv]
theorem l1 {T:Nat} (h:w.heap[b]?=R (av ar T (0,0))):w.frozen? ⟨b,i,U⟩=false:=frozen_of_row w b i ar T h
theorem eL {T:Nat} (v:Value) (h:w.heap[b]?=R (av ar T (0,0))):(w.setCell ⟨b,i,U⟩ v).heap[b]?=R (av (ar.setIfInBounds i v) T (0,0)):=heap_setCell_same w b i ar T v h
theorem jd {O:Obj} (h:w.heap[b]?=R O):b<w.heap.size:=(iZ.1 h).1
theorem ve {O:Obj} (h:w.heap[b]?=R O):(w.drewN n).heap[b]?=R O:=h
theorem l2 (w:ab) (O:Obj):(w.alloc O).heap[w.heap.size]?=R O:=by show(w.heap.push O)[w.heap.size]?=_;simp
theorem nn {O a:Obj} (h:w.heap[b]?=R O):(w.alloc a).heap[b]?=R O:=by have:=jd h;show(w.heap.push a)[b]?=_;rw[Array.getElem?_push,z0 (by omega),h]
def DV (w:ab):Prop:=TabAt 9 Lib.deBruijn64tab w
variable {p:Nat} {l:List Int}
def bh (s:ByteArray):List Nat:=s.data.toList.map pD
theorem l3 (s:ByteArray):(bh s).length=s.size:=by simp[bh]
theorem D4 (s:ByteArray) (p:Nat) (h:p<s.size):(bh s).take (p+1)=(bh s).take p++[(s[p]'h).toNat]:=by rw[List.take_succ_eq_append_getElem (by rw[l3];exact h)];simp[bh];rfl
theorem yx (s:ByteArray) (p:Nat) (h:p<s.size):(bh s).drop p=(s[p]'h).toNat::(bh s).drop (p+1):=by rw[px (by rw[l3];exact h)];simp[bh];rfl
theorem qz (s:ByteArray):bh s=[]↔s.size=0:=by rw[<-nY,l3]
def str (l:List Nat):ByteArray:=⟨(l.map UInt8.ofNat).toArray⟩
theorem D5 {l:List Nat} (h:∀a∈l,a<256):(l.map UInt8.ofNat).map pD=l:=by
 induction l with
 |nil=>rfl
 |cons a l b=>rw[km,km,b λy c=>h y (by simp[c]),UInt8.toNat_ofNat_of_lt' (h a (by simp))]
theorem yy {l:List Nat} (h:∀x∈l,x<256):bh (str l)=l:=by unfold bh str;exact D5 h
theorem sk (l:List UInt8):(l.map pD).map UInt8.ofNat=l:=by
 induction l with
 |nil=>rfl
 |cons x l a=>rw[km,km,a,UInt8.ofNat_toNat]
theorem yz (s:ByteArray):str (bh s)=s:=by unfold bh str;rw[sk]
theorem D6 {s:ByteArray} {k:Nat} (h:k<s.size):(bh s)[k]?=R (s[k]'h).toNat:=by unfold bh;rw[dD,b5 (by simpa using h)];rfl
theorem D7 (s:ByteArray) (a b:Nat):bh (s.extract a b)=((bh s).drop a).take (b-a):=by unfold bh;rw[Lib.extract_data,List.map_take,List.map_drop]
theorem D8 (s:ByteArray) (a:Nat):bh (s.extract a s.size)=(bh s).drop a:=by unfold bh;rw[Lib.extract_to_end,List.map_drop]
theorem D9 (s:ByteArray) (b:Nat):bh (s.extract 0 b)=(bh s).take b:=by rw[D7];simp
variable {u:Value}
def vi (u:Nat):List Nat:=(Lib.decDigits u).map pD
def dec (n:Int):List Nat:=if n<0 then 45::vi n.natAbs else vi n.toNat
theorem yA (n:Int):(Lib.itoa n).map pD=dec n:=by unfold Lib.itoa dec vi;split<;>rfl
def jO (l:List Nat):Option Int:=match Lib.parseIntB 64 (l.map UInt8.ofNat) with
 | .ok v=>if dec v=l then R v else U
 |_=>U
theorem D_ {l:List UInt8} {v:Int} (h:Lib.parseIntB 64 l= .ok v):-9223372036854775808<=v∧v<=9223372036854775807:=by
 unfold Lib.parseIntB at h;cases l with
 |nil=>cases h
 |cons c r=>
  simp only at h;cases a:Lib.parseUintB 64 (if c.toNat=43∨c.toNat=45 then r else c::r) with
  |ok u=>
   rw[a] at h;simp only at h;split at h;·cases h
   ·split at h;·cases h
    ·injection h with h
     by_cases b:c.toNat=45;·simp[b] at*;omega
     ·simp[b] at*;omega
  |_=>rw[a] at h;cases h
variable {g j n₀ cap m:Nat} {W A W':ab} {zs:List Int}
theorem qA {B ar:ab} (h:Below A.heap.size A B) (k:Below B.heap.size B ar):Below A.heap.size A ar:=h.trans (k.mono h.size)
theorem bY (a:Below n₀ W W') (h:b<n₀) (c:W.cell? ⟨b,o,U⟩=R v):W'.cell? ⟨b,o,U⟩=R v:=(a.cell (p:=⟨b,o,U⟩) h).trans c
theorem below_drewN {a:ab} (h:Below B a w) (n:Nat):Below B a (w.drewN n):=⟨h.os,h.tape,h.output,h.size,h.block⟩
theorem b2 {a:Addr} (b:W.cell? a=R v):W.drew.cell? a=R v:=b
theorem bx (W:ab) (O:Obj):Below W.heap.size W (W.alloc O):=(Below.refl _ _).alloc zK9 O
theorem vj {O:Obj} (h:b<W.heap.size):b<(W.alloc O).heap.size:=by simp;omega
theorem fq (O:Obj) (h:b<W.heap.size) (a:W.cell? ⟨b,o,U⟩=R v):(W.alloc O).cell? ⟨b,o,U⟩=R v:=bY ((Below.refl _ _).alloc zK9 _) h a
theorem dz {t:Nat}:(W.alloc (av ar t)).cell? ⟨W.heap.size,j,U⟩=ar[j]?:=by simp
theorem addr_add (b a j:Nat):(⟨b,a,U⟩:Addr).add j=⟨b,a+j,U⟩:=by
 by_cases c:j=0;·subst c;simp[Addr.add]
 ·simp[Addr.add,c]
structure cd (α:Type) where
 c:Nat
 e:α->List Value
 len:∀x,(e x).length=c
 one:∀x,∀u∈e x,u.oneCell'=true
 pos:0<c
def cd.all {α:Type} (E:cd α) (zs:List α):List Value:=zs.flatMap E.e
section
variable {α:Type} {E:cd α}
theorem cd.lv (zs:List α):(E.all zs).length=zs.length*E.c:=by
 induction zs with
 |nil=>simp[cd.all]
 |cons z zs a=>
  have:E.all (z::zs)=E.e z++E.all zs:=by simp[cd.all]
  rw[this,eX,a,E.len,dX,pE];omega
theorem cd.vk (zs:List α) (z:α):E.all (zs++[z])=E.all zs++E.e z:=by simp[cd.all]
theorem cd.lx {zs:List α} {q:Nat} {z:α} (a:zs[j]?=R z) (h:q<E.c):(E.all zs)[j*E.c+q]?=(E.e z)[q]?:=by
 induction zs generalizing j with
 |nil=>simp at a
 |cons y zs d=>
  have b:(E.e y).length=E.c:=E.len y;have f:E.all (y::zs)=E.e y++E.all zs:=by simp[cd.all]
  rw[f];cases j with
  |zero=>simp at a;subst a;rw[Nat.zero_mul,lZ,ja (by omega)]
  |succ j=>have g:=d (j:=j) (by simpa using a);rw[gJ (by rw[b,pE];omega),b,show(j+1)*E.c+q-E.c=j*E.c+q by rw[pE];omega,g]
def Rd (E:cd α) (n₀:Nat) (W:ab) (a:Option Addr) (n:Nat) (zs:List α):Prop:=zs.length=n∧(0<n->∃b d,a=R ⟨b,d,U⟩∧b<n₀∧∀j f,zs[j]?=R f->∀g v,(E.e f)[g]?=R v->W.cell? ⟨b,d+(j*E.c+g),U⟩=R v)
theorem Rd.below {B:ab} {zs:List α} (h:Rd E n₀ A a n zs) (d:Below n₀ A B):Rd E n₀ B a n zs:=⟨h.1,λe=>by obtain⟨b,f,g,c,i⟩:=h.2 e;exact⟨b,f,g,c,λj k l m v o=>(d.cell (p:=⟨b,_,U⟩) c).trans (i j k l m v o)⟩⟩
theorem Rd.grow {c:Nat} {zs:List α} (h:Rd E n₀ A a n zs) (i:n₀<=c):Rd E c A a n zs:=⟨h.1,λd=>by obtain⟨b,e,f,j,g⟩:=h.2 d;exact⟨b,e,f,by omega,g⟩⟩
theorem Rd.next {B:ab} {zs:List α} (h:Rd E A.heap.size A a n zs) (b:Below A.heap.size A B):Rd E B.heap.size B a n zs:=(h.below b).grow b.size
theorem Rd.cells {zs:List α} (h:Rd E n₀ W a n zs) (i:0<n):∃b d,a=R ⟨b,d,U⟩∧b<n₀∧∀j f,zs[j]?=R f->∀g v,(E.e f)[g]?=R v->W.cell? ⟨b,d+(j*E.c+g),U⟩=R v:=h.2 i
def Own (E:cd α) (W:ab) (B T:Nat) (v:Value) (n:Nat) (zs:List α):Prop:=W.ownsRow B T E.c v n (E.all zs)
theorem Own.nil (w:ab) (B T:Nat):Own E w B T (ay U 0 0) 0 []:=⟨by simp[cd.all],.inl ⟨rfl,rfl⟩⟩
theorem Own.alloc {W:ab} {B T n:Nat} {v:Value} {zs:List α} (h:Own E W B T v n zs) (O:Obj):Own E (W.alloc O) B T v n zs:=World.ownsRow.alloc h O
theorem Own.drew {W:ab} {B T n:Nat} {v:Value} {zs:List α} (h:Own E W B T v n zs):Own E W.drew B T v n zs:=World.ownsRow.drew h
theorem Own.rd {T:Nat} {zs:List α} (h:Own E W B T v n zs):zs.length=n∧∃a cap,v=ay a n cap∧n<=cap∧cap<=maxLen∧(a=U->cap=0)∧Rd E W.heap.size W a n zs:=by
 have k:=E.pos;have l:zs.length=n:=by have:=h.1;rw[cd.lv] at this;exact Nat.eq_of_mul_eq_mul_right k this
 subst l;refine⟨rfl,?_⟩;have e:=h;unfold Own at e;rcases h.2 with⟨rfl,b⟩|⟨g,cap,t,rfl,u,m,b,o,w,x⟩;·exact⟨U,0,by rw[b],by omega,by unfold maxLen;omega,λ_=>rfl,rfl,λh=>by omega⟩
 ·refine⟨_,cap,rfl,b,o,(λp=>by cases p),rfl,λy=>⟨g,0,rfl,(iZ.1 m).1,λj z f d v i=>?_⟩⟩;have q:=(bD.1 f).1;have r:d<E.c:=by have:=(bD.1 i).1;rw[E.len] at this;exact this
  have s:j*E.c+d<zs.length*E.c:=by have:(j+1)*E.c<=zs.length*E.c:=n3 _ q;rw[pE] at this;omega
  rw[lZ];exact(e.cellAt (j*E.c+d) s).trans ((cd.lx f r).trans i)
theorem Own.lt {W:ab} {B T n:Nat} {v:Value} {zs:List α} (h:Own E W B T v n zs):∀g,v.ownBlock=R g->B<=g∧g<W.heap.size:=λg e=>World.ownsRow.lt h g e
end
def encS:cd ByteArray:=⟨1,λx=>[.string x],λ_=>rfl,λ_ u h=>by simp at h;subst h;rfl,by decide⟩
variable {lev:Nat} {al:Nat->Prop}
structure Key where
 v:Int
 id:Int
theorem Key.eq_iff (a b:Key):a=b↔a.v=b.v∧a.id=b.id:=by cases a;cases b;simp
instance:DecidableEq Key:=λa b=>decidable_of_iff (a.v=b.v∧a.id=b.id) (Key.eq_iff a b).symm
def Key.lt (a b:Key):Prop:=a.v<b.v∨(a.v=b.v∧a.id<b.id)
instance (a b:Key):Decidable (a.lt b):=inferInstanceAs (Decidable (_∨_))
theorem Key.lt_trans {a b c:Key} (h:a.lt b) (k:b.lt c):a.lt c:=by unfold Key.lt at*;omega
theorem Key.lt_irrefl (a:Key):¬a.lt a:=by unfold Key.lt;omega
theorem Key.lt_asymm {a b:Key} (h:a.lt b):¬b.lt a:=by unfold Key.lt at*;omega
theorem Key.jQ {a b:Key} (h:a.lt b):a≠b:=λe=>Key.lt_irrefl b (e▸h)
theorem Key.pJ {a b:Key} (h:¬a.lt b) (c:a≠b):b.lt a:=by rw[Ne,Key.eq_iff] at c;unfold Key.lt at*;omega
inductive T where
 |nil:T
 |node (b:Nat) (l:T) (k:Key) (lev:Nat) (r:T):T
namespace T
def h:T->Nat
 |nil=>0
 |node _ _ _ lev _=>lev
def ht:T->Nat
 |nil=>0
 |node _ _ _ _ r=>r.h
def blocks:T->List Nat
 |nil=>[]
 |node b l _ _ r=>b::(l.blocks++r.blocks)
def keys:T->List Key
 |nil=>[]
 |node _ l k _ r=>l.keys++k::r.keys
def size:T->Nat
 |nil=>0
 |node _ l _ _ r=>1+(l.size+r.size)
def cw:T->T
 |node b (node lb c d a e) k lev r=>if a=lev then node lb c d a (node b e k lev r) else node b (node lb c d a e) k lev r
 |t=>t
def split:T->T
 |node b l k lev (node rb rl rk rlev (node c d e a f))=>if a=lev then node rb (node b l k lev rl) rk (rlev+1) (node c d e a f) else node b l k lev (node rb rl rk rlev (node c d e a f))
 |t=>t
def right (f:T->T):T->T
 |node b l k lev r=>node b l k lev (f r)
 |nil=>nil
def lower:T->T
 |node b l k lev r=>if min l.h r.h+1<lev then node b l k (min l.h r.h+1) (match r with|node rb rl rk rlev rr=>if min l.h r.h+1<rlev then node rb rl rk (min l.h r.h+1) rr else node rb rl rk rlev rr|nil=>nil) else node b l k lev r
 |nil=>nil
def settled (t:T):T:=right split (split (right (right cw) (right cw (cw (lower t)))))
def first:T->Key
 |node _ l k _ _=>match l with|nil=>k|node b l' a c d=>(node b l' a c d).first
 |nil=>⟨0,0⟩
def last:T->Key
 |node _ _ k _ r=>match r with|nil=>k|node b l' a c d=>(node b l' a c d).last
 |nil=>⟨0,0⟩
def ins (a:Nat) (x:Key):T->T×Bool
 |nil=>(node a nil x 1 nil,true)
 |node b l k lev r=>if x=k then(split (cw (node b l k lev r)),false) else if x.lt k then(split (cw (node b (l.ins a x).1 k lev r)),(l.ins a x).2) else(split (cw (node b l k lev (r.ins a x).1)),(r.ins a x).2)
def del:T->Key->T×Bool
 |nil,_=>(nil,false)
 |node b l k lev r,x=>if x=k then(match l with
  |node lb a c d e=>(settled (node b ((node lb a c d e).del (node lb a c d e).last).1 (node lb a c d e).last lev r),true)
  |nil=>match r with
   |node rb rl rk rlev rr=>(settled (node b nil (node rb rl rk rlev rr).first lev ((node rb rl rk rlev rr).del (node rb rl rk rlev rr).first).1),true)
   |nil=>(nil,true)) else if x.lt k then(settled (node b (l.del x).1 k lev r),(l.del x).2) else(settled (node b l k lev (r.del x).1),(r.del x).2)
end T
def fj (x:Key):List Key->List Key
 |[]=>[x]
 |y::l=>if x=y then y::l else if x.lt y then x::y::l else y::fj x l
def eM (x:Key) (l:List Key):List Key:=l.filter λy=>decide (y≠x)
def ha (l:List Key):Prop:=l.Pairwise Key.lt
theorem FD {x k:Key} (h:x.lt k) (A B:List Key):fj x (A++k::B)=fj x A++k::B:=by
 induction A with
 |nil=>show(if x=k then k::B else if x.lt k then x::k::B else k::fj x B)=[x]++k::B;rw[z0 (Key.jQ h),aj h];rfl
 |cons a A b=>
  show(if x=a then a::(A++k::B) else if x.lt a then x::a::(A++k::B) else a::fj x (A++k::B))=(if x=a then a::A else if x.lt a then x::a::A else a::fj x A)++k::B;split;·rfl
  ·split;·rfl
   ·rw[b];rfl
theorem FE {x k:Key} (h:k.lt x) (A B:List Key) (b:∀a∈A,a.lt k):fj x (A++k::B)=A++k::fj x B:=by
 induction A with
 |nil=>show(if x=k then k::B else if x.lt k then x::k::B else k::fj x B)=k::fj x B;rw[z0 (Key.jQ h).symm,z0 (Key.lt_asymm h)]
 |cons a A d=>have c:=Key.lt_trans (b a (by simp)) h;show(if x=a then a::(A++k::B) else if x.lt a then x::a::(A++k::B) else a::fj x (A++k::B))=_;rw[z0 (Key.jQ c).symm,z0 (Key.lt_asymm c),d (λy e=>b y (by simp[e]))];rfl
theorem FF (k:Key) (A B:List Key) (b:∀a∈A,a.lt k):fj k (A++k::B)=A++k::B:=by
 induction A with
 |nil=>show(if k=k then k::B else _)=_;rw[aj rfl];rfl
 |cons a A d=>have c:=b a (by simp);show(if k=a then a::(A++k::B) else if k.lt a then k::a::(A++k::B) else a::fj k (A++k::B))=_;rw[z0 (Key.jQ c).symm,z0 (Key.lt_asymm c),d (λy e=>b y (by simp[e]))];rfl
theorem FG {x y:Key} {l:List Key}:y∈fj x l↔y=x∨y∈l:=by
 induction l with
 |nil=>simp[fj]
 |cons a l c=>
  show y∈(if x=a then a::l else if x.lt a then x::a::l else a::fj x l)↔_;split;·next e=>subst e;simp
  ·split;·simp
   ·simp[c];constructor;·rintro(b|b|b)<;>simp[b]
    ·rintro(b|b|b)<;>simp[b]
theorem y_ {x:Key} {l:List Key} (h:ha l):ha (fj x l):=by
 induction l with
 |nil=>simp[fj,ha]
 |cons a l e=>
  have c:=pz.1 h;show ha (if x=a then a::l else if x.lt a then x::a::l else a::fj x l);split;·exact h
  ·next f=>
   split;·next d=>
    refine pz.2 ⟨λy b=>?_,h⟩;rcases gZ.1 b with rfl|b;·exact d
    ·exact Key.lt_trans d (c.1 y b)
   ·next g=>
    refine pz.2 ⟨λy b=>?_,e c.2⟩;rcases FG.1 b with rfl|b;·exact Key.pJ g f
    ·exact c.1 y b
theorem FH {x:Key} {l:List Key} (h:ha l):ha (eM x l):=List.Pairwise.filter _ h
theorem oj {x:Key} {l:List Key} (h:x∉l):eM x l=l:=by unfold eM;rw[List.filter_eq_self];intro a b;simp;exactλc=>h (c▸b)
theorem sv (x:Key) (A B:List Key):eM x (A++B)=eM x A++eM x B:=by unfold eM;rw[sh]
theorem sw (x:Key) (B:List Key):eM x (x::B)=eM x B:=by unfold eM;rw[List.filter_cons_of_neg];simp
theorem vA {x k:Key} (h:k≠x) (B:List Key):eM x (k::B)=k::eM x B:=by unfold eM;rw[List.filter_cons_of_pos];simp[h]
theorem sx {A B:List Key} {k:Key} (h:ha (A++k::B)):ha A∧ha B∧(∀a∈A,a.lt k)∧(∀b∈B,k.lt b)∧∀a∈A,∀b∈B,a.lt b:=by obtain⟨f,g,d⟩:=List.pairwise_append.1 h;have e:=pz.1 g;exact⟨f,e.2,λa c=>d a c k (by simp),e.1,λa c b i=>d a c b (by simp[i])⟩
namespace T
theorem pK (t:T):t.cw.keys=t.keys:=by
 unfold cw;split
 ·split;·simp[keys]
  ·rfl
 ·rfl
theorem qG (t:T):t.split.keys=t.keys:=by
 unfold split;split
 ·split;·simp[keys]
  ·rfl
 ·rfl
theorem sy {f:T->T} (a:∀t,(f t).keys=t.keys) (t:T):(t.right f).keys=t.keys:=by
 unfold right;split;·simp[keys,a]
 ·rfl
theorem FI (t:T):t.lower.keys=t.keys:=by
 unfold lower;split
 ·split
  ·split;·split<;>simp[keys]
   ·simp[keys]
  ·rfl
 ·rfl
theorem sz (t:T):t.settled.keys=t.keys:=by unfold settled;rw[sy qG,qG,sy (sy pK),sy pK,pK,FI]
theorem rs (t:T):t.cw.blocks.Perm t.blocks:=by
 unfold cw;split
 ·split;·simp only[blocks];rename_i b a c g h d i lev e _;have f:(a::(c.blocks++b::(d.blocks++e.blocks))).Perm (a::b::(c.blocks++(d.blocks++e.blocks))):=List.Perm.cons _ List.perm_middle;refine f.trans ((List.Perm.swap _ _ _).trans ?_);simp[h_]
  ·exact List.Perm.refl _
 ·exact List.Perm.refl _
theorem nv (t:T):t.split.blocks.Perm t.blocks:=by
 unfold split;split
 ·split;·simp only[blocks];rename_i b l h lev a c i j d e k m f _;refine(List.Perm.swap _ _ _).trans (List.Perm.cons _ ?_);have g:(l.blocks++a::(c.blocks++d::(e.blocks++f.blocks))).Perm (a::(l.blocks++(c.blocks++d::(e.blocks++f.blocks)))):=List.perm_middle;refine List.Perm.trans ?_ g.symm;simp[h_]
  ·exact List.Perm.refl _
 ·exact List.Perm.refl _
theorem sA {f:T->T} (a:∀t,(f t).blocks.Perm t.blocks) (t:T):(t.right f).blocks.Perm t.blocks:=by
 unfold right;split;·simp only[blocks];exact List.Perm.cons _ (List.Perm.append_left _ (a _))
 ·exact List.Perm.refl _
theorem vB (t:T):t.lower.blocks=t.blocks:=by
 unfold lower;split
 ·split
  ·split;·split<;>simp[blocks]
   ·simp[blocks]
  ·rfl
 ·rfl
theorem za (t:T):t.settled.blocks.Perm t.blocks:=by unfold settled;refine(sA nv _).trans ((nv _).trans ((sA (sA rs) _).trans ((sA rs _).trans ((rs _).trans ?_))));rw[vB]
theorem zb:∀a:T,a≠nil->∃l,a.keys=l++[a.last]
 |nil,h=>absurd rfl h
 |node b l k lev nil,_=>⟨l.keys,by simp[keys,last]⟩
 |node b l k lev (node rb rl rk rlev rr),_=>by obtain⟨m,c⟩:=zb (node rb rl rk rlev rr) (by simp);refine⟨l.keys++k::m,?_⟩;show l.keys++k::(node rb rl rk rlev rr).keys=l.keys++k::m++[(node rb rl rk rlev rr).last];rw[c];simp
theorem vC:∀a:T,a≠nil->∃l,a.keys=a.first::l
 |nil,h=>absurd rfl h
 |node b nil k lev r,_=>⟨r.keys,by simp[keys,first]⟩
 |node b (node lb c d e f) k lev r,_=>by obtain⟨m,g⟩:=vC (node lb c d e f) (by simp);refine⟨m++k::r.keys,?_⟩;show(node lb c d e f).keys++k::r.keys=(node lb c d e f).first::(m++k::r.keys);rw[g];simp
theorem zc (a:Nat) (x:Key) (t:T) (h:ha t.keys):(t.ins a x).1.keys=fj x t.keys∧(t.ins a x).2=decide (x∉t.keys):=by
 induction t with
 |nil=>exact⟨rfl,by simp[ins,keys]⟩
 |node b l k lev r m n=>
  obtain⟨o,p,e,q,s⟩:=sx h;unfold ins;by_cases c:x=k
  ·subst c;rw[aj rfl];refine⟨?_,?_⟩;·rw[qG,pK];exact(FF _ _ _ e).symm
   ·simp[keys]
  ·rw[z0 c];by_cases d:x.lt k
   ·rw[aj d];obtain⟨f,g⟩:=m o;refine⟨?_,?_⟩;·rw[qG,pK];show(l.ins a x).1.keys++k::r.keys=fj x (l.keys++k::r.keys);rw[FD d,f]
    ·show(l.ins a x).2=_;rw[g,decide_eq_decide];have:x∉r.keys:=λi=>Key.lt_asymm d (q x i);simp[keys,c,this]
   ·rw[z0 d];have j:=Key.pJ d c;obtain⟨f,g⟩:=n p;refine⟨?_,?_⟩;·rw[qG,pK];show l.keys++k::(r.ins a x).1.keys=fj x (l.keys++k::r.keys);rw[FE j _ _ e,f]
    ·show(r.ins a x).2=_;rw[g,decide_eq_decide];have:x∉l.keys:=λi=>Key.lt_asymm j (e x i);simp[keys,c,this]
theorem zd (t:T) (x:Key) (h:ha t.keys):(t.del x).1.keys=eM x t.keys∧(t.del x).2=decide (x∈t.keys):=by
 induction t generalizing x with
 |nil=>exact⟨rfl,by simp[del,keys]⟩
 |node b l k lev r w y=>
  obtain⟨n,o,z,C,J⟩:=sx h;have F:∀{A B:List Key},(∀a∈A,a.lt k)->(∀a∈B,k.lt a)->eM k (A++k::B)=A++B:=by intro A B G H;rw[sv,sw,oj (λc=>Key.lt_irrefl _ (G k c)),oj (λc=>Key.lt_irrefl _ (H k c))]
  unfold del;by_cases j:x=k
  ·subst j;rw[aj rfl];refine⟨?_,?_⟩;·show _=eM x (l.keys++x::r.keys);rw[F z C];cases l with
    |node lb d e f i=>obtain⟨m,c⟩:=zb (node lb d e f i) (by simp);simp only;rw[sz];show((node lb d e f i).del (node lb d e f i).last).1.keys++(node lb d e f i).last::r.keys=_;rw[(w (node lb d e f i).last n).1];have q:eM (node lb d e f i).last (node lb d e f i).keys=m:=(by rw[c] at n⊢;have s:=(sx n).2.2.1;rw[sv,sw,oj (λg=>Key.lt_irrefl _ (s _ g))];simp[eM]);rw[q,c,h_];rfl
    |nil=>
     cases r with
     |node rb rl rk rlev rr=>obtain⟨m,c⟩:=vC (node rb rl rk rlev rr) (by simp);simp only;rw[sz];show nil.keys++(node rb rl rk rlev rr).first::((node rb rl rk rlev rr).del (node rb rl rk rlev rr).first).1.keys=_;rw[(y (node rb rl rk rlev rr).first o).1];have q:eM (node rb rl rk rlev rr).first (node rb rl rk rlev rr).keys=m:=(by rw[c] at o⊢;have s:=(pz.1 o).1;rw[sw,oj (λg=>Key.lt_irrefl _ (s _ g))]);rw[q,c]
     |nil=>simp[keys]
   ·have:x∈(node b l x lev r).keys:=(by simp[keys]);cases l with
    |node lb d e f i=>simp[this]
    |nil=>cases r<;>simp[this]
  ·rw[z0 j];by_cases p:x.lt k
   ·rw[aj p];obtain⟨u,v⟩:=w x n;have D:x∉r.keys:=λc=>Key.lt_asymm p (C x c);refine⟨?_,?_⟩;·rw[sz];show(l.del x).1.keys++k::r.keys=eM x (l.keys++k::r.keys);rw[sv,vA (Ne.symm j),oj D,u]
    ·show(l.del x).2=_;rw[v,decide_eq_decide];simp[keys,j,D]
   ·rw[z0 p];have I:=Key.pJ p j;obtain⟨u,v⟩:=y x o;have E:x∉l.keys:=λc=>Key.lt_asymm I (z x c);refine⟨?_,?_⟩;·rw[sz];show l.keys++k::(r.del x).1.keys=eM x (l.keys++k::r.keys);rw[sv,vA (Ne.symm j),oj E,u]
    ·show(r.del x).2=_;rw[v,decide_eq_decide];simp[keys,j,E]
theorem vD (c:Nat) (x:Key) (t:T):(t.ins c x).1.blocks.Perm (if(t.ins c x).2=true then c::t.blocks else t.blocks):=by
 induction t with
 |nil=>exact List.Perm.refl _
 |node b l k lev r d e=>
  unfold ins;by_cases f:x=k;·rw[aj f];simp only[jI,if_false];exact(nv _).trans (rs _)
  ·rw[z0 f];by_cases g:x.lt k;·rw[aj g];refine((nv _).trans (rs _)).trans ?_;simp only;cases aV:(l.ins c x).2<;>rw[aV] at d<;>simp only[jI,if_false,if_true] at d⊢<;>rw[List.perm_iff_count] at d⊢<;>intro a<;>have:=d a<;>simp[blocks,List.count_cons,List.count_append] at this⊢<;>omega
   ·rw[z0 g];refine((nv _).trans (rs _)).trans ?_;simp only;cases aV:(r.ins c x).2<;>rw[aV] at e<;>simp only[jI,if_false,if_true] at e⊢<;>rw[List.perm_iff_count] at e⊢<;>intro a<;>have:=e a<;>simp[blocks,List.count_cons,List.count_append] at this⊢<;>omega
theorem vE (t:T) (x:Key):∃al,t.blocks.Perm (al++(t.del x).1.blocks):=by
 induction t generalizing x with
 |nil=>exact⟨[],List.Perm.refl _⟩
 |node b l k lev r g h=>
  have left:∀(c y:Key),∃al,(node b l k lev r).blocks.Perm (al++(settled (node b (l.del y).1 c lev r)).blocks):=by intro c y;obtain⟨al,d⟩:=g y;refine⟨al,List.Perm.trans ?_ (List.Perm.append_left al (za _).symm)⟩;rw[List.perm_iff_count] at d⊢;intro a;have:=d a;simp[blocks,List.count_cons,List.count_append] at this⊢;omega
  have right:∀(c y:Key),∃al,(node b l k lev r).blocks.Perm (al++(settled (node b l c lev (r.del y).1)).blocks):=by intro c y;obtain⟨al,d⟩:=h y;refine⟨al,List.Perm.trans ?_ (List.Perm.append_left al (za _).symm)⟩;rw[List.perm_iff_count] at d⊢;intro a;have:=d a;simp[blocks,List.count_cons,List.count_append] at this⊢;omega
  unfold del;by_cases e:x=k;·rw[aj e];cases l with
   |node lb i j m n=>exact left _ _
   |nil=>
    cases r with
    |node rb rl rk rlev rr=>exact right _ _
    |nil=>exact⟨[b],by simp[blocks]⟩
  ·rw[z0 e];by_cases f:x.lt k;·rw[aj f];exact left _ _
   ·rw[z0 f];exact right _ _
theorem sB (t:T):t.keys.length=t.size:=by
 induction t with
 |nil=>rfl
 |node b l k lev r a c=>simp[keys,size,a,c];omega
theorem sC (t:T):t.blocks.length=t.size:=by
 induction t with
 |nil=>rfl
 |node b l k lev r a c=>simp[blocks,size,a,c];omega
theorem nw {a:Nat} {x:Key} {t:T} {y:Nat} (h:y∈(t.ins a x).1.blocks):y=a∨y∈t.blocks:=by
 have:=(vD a x t).mem_iff.1 h;split at this;·exact gZ.1 this
 ·exact .inr this
theorem vF {a:Nat} {x:Key} {t:T} (h:t.blocks.Nodup) (b:a∉t.blocks):(t.ins a x).1.blocks.Nodup:=by
 apply(vD a x t).nodup_iff.2;split;·exact jL.2 ⟨b,h⟩
 ·exact h
theorem ze (a:Nat) (x:Key) (t:T):(t.ins a x).1.size<=t.size+1:=by
 rw[<-sC,<-sC,(vD a x t).length_eq];split;·exact bK _
 ·omega
theorem kq {x:Key} {t:T} {y:Nat} (h:y∈(t.del x).1.blocks):y∈t.blocks:=by obtain⟨al,a⟩:=vE t x;exact a.mem_iff.2 (List.mem_append_right _ h)
theorem qH {x:Key} {t:T} (h:t.blocks.Nodup):(t.del x).1.blocks.Nodup:=by obtain⟨al,a⟩:=vE t x;exact(List.nodup_append.1 (a.nodup_iff.1 h)).2.1
theorem sD (x:Key) (t:T):(t.del x).1.size<=t.size:=by obtain⟨al,a⟩:=vE t x;rw[<-sC,<-sC,a.length_eq,eX];omega
theorem zf {a:Nat} {x k:Key} {l r:T} (h:x.lt k):(node b l k lev r).ins a x=(split (cw (node b (l.ins a x).1 k lev r)),(l.ins a x).2):=by show(if x=k then _ else if x.lt k then _ else _)=_;rw[z0 (Key.jQ h),aj h]
theorem zg {a:Nat} {x k:Key} {l r:T} (h:k.lt x):(node b l k lev r).ins a x=(split (cw (node b l k lev (r.ins a x).1)),(r.ins a x).2):=by show(if x=k then _ else if x.lt k then _ else _)=_;rw[z0 (Key.jQ h).symm,z0 (Key.lt_asymm h)]
theorem zh {a:Nat} {x:Key} {l r:T}:(node b l x lev r).ins a x=(split (cw (node b l x lev r)),false):=by show(if x=x then _ else if x.lt x then _ else _)=_;rw[aj rfl]
end T
def cK (n:Int):Int:=wrap64 n
def pL (a b:Int):Bool:=decide (bits .and J (bits .xor J a (cK (a+b))) (bits .xor J b (cK (a+b)))<0)
def pM (a b:Int):Bool:=decide (bits .and J (bits .xor J a b) (bits .xor J a (cK (a-b)))<0)
def l5 (a b:Int):Int×Bool:=if pL a b then(0,false) else(cK (a+b),true)
def mz (a b:Int):Int×Bool:=if pM a b then(0,false) else(cK (a-b),true)
def kr (a b:Int):Int:=if pL a b then(if 0<b then 9223372036854775807 else-9223372036854775808) else cK (a+b)
def nx (a b:Int):Int:=if pM a b then(if b<0 then 9223372036854775807 else-9223372036854775808) else cK (a-b)
def om (n a b:Int):Int:=if n<a then a else min n b
def ic (own mn a:Int):Int:=max own (nx mn (om a 0 1099511627776))
def kT (v mn:Int):Int×Bool:=if(mz v mn).2 then((mz v mn).1,false) else(nx v mn,true)
def l6 (a mn:Int):Int×Bool:=if(l5 a mn).2 then((l5 a mn).1,false) else(kr a mn,true)
def kU (v a b:Int):Int×Bool:=((l6 (kT v a).1 b).1,(kT v a).2||(l6 (kT v a).1 b).2)
variable {k x:Key} {r:T}
structure aI where
 id:Int
 wt:Nat
 v:Int
 rem:Nat deriving DecidableEq
def aI.key (e:aI):Key:=⟨e.v,e.id⟩
def lB:aI:=⟨0,0,0,0⟩
def dj (e:aI):Array Value:=#[I J e.id,I ah (e.wt:Int),I J e.v,I ah (e.rem:Int)]
def fk (x:aI):List aI->List aI
 |[]=>[x]
 |y::l=>if x.key=y.key then y::l else if x.key.lt y.key then x::y::l else y::fk x l
def eN (k:Int) (l:List aI):List aI:=l.filter λe=>decide (e.id≠k)
def hb (k:Int) (l:List aI):Option aI:=l.find? λe=>decide (e.id=k)
def cH (k:Int) (l:List aI):Bool:=(hb k l).isSome
structure aC where
 es:List aI
 cur:Int
 mn:Int deriving DecidableEq
def ks:aC:=⟨[],-1,0⟩
def FJ (mn:Int):List aI->Int
 |[]=>mn
 |e::_=>max mn e.v
def aC.raise (q:aC):aC:={q with mn:=FJ q.mn q.es}
def l7 (w:Int):Bool:=decide (2<=w)&&decide (w<=262144)
def aC.dE (q:aC) (e:aI):Int:=if e.id<0 then 1 else if l7 e.wt=false then 4 else if e.wt<=e.rem then 1 else if cH e.id q.es then 6 else if q.es.length=128 then 3 else 0
def aC.put (q:aC) (e:aI):aC:=if q.dE e=0 then aC.raise {q with es:=fk e q.es} else q
def aC.e6 (q:aC) (k:Int):Int:=if cH k q.es then 0 else 12
def aC.ed (q:aC) (k:Int):aI:=(hb k q.es).getD lB
def aC.drop (q:aC) (k:Int):aC:=if cH k q.es then aC.raise {q with es:=eN k q.es,cur:=if q.cur=k then-1 else q.cur} else q
def aI.bO (e:aI) (w:Nat):aI:={e with rem:=e.rem*w/e.wt,wt:=w}
def aC.fL (q:aC) (k:Int) (w:Nat):Int:=if cH k q.es then(if l7 w then 0 else 4) else 12
def aC.bO (q:aC) (k:Int) (w:Nat):aC:=if q.fL k w=0 then {q with es:=q.es.map λe=>if e.id=k then e.bO w else e} else q
def aI.b4 (e:aI) (ns:Nat):aI:={e with v:=kr e.v (((e.rem+ns*1024)/e.wt:Nat):Int),rem:=(e.rem+ns*1024)%e.wt}
def aC.e7 (q:aC):Int:=if q.cur=-1 then 7 else 0
def aC.b4 (q:aC) (ns:Nat):aC:=if q.cur=-1 then q else match hb q.cur q.es with
 |none=>q
 |some e=>aC.raise {q with es:=fk (e.b4 ns) (eN q.cur q.es)}
def aC.first (q:aC):Option aI:=match q.es with
 |[]=>U
 |e::l=>if e.id=q.cur then l.head? else R e
def oo (a b:aI) (c:Int):Bool:=decide (a.v<=kr b.v (om c 0 1099511627776))
def aC.pick (q:aC) (a:Int):aC:=match q.first with
 |none=>q
 |some o=>
  match hb q.cur q.es with
  |none=>{q with cur:=o.id}
  |some c=>if oo c o a then q else {q with cur:=o.id}
def aC.yield (q:aC) (a:Int):aC:=match q.first,hb q.cur q.es with
 |some o,R c=>if oo o c a then {q with cur:=o.id} else q.pick a
 |_,_=>q.pick a
theorem vG (x:aI) (l:List aI):(fk x l).map aI.key=fj x.key (l.map aI.key):=by
 induction l with
 |nil=>rfl
 |cons y l a=>
  show(if x.key=y.key then y::l else if x.key.lt y.key then x::y::l else y::fk x l).map aI.key=if x.key=y.key then y.key::l.map aI.key else if x.key.lt y.key then x.key::y.key::l.map aI.key else y.key::fj x.key (l.map aI.key);split;·rfl
  ·split;·rfl
   ·simp[a]
theorem oq {x e:aI} {l:List aI} (h:x.key∉l.map aI.key):e∈fk x l↔e=x∨e∈l:=by
 induction l with
 |nil=>simp[fk]
 |cons y l c=>
  have d:x.key≠y.key:=λb=>h (by simp[b]);have f:x.key∉l.map aI.key:=λb=>h (by simp only[km,gZ];exact .inr b);show e∈(if x.key=y.key then y::l else if x.key.lt y.key then x::y::l else y::fk x l)↔_;rw[z0 d];split;·simp
  ·rw[gZ,c f,gZ];constructor
   ·rintro(a|a|a);·exact .inr (.inl a)
    ·exact .inl a
    ·exact .inr (.inr a)
   ·rintro(a|a|a);·exact .inr (.inl a)
    ·exact .inl a
    ·exact .inr (.inr a)
theorem vH {x:aI} {l:List aI} (h:x.key∉l.map aI.key):(fk x l).Perm (x::l):=by
 induction l with
 |nil=>exact List.Perm.refl _
 |cons y l b=>
  have c:x.key≠y.key:=λa=>h (by simp[a]);have d:x.key∉l.map aI.key:=λa=>h (by simp only[km,gZ];exact .inr a);show(if x.key=y.key then y::l else if x.key.lt y.key then x::y::l else y::fk x l).Perm _;rw[z0 c];split;·exact List.Perm.refl _
  ·exact(List.Perm.cons y (b d)).trans (List.Perm.swap x y l)
theorem lC {k:Int} {l:List aI} {e:aI} (h:hb k l=R e):e∈l∧e.id=k:=by unfold hb at h;exact⟨List.mem_of_find?_eq_some h,by simpa using List.find?_some h⟩
theorem zi {k:Int} {l:List aI}:hb k l=U↔∀e∈l,e.id≠k:=by unfold hb;rw[List.find?_eq_none];simp
theorem vI {l:List aI} (h:(l.map (·.id)).Nodup) {a b:aI} (c:a∈l) (g:b∈l) (e:a.id=b.id):a=b:=by
 induction l with
 |nil=>cases c
 |cons y l i=>
  rw[km,jL] at h;rcases gZ.1 c with rfl|d<;>rcases gZ.1 g with rfl|f;·rfl
  ·exact absurd (eY.2 ⟨b,f,e.symm⟩) h.1
  ·exact absurd (eY.2 ⟨a,d,e⟩) h.1
  ·exact i h.2 d f
theorem qI {l:List aI} (h:(l.map (·.id)).Nodup) {e:aI} (b:e∈l):hb e.id l=R e:=by
 cases a:hb e.id l with
 |none=>exact absurd rfl (zi.1 a e b)
 |some d=>rw[vI h (lC a).1 b (lC a).2]
theorem dC {k:Int} {l:List aI}:cH k l=true↔∃a∈l,a.id=k:=by
 unfold cH;cases b:hb k l with
 |none=>simp only[Option.isSome_none,jI,false_iff];rintro⟨a,c,e⟩;exact zi.1 b a c e
 |some d=>simp only[Option.isSome_some,true_iff];exact⟨d,(lC b).1,(lC b).2⟩
theorem qJ {l:List aI} (h:(l.map (·.id)).Nodup) {e:aI} (b:e∈l):(eN e.id l).map aI.key=eM e.key (l.map aI.key):=by
 unfold eN eM;rw[List.filter_map];congr 1;apply List.filter_congr;intro y c;simp only[Function.comp];by_cases a:y.id=e.id;·rw[vI h c b a];simp
 ·have:y.key≠e.key:=λr=>a (by have:=congrArg Key.id r;exact this);simp[a,this]
theorem hx {k:Int} {l:List aI} {e:aI}:e∈eN k l↔e∈l∧e.id≠k:=by unfold eN;simp
theorem mA {l:List aI} {k:Int} {x:aI} (b:x.id=k) (h:∀a∈l,a.id≠k):x.key∉l.map aI.key:=by intro c;obtain⟨y,d,a⟩:=eY.1 c;exact h y d ((congrArg Key.id a).trans b)
structure aC.Ok (q:aC):Prop where
 ids:(q.es.map (·.id)).Nodup
 sorted:ha (q.es.map aI.key)
 rt:∀e∈q.es,0<=e.id∧2<=e.wt∧e.wt<=262144∧e.rem<e.wt
 cy:q.es.length<=128
 cur:q.cur=-1∨∃e∈q.es,e.id=q.cur
theorem zj:ks.Ok:=⟨by simp[ks],by simp[ks,ha],by simp[ks],by simp[ks],.inl rfl⟩
theorem aC.Ok.raise {q:aC} (h:q.Ok):q.raise.Ok:=⟨h.ids,h.sorted,h.rt,h.cy,h.cur⟩
theorem zk {q:aC} (h:q.Ok) {e:aI} (f:∀a∈q.es,a.id≠e.id) (i:0<=e.id∧2<=e.wt∧e.wt<=262144∧e.rem<e.wt) (j:q.es.length<128):aC.Ok {q with es:=fk e q.es}:=by
 have d:=mA rfl f;have g:=vH d;refine⟨?_,?_,?_,?_,?_⟩;·refine(g.map _).nodup_iff.2 ?_;rw[km,jL];refine⟨λq=>?_,h.ids⟩;obtain⟨a,b,e⟩:=eY.1 q;exact f a b e
 ·show ha ((fk e q.es).map aI.key);rw[vG];exact y_ h.sorted
 ·intro a b;rcases(oq d).1 b with rfl|b;·exact i
  ·exact h.rt a b
 ·show(fk e q.es).length<=128;rw[g.length_eq];simp;omega
 ·rcases h.cur with c|⟨a,b,c⟩;·exact .inl c
  ·exact .inr ⟨a,(oq d).2 (.inr b),c⟩
theorem zl {q:aC} (h:q.Ok) (k c:Int) (d:c=-1∨∃a∈q.es,a.id=c∧a.id≠k):aC.Ok {q with es:=eN k q.es,cur:=c}:=by
 refine⟨?_,?_,?_,?_,?_⟩;·exact List.Nodup.sublist (List.filter_sublist.map _) h.ids
 ·exact List.Pairwise.sublist (List.filter_sublist.map _) h.sorted
 ·intro a b;exact h.rt a (hx.1 b).1
 ·exact cA (py _ _) h.cy
 ·rcases d with c|⟨a,b,e,f⟩;·exact .inl c
  ·exact .inr ⟨a,hx.2 ⟨b,f⟩,e⟩
theorem qK {w:Int}:l7 w=true↔2<=w∧w<=262144:=by unfold l7;simp
theorem zm {q:aC} {e:aI} (h:q.dE e=0):0<=e.id∧2<=e.wt∧e.wt<=262144∧e.rem<e.wt∧cH e.id q.es=false∧q.es.length≠128:=by
 unfold aC.dE at h;split at h;·omega
 ·split at h;·omega
  ·split at h;·omega
   ·split at h;·omega
    ·split at h;·omega
     ·rename_i f a g b c;have d:l7 e.wt=true:=(by simpa using a);have:=qK.1 d;exact⟨by omega,by omega,by omega,by omega,by simpa using b,c⟩
theorem qL {k:Int} {l:List aI} (h:cH k l=false):∀a∈l,a.id≠k:=λa b c=>by have:=dC.2 ⟨a,b,c⟩;rw[h] at this;cases this
theorem aC.Ok.put {q:aC} (h:q.Ok) (e:aI):(q.put e).Ok:=by
 unfold aC.put;split;·rename_i a;obtain⟨b,c,d,f,g,i⟩:=zm a;have:=h.cy;exact(zk h (qL g) ⟨b,c,d,f⟩ (by omega)).raise
 ·exact h
theorem aC.Ok.drop {q:aC} (h:q.Ok) (k:Int):(q.drop k).Ok:=by
 unfold aC.drop;split
 ·refine(zl h k _ ?_).raise;split;·exact .inl rfl
  ·rename_i a;rcases h.cur with c|⟨b,d,c⟩;·exact .inl c
   ·exact .inr ⟨b,d,c,by rw[c];exact a⟩
 ·exact h
theorem aC.Ok.bO {q:aC} (h:q.Ok) (k:Int) (w:Nat):(q.bO k w).Ok:=by
 unfold aC.bO;split
 ·rename_i b;have f:2<=w∧w<=262144:=by
   unfold aC.fL at b;split at b
   ·split at b;·rename_i j;have:=qK.1 j;omega
    ·omega
   ·omega
  have i:∀a:aI,(if a.id=k then a.bO w else a).id=a.id:=λa=>by split<;>rfl
  have l:∀a:aI,(if a.id=k then a.bO w else a).key=a.key:=λa=>by split<;>rfl
  refine⟨?_,?_,?_,?_,?_⟩;·show((q.es.map _).map _).Nodup;rw[List.map_map,show((λa:aI=>a.id)∘λa=>if a.id=k then a.bO w else a)=λa=>a.id from funext i];exact h.ids
  ·show ha ((q.es.map _).map _);rw[List.map_map,show(aI.key∘λa=>if a.id=k then a.bO w else a)=aI.key from funext l];exact h.sorted
  ·intro a d;obtain⟨e,m,rfl⟩:=eY.1 d;have g:=h.rt e m;split;·refine⟨g.1,f.1,f.2,?_⟩;show e.rem*w/e.wt<w;rw[Nat.div_lt_iff_lt_mul (by omega),Nat.mul_comm w];exact Nat.mul_lt_mul_of_pos_right g.2.2.2 (by omega)
   ·exact g
  ·simpa using h.cy
  ·rcases h.cur with c|⟨a,d,c⟩;·exact .inl c
   ·exact .inr ⟨_,eY.2 ⟨a,d,rfl⟩,(i a).trans c⟩
 ·exact h
theorem aC.Ok.b4 {q:aC} (h:q.Ok) (ns:Nat):(q.b4 ns).Ok:=by
 unfold aC.b4;split;·exact h
 ·split;·exact h
  ·rename_i l e i;obtain⟨d,b⟩:=lC i;have g:=h.rt e d;have a:=zl h q.cur (-1) (.inl rfl);have j:(eN q.cur q.es).length<128:=(by have m:(eN q.cur q.es).length<q.es.length:=(by unfold eN;rw[List.length_filter_lt_length_iff_exists];exact⟨e,d,by simp[b]⟩);have:=h.cy;omega);have c:=zk a (e:=e.b4 ns) (λf a=>by show f.id≠e.id;rw[b];exact(hx.1 a).2) ⟨g.1,g.2.1,g.2.2.1,Nat.mod_lt _ (by omega)⟩ j;exact aC.Ok.raise (q:={q with es:=fk (e.b4 ns) (eN q.cur q.es)}) ⟨c.ids,c.sorted,c.rt,c.cy,.inr ⟨e.b4 ns,(oq (x:=e.b4 ns) (mA (k:=q.cur) (x:=e.b4 ns) b (λf a=>(hx.1 a).2))).2 (.inl rfl),b⟩⟩
theorem aC.ot {q:aC} {o:aI} (h:q.first=R o):o∈q.es:=by
 unfold aC.first at h;split at h;·cases h
 ·rename_i b l a;rw[a];split at h;·exact hK _ (List.mem_of_mem_head? h)
  ·rw[Option.some.inj h];exact e5
theorem aC.Ok.vJ {q:aC} (h:q.Ok) {o:aI} (a:o∈q.es):aC.Ok {q with cur:=o.id}:=⟨h.ids,h.sorted,h.rt,h.cy,.inr ⟨o,a,rfl⟩⟩
theorem aC.Ok.pick {q:aC} (h:q.Ok) (g:Int):(q.pick g).Ok:=by
 unfold aC.pick;split;·exact h
 ·rename_i o a;split;·exact h.vJ (aC.ot a)
  ·split;·exact h
   ·exact h.vJ (aC.ot a)
theorem aC.Ok.yield {q:aC} (h:q.Ok) (g:Int):(q.yield g).Ok:=by
 unfold aC.yield;split
 ·rename_i o c a b;split;·exact h.vJ (aC.ot a)
  ·exact h.pick g
 ·exact h.pick g
variable {e:aI}
structure aJ where
 up:Int
 deep:Int
 q:aC
 own:aI
 on:Bool
 stopped:Bool deriving DecidableEq
structure ad where
 ch:Int
 bG:Int
 gs:List (Option aJ) deriving DecidableEq
def ad.at (h:ad) (g:Int):Option aJ:=if g<0 then U else h.gs.getD g.toNat U
def ad.set (h:ad) (g:Int) (x:Option aJ):ad:={h with gs:=h.gs.set g.toNat x}
def ad.linked (h:ad) (g:Int):Option aJ:=if g=0 then U else h.at g
def iL:aJ:=⟨-1,0,ks,lB,false,false⟩
def h0 (a b:Int):ad:=⟨a,b,R iL::gY 31 U⟩
def ad.gx (h:ad) (g parent:Int):Int:=match h.at parent with
 |none=>1
 |some up=>if g<1∨32<=g then 1 else if(h.at g).isSome then 6 else if up.deep=8 then 5 else 0
def jR (g parent deep:Int):aJ:=⟨parent,deep,ks,⟨2*g+1,1024,0,0⟩,false,false⟩
def ad.link (h:ad) (g parent:Int):ad:=if h.gx g parent=0 then match h.at parent with
 |none=>h
 |some up=>h.set g (R (jR g parent (up.deep+1))) else h
def ad.under (h:ad):Nat->Int->Int->Bool
 |0,_,_=>false
 |n+1,g,top=>if g=-1 then false else if g=top then true else match h.at g with
  |none=>false
  |some G=>h.under n G.up top
def ad.c1 (h:ad) (g top:Int):Bool:=h.under 10 g top
def ad.below (h:ad) (g:Int):List Int:=((gi 32).map λi:Nat=>(i:Int)).filter λi=>(h.at i).isSome&&h.c1 i g
def ad.busy (h:ad) (i:Int):Bool:=match h.at i with|none=>false|some G=>!G.q.es.isEmpty
def ad.fA (h:ad) (i:Int):Int:=match h.at i with|none=>0|some G=>G.deep
def ad.kV (h:ad) (l:List Int):Int:=l.foldl (λd i=>max d (h.fA i)) 0
def ad.eh (h:ad) (g parent:Int):Int:=match h.linked g,h.at parent with
 |some x,R up=>if h.c1 parent g then 10 else if(h.below g).any h.busy then 6 else if 8<h.kV (h.below g)+(up.deep+1-x.deep) then 5 else 0
 |_,_=>1
def ad.minOf (h:ad) (i:Int):Int:=match h.at i with|none=>0|some G=>G.q.mn
def ad.fs (h:ad) (a:Int):List Int->ad
 |[]=>h
 |i::l=>
  match h.at i with
  |none=>h.fs a l
  |some G=>(h.set i (R {G with deep:=G.deep+a})).fs a l
def ad.move (h:ad) (g parent:Int):ad:=if h.eh g parent=0 then match h.linked g,h.at parent with
 |some x,R up=>
  let h':=h.fs (up.deep+1-x.deep) (h.below g);match h'.at g with
  |none=>h'
  |some y=>h'.set g (R {y with own:={y.own with v:=(kU y.own.v (h.minOf y.up) (h.minOf parent)).1},up:=parent})
 |_,_=>h else h
def ad.jh (h:ad) (g:Int):Int:=match h.linked g with
 |none=>1
 |some x=>if h.gs.any (λy=>match y with|none=>false|some y=>decide (y.up=g)) then 6 else if x.q.es.isEmpty then 0 else 6
def ad.unlink (h:ad) (g:Int):ad:=if h.jh g=0 then h.set g U else h
def aJ.fM (x:aJ):Bool:=!x.stopped&&!x.q.es.isEmpty
def ad.settle:Nat->ad->Int->ad
 |0,h,_=>h
 |n+1,h,g=>
  match h.at g with
  |none=>h
  |some x=>if x.up=-1 then h else match h.at x.up with
   |none=>h
   |some u=>if x.fM=x.on then h else if x.fM=true then ad.settle n ((h.set g (R {x with own:={x.own with v:=ic x.own.v u.q.mn h.ch},on:=true})).set x.up (R {u with q:=u.q.put {x.own with v:=ic x.own.v u.q.mn h.ch}})) x.up else ad.settle n ((h.set g (R {x with own:=u.q.ed (2*g+1),on:=false})).set x.up (R {u with q:=u.q.drop (2*g+1)})) x.up
def hc (n:Int):Bool:=decide (0<=n)&&decide (n<64)
def ad.dE (h:ad) (g:Int) (e:aI):Int:=match h.at g with
 |none=>1
 |some x=>if hc e.id=false then 1 else x.q.dE {e with id:=e.id*2}
def ad.put (h:ad) (g:Int) (e:aI):ad:=if h.dE g e=0 then match h.at g with
 |none=>h
 |some x=>ad.settle 10 (h.set g (R {x with q:=x.q.put {e with id:=e.id*2}})) g else h
def ad.e6 (h:ad) (g task:Int):Int:=match h.at g with
 |none=>1
 |some x=>if hc task=false then 1 else x.q.e6 (2*task)
def ad.ed (h:ad) (g task:Int):aI:=if h.e6 g task=0 then match h.at g with
 |none=>lB
 |some x=>{x.q.ed (2*task) with id:=task} else lB
def ad.drop (h:ad) (g task:Int):ad:=if h.e6 g task=0 then match h.at g with
 |none=>h
 |some x=>ad.settle 10 (h.set g (R {x with q:=x.q.drop (2*task)})) g else h
def ad.e8 (h:ad) (g task:Int) (w:Nat):Int:=match h.at g with
 |none=>1
 |some x=>if hc task=false then 1 else x.q.fL (2*task) w
def ad.nice (h:ad) (g task:Int) (w:Nat):ad:=match h.at g with
 |none=>h
 |some x=>if hc task=false then h else h.set g (R {x with q:=x.q.bO (2*task) w})
def ad.fL (h:ad) (g:Int) (w:Nat):Int:=match h.linked g with
 |none=>1
 |some x=>if w<2∨262144<w then 4 else if x.on then(match h.at x.up with|none=>0|some u=>u.q.fL (2*g+1) w) else 0
def ad.bO (h:ad) (g:Int) (w:Nat):ad:=match h.linked g with
 |none=>h
 |some x=>if w<2∨262144<w then h else if x.on then(match h.at x.up with|none=>h|some u=>h.set x.up (R {u with q:=u.q.bO (2*g+1) w})) else h.set g (R {x with own:=x.own.bO w})
def ad.stop (h:ad) (g:Int) (is:Bool):ad:=match h.linked g with
 |none=>h
 |some x=>ad.settle 10 (h.set g (R {x with stopped:=is})) g
def ad.gO:Nat->ad->Int->ad×Int
 |0,h,_=>(h,-1)
 |n+1,h,g=>
  match h.at g with
  |none=>(h,-1)
  |some x=>if(x.q.pick h.bG).cur<0∨(x.q.pick h.bG).cur%2=0 then(h.set g (R {x with q:=x.q.pick h.bG}),(x.q.pick h.bG).cur) else ad.gO n (h.set g (R {x with q:=x.q.pick h.bG})) ((x.q.pick h.bG).cur/2)
def ou (n:Int):Int:=if n<0 then-1 else n/2
def ad.pick (h:ad):ad:=(ad.gO 10 h 0).1
def ad.l8 (h:ad):Int:=ou (ad.gO 10 h 0).2
def ad.cC (h:ad):Nat->Int->List Int×Int
 |0,_=>([],-1)
 |n+1,g=>
  match h.at g with
  |none=>([],-1)
  |some x=>if x.q.cur<0∨x.q.cur%2=0 then([g],x.q.cur) else(g::(h.cC n (x.q.cur/2)).1,(h.cC n (x.q.cur/2)).2)
def ad.running (h:ad):Int:=ou (h.cC 10 0).2
def ad.yield (h:ad):ad:=if h.running=-1 then h.pick else match(h.cC 10 0).1.getLast? with
 |none=>h.pick
 |some g=>
  match h.at g with
  |none=>h.pick
  |some x=>(h.set g (R {x with q:=x.q.yield h.bG})).pick
def ad.yielded (h:ad):Int:=if h.running=-1 then h.l8 else match(h.cC 10 0).1.getLast? with
 |none=>h.l8
 |some g=>
  match h.at g with
  |none=>h.l8
  |some x=>(h.set g (R {x with q:=x.q.yield h.bG})).l8
def ad.ee (ns:Nat):List Int->ad->ad
 |[],h=>h
 |g::l,h=>
  match h.at g with
  |none=>ad.ee ns l h
  |some x=>ad.ee ns l (h.set g (R {x with q:=x.q.b4 ns}))
def ad.e7 (h:ad) (ns:Nat):Int:=if h.running=-1 then 7 else if 1000000000<ns then 8 else 0
def ad.b4 (h:ad) (ns:Nat):ad:=if h.e7 ns=0 then ad.ee ns (h.cC 10 0).1 h else h
theorem ad.dk {h:ad} {g:Int} {G:aJ} (e:h.at g=R G):0<=g∧g.toNat<h.gs.length∧h.gs[g.toNat]?=R (R G):=by
 unfold ad.at at e;split at e;·cases e
 ·rename_i b;rw[dy] at e;cases a:h.gs[g.toNat]? with
  |none=>rw[a] at e;cases e
  |some y=>rw[a] at e;simp only[kl] at e;exact⟨by omega,(bD.1 a).1,by rw[e]⟩
theorem ad.qM {h:ad} {g k:Int} {x:Option aJ} (c:0<=g) (b:g.toNat<h.gs.length):(h.set g x).at k=if k=g then x else h.at k:=by
 unfold ad.at ad.set;dsimp only;by_cases e:k=g;·subst e;rw[z0 (by omega),aj rfl,dy,cV b];rfl
 ·rw[z0 e];by_cases a:k<0;·rw[aj a,aj a]
  ·rw[z0 a,z0 a,dy,dy,dN (by omega)]
theorem ad.md (h:ad) (g:Int) (x:Option aJ):(h.set g x).gs.length=h.gs.length:=by unfold ad.set;simp
def cL (f:Int->Option aJ) (g:Int) (x:Option aJ) (k:Int):Option aJ:=if k=g then x else f k
theorem ad.dm {h:ad} {g:Int} {x:Option aJ} {G:aJ} (e:h.at g=R G):(h.set g x).at=cL h.at g x:=by funext k;have:=ad.dk e;rw[ad.qM this.1 this.2.1];rfl
def jS (g:Int) (e:aI):Prop:=e.id=2*g+1∧2<=e.wt∧e.wt<=262144∧e.rem<e.wt
def qN (n:Int):Prop:=∃i:Int,0<=i∧i<64∧n=2*i
structure cX (f:Int->Option aJ) (b:Int):Prop where
 lo:∀g G,f g=R G->0<=g∧g<32
 root:∃r,f 0=R r∧r.up=-1∧r.deep=0
 up:∀g G,f g=R G->g≠0->∃b8,f G.up=R b8∧G.deep=b8.deep+1
 deep:∀g G,f g=R G->0<=G.deep∧G.deep<=8
 q:∀g G,f g=R G->G.q.Ok
 ids:∀g G,f g=R G->∀e∈G.q.es,qN e.id∨∃c ar,e.id=2*c+1∧f c=R ar∧c≠0∧ar.up=g∧ar.on=true
 own:∀g G,f g=R G->g≠0->jS g G.own
 on:∀g G,f g=R G->g≠0->G.on=true->∃b8,f G.up=R b8∧cH (2*g+1) b8.q.es=true
 st:∀g G,f g=R G->g≠0->g≠b->G.on=G.fM
theorem vK:∀(n:Nat) (l:List Nat),l.Nodup->(∀x∈l,x<n)->l.length<=n
 |0,l,_,h=>by
  cases l with
  |nil=>simp
  |cons a l=>exact absurd (h a e5) (by omega)
 |n+1,l,c,h=>by
  by_cases d:n∈l;·have f:=vK n (l.erase n) (c.erase n) (λx b=>by have:=(c.mem_erase_iff).1 b;have:=h x this.2;omega);rw[List.length_erase_of_mem d] at f;have:=List.length_pos_of_mem d;omega
  ·have:=vK n l c (λx b=>by have:=h x b;have:x≠n:=λe=>d (e▸b);omega);omega
theorem cX.room {f:Int->Option aJ} {b g:Int} {G:aJ} (h:cX f b) (k:f g=R G):G.q.es.length≠128:=by
 have m:=h.q g G k;have d:∀e∈G.q.es,0<=e.id∧e.id<127:=by
  intro e j;rcases h.ids g G k e j with⟨i,n,l,u⟩|⟨c,ar,n,l,_⟩;·omega
  ·have:=h.lo c ar l;omega
 have o:(G.q.es.map λe=>e.id.toNat).Nodup:=by have:=m.ids;rw[qn,List.pairwise_map] at this⊢;refine this.imp_of_mem ?_;intro a p r s v;have:=d a r;have:=d p s;omega
 have:=vK 127 _ o (by intro x t;obtain⟨e,j,rfl⟩:=eY.1 t;have:=d e j;omega);simp only[dY] at this;omega
theorem cX.mB {f:Int->Option aJ} {b g:Int} {G:aJ} (h:cX f b) (c:f g=R G) (h0:g≠0):G.up≠g∧0<=G.up:=by obtain⟨d,a,i⟩:=h.up g G c h0;refine⟨λe=>?_,(h.lo _ _ a).1⟩;rw[e,c] at a;cases a;omega
theorem cX.ny {f:Int->Option aJ} {b g:Int} {G:aJ} (h:cX f b) (a:f g=R G):G.up=-1↔g=0:=by
 constructor;·intro e;refine Decidable.byContradiction λd=>?_;have:=(h.mB a d).2;omega
 ·rintro rfl;obtain⟨r,c,i,_⟩:=h.root;rw[a] at c;cases c;exact i
variable {S Z:Nat->Prop} {G:aJ} {f:Int->Option aJ} {P:List (List Nat)} {V:List (Int×Int)->ab->Prop} {L:List ByteArray}
theorem eV (f:Int->Option aJ) (g:Int) (x:Option aJ):cL f g x g=x:=by unfold cL;rw[aj rfl]
theorem gj {g k:Int} (x:Option aJ) (h:k≠g):cL f g x k=f k:=by unfold cL;rw[z0 h]
theorem hy {g k:Int} {x:Option aJ} (h:cL f g x k=R G):(k=g∧x=R G)∨(k≠g∧f k=R G):=by
 unfold cL at h;split at h;·exact .inl ⟨by assumption,h⟩
 ·exact .inr ⟨by assumption,h⟩
theorem aC.FK {q:aC} (h:q.dE e=0):(q.put e).es=fk e q.es:=by unfold aC.put;rw[aj h];rfl
theorem aC.l9 {q:aC} {d:aI} (h:q.dE e=0):d∈(q.put e).es↔d=e∨d∈q.es:=by rw[aC.FK h];exact oq (mA rfl (qL (zm h).2.2.2.2.1))
theorem aC.FL (q:aC) (k:Int):(q.drop k).es=eN k q.es:=by
 unfold aC.drop;split;·rfl
 ·rename_i a;unfold eN;rw[List.filter_eq_self.2];intro e b;have:=qL (by simpa using a) e b;simpa using this
theorem aC.mC {q:aC} {k:Int} {d:aI}:d∈(q.drop k).es↔d∈q.es∧d.id≠k:=by rw[aC.FL];exact hx
theorem cX.queue {b y g:Int} {l:aC} (h:cX f b) (m:f g=R G) (F:l.Ok) (H:∀e∈l.es,qN e.id∨∃i∈G.q.es,i.id=e.id) (I:∀i∈G.q.es,i.id%2=1->cH i.id l.es=true) (C:b=0∨b=y) (J:g=y∨(l.es.isEmpty=G.q.es.isEmpty)):cX (cL f g (R {G with q:=l})) y:=by
 have v:∀k a,f k=R a->∃w,cL f g (R {G with q:=l}) k=R w∧w.up=a.up∧w.deep=a.deep∧w.on=a.on:=by
  intro k a d;by_cases e:k=g;·subst e;rw[m] at d;cases d;exact⟨_,eV _ _ _,rfl,rfl,rfl⟩
  ·exact⟨a,(gj _ e).trans d,rfl,rfl,rfl⟩
 refine⟨?_,?_,?_,?_,?_,?_,?_,?_,?_⟩
 ·intro k a d;rcases hy d with⟨rfl,e⟩|⟨_,e⟩;·exact h.lo _ _ m
  ·exact h.lo _ _ e
 ·obtain⟨r,K,L,M⟩:=h.root;obtain⟨N,e,t,o,_⟩:=v 0 r K;exact⟨N,e,t.trans L,o.trans M⟩
 ·intro k a d j;rcases hy d with⟨rfl,e⟩|⟨_,e⟩;·cases e;obtain⟨s,p,n⟩:=h.up _ _ m j;obtain⟨z,e,t,o,_⟩:=v _ _ p;exact⟨z,e,by show G.deep=_;rw[o];exact n⟩
  ·obtain⟨s,p,n⟩:=h.up _ _ e j;obtain⟨z,e,t,o,_⟩:=v _ _ p;exact⟨z,e,by rw[o];exact n⟩
 ·intro k a d;rcases hy d with⟨rfl,e⟩|⟨_,e⟩;·cases e;exact(h.deep _ _ m:)
  ·exact h.deep _ _ e
 ·intro k a d;rcases hy d with⟨rfl,e⟩|⟨_,e⟩;·cases e;exact F
  ·exact h.q _ _ e
 ·have u:∀k a,f k=R a->∀i∈a.q.es,qN i.id∨∃c ar,i.id=2*c+1∧cL f g (R {G with q:=l}) c=R ar∧c≠0∧ar.up=k∧ar.on=true:=by
   intro k a d i n;rcases h.ids k a d i n with A|⟨c,ar,t,o,O,P,Q⟩;·exact .inl A
   ·obtain⟨S,e,T,X,U⟩:=v _ _ o;exact .inr ⟨c,S,t,e,O,T.trans P,U.trans Q⟩
  intro k a d e D;rcases hy d with⟨rfl,q⟩|⟨_,q⟩
  ·cases q;rcases H e D with A|⟨i,n,B⟩;·exact .inl A
   ·have:=u _ _ m i n;rw[B] at this;exact this
  ·exact u _ _ q e D
 ·intro k a d j;rcases hy d with⟨rfl,e⟩|⟨_,e⟩;·cases e;exact(h.own _ _ m j:)
  ·exact h.own _ _ e j
 ·have u:∀k a,f k=R a->k≠0->a.on=true->∃s,cL f g (R {G with q:=l}) a.up=R s∧cH (2*k+1) s.q.es=true:=by
   intro k a d j x;obtain⟨s,p,E⟩:=h.on k a d j x;by_cases e:a.up=g;·rw[e,m] at p;cases p;obtain⟨i,n,B⟩:=dC.1 E;refine⟨{G with q:=l},by rw[e];exact eV _ _ _,?_⟩;have:=I i n (by omega);rw[B] at this;exact this
   ·exact⟨s,(gj _ e).trans p,E⟩
  intro k a d j x;rcases hy d with⟨rfl,e⟩|⟨_,e⟩;·cases e;exact(u _ _ m j x:)
  ·exact u _ _ e j x
 ·intro k a d j V;rcases hy d with⟨rfl,e⟩|⟨_,e⟩;·cases e;have W:=J.resolve_left V;have:=h.st _ _ m j (by rcases C with e|e<;>omega);show G.on=(!G.stopped&&!l.es.isEmpty);rw[W,this];rfl
  ·exact h.st _ _ e j (by rcases C with e|e<;>omega)
theorem cX.nz {x:Int} {d m:aJ} {own':aI} {j:aC} {o:Bool} (h:cX f x) (n:f x=R d) (h0:x≠0) (u:f d.up=R m) (N:d.fM=o) (O:jS x own') (P:j.Ok) (Q:∀e∈j.es,(e.id=2*x+1∧o=true)∨∃g∈m.q.es,g.id=e.id∧g.id≠2*x+1) (S:∀g∈m.q.es,g.id≠2*x+1->cH g.id j.es=true) (T:o=true->cH (2*x+1) j.es=true):cX (cL (cL f x (R {d with own:=own',on:=o})) d.up (R {m with q:=j})) d.up:=by
 have F:=(h.mB n h0).1;have v:∀k a,cL (cL f x (R {d with own:=own',on:=o})) d.up (R {m with q:=j}) k=R a->(k=d.up∧a={m with q:=j})∨(k=x∧a={d with own:=own',on:=o})∨(k≠d.up∧k≠x∧f k=R a):=by
  intro k a b;rcases hy b with⟨e,q⟩|⟨e,q⟩;·exact .inl ⟨e,(Option.some.inj q).symm⟩
  ·rcases hy q with⟨p,q⟩|⟨p,q⟩;·exact .inr (.inl ⟨p,(Option.some.inj q).symm⟩)
   ·exact .inr (.inr ⟨e,p,q⟩)
 have G:∀k a,f k=R a->∃D,cL (cL f x (R {d with own:=own',on:=o})) d.up (R {m with q:=j}) k=R D∧D.up=a.up∧D.deep=a.deep∧(k≠x->D.on=a.on):=by
  intro k a b;by_cases e:k=d.up;·subst e;rw[u] at b;cases b;exact⟨_,eV _ _ _,rfl,rfl,λ_=>rfl⟩
  ·by_cases p:k=x;·subst p;rw[n] at b;cases b;exact⟨_,(gj _ e).trans (eV _ _ _),rfl,rfl,λq=>absurd rfl q⟩
   ·exact⟨a,(gj _ e).trans ((gj _ p).trans b),rfl,rfl,λ_=>rfl⟩
 have J:cL (cL f x (R {d with own:=own',on:=o})) d.up (R {m with q:=j}) d.up=R {m with q:=j}:=eV _ _ _;have K:cL (cL f x (R {d with own:=own',on:=o})) d.up (R {m with q:=j}) x=R {d with own:=own',on:=o}:=(gj _ (Ne.symm F)).trans (eV _ _ _);refine⟨?_,?_,?_,?_,?_,?_,?_,?_,?_⟩
 ·intro k a b;rcases v k a b with⟨rfl,_⟩|⟨rfl,_⟩|⟨_,_,e⟩;·exact h.lo _ _ u
  ·exact h.lo _ _ n
  ·exact h.lo _ _ e
 ·obtain⟨r,U,W,X⟩:=h.root;obtain⟨Y,e,B,w,_⟩:=G 0 r U;exact⟨Y,e,B.trans W,w.trans X⟩
 ·have s:∀k a,f k=R a->k≠0->∃y,cL (cL f x (R {d with own:=own',on:=o})) d.up (R {m with q:=j}) a.up=R y∧a.deep=y.deep+1:=by intro k a b l;obtain⟨V,z,t⟩:=h.up _ _ b l;obtain⟨y,e,B,w,_⟩:=G _ _ z;exact⟨y,e,by rw[w];exact t⟩
  intro k a b l;rcases v k a b with⟨rfl,rfl⟩|⟨rfl,rfl⟩|⟨_,_,e⟩;·exact(s _ _ u l:)
  ·exact(s _ _ n l:)
  ·exact s _ _ e l
 ·intro k a b;rcases v k a b with⟨rfl,rfl⟩|⟨rfl,rfl⟩|⟨_,_,e⟩;·exact(h.deep _ _ u:)
  ·exact(h.deep _ _ n:)
  ·exact h.deep _ _ e
 ·intro k a b;rcases v k a b with⟨rfl,rfl⟩|⟨rfl,rfl⟩|⟨_,_,e⟩;·exact P
  ·exact(h.q _ _ n:)
  ·exact h.q _ _ e
 ·have s:∀k a,f k=R a->∀g∈a.q.es,g.id≠2*x+1->qN g.id∨∃c ar,g.id=2*c+1∧cL (cL f x (R {d with own:=own',on:=o})) d.up (R {m with q:=j}) c=R ar∧c≠0∧ar.up=k∧ar.on=true:=by
   intro k a b g t Z;rcases h.ids k a b g t with aa|⟨c,ar,B,w,aq,H,ac⟩;·exact .inl aa
   ·obtain⟨az,e,ad,ae,aB⟩:=G _ _ w;exact .inr ⟨c,az,B,e,aq,ad.trans H,(aB (λq=>Z (by omega))).trans ac⟩
  have L:∀k a,f k=R a->k≠d.up->∀g∈a.q.es,g.id≠2*x+1:=by
   intro k a b aA g t e;rcases h.ids k a b g t with⟨i,_,_,q⟩|⟨c,ar,B,w,_,H,_⟩;·omega
   ·have:c=x:=(by omega);subst this;rw[n] at w;cases w;exact aA H.symm
  intro k a b e C;rcases v k a b with⟨rfl,rfl⟩|⟨rfl,rfl⟩|⟨aG,E,M⟩
  ·rcases Q e C with⟨q,A⟩|⟨g,t,q,ab⟩;·exact .inr ⟨x,_,q,K,h0,rfl,A⟩
   ·have:=s _ _ u g t ab;rw[q] at this;exact this
  ·exact s _ _ n e C (L _ _ n (Ne.symm F) e C)
  ·exact s _ _ M e C (L _ _ M aG e C)
 ·intro k a b l;rcases v k a b with⟨rfl,rfl⟩|⟨rfl,rfl⟩|⟨_,_,e⟩;·exact(h.own _ _ u l:)
  ·exact O
  ·exact h.own _ _ e l
 ·have s:∀k a,f k=R a->k≠0->k≠x->a.on=true->∃y,cL (cL f x (R {d with own:=own',on:=o})) d.up (R {m with q:=j}) a.up=R y∧cH (2*k+1) y.q.es=true:=by
   intro k a b l am A;obtain⟨V,z,I⟩:=h.on k a b l A;by_cases e:a.up=d.up;·rw[e,u] at z;cases z;obtain⟨g,t,aL⟩:=dC.1 I;refine⟨{m with q:=j},by rw[e];exact J,?_⟩;have:=S g t (by omega);rw[aL] at this;exact this
   ·by_cases p:a.up=x;·rw[p,n] at z;cases z;exact⟨{d with own:=own',on:=o},by rw[p];exact K,I⟩
    ·exact⟨V,(gj _ e).trans ((gj _ p).trans z),I⟩
  intro k a b l A;rcases v k a b with⟨rfl,rfl⟩|⟨rfl,rfl⟩|⟨_,E,e⟩;·exact(s _ _ u l F A:)
  ·exact⟨_,J,T A⟩
  ·exact s _ _ e l E A
 ·intro k a b l af;rcases v k a b with⟨rfl,rfl⟩|⟨rfl,rfl⟩|⟨_,E,e⟩;·exact absurd rfl af
  ·exact N.symm
  ·exact h.st _ _ e l E
theorem cX.zn {b x:Int} {a d:aJ} (h:cX f b) (j:f x=R a) (k:f a.up=R d) (l:a.on=false):cH (2*x+1) d.q.es=false:=by
 cases m:cH (2*x+1) d.q.es with
 |false=>rfl
 |true=>
  obtain⟨n,o,p⟩:=dC.1 m;rcases h.ids _ _ k n o with⟨i,_,_,r⟩|⟨c,ar,s,e,_,t,g⟩;·omega
  ·have:c=x:=(by omega);subst this;rw[j] at e;cases e;rw[l] at g;cases g
theorem cX.dE {f:Int->Option aJ} {b x:Int} {a c:aJ} {e:aI} (h:cX f b) (g:f x=R a) (n:0<=x) (d:f a.up=R c) (i:a.on=false) (j:jS x e):c.q.dE e=0:=by unfold aC.dE;have k:=h.zn g d i;have l:=h.room d;obtain⟨m,o,p,r⟩:=j;rw[z0 (by omega),z0 (by rw[qK.2 ⟨by omega,by omega⟩];simp),z0 (by omega),m,k,z0 (by simp),z0 l]
theorem cX.vL {x:Int} {a j:aJ} (h:cX f x) (c:f x=R a) (h0:x≠0) (d:f a.up=R j) (l:a.on=false) (m:a.fM=true) (g:jS x e):cX (cL (cL f x (R {a with own:=e,on:=true})) a.up (R {j with q:=j.q.put e})) a.up:=by
 have k:=h.dE c (h.lo _ _ c).1 d l g;refine h.nz c h0 d m g ((h.q _ _ d).put e) ?_ ?_ ?_
 ·intro i b;rcases(aC.l9 k).1 b with rfl|b;·exact .inl ⟨g.1,rfl⟩
  ·exact .inr ⟨i,b,rfl,qL (h.zn c d l) i b⟩
 ·intro i b _;exact dC.2 ⟨i,(aC.l9 k).2 (.inr b),rfl⟩
 ·intro _;exact dC.2 ⟨e,(aC.l9 k).2 (.inl rfl),g.1⟩
theorem aC.Ok.FM {q:aC} (h:q.Ok) {x:Int} (c:cH (2*x+1) q.es=true):jS x (q.ed (2*x+1)):=by obtain⟨d,a,b⟩:=dC.1 c;unfold aC.ed;rw[<-b,qI h.ids a];have:=h.rt d a;exact⟨b,this.2.1,this.2.2.1,this.2.2.2⟩
theorem cX.vM {x:Int} {a b:aJ} (h:cX f x) (j:f x=R a) (h0:x≠0) (c:f a.up=R b) (l:a.on=true) (m:a.fM=false):cX (cL (cL f x (R {a with own:=b.q.ed (2*x+1),on:=false})) a.up (R {b with q:=b.q.drop (2*x+1)})) a.up:=by
 have d:cH (2*x+1) b.q.es=true:=by obtain⟨V,k,d⟩:=h.on x a j h0 l;rw[c] at k;cases k;exact d
 refine h.nz j h0 c m ((h.q _ _ c).FM d) ((h.q _ _ c).drop _) ?_ ?_ (λe=>by cases e);·intro g i;have:=aC.mC.1 i;exact .inr ⟨g,this.1,rfl,this.2⟩
 ·intro g i n;exact dC.2 ⟨g,aC.mC.2 ⟨i,n⟩,rfl⟩
structure ad.Ok (h:ad):Prop where
 len:h.gs.length=32
 g:cX h.at 0
theorem aJ.stay {b:Int} (h:cX f b) (d:f b=R G) (g:b=0∨G.on=G.fM):cX f 0:=⟨h.lo,h.root,h.up,h.deep,h.q,h.ids,h.own,h.on,λk i a c _=>by
 by_cases e:k=b;·subst e;rw[d] at a;cases a;exact g.resolve_left c
 ·exact h.st k i a c e⟩
theorem jS.vN {x:Int} (h:jS x e) (v:Int):jS x {e with v:=v}:=h
theorem ad.FN (n:Nat):∀(a:ad) (g:Int),(a.settle n g).gs.length=a.gs.length:=by
 induction n with
 |zero=>intro a g;rfl
 |succ n b=>
  intro a g;unfold ad.settle;split;·rfl
  ·split;·rfl
   ·split;·rfl
    ·split;·rfl
     ·split;·rw[b,ad.md,ad.md]
      ·rw[b,ad.md,ad.md]
theorem ad.FO (n:Nat):∀(c:ad) (g:Int) (G:aJ),c.at g=R G->G.deep<n->cX c.at g->cX (c.settle n g).at 0:=by
 induction n with
 |zero=>intro c g G a t b;have:=(b.deep g G a).1;omega
 |succ n u=>
  intro c g G a t b;unfold ad.settle;rw[a];dsimp only;by_cases d:g=0;·rw[aj ((b.ny a).2 d)];exact aJ.stay b a (.inl d)
  ·rw[z0 (λe=>d ((b.ny a).1 e))];obtain⟨h,l,z⟩:=b.up g G a d;rw[l];dsimp only;have v:=(b.mB a d).1;by_cases f:G.fM=G.on;·rw[aj f];exact aJ.stay b a (.inr f.symm)
   ·rw[z0 f];have p:∀(y:aJ) (i:aC),cX (cL (cL c.at g (R y)) G.up (R {h with q:=i})) G.up->cX (((c.set g (R y)).set G.up (R {h with q:=i})).settle n G.up).at 0:=by
     intro y i j;have r:=ad.dm (x:=R y) a;have w:(c.set g (R y)).at G.up=R h:=(by rw[r];exact(gj _ v).trans l);have m:=ad.dm (x:=R {h with q:=i}) w;rw[r] at m;refine u _ _ {h with q:=i} ?_ ?_ (by rw[m];exact j);·rw[m];exact eV _ _ _
     ·show h.deep<n;omega
    by_cases k:G.fM=true
    ·rw[aj k];have o:G.on=false:=by cases j:G.on with
      |false=>rfl
      |true=>rw[j] at f;exact absurd k f
     exact p _ _ (b.vL a d l o k ((b.own g G a d).vN _))
    ·have s:G.fM=false:=(by simpa using k);rw[z0 k];have o:G.on=true:=by cases j:G.on with
      |true=>rfl
      |false=>rw[j,s] at f;exact absurd rfl f
     exact p _ _ (b.vM a d l o s)
theorem ad.Ok.settled {h:ad} {g:Int} (b:h.gs.length=32) (a:h.at g=R G) (hk:cX h.at g):(h.settle 10 g).Ok:=⟨by rw[ad.FN];exact b,ad.FO 10 h g G a (by have:=(hk.deep g G a).2;omega) hk⟩
theorem vO {n:Int} (h:hc n=true):qN (n*2):=by unfold hc at h;simp only[jb,decide_eq_true_eq] at h;exact⟨n,h.1,h.2,by omega⟩
theorem ad.Ok.put {h:ad} (hk:h.Ok) (g:Int) (e:aI):(h.put g e).Ok:=by
 unfold ad.put;split
 ·rename_i a;unfold ad.dE at a;split;·exact hk
  ·rename_i x c;rw[c] at a;dsimp only at a;split at a;·omega
   ·rename_i i;have j:hc e.id=true:=(by simpa using i);have f:=ad.dm (x:=R {x with q:=x.q.put {e with id:=e.id*2}}) c;refine ad.Ok.settled (G:={x with q:=x.q.put {e with id:=e.id*2}}) (by rw[ad.md];exact hk.len) ?_ ?_;·rw[f];exact eV _ _ _
    ·rw[f];refine hk.g.queue c ((hk.g.q g x c).put _) ?_ ?_ (.inl rfl) (.inl rfl)
     ·intro d b;rcases(aC.l9 a).1 b with rfl|b;·exact .inl (vO j)
      ·exact .inr ⟨d,b,rfl⟩
     ·intro d b _;exact dC.2 ⟨d,(aC.l9 a).2 (.inr b),rfl⟩
 ·exact hk
theorem ad.Ok.drop {h:ad} (hk:h.Ok) (g task:Int):(h.drop g task).Ok:=by
 unfold ad.drop;split
 ·split;·exact hk
  ·rename_i x a;have d:=ad.dm (x:=R {x with q:=x.q.drop (2*task)}) a;refine ad.Ok.settled (G:={x with q:=x.q.drop (2*task)}) (by rw[ad.md];exact hk.len) ?_ ?_;·rw[d];exact eV _ _ _
   ·rw[d];refine hk.g.queue a ((hk.g.q g x a).drop _) ?_ ?_ (.inl rfl) (.inl rfl);·intro b c;exact .inr ⟨b,(aC.mC.1 c).1,rfl⟩
    ·intro b c e;exact dC.2 ⟨b,aC.mC.2 ⟨c,by omega⟩,rfl⟩
 ·exact hk
theorem ad.Ok.same {h:ad} (hk:h.Ok) {g:Int} {x:aJ} (f:h.at g=R x) {b:aC} (j:b.Ok) (c:∀k,cH k b.es=cH k x.q.es):(h.set g (R {x with q:=b})).Ok:=by
 have m:=ad.dm (x:=R {x with q:=b}) f;refine⟨by rw[ad.md];exact hk.len,?_⟩;rw[m];refine hk.g.queue f j ?_ ?_ (.inl rfl) (.inr ?_);·intro a d;have:=dC.1 ((c a.id).symm.trans (dC.2 ⟨a,d,rfl⟩));exact .inr this
 ·intro a d _;exact(c a.id).trans (dC.2 ⟨a,d,rfl⟩)
 ·cases i:b.es with
  |nil=>
   cases e:x.q.es with
   |nil=>rfl
   |cons a l=>have:=(c a.id).trans (dC.2 ⟨a,by rw[e];exact e5,rfl⟩);rw[i] at this;cases this
  |cons a l=>
   cases e:x.q.es with
   |cons _ _=>rfl
   |nil=>have:=(c a.id).symm.trans (dC.2 ⟨a,by rw[i];exact e5,rfl⟩);rw[e] at this;cases this
theorem aC.sE (q:aC) (k:Int) (n:Nat) (i:Int):cH i (q.bO k n).es=cH i q.es:=by
 unfold aC.bO;split
 ·show cH i (q.es.map λe=>if e.id=k then e.bO n else e)=_;rw[hN,dC,dC];have d:∀a:aI,(if a.id=k then a.bO n else a).id=a.id:=λa=>by split<;>rfl
  constructor;·rintro⟨x,f,b⟩;obtain⟨a,c,rfl⟩:=eY.1 f;exact⟨a,c,(d a).symm.trans b⟩
  ·rintro⟨a,c,b⟩;exact⟨_,eY.2 ⟨a,c,rfl⟩,(d a).trans b⟩
 ·rfl
theorem aC.ov (q:aC) (g:Int):(q.pick g).es=q.es:=by
 unfold aC.pick;split;·rfl
 ·split;·rfl
  ·split<;>rfl
theorem aC.qO (q:aC) (g:Int):(q.yield g).es=q.es:=by
 unfold aC.yield;split
 ·split;·rfl
  ·exact aC.ov q g
 ·exact aC.ov q g
theorem aC.sF {q:aC} (h:q.Ok) (ns:Nat) (i:Int):cH i (q.b4 ns).es=cH i q.es:=by
 unfold aC.b4;split;·rfl
 ·split;·rfl
  ·rename_i e f;obtain⟨g,j⟩:=lC f;show cH i (fk (e.b4 ns) (eN q.cur q.es))=_;have d:∀a,a∈fk (e.b4 ns) (eN q.cur q.es)↔a=e.b4 ns∨a∈eN q.cur q.es:=λa=>oq (mA (k:=q.cur) j (λa b=>(hx.1 b).2));rw[hN,dC,dC];constructor
   ·rintro⟨a,b,c⟩;rcases(d a).1 b with rfl|b;·exact⟨e,g,c⟩
    ·exact⟨a,(hx.1 b).1,c⟩
   ·rintro⟨a,b,c⟩;by_cases l:a.id=q.cur;·exact⟨e.b4 ns,(d _).2 (.inl rfl),by show e.id=i;omega⟩
    ·exact⟨a,(d _).2 (.inr (hx.2 ⟨b,l⟩)),c⟩
theorem ad.Ok.nice {h:ad} (hk:h.Ok) (g task:Int) (w:Nat):(h.nice g task w).Ok:=by
 unfold ad.nice;split;·exact hk
 ·rename_i x a;split;·exact hk
  ·exact hk.same a ((hk.g.q g x a).bO _ _) (aC.sE _ _ _)
theorem cX.other {b w g:Int} {own':aI} {st:Bool} (h:cX f b) (x:f g=R G) (C:g≠0->jS g own') (D:b=0∨b=w) (E:g=w∨st=G.stopped):cX (cL f g (R {G with own:=own',stopped:=st})) w:=by
 have t:∀k a,f k=R a->∃d,cL f g (R {G with own:=own',stopped:=st}) k=R d∧d.up=a.up∧d.deep=a.deep∧d.on=a.on∧d.q=a.q:=by
  intro k a i;by_cases e:k=g;·subst e;rw[x] at i;cases i;exact⟨_,eV _ _ _,rfl,rfl,rfl,rfl⟩
  ·exact⟨a,(gj _ e).trans i,rfl,rfl,rfl,rfl⟩
 have n:∀k a,cL f g (R {G with own:=own',stopped:=st}) k=R a->∃d,f k=R d∧a.up=d.up∧a.deep=d.deep∧a.on=d.on∧a.q=d.q∧(k≠g->a=d)∧(k=g->a.own=own'∧a.stopped=st):=by
  intro k a i;rcases hy i with⟨rfl,e⟩|⟨F,e⟩;·cases e;exact⟨_,x,rfl,rfl,rfl,rfl,λj=>absurd rfl j,λ_=>⟨rfl,rfl⟩⟩
  ·exact⟨_,e,rfl,rfl,rfl,rfl,λ_=>rfl,λj=>absurd j F⟩
 refine⟨?_,?_,?_,?_,?_,?_,?_,?_,?_⟩;·intro k a i;obtain⟨d,e,_⟩:=n k a i;exact h.lo _ _ e
 ·obtain⟨r,H,I,J⟩:=h.root;obtain⟨K,e,l,m,_⟩:=t 0 r H;exact⟨K,e,l.trans I,m.trans J⟩
 ·intro k a i o;obtain⟨d,e,l,m,_⟩:=n k a i;obtain⟨L,y,v⟩:=h.up _ _ e o;obtain⟨z,u,u1,u2,_⟩:=t _ _ y;exact⟨z,by rw[l];exact u,by rw[m,u2];exact v⟩
 ·intro k a i;obtain⟨d,e,l,m,_⟩:=n k a i;rw[m];exact h.deep _ _ e
 ·intro k a i;obtain⟨d,e,l,m,s,p,_⟩:=n k a i;rw[p];exact h.q _ _ e
 ·intro k a i M v;obtain⟨d,e,l,m,s,p,_⟩:=n k a i;rw[p] at v;rcases h.ids k d e M v with N|⟨c,ar,O,P,Q,S,T⟩;·exact .inl N
  ·obtain⟨U,u,u1,u2,u3,_⟩:=t _ _ P;exact .inr ⟨c,U,O,u,Q,u1.trans S,u3.trans T⟩
 ·intro k a i o;obtain⟨d,e,l,m,s,p,A,B⟩:=n k a i;by_cases j:k=g;·rw[(B j).1,j];exact C (j▸o)
  ·rw[A j];exact h.own _ _ e o
 ·intro k a i o V;obtain⟨d,e,l,m,s,p,_⟩:=n k a i;obtain⟨L,y,W⟩:=h.on k d e o (s▸V);obtain⟨z,u,u1,u2,u3,u4⟩:=t _ _ y;exact⟨z,by rw[l];exact u,by rw[u4];exact W⟩
 ·intro k a i o X;obtain⟨d,e,l,m,s,p,A,B⟩:=n k a i;have:=h.st k d e o (by rcases D with e|e<;>omega);rw[s,this];show(!d.stopped&&!d.q.es.isEmpty)=(!a.stopped&&!a.q.es.isEmpty);rw[p];by_cases j:k=g;·have Y:=E.resolve_left (λr=>X (j.trans r));subst j;rw[x] at e;cases e;rw[(B rfl).2,Y]
  ·rw[A j]
theorem kt {h:ad} {g:Int} {x:aJ} (e:h.linked g=R x):g≠0∧h.at g=R x:=by
 unfold ad.linked at e;split at e;·cases e
 ·exact⟨by assumption,e⟩
theorem jS.bO {g:Int} {e:aI} (h:jS g e) {w:Nat} (a:2<=w) (b:w<=262144):jS g (e.bO w):=by refine⟨h.1,a,b,?_⟩;show e.rem*w/e.wt<w;have:=h.2.1;rw[Nat.div_lt_iff_lt_mul (by omega),Nat.mul_comm w];exact Nat.mul_lt_mul_of_pos_right h.2.2.2 (by omega)
theorem ad.Ok.bO {h:ad} (hk:h.Ok) (g:Int) (w:Nat):(h.bO g w).Ok:=by
 unfold ad.bO;split;·exact hk
 ·rename_i x a;obtain⟨c,a⟩:=kt a;split;·exact hk
  ·rename_i e;split
   ·split;·exact hk
    ·rename_i u b;exact hk.same b ((hk.g.q _ u b).bO _ _) (aC.sE _ _ _)
   ·have d:=ad.dm (x:=R {x with own:=x.own.bO w}) a;refine⟨by rw[ad.md];exact hk.len,?_⟩;rw[d];exact hk.g.other (st:=x.stopped) a (λ_=>(hk.g.own g x a c).bO (by omega) (by omega)) (.inl rfl) (.inr rfl)
theorem ad.Ok.stop {h:ad} (hk:h.Ok) (g:Int) (is:Bool):(h.stop g is).Ok:=by
 unfold ad.stop;split;·exact hk
 ·rename_i x a;obtain⟨b,a⟩:=kt a;have c:=ad.dm (x:=R {x with stopped:=is}) a;refine ad.Ok.settled (G:={x with stopped:=is}) (by rw[ad.md];exact hk.len) ?_ ?_;·rw[c];exact eV _ _ _
  ·rw[c];exact hk.g.other (own':=x.own) a (λb=>hk.g.own g x a b) (.inl rfl) (.inl rfl)
theorem ad.Ok.gO (n:Nat):∀(a:ad) (g:Int),a.Ok->(ad.gO n a g).1.Ok:=by
 induction n with
 |zero=>intro a g b;exact b
 |succ n d=>
  intro a g b;unfold ad.gO;split;·exact b
  ·rename_i x c;have:=b.same c ((b.g.q g x c).pick a.bG) (λk=>by rw[aC.ov]);split;·exact this
   ·exact d _ _ this
theorem ad.Ok.pick {h:ad} (hk:h.Ok):h.pick.Ok:=ad.Ok.gO 10 h 0 hk
theorem ad.Ok.yield {h:ad} (hk:h.Ok):h.yield.Ok:=by
 unfold ad.yield;split;·exact hk.pick
 ·split;·exact hk.pick
  ·split;·exact hk.pick
   ·rename_i x a;exact(hk.same a ((hk.g.q _ x a).yield h.bG) (λk=>by rw[aC.qO])).pick
theorem ad.Ok.ee (ns:Nat) (l:List Int):∀b:ad,b.Ok->(ad.ee ns l b).Ok:=by
 induction l with
 |nil=>intro b a;exact a
 |cons g l d=>
  intro b a;unfold ad.ee;split;·exact d _ a
  ·rename_i x c;exact d _ (a.same c ((a.g.q g x c).b4 ns) (aC.sF (a.g.q g x c) ns))
theorem ad.Ok.b4 {h:ad} (hk:h.Ok) (ns:Nat):(h.b4 ns).Ok:=by
 unfold ad.b4;split;·exact ad.Ok.ee _ _ _ hk
 ·exact hk
abbrev eO:=Int->Option (Int×Int)
def ji (s:eO):Nat->Int->Int->Bool
 |0,_,_=>false
 |n+1,g,top=>if g=-1 then false else if g=top then true else match s g with
  |none=>false
  |some p=>ji s n p.1 top
structure fN (s:eO):Prop where
 lo:∀g p,s g=R p->0<=g∧g<32
 root:s 0=R (-1,0)
 up:∀g p,s g=R p->g≠0->∃q,s p.1=R q∧p.2=q.2+1
 deep:∀g p,s g=R p->0<=p.2∧p.2<=8
theorem fN.zero {s:eO} (h:fN s) {g:Int} {p:Int×Int} (a:s g=R p) (d:p.2=0):g=0:=by refine Decidable.byContradiction λb=>?_;obtain⟨f,c,e⟩:=h.up g p a b;have:=(h.deep _ _ c).1;omega
theorem fN.fuel {s:eO} (h:fN s) (top:Int):∀(n m:Nat) (g:Int) (p:Int×Int),s g=R p->p.2<n->p.2<m->ji s n g top=ji s m g top
 |0,_,g,p,a,c,_=>by have:=(h.deep _ _ a).1;omega
 |n+1,0,g,p,a,_,hm=>by have:=(h.deep _ _ a).1;omega
 |n+1,m+1,g,p,a,c,hm=>by
  unfold ji;split;·rfl
  ·split;·rfl
   ·rw[a];dsimp only;by_cases b:g=0
    ·subst b;rw[h.root] at a;cases a;have e:∀k,ji s k (-1) top=false:=λk=>by cases k<;>simp[ji]
     rw[e,e]
    ·obtain⟨d,f,e⟩:=h.up g p a b;exact fN.fuel h top n m p.1 d f (by omega) (by omega)
def ez (s:eO) (g top:Int):Bool:=ji s 10 g top
theorem fN.qP {s:eO} (h:fN s) (top:Int):ez s 0 top=decide (0=top):=by
 unfold ez ji;rw[z0 (by omega),h.root];by_cases e:0=top;·rw[aj e];simp[e]
 ·rw[z0 e];simp[ji,e]
theorem fN.ow {s:eO} (h:fN s) {g top:Int} {p:Int×Int} (a:s g=R p) (h0:g≠0):ez s g top=(decide (g=top)||ez s p.1 top):=by
 obtain⟨b,c,e⟩:=h.up g p a h0;have d:=h.deep _ _ a;have f:=h.lo _ _ a;unfold ez;rw[show ji s 10 g top=if g=-1 then false else if g=top then true else match s g with|none=>false|some p=>ji s 9 p.1 top from rfl,z0 (by omega),a];dsimp only;rw[h.fuel top 9 10 p.1 b c (by omega) (by omega)];by_cases e:g=top;·rw[aj e];simp[e]
 ·rw[z0 e];simp[e]
theorem fN.zo {s:eO} (h:fN s) {g:Int} {p:Int×Int} (b:s g=R p):ez s g g=true:=by
 by_cases a:g=0;·subst a;rw[h.qP];simp
 ·rw[h.ow b a];simp
def kW (s:eO) (g parent a:Int):eO:=λk=>
 match s k with
 |none=>U
 |some p=>if ez s k g then R (if k=g then parent else p.1,p.2+a) else R p
theorem fN.move {s:eO} (h:fN s) {g parent:Int} {p q:Int×Int} (t:s g=R p) (h0:g≠0) (u:s parent=R q) (x:ez s parent g=false) (y:∀k r,s k=R r->ez s k g=true->r.2+(q.2+1-p.2)<=8):fN (kW s g parent (q.2+1-p.2)):=by
 have m:∀k r,kW s g parent (q.2+1-p.2) k=R r->∃a,s k=R a∧((ez s k g=true∧r=(if k=g then parent else a.1,a.2+(q.2+1-p.2)))∨(ez s k g=false∧r=a)):=by
  intro k r d;unfold kW at d;cases hk:s k with
  |none=>rw[hk] at d;cases d
  |some a=>
   rw[hk] at d;dsimp only at d;refine⟨a,rfl,?_⟩;cases b:ez s k g with
   |true=>rw[b,aj rfl] at d;exact .inl ⟨rfl,(Option.some.inj d).symm⟩
   |false=>rw[b,z0 (by simp)] at d;exact .inr ⟨rfl,(Option.some.inj d).symm⟩
 have z:∀k a,s k=R a->ez s k g=true->kW s g parent (q.2+1-p.2) k=R (if k=g then parent else a.1,a.2+(q.2+1-p.2)):=by intro k a hk b;unfold kW;rw[hk];dsimp only;rw[b,aj rfl]
 have o:∀k a,s k=R a->ez s k g=false->kW s g parent (q.2+1-p.2) k=R a:=by intro k a hk b;unfold kW;rw[hk];dsimp only;rw[b,z0 (by simp)]
 have w:ez s 0 g=false:=by rw[h.qP];simp;omega
 refine⟨?_,o _ _ h.root w,?_,?_⟩;·intro k r d;obtain⟨a,c,_⟩:=m k r d;exact h.lo _ _ c
 ·intro k r d f;obtain⟨a,c,⟨b,e⟩|⟨b,e⟩⟩:=m k r d
  ·subst e;dsimp only;by_cases i:k=g;·rw[aj i];subst i;rw[t] at c;cases c;exact⟨q,o _ _ u x,by omega⟩
   ·rw[z0 i];obtain⟨v,l,e⟩:=h.up k a c f;have j:=h.ow (top:=g) c f;rw[b] at j;simp only[i,decide_false,Bool.false_or] at j;exact⟨_,z _ _ l j.symm,by dsimp only;omega⟩
  ·subst e;obtain⟨v,l,e⟩:=h.up k r c f;have j:=h.ow (top:=g) c f;rw[b] at j;have A:ez s r.1 g=false:=by
    cases B:ez s r.1 g with
    |false=>rfl
    |true=>rw[B] at j;simp at j
   exact⟨v,o _ _ l A,e⟩
 ·intro k r d;obtain⟨a,c,⟨b,e⟩|⟨b,e⟩⟩:=m k r d
  ·have C:=y k a c b;subst e;refine⟨?_,C⟩;dsimp only;have D:∀(n:Nat) (k:Int) (a:Int×Int),s k=R a->a.2<n->ez s k g=true->p.2<=a.2:=by
    intro n;induction n with
    |zero=>intro k a c E _;have:=(h.deep _ _ c).1;omega
    |succ n F=>
     intro k a c E b;by_cases f:k=0;·subst f;rw[w] at b;cases b
     ·rw[h.ow c f] at b;by_cases i:k=g;·subst i;rw[t] at c;cases c;exact jw _
      ·simp only[i,decide_false,Bool.false_or] at b;obtain⟨v,l,e⟩:=h.up k a c f;have:=F a.1 v l (by omega) b;omega
   have:=D 9 k a c (by have:=(h.deep _ _ c).2;omega) b;have:=(h.deep _ _ u).1;omega
  ·subst e;exact h.deep _ _ c
def mD (s:eO) (g:Int) (p:Int×Int):eO:=λk=>if k=g then R p else s k
def mE (s:eO) (g:Int):eO:=λk=>if k=g then U else s k
theorem fN.add {s:eO} (h:fN s) {g parent:Int} {q:Int×Int} (f:s g=U) (l:1<=g) (m:g<32) (d:s parent=R q) (n:q.2<8):fN (mD s g (parent,q.2+1)):=by
 have b:∀k r,s k=R r->mD s g (parent,q.2+1) k=R r:=λk r a=>by unfold mD;rw[z0 (λe=>by rw[e,f] at a;cases a)];exact a
 have c:∀k r,mD s g (parent,q.2+1) k=R r->(k=g∧r=(parent,q.2+1))∨s k=R r:=by
  intro k r a;unfold mD at a;split at a;·exact .inl ⟨by assumption,(Option.some.inj a).symm⟩
  ·exact .inr a
 refine⟨?_,b _ _ h.root,?_,?_⟩
 ·intro k r a;rcases c k r a with⟨rfl,_⟩|e;·omega
  ·exact h.lo _ _ e
 ·intro k r a i;rcases c k r a with⟨rfl,rfl⟩|e;·exact⟨q,b _ _ d,rfl⟩
  ·obtain⟨v,j,e⟩:=h.up k r e i;exact⟨v,b _ _ j,e⟩
 ·intro k r a;rcases c k r a with⟨rfl,rfl⟩|e;·have:=h.deep _ _ d;exact⟨by dsimp only;omega,by dsimp only;omega⟩
  ·exact h.deep _ _ e
theorem fN.del {s:eO} (h:fN s) {g:Int} (h0:g≠0) (d:∀k p,s k=R p->p.1≠g):fN (mE s g):=by
 have c:∀k r,k≠g->s k=R r->mE s g k=R r:=λk r f a=>by unfold mE;rw[z0 f];exact a
 have b:∀k r,mE s g k=R r->k≠g∧s k=R r:=by
  intro k r a;unfold mE at a;split at a;·cases a
  ·exact⟨by assumption,a⟩
 refine⟨?_,c _ _ (Ne.symm h0) h.root,?_,?_⟩;·intro k r a;exact h.lo _ _ (b k r a).2
 ·intro k r a i;obtain⟨v,j,e⟩:=h.up k r (b k r a).2 i;exact⟨v,c _ _ (d _ _ (b k r a).2) j,e⟩
 ·intro k r a;exact h.deep _ _ (b k r a).2
variable {v1:Value}
def lD (G:aJ):Int×Int:=(G.up,G.deep)
def ad.a1 (h:ad):eO:=λk=>(h.at k).map lD
theorem cX.mF {b:Int} (h:cX f b):fN (λk=>(f k).map lD):=by
 have c:∀k p,(f k).map lD=R p->∃G,f k=R G∧lD G=p:=λk p e=>h9.1 e;refine⟨?_,?_,?_,?_⟩;·intro g p e;obtain⟨G,a,_⟩:=c g p e;exact h.lo _ _ a
 ·obtain⟨r,d,i,j⟩:=h.root;show(f 0).map lD=_;rw[d];show R (r.up,r.deep)=_;rw[i,j]
 ·intro g p e l;obtain⟨G,a,rfl⟩:=c g p e;obtain⟨m,n,o⟩:=h.up _ _ a l;exact⟨lD m,by show(f G.up).map lD=_;rw[n];rfl,o⟩
 ·intro g p e;obtain⟨G,a,rfl⟩:=c g p e;exact h.deep _ _ a
theorem ad.Ok.mF {h:ad} (hk:h.Ok):fN h.a1:=hk.g.mF
theorem ad.d_ {h:ad} {g:Int} (e:h.at g=R G):h.a1 g=R (G.up,G.deep):=by unfold ad.a1;rw[e];rfl
theorem ad.mG {h:ad} {g:Int} {p:Int×Int} (e:h.a1 g=R p):∃G,h.at g=R G∧p=(G.up,G.deep):=by obtain⟨G,a,rfl⟩:=h9.1 e;exact⟨G,a,rfl⟩
theorem ad.jT {h:ad} {g:Int} {x y:aJ} (a:h.at g=R x) (b:y.up=x.up) (c:y.deep=x.deep):(h.set g (R y)).a1=h.a1:=by
 funext k;unfold ad.a1;rw[ad.dm a];unfold cL;split;·rename_i e;rw[e,a];show R (y.up,y.deep)=R (x.up,x.deep);rw[b,c]
 ·rfl
theorem ad.zp (h:ad) (top:Int):∀(n:Nat) (g:Int),h.under n g top=ji h.a1 n g top
 |0,g=>rfl
 |n+1,g=>by
  unfold ad.under ji;split;·rfl
  ·split;·rfl
   ·unfold ad.a1;cases h.at g with
    |none=>rfl
    |some G=>exact ad.zp h top n G.up
theorem ad.vP (h:ad) (g top:Int):h.c1 g top=ez h.a1 g top:=ad.zp h top 10 g
theorem ad.vQ (n:Nat):∀(a:ad) (g:Int),(a.settle n g).a1=a.a1:=by
 induction n with
 |zero=>intro a g;rfl
 |succ n i=>
  intro a g;unfold ad.settle;split;·rfl
  ·rename_i x j;split;·rfl
   ·split;·rfl
    ·rename_i u k;split;·rfl
     ·have d:∀(y:aJ) (b:aC),y.up=x.up->y.deep=x.deep->(((a.set g (R y)).set x.up (R {u with q:=b})).settle n x.up).a1=a.a1:=(by intro y b l m;rw[i];have f:(a.set g (R y)).a1=a.a1:=ad.jT j l m;have o:∃v,(a.set g (R y)).at x.up=R v∧v.up=u.up∧v.deep=u.deep:=(by have p:(a.set g (R y)).a1 x.up=R (u.up,u.deep):=(by rw[f];exact ad.d_ k);obtain⟨v,c,e⟩:=ad.mG p;have h:=Prod.mk.inj e;exact⟨v,c,h.1.symm,h.2.symm⟩);obtain⟨v,c,v1,r⟩:=o;exact(ad.jT (y:={u with q:=b}) c v1.symm r.symm).trans f);split;·exact d _ _ rfl rfl
      ·exact d _ _ rfl rfl
theorem ad.FP (h:ad) (g:Int) (e:aI):(h.put g e).a1=h.a1:=by
 unfold ad.put;split
 ·split;·rfl
  ·rename_i x a;rw[ad.vQ];exact ad.jT a rfl rfl
 ·rfl
theorem ad.FQ (h:ad) (g t:Int):(h.drop g t).a1=h.a1:=by
 unfold ad.drop;split
 ·split;·rfl
  ·rename_i x a;rw[ad.vQ];exact ad.jT a rfl rfl
 ·rfl
theorem ad.FR (h:ad) (g t:Int) (w:Nat):(h.nice g t w).a1=h.a1:=by
 unfold ad.nice;split;·rfl
 ·rename_i x a;split;·rfl
  ·exact ad.jT a rfl rfl
theorem ad.zq (h:ad) (g:Int) (w:Nat):(h.bO g w).a1=h.a1:=by
 unfold ad.bO;split;·rfl
 ·rename_i x a;split;·rfl
  ·split
   ·split;·rfl
    ·rename_i u b;exact ad.jT b rfl rfl
   ·exact ad.jT (kt a).2 rfl rfl
theorem ad.vR (h:ad) (g:Int) (is:Bool):(h.stop g is).a1=h.a1:=by
 unfold ad.stop;split;·rfl
 ·rename_i x a;rw[ad.vQ];exact ad.jT (kt a).2 rfl rfl
theorem ad.FT (n:Nat):∀(a:ad) (g:Int),(ad.gO n a g).1.a1=a.a1:=by
 induction n with
 |zero=>intro a g;rfl
 |succ n c=>
  intro a g;unfold ad.gO;split;·rfl
  ·rename_i x b;split;·exact ad.jT b rfl rfl
   ·rw[c];exact ad.jT b rfl rfl
theorem ad.pN (h:ad):h.pick.a1=h.a1:=ad.FT 10 h 0
theorem ad.FU (h:ad):h.yield.a1=h.a1:=by
 unfold ad.yield;split;·exact h.pN
 ·split;·exact h.pN
  ·split;·exact h.pN
   ·rename_i x a;rw[ad.pN];exact ad.jT a rfl rfl
theorem ad.FV (ns:Nat) (l:List Int):∀a:ad,(ad.ee ns l a).a1=a.a1:=by
 induction l with
 |nil=>intro a;rfl
 |cons g l b=>
  intro a;unfold ad.ee;split;·exact b _
  ·rename_i x c;rw[b];exact ad.jT c rfl rfl
theorem ad.zr (h:ad) (ns:Nat):(h.b4 ns).a1=h.a1:=by
 unfold ad.b4;split;·exact ad.FV _ _ _
 ·rfl
theorem ad.vS {h:ad} {g parent:Int} (e:h.gx g parent=0):∃a,h.at parent=R a∧1<=g∧g<32∧h.at g=U∧a.deep≠8:=by
 unfold ad.gx at e;cases hp:h.at parent with
 |none=>rw[hp] at e;cases e
 |some a=>
  rw[hp] at e;dsimp only at e;split at e;·cases e
  ·split at e;·cases e
   ·rename_i b;split at e;·cases e
    ·rename_i c;refine⟨a,rfl,by omega,by omega,?_,c⟩;cases d:h.at g with
     |none=>rfl
     |some y=>rw[d] at b;simp at b
theorem ad.Ok.vT {h:ad} (hk:h.Ok) {g parent:Int} {up:aJ} (a:h.at parent=R up) (b:1<=g) (c:g<32) (e:h.gx g parent=0):(h.link g parent).at=cL h.at g (R (jR g parent (up.deep+1))):=by unfold ad.link;rw[aj e,a];dsimp only;funext k;rw[ad.qM (by omega) (by rw[hk.len];omega)];rfl
theorem ad.Ok.zt {h:ad} (hk:h.Ok) {g parent:Int} {up:aJ} (a:h.at parent=R up) (e:h.gx g parent=0):(h.link g parent).a1=mD h.a1 g (parent,up.deep+1):=by obtain⟨d,f,b,c,i,j⟩:=ad.vS e;funext k;unfold ad.a1 mD;rw[hk.vT a b c e];unfold cL;split<;>rfl
theorem ad.Ok.link {h:ad} (hk:h.Ok) (g parent:Int):(h.link g parent).Ok:=by
 by_cases e:h.gx g parent=0
 ·obtain⟨n,j,w,x,y,N⟩:=ad.vS e;have z:=hk.vT j w x e;have t:fN (h.link g parent).a1:=by rw[hk.zt j e];have l:=hk.g.deep _ _ j;exact hk.mF.add (by unfold ad.a1;rw[y];rfl) w x (ad.d_ j) (by show n.deep<8;omega)
  refine⟨?_,?_⟩;·unfold ad.link;rw[aj e,j];dsimp only;rw[ad.md];exact hk.len
  ·have o:∀k d,(h.link g parent).at k=R d->(h.link g parent).a1 k=R (d.up,d.deep):=λk d=>ad.d_;rw[z] at o⊢;have m:∀k d,cL h.at g (R (jR g parent (n.deep+1))) k=R d->(k=g∧d=jR g parent (n.deep+1))∨h.at k=R d:=by
    intro k d f;rcases hy f with⟨a,b⟩|⟨_,b⟩;·exact .inl ⟨a,(Option.some.inj b).symm⟩
    ·exact .inr b
   have u:∀k d,h.at k=R d->cL h.at g (R (jR g parent (n.deep+1))) k=R d:=λk d f=>(gj _ (λB=>by rw[B,y] at f;cases f)).trans f;refine⟨?_,?_,?_,?_,?_,?_,?_,?_,?_⟩;·intro k d f;exact t.lo _ _ (o k d f)
   ·obtain⟨r,C,D,E⟩:=hk.g.root;exact⟨r,u _ _ C,D,E⟩
   ·intro k d f i;obtain⟨p,F,l⟩:=t.up _ _ (o k d f) i;obtain⟨v,s,rfl⟩:=ad.mG F;rw[z] at s;exact⟨v,s,l⟩
   ·intro k d f;exact t.deep _ _ (o k d f)
   ·intro k d f;rcases m k d f with⟨rfl,rfl⟩|b;·exact zj
    ·exact hk.g.q _ _ b
   ·intro k d f G l;rcases m k d f with⟨rfl,rfl⟩|b;·simp[jR,ks] at l
    ·rcases hk.g.ids _ _ b G l with H|⟨c,ar,I,J,K⟩;·exact .inl H
     ·exact .inr ⟨c,ar,I,u _ _ J,K⟩
   ·intro k d f i;rcases m k d f with⟨rfl,rfl⟩|b;·exact⟨rfl,by simp[jR],by simp[jR],by simp[jR]⟩
    ·exact hk.g.own _ _ b i
   ·intro k d f i A;rcases m k d f with⟨rfl,rfl⟩|b;·cases A
    ·obtain⟨v,s,L⟩:=hk.g.on _ _ b i A;exact⟨v,u _ _ s,L⟩
   ·intro k d f i M;rcases m k d f with⟨rfl,rfl⟩|b;·rfl
    ·exact hk.g.st _ _ b i M
 ·unfold ad.link;rw[z0 e];exact hk
theorem ad.vU {h:ad} {g:Int} (e:h.jh g=0):∃x,g≠0∧h.at g=R x∧(∀k b,h.at k=R b->b.up≠g)∧x.q.es=[]:=by
 unfold ad.jh at e;cases a:h.linked g with
 |none=>rw[a] at e;cases e
 |some x=>
  rw[a] at e;dsimp only at e;split at e;·cases e
  ·rename_i c;split at e;·rename_i d;obtain⟨f,a⟩:=kt a;refine⟨x,f,a,?_,pA.1 d⟩;intro k b i j;refine c (n_.2 ⟨R b,ea (ad.dk i).2.2,by simpa using j⟩)
   ·cases e
theorem ad.vV {h:ad} {g:Int} (e:h.jh g=0):(h.unlink g).at=cL h.at g U:=by obtain⟨x,b,a,_⟩:=ad.vU e;unfold ad.unlink;rw[aj e];exact ad.dm a
theorem ad.FW {h:ad} {g:Int} (e:h.jh g=0):(h.unlink g).a1=mE h.a1 g:=by funext k;unfold ad.a1 mE;rw[ad.vV e];unfold cL;split<;>rfl
theorem ad.Ok.unlink {h:ad} (hk:h.Ok) (g:Int):(h.unlink g).Ok:=by
 by_cases e:h.jh g=0
 ·obtain⟨x,l,u,v,w⟩:=ad.vU e;have y:=ad.vV e;have f:∀k a,cL h.at g U k=R a->k≠g∧h.at k=R a:=by
   intro k a d;rcases hy d with⟨_,b⟩|b;·cases b
   ·exact b
  have j:∀k a,k≠g->h.at k=R a->cL h.at g U k=R a:=λk a n d=>(gj _ n).trans d;have z:x.on=false:=by rw[hk.g.st g x u l l];show(!x.stopped&&!x.q.es.isEmpty)=false;rw[w];simp
  refine⟨by unfold ad.unlink;rw[aj e,ad.md];exact hk.len,?_⟩;rw[y];refine⟨?_,?_,?_,?_,?_,?_,?_,?_,?_⟩;·intro k a d;exact hk.g.lo _ _ (f k a d).2
  ·obtain⟨r,A,B⟩:=hk.g.root;exact⟨r,j _ _ (Ne.symm l) A,B⟩
  ·intro k a d i;obtain⟨m,o,p⟩:=hk.g.up _ _ (f k a d).2 i;exact⟨m,j _ _ (v _ _ (f k a d).2) o,p⟩
  ·intro k a d;exact hk.g.deep _ _ (f k a d).2
  ·intro k a d;exact hk.g.q _ _ (f k a d).2
  ·intro k a d C p;rcases hk.g.ids _ _ (f k a d).2 C p with D|⟨c,ar,E,s,F,G,t⟩;·exact .inl D
   ·refine .inr ⟨c,ar,E,j _ _ (λH=>?_) s,F,G,t⟩;rw[H,u] at s;cases s;rw[z] at t;cases t
  ·intro k a d i;exact hk.g.own _ _ (f k a d).2 i
  ·intro k a d i I;obtain⟨m,o,J⟩:=hk.g.on _ _ (f k a d).2 i I;exact⟨m,j _ _ (v _ _ (f k a d).2) o,J⟩
  ·intro k a d i K;exact hk.g.st _ _ (f k a d).2 i K
 ·unfold ad.unlink;rw[z0 e];exact hk
theorem ad.jU {h:ad} (e:h.gs.length=32) {g k:Int}:k∈h.below g↔(∃a,h.at k=R a)∧ez h.a1 k g=true:=by
 unfold ad.below;rw[List.mem_filter,eY];simp only[pB,jb,ad.vP,gK];constructor;·rintro⟨_,d,b⟩;exact⟨d,b⟩
 ·rintro⟨⟨a,c⟩,b⟩;have:=ad.dk c;exact⟨⟨k.toNat,by omega,by omega⟩,⟨a,c⟩,b⟩
theorem ad.ox (h:ad) (g:Int):(h.below g).Nodup:=by unfold ad.below;refine List.Nodup.sublist List.filter_sublist ?_;rw[qn,List.pairwise_map];have:=@List.nodup_range 32;rw[qn] at this;exact this.imp (λh=>by omega)
theorem ad.sG (b:Int):∀(l:List Int) (a:ad),l.Nodup->∀k,(a.fs b l).at k=if k∈l then(a.at k).map (λG=>{G with deep:=G.deep+b}) else a.at k:=by
 intro l;induction l with
 |nil=>intro a _ k;rw[z0 (by simp)];rfl
 |cons i l d=>
  intro a c k;rw[jL] at c;unfold ad.fs;cases aV:a.at i with
  |none=>
   dsimp only;rw[d a c.2 k];by_cases e:k=i;·subst e;rw[z0 c.1,aj e5,aV];rfl
   ·by_cases m:k∈l;·rw[aj m,aj (hK _ m)]
    ·rw[z0 m,z0 (by simp[e,m])]
  |some G=>
   dsimp only;rw[d _ c.2 k,ad.dm aV];by_cases e:k=i;·subst e;rw[z0 c.1,aj e5,eV,aV];rfl
   ·rw[gj _ e];by_cases m:k∈l;·rw[aj m,aj (hK _ m)]
    ·rw[z0 m,z0 (by simp[e,m])]
theorem ad.sH (b:Int):∀(l:List Int) (a:ad),(a.fs b l).gs.length=a.gs.length:=by
 intro l;induction l with
 |nil=>intro a;rfl
 |cons i l c=>
  intro a;unfold ad.fs;split;·exact c a
  ·rw[c,ad.md]
theorem zu (f:Int->Int):∀(l:List Int) (b:Int),b<=l.foldl (λb i=>max b (f i)) b∧∀i∈l,f i<=l.foldl (λb i=>max b (f i)) b
 |[],b=>⟨jw _,λ_ e=>by cases e⟩
 |a::l,b=>by
  have c:=zu f l (max b (f a));refine⟨?_,?_⟩;·simp only[nk];have:=c.1;omega
  ·intro i d;simp only[nk];rcases gZ.1 d with rfl|d;·have:=c.1;omega
   ·exact c.2 i d
theorem ad.oy {h:ad} (hk:h.Ok) {g parent:Int} (e:h.eh g parent=0):∃x c,g≠0∧h.at g=R x∧h.at parent=R c∧ez h.a1 parent g=false∧(∀k a,h.at k=R a->ez h.a1 k g=true->a.q.es=[]∧a.deep+(c.deep+1-x.deep)<=8):=by
 unfold ad.eh at e;cases b:h.linked g with
 |none=>rw[b] at e;cases e
 |some x=>
  cases hp:h.at parent with
  |none=>rw[b,hp] at e;cases e
  |some c=>
   rw[b,hp] at e;dsimp only at e;split at e;·cases e
   ·rename_i i;split at e;·cases e
    ·rename_i j;split at e;·cases e
     ·rename_i l;obtain⟨m,b⟩:=kt b;refine⟨x,c,m,b,rfl,by rw[<-ad.vP];simpa using i,?_⟩;intro k a d n;have f:=(ad.jU hk.len).2 ⟨⟨a,d⟩,n⟩;constructor;·have o:(h.below g).any h.busy=false:=(by simpa using j);have:=List.any_eq_false.1 o k f;unfold ad.busy at this;rw[d] at this;simpa using this
      ·have:=(zu h.fA (h.below g) 0).2 k f;have p:h.fA k=a.deep:=(by unfold ad.fA;rw[d]);unfold ad.kV at l;omega
def jj (h:ad) (g parent:Int) (x up:aJ) (k:Int) (K:aJ):aJ:=if ez h.a1 k g=true then(if k=g then {K with deep:=K.deep+(up.deep+1-x.deep),own:={K.own with v:=(kU K.own.v (h.minOf K.up) (h.minOf parent)).1},up:=parent} else {K with deep:=K.deep+(up.deep+1-x.deep)}) else K
theorem ad.Ok.vW {h:ad} (hk:h.Ok) {g parent:Int} {x up:aJ} (e:h.eh g parent=0) (a:h.at g=R x) (h0:g≠0) (j:h.at parent=R up):(h.move g parent).at=(λk=>(h.at k).map (jj h g parent x up k))∧(h.move g parent).gs.length=32:=by
 have f:=hk.mF.zo (ad.d_ a);have i:=ad.sG (up.deep+1-x.deep) (h.below g) h (h.ox g);have l:g∈h.below g:=(ad.jU hk.len).2 ⟨⟨x,a⟩,f⟩;have c:=i g;rw[aj l,a,iH] at c;have n:h.linked g=R x:=by unfold ad.linked;rw[z0 h0];exact a
 unfold ad.move;rw[aj e,n,j];dsimp only;rw[c];dsimp only;refine⟨?_,by rw[ad.md,ad.sH];exact hk.len⟩;rw[ad.dm c];funext k;by_cases d:k=g;·subst d;rw[eV,a,iH];unfold jj;rw[aj f,aj rfl]
 ·rw[gj _ d,i k];by_cases m:k∈h.below g;·rw[aj m];have b:=((ad.jU hk.len).1 m).2;congr 1;funext K;unfold jj;rw[aj b,z0 d]
  ·rw[z0 m];cases b_:h.at k with
   |none=>rfl
   |some K=>have b:¬ez h.a1 k g=true:=λb=>m ((ad.jU hk.len).2 ⟨⟨K,b_⟩,b⟩);rw[iH];unfold jj;rw[z0 b]
theorem ad.Ok.qQ {h:ad} (hk:h.Ok) {g parent:Int} {x up:aJ} (e:h.eh g parent=0) (c:h.at g=R x) (h0:g≠0) (d:h.at parent=R up):(h.move g parent).a1=kW h.a1 g parent (up.deep+1-x.deep):=by
 funext k;show((h.move g parent).at k).map lD=_;rw[(hk.vW e c h0 d).1];unfold kW;show((h.at k).map _).map lD=match(h.at k).map lD with|none=>U|some p=>_
 cases b_:h.at k with
 |none=>rfl
 |some K=>
  simp only[iH];unfold jj;by_cases a:ez h.a1 k g=true
  ·rw[aj a,aj a];by_cases b:k=g;·rw[aj b,aj b];rfl
   ·rw[z0 b,z0 b];rfl
  ·rw[z0 a,z0 a]
theorem ad.Ok.move {h:ad} (hk:h.Ok) (g parent:Int):(h.move g parent).Ok:=by
 by_cases e:h.eh g parent=0
 ·obtain⟨x,j,n,v,w,P,H⟩:=ad.oy hk e;have y:=hk.vW e v n w;have t:fN (h.move g parent).a1:=by rw[hk.qQ e v n w];refine hk.mF.move (p:=(x.up,x.deep)) (q:=(j.up,j.deep)) (ad.d_ v) n (ad.d_ w) P ?_;intro k r z A;obtain⟨a,b,rfl⟩:=ad.mG z;exact(H k a b A).2
  refine⟨y.2,?_⟩;have B:∀k a,(h.move g parent).at k=R a->(h.move g parent).a1 k=R (a.up,a.deep):=λk a=>ad.d_;have o:∀k C,(h.move g parent).at k=R C->∃a,h.at k=R a∧C=jj h g parent x j k a:=by intro k C b;rw[y.1] at b;obtain⟨a,Q,e⟩:=h9.1 b;exact⟨a,Q,e.symm⟩
  have I:∀k a,h.at k=R a->(h.move g parent).at k=R (jj h g parent x j k a):=by intro k a b;rw[y.1];show(h.at k).map _=_;rw[b];rfl
  have m:∀k a,(jj h g parent x j k a).q=a.q∧(jj h g parent x j k a).on=a.on∧(jj h g parent x j k a).stopped=a.stopped∧(∀i,jS i a.own->jS i (jj h g parent x j k a).own):=by
   intro k a;unfold jj;split
   ·split;·exact⟨rfl,rfl,rfl,λi h=>h⟩
    ·exact⟨rfl,rfl,rfl,λi h=>h⟩
   ·exact⟨rfl,rfl,rfl,λi h=>h⟩
  have J:∀k a,h.at k=R a->a.on=true->k≠0->jj h g parent x j k a=a:=by intro k a b s l;unfold jj;rw[z0];intro A;have:=(H k a b A).1;have D:=hk.g.st k a b l l;rw[s] at D;have:a.fM=false:=(by show(!a.stopped&&!a.q.es.isEmpty)=false;rw[this];simp);rw[this] at D;cases D
  refine⟨?_,?_,?_,?_,?_,?_,?_,?_,?_⟩;·intro k a b;exact t.lo _ _ (B k a b)
  ·obtain⟨r,z,e⟩:=ad.mG t.root;have K:=Prod.mk.inj e;exact⟨r,z,K.1.symm,K.2.symm⟩
  ·intro k a b n;obtain⟨p,S,u⟩:=t.up _ _ (B k a b) n;obtain⟨E,F,rfl⟩:=ad.mG S;exact⟨E,F,u⟩
  ·intro k a b;exact t.deep _ _ (B k a b)
  ·intro k a b;obtain⟨d,f,rfl⟩:=o k a b;rw[(m k d).1];exact hk.g.q _ _ f
  ·intro k a b T u;obtain⟨d,f,rfl⟩:=o k a b;rw[(m k d).1] at u;rcases hk.g.ids _ _ f T u with U|⟨c,ar,V,L,M,W,N⟩;·exact .inl U
   ·have O:=I c ar L;rw[J c ar L N M] at O;exact .inr ⟨c,ar,V,O,M,W,N⟩
  ·intro k a b l;obtain⟨d,f,rfl⟩:=o k a b;exact(m k d).2.2.2 k (hk.g.own _ _ f l)
  ·intro k a b l s;obtain⟨d,f,rfl⟩:=o k a b;rw[(m k d).2.1] at s;obtain⟨E,F,X⟩:=hk.g.on _ _ f l s;rw[J k d f s l];exact⟨_,I _ _ F,by rw[(m _ E).1];exact X⟩
  ·intro k a b l Y;obtain⟨d,f,rfl⟩:=o k a b;have G:=m k d;unfold aJ.fM;rw[G.1,G.2.1,G.2.2.1];exact hk.g.st _ _ f l Y
 ·unfold ad.move;rw[z0 e];exact hk
theorem FX (c d:Int):(h0 c d).Ok:=by
 have a:∀k G,(h0 c d).at k=R G->k=0∧G=iL:=by
  intro k G e;obtain⟨m,o,i⟩:=ad.dk e;have j:∀n:Nat,(h0 c d).gs[n]?=R (R G)->n=0∧G=iL:=by
   intro n f;cases n with
   |zero=>exact⟨rfl,((Option.some.inj (Option.some.inj f))).symm⟩
   |succ n=>have:(gY 31 (U:Option aJ))[n]?=R (R G):=f;rw[yw] at this;split at this<;>simp at this
  have:=j _ i;exact⟨by omega,this.2⟩
 have l:(h0 c d).at 0=R iL:=rfl;refine⟨rfl,⟨?_,⟨iL,l,rfl,rfl⟩,?_,?_,?_,?_,?_,?_,?_⟩⟩;·intro g G e;have:=(a g G e).1;omega
 ·intro g G e b;exact absurd (a g G e).1 b
 ·intro g G e;rw[(a g G e).2];exact⟨by decide,by decide⟩
 ·intro g G e;rw[(a g G e).2];exact zj
 ·intro g G e p h;rw[(a g G e).2] at h;simp[iL,ks] at h
 ·intro g G e b;exact absurd (a g G e).1 b
 ·intro g G e b;exact absurd (a g G e).1 b
 ·intro g G e b;exact absurd (a g G e).1 b
structure aF where
 idx:Int
 gen:Int deriving DecidableEq
structure bp (α:Type) where
 x:α
 gen:Int
 used:Bool deriving DecidableEq
structure an (α:Type) where
 pl:List (bp α)
 cl:List Nat deriving DecidableEq
def bM:aF:=⟨0,0⟩
section
variable {α:Type}
def an.new:an α:=⟨[],[]⟩
def an.many (p:an α):Nat:=p.pl.length-p.cl.length
def an.at (p:an α) (h:aF):Option (bp α):=if h.idx<0 then U else match p.pl[h.idx.toNat]? with
 |none=>U
 |some s=>if s.used=true∧s.gen=h.gen then R s else U
def an.put (p:an α) (x:α):an α×aF:=match p.cl with
 |[]=>(⟨p.pl++[⟨x,0,true⟩],[]⟩,⟨p.pl.length,0⟩)
 |i::l=>
  match p.pl[i]? with
  |none=>(p,bM)
  |some s=>(⟨p.pl.set i ⟨x,s.gen,true⟩,l⟩,⟨i,s.gen⟩)
def an.set (p:an α) (h:aF) (x:α):an α:=match p.at h with
 |none=>p
 |some s=>⟨p.pl.set h.idx.toNat {s with x:=x},p.cl⟩
def an.free (z:α) (p:an α) (h:aF):an α:=match p.at h with
 |none=>p
 |some s=>⟨p.pl.set h.idx.toNat ⟨z,cK (s.gen+1),false⟩,h.idx.toNat::p.cl⟩
structure an.Ok (p:an α):Prop where
 nodup:p.cl.Nodup
 cl:∀i:Nat,i∈p.cl↔∃s,p.pl[i]?=R s∧s.used=false
theorem an.dk {p:an α} {h:aF} {s:bp α} (e:p.at h=R s):0<=h.idx∧p.pl[h.idx.toNat]?=R s∧s.used=true∧s.gen=h.gen:=by
 unfold an.at at e;split at e;·cases e
 ·split at e;·cases e
  ·rename_i c b;split at e;·rename_i a;cases e;exact⟨by omega,b,a.1,a.2⟩
   ·cases e
theorem an.qR:(an.new (α:=α)).Ok:=⟨List.nodup_nil,λi=>by simp[an.new]⟩
theorem vX {l:List Nat} (c:l.Nodup) (h:∀x∈l,x<n):l.length<=n:=by
 induction n generalizing l with
 |zero=>
  cases l with
  |nil=>simp
  |cons a l=>exact absurd (h a e5) (by omega)
 |succ n f=>
  by_cases d:n∈l;·have g:=f (c.erase n) (λx b=>by have:=(c.mem_erase_iff).1 b;have:=h x this.2;omega);rw[List.length_erase_of_mem d] at g;have:=List.length_pos_of_mem d;omega
  ·have:=f c (λx b=>by have:=h x b;have:x≠n:=λe=>d (e▸b);omega);omega
theorem an.Ok.lt {p:an α} (h:p.Ok) (a:i∈p.cl):i<p.pl.length:=by obtain⟨c,b,_⟩:=(h.cl i).1 a;exact(bD.1 b).1
theorem an.Ok.cy {p:an α} (h:p.Ok):p.cl.length<=p.pl.length:=vX h.nodup (λx a=>h.lt a)
theorem an.Ok.put {p:an α} (h:p.Ok) (x:α):(p.put x).1.Ok:=by
 unfold an.put;split
 ·rename_i d;refine⟨List.nodup_nil,λi=>⟨λb=>by simp at b,?_⟩⟩;rintro⟨j,a,c⟩;rw[va] at a;split at a;·have:=(h.cl i).2 ⟨j,a,c⟩;rw[d] at this;exact this
  ·rename_i m;have:i-p.pl.length=0∨0<i-p.pl.length:=(by omega);rcases this with e|e;·rw[e] at a;simp at a;rw[<-a] at c;cases c
   ·rw[gh (by simp;omega)] at a;cases a
 ·rename_i i l d;split;·exact h
  ·rename_i j a;have f:=h.nodup;rw[d,jL] at f;have m:=(bD.1 a).1;refine⟨f.2,λk=>?_⟩;have g:=h.cl k;rw[d,gZ] at g;dsimp only;by_cases e:k=i
   ·subst e;constructor;·intro b;exact absurd b f.1
    ·rintro⟨o,n,c⟩;rw[cV m] at n;cases n;cases c
   ·rw[dN (Ne.symm e)];constructor;·intro b;exact g.1 (.inr b)
    ·intro b;exact(g.2 b).resolve_left e
theorem an.Ok.set {p:an α} (h:p.Ok) (c:aF) (x:α):(p.set c x).Ok:=by
 unfold an.set;split;·exact h
 ·rename_i l f;obtain⟨m,d,n,o⟩:=an.dk f;have g:=(bD.1 d).1;refine⟨h.nodup,λk=>?_⟩;have i:=h.cl k;dsimp only;rw[i];by_cases e:k=c.idx.toNat
  ·subst e;rw[cV g,d];constructor;·rintro⟨j,a,b⟩;cases a;exact⟨_,rfl,b⟩
   ·rintro⟨j,a,b⟩;cases a;exact⟨_,rfl,b⟩
  ·rw[dN (Ne.symm e)]
theorem an.Ok.free {p:an α} (h:p.Ok) (z:α) (b:aF):(p.free z b).Ok:=by
 unfold an.free;split;·exact h
 ·rename_i m g;obtain⟨n,c,i,o⟩:=an.dk g;have j:=(bD.1 c).1;refine⟨?_,λk=>?_⟩;·rw[jL];refine⟨λa=>?_,h.nodup⟩;obtain⟨q,d,f⟩:=(h.cl _).1 a;rw[c] at d;cases d;rw[i] at f;cases f
  ·have l:=h.cl k;dsimp only;rw[gZ,l];by_cases e:k=b.idx.toNat;·subst e;rw[cV j];exact⟨λ_=>⟨_,rfl,rfl⟩,λ_=>.inl rfl⟩
   ·rw[dN (Ne.symm e)];exact⟨λa=>a.resolve_left e,.inr⟩
end
variable {s:bp (aF×Int)}
abbrev ae:=an (aF×Int)
def ae.get (t:ae) (h:aF):Option (aF×Int):=(an.at t h).map (·.x)
def lE:ae:=⟨[⟨(bM,0),0,true⟩],[]⟩
def ae.ft (t:ae):Nat->aF->List aF
 |0,_=>[]
 |n+1,h=>
  match ae.get t h with
  |none=>[]
  |some g=>h::(if h=bM then[] else ae.ft t n g.1)
def ae.fl (t:ae) (parent:aF):Int:=match ae.get t parent with
 |none=>2
 |some g=>if g.2=8 then 5 else if an.many t=32 then 3 else 0
def ae.create (t:ae) (parent:aF):ae×aF:=if ae.fl t parent=0 then match ae.get t parent with
 |none=>(t,bM)
 |some g=>an.put t (parent,g.2+1) else(t,bM)
def hd {α:Type}:Nat->List (bp α)->List aF
 |_,[]=>[]
 |i,s::l=>if s.used then⟨i,s.gen⟩::hd (i+1) l else hd (i+1) l
def ae.all (t:ae):List aF:=hd 0 t.pl
def ae.c1 (t:ae) (h top:aF):Bool:=(ae.get t top).isSome&&(ae.ft t 10 h).any λx=>decide (x=top)
def ae.l_ (t:ae) (h:aF):aF:=match ae.get t h with|none=>bM|some g=>g.1
def ae.fA (t:ae) (h:aF):Int:=match ae.get t h with|none=>0|some g=>g.2
def ae.kids (t:ae) (h:aF):List aF:=(ae.all t).filter λx=>decide (x≠bM)&&decide (ae.l_ t x=h)
def ae.ie (t:ae) (h:aF):Int:=match ae.get t h with
 |none=>2
 |some _=>if h=bM then 1 else if(ae.kids t h).isEmpty then 0 else 6
def ae.hf (t:ae) (h:aF):ae:=if ae.ie t h=0 then an.free (bM,0) t h else t
def ae.below (t:ae) (h:aF):List aF:=(ae.all t).filter λx=>ae.c1 t x h
def ae.eh (t:ae) (h parent:aF):Int:=match ae.get t h,ae.get t parent with
 |some g,R p=>if h=bM then 1 else if ae.c1 t parent h then 10 else if(ae.below t h).any (λx=>decide (8<ae.fA t x+(p.2+1-g.2))) then 5 else 0
 |_,_=>2
def ae.fv (h parent:aF) (a:Int):List aF->ae->ae
 |[],t=>t
 |x::l,t=>
  match ae.get t x with
  |none=>ae.fv h parent a l t
  |some y=>ae.fv h parent a l (an.set t x (if x=h then parent else y.1,y.2+a))
def ae.move (t:ae) (h parent:aF):ae:=if ae.eh t h parent=0 then match ae.get t h,ae.get t parent with
 |some g,R p=>ae.fv h parent (p.2+1-g.2) (ae.below t h) t
 |_,_=>t else t
def ae.path (t:ae) (h:aF):List Int:=(((ae.ft t 10 h).takeWhile λx=>decide (x.idx≠0)).map (·.idx)).reverse
def ae.a1 (t:ae):eO:=λk=>
 if k<0 then U else match t.pl[k.toNat]? with
 |none=>U
 |some s=>if s.used=true then R (if k=0 then-1 else s.x.1.idx,s.x.2) else U
structure ae.Ok (t:ae):Prop where
 pool:an.Ok t
 cy:t.pl.length<=32
 root:t.pl[0]?=R ⟨(bM,0),0,true⟩
 up:∀h g,ae.get t h=R g->(ae.get t g.1).isSome
 a1:fN (ae.a1 t)
theorem ae.get_some {t:ae} {h:aF} {g:aF×Int} (e:ae.get t h=R g):0<=h.idx∧∃s,t.pl[h.idx.toNat]?=R s∧s.used=true∧s.gen=h.gen∧s.x=g:=by obtain⟨s,a,rfl⟩:=h9.1 e;obtain⟨b,c,d,f⟩:=an.dk a;exact⟨b,s,c,d,f,rfl⟩
theorem ae.zv {t:ae} {h:aF} (h0:0<=h.idx) (a:t.pl[h.idx.toNat]?=R s) (b:s.used=true) (c:s.gen=h.gen):ae.get t h=R s.x:=by unfold ae.get an.at;rw[z0 (by omega),a];dsimp only;rw[aj ⟨b,c⟩];rfl
theorem ae.Ok.oz {t:ae} (h:ae.Ok t):ae.get t bM=R (bM,0):=ae.zv (h:=bM) (by decide) h.root rfl rfl
theorem ae.nA {t:ae} {a b:aF} {x y:aF×Int} (g:ae.get t a=R x) (h:ae.get t b=R y) (e:a.idx=b.idx):a=b:=by obtain⟨_,s,c,_,d,_⟩:=ae.get_some g;obtain⟨_,r,i,_,f,_⟩:=ae.get_some h;rw[e,i] at c;cases c;obtain⟨j,k⟩:=a;obtain⟨l,m⟩:=b;simp only at e d f;rw[e,<-d,<-f]
theorem ae.d_ {t:ae} {h:aF} {g:aF×Int} (e:ae.get t h=R g):ae.a1 t h.idx=R (if h.idx=0 then-1 else g.1.idx,g.2):=by obtain⟨c,s,a,b,d,rfl⟩:=ae.get_some e;unfold ae.a1;rw[z0 (by omega),a];dsimp only;rw[aj b]
theorem ae.ma {t:ae} {k:Int} {p:Int×Int} (e:ae.a1 t k=R p):∃a g,ae.get t ⟨k,a⟩=R g∧p=(if k=0 then-1 else g.1.idx,g.2):=by
 unfold ae.a1 at e;split at e;·cases e
 ·split at e;·cases e
  ·rename_i s b;split at e;·rename_i c;exact⟨s.gen,s.x,ae.zv (h:=⟨k,s.gen⟩) (by show 0<=k;omega) b c rfl,(Option.some.inj e).symm⟩
   ·cases e
theorem ae.Ok.nB {t:ae} (h:ae.Ok t) {x:aF} {g:aF×Int} (a:ae.get t x=R g):x.idx=0↔x=bM:=⟨λe=>ae.nA a h.oz e,λe=>by rw[e];rfl⟩
theorem ae.Ok.vY {t:ae} (h:ae.Ok t) {top:aF} {i:aF×Int} (d:ae.get t top=R i):∀(n:Nat) (x:aF) (g:aF×Int),ae.get t x=R g->((ae.ft t n x).any λx=>decide (x=top))=ji (ae.a1 t) n x.idx top.idx
 |0,x,g,a=>rfl
 |n+1,x,g,a=>by
  have k:=(ae.get_some a).1;unfold ae.ft ji;rw[a,z0 (by omega),ae.d_ a];dsimp only;rw[List.any_cons];by_cases e:x=top;·subst e;simp
  ·have j:¬x.idx=top.idx:=λb=>e (ae.nA a d b);rw[z0 j,show decide (x=top)=false by simpa using e,Bool.false_or];by_cases c:x=bM;·subst c;rw[show(if bM.idx=0 then(-1:Int) else g.1.idx)=-1 from aj rfl];simp only[if_true];cases n with
    |zero=>rfl
    |succ n=>simp[ji]
   ·rw[z0 c,z0 (λb=>c ((h.nB a).1 b))];cases f:ae.get t g.1 with
    |none=>have:=h.up x g a;rw[f] at this;cases this
    |some y=>exact ae.Ok.vY h d n g.1 y f
theorem ae.Ok.c1 {t:ae} (h:ae.Ok t) {x top:aF} {g b:aF×Int} (c:ae.get t x=R g) (a:ae.get t top=R b):ae.c1 t x top=ez (ae.a1 t) x.idx top.idx:=by unfold ae.c1;rw[a];simp only[Option.isSome_some,Bool.true_and];exact h.vY a 10 x g c
section
variable {α:Type}
theorem an.qS {p:an α} {h:aF} {s:bp α}:p.at h=R s↔0<=h.idx∧p.pl[h.idx.toNat]?=R s∧s.used=true∧s.gen=h.gen:=by
 constructor;·exact an.dk
 ·rintro⟨d,a,b,c⟩;unfold an.at;rw[z0 (by omega),a];dsimp only;rw[aj ⟨b,c⟩]
theorem mb {a b:aF} (c:a.idx=b.idx) (d:a.gen=b.gen):a=b:=by obtain⟨_,_⟩:=a;obtain⟨_,_⟩:=b;simp only at c d;rw[c,d]
theorem an.Ok.qT {p:an α} (h:p.Ok) (x:α):0<=(p.put x).2.idx∧(∀k,k.idx=(p.put x).2.idx->p.at k=U)∧(p.put x).1.pl[(p.put x).2.idx.toNat]?=R ⟨x,(p.put x).2.gen,true⟩∧(∀n:Nat,n≠(p.put x).2.idx.toNat->(p.put x).1.pl[n]?=p.pl[n]?)∧(p.put x).1.pl.length<=max p.pl.length (an.many p+1)∧(p.put x).2.idx.toNat<(p.put x).1.pl.length:=by
 cases d:p.cl with
 |nil=>
  have e:p.put x=(⟨p.pl++[⟨x,0,true⟩],[]⟩,⟨p.pl.length,0⟩):=by unfold an.put;rw[d]
  rw[e];dsimp only;refine⟨by omega,?_,?_,?_,?_,?_⟩;·intro k g;cases c:p.at k with
   |none=>rfl
   |some s=>have:=(bD.1 (an.dk c).2.1).1;omega
  ·simp
  ·intro n f;rw[va];split;·rfl
   ·rw[gh (by simp;omega),gh (by omega)]
  ·unfold an.many;rw[d];simp
  ·simp
 |cons i l=>
  have m:i∈p.cl:=by rw[d];exact e5
  obtain⟨s,c,o⟩:=(h.cl i).1 m;have j:=(bD.1 c).1;have e:p.put x=(⟨p.pl.set i ⟨x,s.gen,true⟩,l⟩,⟨i,s.gen⟩):=by unfold an.put;rw[d];dsimp only;rw[c]
  rw[e];dsimp only;refine⟨by omega,?_,?_,?_,?_,?_⟩;·intro k g;cases q:p.at k with
   |none=>rfl
   |some r=>obtain⟨_,a,b,_⟩:=an.dk q;rw[g] at a;simp only[bZ] at a;rw[c] at a;cases a;rw[o] at b;cases b
  ·rw[show((i:Int)).toNat=i by simp,cV j]
  ·intro n f;rw[show((i:Int)).toNat=i by simp] at f;rw[dN (Ne.symm f)]
  ·simp;omega
  ·simpa using j
theorem an.Ok.zw {p:an α} (h:p.Ok) (x:α) (k:aF):(p.put x).1.at k=if k=(p.put x).2 then R ⟨x,(p.put x).2.gen,true⟩ else p.at k:=by
 obtain⟨g,i,f,j,_,_⟩:=h.qT x;by_cases e:k=(p.put x).2;·rw[aj e,an.qS,e];exact⟨g,f,rfl,rfl⟩
 ·rw[z0 e];by_cases d:k.idx=(p.put x).2.idx;·rw[i k d];cases l:(p.put x).1.at k with
   |none=>rfl
   |some s=>obtain⟨_,a,_,c⟩:=an.dk l;rw[d,f] at a;cases a;exact absurd (mb d c.symm) e
  ·unfold an.at;by_cases b:k.idx<0;·rw[aj b,aj b]
   ·rw[z0 b,z0 b,j _ (by omega)]
theorem an.qM {p:an α} {h:aF} {s:bp α} (c:p.at h=R s) (x:α) (k:aF):(p.set h x).at k=if k=h then R {s with x:=x} else p.at k:=by
 obtain⟨l,d,m,f⟩:=an.dk c;have g:=(bD.1 d).1;unfold an.set;rw[c];dsimp only;by_cases e:k=h;·rw[aj e,an.qS,e];exact⟨l,cV g,m,f⟩
 ·rw[z0 e];by_cases a:k.idx<0;·unfold an.at;rw[aj a,aj a]
  ·by_cases i:k.idx=h.idx;·have j:k.gen≠s.gen:=λb=>e (mb i (b.trans f));unfold an.at;rw[z0 a,z0 a,i,d];dsimp only;rw[cV g];dsimp only;rw[z0 (λb=>j b.2.symm),z0 (λb=>j b.2.symm)]
   ·unfold an.at;rw[z0 a,z0 a];dsimp only;rw[dN (by omega)]
theorem an.zx {p:an α} {h:aF} {s:bp α} (z:α) (c:p.at h=R s) (k:aF):(p.free z h).at k=if k.idx=h.idx then U else p.at k:=by
 obtain⟨g,d,i,j⟩:=an.dk c;have e:=(bD.1 d).1;unfold an.free;rw[c];dsimp only;by_cases a:k.idx<0;·unfold an.at;rw[aj a,aj a,z0 (by omega)]
 ·by_cases b:k.idx=h.idx;·rw[aj b];unfold an.at;rw[z0 a,b];dsimp only;rw[cV e];dsimp only;rw[z0 (λf=>by cases f.1)]
  ·rw[z0 b];unfold an.at;rw[z0 a,z0 a];dsimp only;rw[dN (by omega)]
theorem an.md (p:an α) (h:aF) (x:α):(p.set h x).pl.length=p.pl.length:=by
 unfold an.set;split;·rfl
 ·simp
theorem an.zy (z:α) (p:an α) (h:aF):(p.free z h).pl.length=p.pl.length:=by
 unfold an.free;split;·rfl
 ·simp
end
theorem vZ {α:Type}:∀(l:List (bp α)) (i:Nat) (a:aF),a∈hd i l↔∃(j:Nat) (s:bp α),l[j]?=R s∧s.used=true∧a=⟨((i+j:Nat):Int),s.gen⟩
 |[],i,a=>by simp[hd]
 |s::l,i,a=>by
  have f:=vZ l (i+1) a;have g:(∃(j:Nat) (r:bp α),(s::l)[j]?=R r∧r.used=true∧a=⟨((i+j:Nat):Int),r.gen⟩)↔(s.used=true∧a=⟨(i:Int),s.gen⟩)∨∃(j:Nat) (r:bp α),l[j]?=R r∧r.used=true∧a=⟨((i+1+j:Nat):Int),r.gen⟩:=by
   constructor;·rintro⟨j,r,b,c,d⟩;cases j with
    |zero=>simp at b;subst b;exact .inl ⟨c,d⟩
    |succ j=>exact .inr ⟨j,r,by simpa using b,c,by rw[d,show i+(j+1)=i+1+j by omega]⟩
   ·rintro(⟨b,c⟩|⟨j,r,b,c,d⟩);·exact⟨0,s,rfl,b,c⟩
    ·exact⟨j+1,r,by simpa using b,c,by rw[d,show i+(j+1)=i+1+j by omega]⟩
  rw[g,<-f,show hd i (s::l)=if s.used then⟨(i:Int),s.gen⟩::hd (i+1) l else hd (i+1) l from rfl];split;·rename_i e;rw[gZ];simp[e]
  ·rename_i e;simp[e]
theorem ae.v7 {t:ae} {h:aF}:h∈ae.all t↔(ae.get t h).isSome:=by
 unfold ae.all;rw[vZ];unfold ae.get;rw[Option.isSome_map];constructor;·rintro⟨j,s,a,b,rfl⟩;rw[(an.qS (s:=s)).2 ⟨by dsimp only;omega,by simpa using a,b,rfl⟩];rfl
 ·intro e;obtain⟨s,c⟩:=gK.1 e;obtain⟨f,a,b,d⟩:=an.dk c;exact⟨h.idx.toNat,s,a,b,mb (by dsimp only;omega) d.symm⟩
theorem zz {α:Type}:∀(l:List (bp α)) (i:Nat),(hd i l).Nodup
 |[],_=>List.nodup_nil
 |s::l,i=>by
  have a:=zz l (i+1);unfold hd;split;·rw[jL];refine⟨λb=>?_,a⟩;obtain⟨j,r,_,_,e⟩:=(vZ l (i+1) _).1 b;have:=congrArg aF.idx e;simp only at this;omega
  ·exact a
theorem ae.qU {t:ae} (h:ae.Ok t) {parent:aF} {g:aF×Int} (a:ae.get t parent=R g) (e:ae.fl t parent=0) (k:aF):ae.get (ae.create t parent).1 k=if k=(ae.create t parent).2 then R (parent,g.2+1) else ae.get t k:=by unfold ae.create;rw[aj e,a];dsimp only;unfold ae.get;rw[h.pool.zw];split<;>rfl
theorem ae.v8 {t:ae} {parent:aF} (e:ae.fl t parent=0):∃g,ae.get t parent=R g∧g.2≠8∧an.many t≠32:=by
 unfold ae.fl at e;cases a:ae.get t parent with
 |none=>rw[a] at e;cases e
 |some g=>
  rw[a] at e;dsimp only at e;split at e;·cases e
  ·split at e;·cases e
   ·exact⟨g,rfl,by assumption,by assumption⟩
theorem ae.Ok.sI {t:ae} (h:ae.Ok t) {parent:aF} (e:ae.fl t parent=0):1<=(ae.create t parent).2.idx∧(ae.create t parent).2.idx<32∧(∀k:aF,k.idx=(ae.create t parent).2.idx->ae.get t k=U)∧ae.a1 t (ae.create t parent).2.idx=U:=by
 obtain⟨g,c,o,d⟩:=ae.v8 e;have f:=h.pool.qT (parent,g.2+1);have i:ae.create t parent=an.put t (parent,g.2+1):=by unfold ae.create;rw[aj e,c]
 rw[i];obtain⟨q,j,r,s,u,v⟩:=f;have a:∀k:aF,k.idx=(an.put t (parent,g.2+1)).2.idx->ae.get t k=U:=λk l=>by unfold ae.get;rw[j k l];rfl
 have w:=h.pool.cy;have x:=h.cy;have z:(an.put t (parent,g.2+1)).2.idx.toNat<32:=by
  have:an.many t+1<=32:=by unfold an.many at d⊢;omega
  omega
 refine⟨?_,by omega,a,?_⟩;·refine Decidable.byContradiction λA=>?_;have:=a bM (by show(0:Int)=_;omega);rw[h.oz] at this;cases this
 ·cases m:ae.a1 t (an.put t (parent,g.2+1)).2.idx with
  |none=>rfl
  |some p=>obtain⟨n,y,b,_⟩:=ae.ma m;rw[a ⟨_,n⟩ rfl] at b;cases b
theorem ae.v_ {t t':ae} (f:eO) (h:∀k p,f k=R p↔∃a g,ae.get t' ⟨k,a⟩=R g∧p=(if k=0 then-1 else g.1.idx,g.2)):ae.a1 t'=f:=by
 funext k;cases b:ae.a1 t' k with
 |none=>
  cases c:f k with
  |none=>rfl
  |some p=>obtain⟨a,g,d,_⟩:=(h k p).1 c;have:=ae.d_ d;rw[b] at this;cases this
 |some p=>exact((h k p).2 (ae.ma b)).symm
theorem ae.Ok.zA {t:ae} (h:ae.Ok t) {parent:aF} {g:aF×Int} (d:ae.get t parent=R g) (e:ae.fl t parent=0):ae.a1 (ae.create t parent).1=mD (ae.a1 t) (ae.create t parent).2.idx (parent.idx,g.2+1):=by
 obtain⟨l,m,j,n⟩:=h.sI e;refine ae.v_ (t:=t) _ λk p=>?_;unfold mD;constructor
 ·intro f;split at f;·rename_i b;subst b;cases f;refine⟨(ae.create t parent).2.gen,(parent,g.2+1),?_,by rw[z0 (by omega)]⟩;rw[ae.qU h d e,aj rfl]
  ·rename_i b;obtain⟨i,y,a,c⟩:=ae.ma f;refine⟨i,y,?_,c⟩;rw[ae.qU h d e,z0 (λr=>b (congrArg aF.idx r))];exact a
 ·rintro⟨i,y,a,c⟩;rw[ae.qU h d e] at a;split at a;·rename_i r;have:=congrArg aF.idx r;simp only at this;cases a;rw[aj this,c,z0 (by omega)]
  ·rename_i r;rw[z0 (λb=>by have:=j ⟨k,i⟩ b;rw[a] at this;cases this)];have:=ae.d_ a;simp only at this;rw[this,c]
theorem ae.Ok.create {t:ae} (h:ae.Ok t) (parent:aF):ae.Ok (ae.create t parent).1:=by
 by_cases e:ae.fl t parent=0
 ·obtain⟨g,a,s,n⟩:=ae.v8 e;obtain⟨f,o,u,p⟩:=h.sI e;have c:ae.create t parent=an.put t (parent,g.2+1):=by unfold ae.create;rw[aj e,a]
  have i:=h.pool.qT (parent,g.2+1);have j:=ae.qU h a e;have v:=h.pool.cy;have w:=h.cy;refine⟨by rw[c];exact h.pool.put _,?_,?_,?_,?_⟩;·rw[c];have:an.many t+1<=32:=(by unfold an.many at n⊢;omega);have:=i.2.2.2.2.1;omega
  ·rw[c] at f⊢;rw[i.2.2.2.1 0 (by omega)];exact h.root
  ·intro k y b;rw[j] at b;have l:∀d:aF,(ae.get t d).isSome->(ae.get (ae.create t parent).1 d).isSome:=by
    intro d q;rw[j];split;·rfl
    ·exact q
   split at b;·cases b;exact l _ (by rw[a];rfl)
   ·exact l _ (h.up k y b)
  ·rw[h.zA a e];have m:=ae.d_ a;have r:=h.a1.deep _ _ m;exact h.a1.add p f o m (by dsimp only at r⊢;omega)
 ·unfold ae.create;rw[z0 e];exact h
theorem ae.sJ {t:ae} {h:aF} (e:ae.ie t h=0):∃g,ae.get t h=R g∧h≠bM∧∀x y,x≠bM->ae.get t x=R y->y.1≠h:=by
 unfold ae.ie at e;cases a:ae.get t h with
 |none=>rw[a] at e;cases e
 |some g=>
  rw[a] at e;dsimp only at e;split at e;·cases e
  ·rename_i d;split at e;·rename_i f;refine⟨g,rfl,d,λx y i b j=>?_⟩;have c:x∈ae.kids t h:=(by unfold ae.kids;rw[List.mem_filter];refine⟨ae.v7.2 (by rw[b];rfl),?_⟩;unfold ae.l_;rw[b];simp[i,j]);rw[pA.1 f] at c;cases c
   ·cases e
theorem ae.sK {t:ae} {h:aF} (e:ae.ie t h=0) (k:aF):ae.get (ae.hf t h) k=if k.idx=h.idx then U else ae.get t k:=by obtain⟨g,a,_⟩:=ae.sJ e;obtain⟨s,b,_⟩:=h9.1 a;unfold ae.hf;rw[aj e];unfold ae.get;rw[an.zx _ b];split<;>rfl
theorem ae.Ok.zB {t:ae} (h:ae.Ok t) {x:aF} (e:ae.ie t x=0):ae.a1 (ae.hf t x)=mE (ae.a1 t) x.idx:=by
 refine ae.v_ (t:=t) _ λk p=>?_;unfold mE;constructor
 ·intro b;split at b;·cases b
  ·rename_i c;obtain⟨f,y,a,d⟩:=ae.ma b;exact⟨f,y,by rw[ae.sK e,z0 c];exact a,d⟩
 ·rintro⟨f,y,a,d⟩;rw[ae.sK e] at a;split at a;·cases a
  ·rename_i c;rw[z0 c];have:=ae.d_ a;simp only at this;rw[this,d]
theorem ae.Ok.hf {t:ae} (h:ae.Ok t) (x:aF):ae.Ok (ae.hf t x):=by
 by_cases e:ae.ie t x=0
 ·obtain⟨g,c,n,l⟩:=ae.sJ e;have m:x.idx≠0:=λa=>n ((h.nB c).1 a);have v:=(ae.get_some c).1;have f:ae.hf t x=an.free (bM,0) t x:=by unfold ae.hf;rw[aj e]
  refine⟨by rw[f];exact h.pool.free _ _,by rw[f,an.zy];exact h.cy,?_,?_,?_⟩;·rw[f];obtain⟨s,o,_⟩:=h9.1 c;unfold an.free;rw[o];dsimp only;rw[dN (by omega)];exact h.root
  ·intro k y b;rw[ae.sK e] at b⊢;split at b;·cases b
   ·rename_i a;have i:=h.up k y b;obtain⟨q,j⟩:=gK.1 i;by_cases d:k=bM;·subst d;rw[h.oz] at b;cases b;rw[z0 (λa=>m a.symm)];exact i
    ·rw[z0 (λa=>l k y d b (ae.nA j c a))];exact i
  ·rw[h.zB e];apply h.a1.del m;intro k p u a;obtain⟨w,y,b,rfl⟩:=ae.ma u;dsimp only at a;split at a;·omega
   ·rename_i d;obtain⟨q,j⟩:=gK.1 (h.up _ _ b);exact l _ _ (λr=>d (congrArg aF.idx r)) b (ae.nA j c a)
 ·unfold ae.hf;rw[z0 e];exact h
theorem ae.zC {t:ae} {x:aF} {y:aF×Int} (a:ae.get t x=R y) (z:aF×Int) (k:aF):ae.get (an.set t x z) k=if k=x then R z else ae.get t k:=by obtain⟨s,b,_⟩:=h9.1 a;unfold ae.get;rw[an.qM b];split<;>rfl
theorem ae.wa (h parent:aF) (b:Int):∀(l:List aF) (a:ae),l.Nodup->(∀x∈l,(ae.get a x).isSome)->∀k,ae.get (ae.fv h parent b l a) k=if k∈l then(ae.get a k).map (λy=>(if k=h then parent else y.1,y.2+b)) else ae.get a k
 |[],a,_,_,k=>by rw[z0 (by simp)];rfl
 |x::l,a,d,f,k=>by
  rw[jL] at d;obtain⟨y,c⟩:=gK.1 (f x e5);unfold ae.fv;rw[c];dsimp only;rw[ae.wa h parent b l _ d.2 ?_ k,ae.zC c]
  ·by_cases e:k=x;·subst e;rw[z0 d.1,aj rfl,aj e5,c];rfl
   ·rw[z0 e];by_cases m:k∈l;·rw[aj m,aj (hK _ m)]
    ·rw[z0 m,z0 (by simp[e,m])]
  ·intro g i;rw[ae.zC c];split;·rfl
   ·exact f g (hK _ i)
theorem ae.wb (h parent:aF) (b:Int):∀(l:List aF) (a:ae),an.Ok a->an.Ok (ae.fv h parent b l a)∧(ae.fv h parent b l a).pl.length=a.pl.length
 |[],a,c=>⟨c,rfl⟩
 |x::l,a,c=>by
  unfold ae.fv;split;·exact ae.wb h parent b l a c
  ·rename_i y _;have:=ae.wb h parent b l _ (c.set x (if x=h then parent else y.1,y.2+b));exact⟨this.1,by rw[this.2,an.md]⟩
theorem ae.oy {t:ae} {h parent:aF} (e:ae.eh t h parent=0):∃g p,ae.get t h=R g∧ae.get t parent=R p∧h≠bM∧ae.c1 t parent h=false∧∀x∈ae.below t h,ae.fA t x+(p.2+1-g.2)<=8:=by
 unfold ae.eh at e;cases a:ae.get t h with
 |none=>rw[a] at e;cases e
 |some g=>
  cases hp:ae.get t parent with
  |none=>rw[a,hp] at e;cases e
  |some p=>
   rw[a,hp] at e;dsimp only at e;split at e;·cases e
   ·rename_i b;split at e;·cases e
    ·rename_i c;split at e;·cases e
     ·rename_i d;refine⟨g,p,rfl,rfl,b,by simpa using c,λx f=>?_⟩;have i:(ae.below t h).any (λx=>decide (8<ae.fA t x+(p.2+1-g.2)))=false:=(by simpa using d);have:=List.any_eq_false.1 i x f;simp only[decide_eq_true_eq] at this;omega
theorem ae.jU {t:ae} {h x:aF}:x∈ae.below t h↔(ae.get t x).isSome∧ae.c1 t x h=true:=by unfold ae.below;rw[List.mem_filter,ae.v7]
theorem ae.ox (t:ae) (h:aF):(ae.below t h).Nodup:=List.Nodup.sublist List.filter_sublist (zz _ _)
theorem ae.sL {t:ae} {h parent:aF} {g p:aF×Int} (a:ae.get t h=R g) (b:ae.get t parent=R p) (e:ae.eh t h parent=0) (k:aF):ae.get (ae.move t h parent) k=if ae.c1 t k h then(ae.get t k).map (λy=>(if k=h then parent else y.1,y.2+(p.2+1-g.2))) else ae.get t k:=by
 unfold ae.move;rw[aj e,a,b];dsimp only;rw[ae.wa _ _ _ _ _ (ae.ox t h) (λx c=>(ae.jU.1 c).1)];by_cases m:k∈ae.below t h;·rw[aj m,aj (ae.jU.1 m).2]
 ·rw[z0 m];by_cases u:ae.c1 t k h=true;·rw[aj u];cases hk:ae.get t k with
   |none=>rfl
   |some y=>exact absurd (ae.jU.2 ⟨by rw[hk];rfl,u⟩) m
  ·rw[z0 u]
theorem ae.Ok.qQ {t:ae} (hk:ae.Ok t) {h parent:aF} {g p:aF×Int} (d:ae.get t h=R g) (o:ae.get t parent=R p) (e:ae.eh t h parent=0):ae.a1 (ae.move t h parent)=kW (ae.a1 t) h.idx parent.idx (p.2+1-g.2):=by
 obtain⟨_,_,_,_,s,_⟩:=ae.oy e;have u:h.idx≠0:=λq=>s ((hk.nB d).1 q);refine ae.v_ (t:=t) _ λk q=>?_;unfold kW;constructor;·intro j;cases a:ae.a1 t k with
  |none=>rw[a] at j;cases j
  |some r=>
   rw[a] at j;dsimp only at j;obtain⟨f,y,b,rfl⟩:=ae.ma a;have i:=hk.c1 b d;simp only at i;have m:=ae.sL d o e ⟨k,f⟩;rw[b,i] at m;split at j
   ·rename_i l;rw[aj l] at m;refine⟨f,_,m,?_⟩;rw[<-Option.some.inj j];by_cases c:k=h.idx;·have:(⟨k,f⟩:aF)=h:=ae.nA b d c;dsimp only;rw[aj c,aj this,z0 (by omega)]
    ·have:(⟨k,f⟩:aF)≠h:=λr=>c (congrArg aF.idx r);dsimp only;rw[z0 c,z0 this]
   ·rename_i l;rw[z0 l] at m;exact⟨f,y,m,(Option.some.inj j).symm⟩
 ·rintro⟨f,y,b,rfl⟩;rw[ae.sL d o e] at b;split at b
  ·rename_i l;obtain⟨v,n,rfl⟩:=h9.1 b;have a:=ae.d_ n;simp only at a;rw[a];dsimp only;have i:=hk.c1 n d;simp only at i;rw[<-i,aj l];by_cases c:k=h.idx;·have:(⟨k,f⟩:aF)=h:=ae.nA n d c;rw[aj c,aj this,z0 (by omega)]
   ·have:(⟨k,f⟩:aF)≠h:=λr=>c (congrArg aF.idx r);rw[z0 c,z0 this]
  ·rename_i l;have a:=ae.d_ b;simp only at a;rw[a];dsimp only;have i:=hk.c1 b d;simp only at i;rw[<-i,z0 l]
theorem ae.Ok.move {t:ae} (hk:ae.Ok t) (h parent:aF):ae.Ok (ae.move t h parent):=by
 by_cases e:ae.eh t h parent=0
 ·obtain⟨g,p,a,c,z,A,B⟩:=ae.oy e;have i:=ae.sL a c e;have l:ae.move t h parent=ae.fv h parent (p.2+1-g.2) (ae.below t h) t:=by unfold ae.move;rw[aj e,a,c]
  have C:h.idx≠0:=λq=>z ((hk.nB a).1 q);have m:=ae.wb h parent (p.2+1-g.2) (ae.below t h) t hk.pool;have D:ae.c1 t bM h=false:=by rw[hk.c1 hk.oz a];show ez (ae.a1 t) 0 h.idx=false;rw[hk.a1.qP];simp;omega
  refine⟨by rw[l];exact m.1,by rw[l,m.2];exact hk.cy,?_,?_,?_⟩;·have n:=i bM;rw[D,hk.oz] at n;obtain⟨_,s,o,u,v,w⟩:=ae.get_some n;rw[show(bM.idx).toNat=0 from rfl] at o;rw[o];obtain⟨J,K,L⟩:=s;simp only at u v w;rw[u,v,w];rfl
  ·have j:∀d:aF,(ae.get t d).isSome->(ae.get (ae.move t h parent) d).isSome:=by
    intro d f;rw[i];split;·rw[Option.isSome_map];exact f
    ·exact f
   intro k y b;rw[i] at b;split at b
   ·obtain⟨d,f,rfl⟩:=h9.1 b;dsimp only;split;·exact j _ (by rw[c];rfl)
    ·exact j _ (hk.up k d f)
   ·exact j _ (hk.up k y b)
  ·rw[hk.qQ a c e];have E:=ae.d_ a;have F:=ae.d_ c;refine hk.a1.move (p:=(if h.idx=0 then-1 else g.1.idx,g.2)) (q:=(if parent.idx=0 then-1 else p.1.idx,p.2)) E C F (by rw[<-hk.c1 c a];exact A) ?_;intro k r G H;obtain⟨I,y,b,rfl⟩:=ae.ma G;have x:=hk.c1 b a;simp only at x;have:=B ⟨k,I⟩ (ae.jU.2 ⟨by rw[b];rfl,by rw[x];exact H⟩);unfold ae.fA at this;rw[b] at this;exact this
 ·unfold ae.move;rw[z0 e];exact hk
theorem zD:ae.Ok lE:=by
 have f:∀a g,ae.get lE a=R g->a=bM∧g=(bM,0):=by
  intro a g e;obtain⟨h,s,b,j,m,n⟩:=ae.get_some e;have d:a.idx.toNat=0:=by have:=(bD.1 b).1;simp[lE] at this;omega
  rw[d] at b;have c:s=⟨(bM,0),0,true⟩:=(Option.some.inj b).symm;subst c;exact⟨mb (by show a.idx=0;omega) (by show a.gen=0;exact m.symm),n.symm⟩
 have o:ae.get lE bM=R (bM,0):=rfl;have c:∀k p,ae.a1 lE k=R p->k=0∧p=(-1,0):=by intro k p e;obtain⟨u,g,q,rfl⟩:=ae.ma e;obtain⟨r,rfl⟩:=f _ _ q;have:=congrArg aF.idx r;have l:k=0:=this;exact⟨l,by rw[aj l]⟩
 refine⟨⟨List.nodup_nil,λi=>⟨λt=>(by cases t),?_⟩⟩,by decide,rfl,?_,?_⟩
 ·rintro⟨s,b,j⟩;have d:i=0:=by have:=(bD.1 b).1;simp[lE] at this;omega
  subst d;have:s=⟨(bM,0),0,true⟩:=(Option.some.inj b).symm;subst this;cases j
 ·intro a g e;rw[(f a g e).2,o];rfl
 ·refine⟨?_,rfl,?_,?_⟩;·intro g p e;have:=(c g p e).1;omega
  ·intro g p e h;exact absurd (c g p e).1 h
  ·intro g p e;rw[(c g p e).2];exact⟨by decide,by decide⟩
structure aM where
 quota:Int
 slice:Int
 pool:Int
 spent:Int
 loc:List Int deriving DecidableEq
def aM.new (a:Nat):aM:=⟨0,0,0,0,gY a 0⟩
def aM.hR (q s:Int):Int:=if q<0∨1099511627776<q then 1 else if q=0 then 0 else if s<1∨1099511627776<s then 1 else 0
def aM.set (b:aM) (q s:Int):aM:=if aM.hR q s=0 then⟨q,if q=0 then 0 else s,q,0,b.loc.map λ_=>0⟩ else b
def aM.limited (b:aM):Bool:=decide (0<b.quota)
def aM.there (b:aM) (p:Int):Bool:=decide (0<=p)&&decide (p<b.loc.length)
def aM.at (b:aM) (p:Int):Int:=b.loc.getD p.toNat 0
def aM.ig (b:aM) (p:Int):Int:=min b.pool (cK (b.slice-b.at p))
def aM.cP (b:aM) (p:Int):aM:=if b.there p=false then b else if b.quota=0 then b else if b.at p<=0 then {b with loc:=b.loc.set p.toNat (cK (b.at p+b.ig p)),pool:=cK (b.pool-b.ig p)} else b
def aM.hz (b:aM) (p:Int):Bool:=if b.there p=false then false else if b.quota=0 then true else decide (0<(b.cP p).at p)
def aM.e7 (b:aM) (p ns:Int):Int:=if b.there p=false then 1 else if ns<0∨1000000000<ns then 8 else 0
def aM.b4 (b:aM) (p ns:Int):aM:=if b.e7 p ns=0 then aM.cP {b with spent:=kr b.spent ns,loc:=if 0<b.quota then b.loc.set p.toNat (cK (b.at p-ns)) else b.loc} p else b
def aM.ret (b:aM) (p:Int):aM:=if b.there p=true then {b with pool:=cK (b.pool+max (b.at p) 0),loc:=b.loc.set p.toNat (cK (b.at p-max (b.at p) 0))} else b
def aM.gy (b:aM):aM:={b with spent:=0,pool:=b.quota,loc:=b.loc.map λn=>min n 0}
structure cD where
 hC:Nat
 task:Int
 ran:Nat
 busy:Nat
 idle:Nat deriving DecidableEq
def eA (a b:Nat):Nat:=if 18446744073709551616<=a+b then 18446744073709551615 else a+b
def cD.new (a:Nat):cD:=⟨a,-1,0,0,0⟩
def cD.begin (t:cD) (k:Int):cD:=if max k (-1)=t.task then t else {t with task:=max k (-1),ran:=0}
def sM (a w b:Nat):Nat:=if b<=w then a else max (a*w/b) 1
def cD.tick (t:cD) (ns:Nat):cD:=if 1000000000<ns then t else if t.task=-1 then {t with idle:=eA t.idle ns} else {t with ran:=eA t.ran ns,busy:=eA t.busy ns}
def cD.due (t:cD) (ns w a:Nat):Bool:=if 1000000000<ns then false else if t.task=-1 then false else decide (sM t.hC w a<=eA t.ran ns)
structure fS where
 tasks:Int->Int
 groups:Int->Int
 total:Int
def fS.new:fS:=⟨λ_=>0,λ_=>0,0⟩
def mc (l:List Int):Bool:=l.all (λx=>decide (0<=x))&&decide l.Nodup
def lF (f:Int->Int) (k n:Int) (i:Int):Int:=if i=k then cK (f k+n) else f i
def mH (n:Int):List Int->(Int->Int)->Int->Int
 |[],f=>f
 |k::l,f=>mH n l (lF f k n)
def fS.ih (b:fS) (a:List Int) (task ns:Int):Int:=if ns<0∨task<0∨mc a=false then 1 else if cK (9223372036854775807-b.total)<ns then 3 else 0
def fS.ch (b:fS) (a:List Int) (task ns:Int):fS:=if b.ih a task ns=0 then⟨lF b.tasks task ns,mH ns a b.groups,cK (b.total+ns)⟩ else b
def oA:Nat->List Nat->Nat
 |a,[]=>a
 |a,n::l=>if 18446744073709551616<=a+n then 18446744073709551615 else oA (a+n) l
def oB (shares b a:Nat):Nat:=if a=0 then 2 else min (max (shares*b/a) 2) 262144
def jV (shares:Nat) (a:List Nat):List Nat:=a.map λn=>oB shares n (oA 0 a)
def fT (l:List Int) (p:Int):List Int:=if 0<=p∧l.length≠64∧p∉l then l++[p] else l
def bW (m:Int) (p:Nat):Bool:=bits BinOp.and ah (m/2^p) 1==1
def cY (zs:List Int) (m:Int) (p:Nat):Bool:=decide (p<zs.length)&&(decide (p<64)&&bW m p)
theorem mI {m:Int}:cY zs m p=true↔p<zs.length∧p<64∧bW m p=true:=by simp[cY]
def a_ (zs:List Int) (p:Nat):Int:=zs[p]?.getD 0
def jW (P:Nat->Bool):Nat->Int
 |0=>-1
 |n+1=>if 0<=jW P n then jW P n else if P n then(n:Int) else-1
theorem we (P:Nat->Bool) (n:Nat):(jW P n=-1∧∀p,p<n->P p=false)∨(∃p:Nat,p<n∧jW P n=p∧P p=true∧∀a,a<p->P a=false):=by
 induction n with
 |zero=>exact .inl ⟨rfl,λp i=>by omega⟩
 |succ n e=>
  rcases e with⟨d,b⟩|⟨p,d,b,f,g⟩
  ·by_cases c:P n=true;·refine .inr ⟨n,by omega,?_,c,b⟩;unfold jW;rw[d];simp[c]
   ·refine .inl ⟨?_,λa j=>?_⟩;·unfold jW;rw[d];simp[c]
    ·by_cases h:a=n;·subst h;simpa using c
     ·exact b a (by omega)
  ·refine .inr ⟨p,by omega,?_,f,g⟩;unfold jW;rw[b];simp
theorem wg {P:Nat->Bool} {k:Nat} (hk:k<n) (b:P k=true) (f:∀d,d<k->P d=false):jW P n=k:=by
 rcases we P n with⟨_,c⟩|⟨p,h,c,e,g⟩;·exact absurd (c k hk) (by simp[b])
 ·rw[c];rcases Nat.lt_trichotomy p k with a|a|a;·rw[f p a] at e;cases e
  ·rw[a]
  ·rw[g k a] at b;cases b
theorem wh {P:Nat->Bool} (c:∀a,a<n->P a=false):jW P n=-1:=by
 rcases we P n with⟨d,_⟩|⟨p,e,_,b,_⟩;·exact d
 ·rw[c p e] at b;cases b
def zE (zs:List Int) (b m:Int) (p j:Nat):Bool:=(cY zs m p&&(p:Int)!=b)&&(gi j).all λa=>!(cY zs m a&&(a:Int)!=b&&decide (a_ zs p<a_ zs a))
def qV (zs:List Int) (a m:Int) (p:Nat):Bool:=zE zs a m p zs.length
def zF (zs:List Int) (m:Int) (p j:Nat):Bool:=cY zs m p&&(gi j).all λq=>!(cY zs m q&&decide (a_ zs q<a_ zs p))
def pO (zs:List Int) (m:Int) (p:Nat):Bool:=zF zs m p zs.length
def lG (zs:List Int) (a m:Int):Int:=jW (qV zs a m) zs.length
def least (zs:List Int) (m:Int):Int:=jW (pO zs m) zs.length
def iM (w w':ab):Prop:=∃n,w'=w.drewN n
theorem iM.refl (w:ab):iM w w:=⟨0,rfl⟩
theorem iM.drewN {w w':ab} (h:iM w w') (n:Nat):iM w (w'.drewN n):=by obtain⟨k,rfl⟩:=h;exact⟨k+n,by rw[World.drewN_drewN]⟩
theorem iM.below (h:iM w w') (B:Nat):Below B w w':=by
 obtain⟨a,rfl⟩:=h;induction a with
 |zero=>exact Below.refl _ _
 |succ a b=>exact b.drew
structure Row (k:IntKind) (lo aV:Int) (w:ab) (a:Option Addr) (len:Nat) (zs:List Int):Prop where
 n:zs.length=len
 cells:(a=U∧len=0)∨∃b off,a=R ⟨b,off,U⟩∧b<w.heap.size∧∀i,i<len->w.cell? ⟨b,off+i,U⟩=R (I k (a_ zs i))
 bd:∀i:Nat,lo<=a_ zs i∧a_ zs i<aV
 fits:len*8<=140737488351232
def kX (zs:List Int) (a:Int) (b:Int) (p:Nat):Int:=if(p:Int)≠a∧(b<0∨a_ zs b.toNat<a_ zs p) then(p:Int) else b
def gz (zs:List Int) (a m:Int) (l:List {p:Nat//cY zs m p=true}):Int:=l.foldl (λb c=>kX zs a b c.1) (-1)
theorem wi (zs:List Int) (a m:Int) (l:List {p:Nat//cY zs m p=true}) (x:{p:Nat//cY zs m p=true}):gz zs a m (l++[x])=kX zs a (gz zs a m l) x.1:=by simp[gz]
def me (zs:List Int) (b:Int) (p:Nat):Int:=if b<0∨a_ zs p<a_ zs b.toNat then(p:Int) else b
def hg (zs:List Int) (m:Int) (l:List {p:Nat//cY zs m p=true}):Int:=l.foldl (λb x=>me zs b x.1) (-1)
theorem wj (zs:List Int) (m:Int) (l:List {p:Nat//cY zs m p=true}) (x:{p:Nat//cY zs m p=true}):hg zs m (l++[x])=me zs (hg zs m l) x.1:=by simp[hg]
theorem wm {α:Type} {P:List α->Prop} (h0:P []) (b:∀l a,P l->P (l++[a])) (l:List α):P l:=by
 have:∀l:List α,P l.reverse:=by
  intro l;induction l with
  |nil=>exact h0
  |cons a l c=>rw[List.reverse_cons];exact b _ _ c
 simpa using this l.reverse
theorem FY (zs:List Int) (a m:Int) (l:List {p:Nat//cY zs m p=true}):-1<=gz zs a m l∧gz zs a m l<zs.length∨gz zs a m l=-1:=by refine wm (P:=λl=>-1<=gz zs a m l∧gz zs a m l<zs.length∨gz zs a m l=-1) (.inr rfl) ?_ l;intro l b c;rw[wi];have d:=(mI.1 b.2).1;unfold kX;split<;>omega
theorem FZ (zs:List Int) (m:Int) (l:List {p:Nat//cY zs m p=true}):-1<=hg zs m l∧hg zs m l<zs.length∨hg zs m l=-1:=by refine wm (P:=λl=>-1<=hg zs m l∧hg zs m l<zs.length∨hg zs m l=-1) (.inr rfl) ?_ l;intro l a b;rw[wj];have c:=(mI.1 a.2).1;unfold me;split<;>omega
def eZ (zs:List Int) (m:Int):Nat->List {p:Nat//cY zs m p=true}
 |0=>[]
 |k+1=>if h:cY zs m k=true then eZ zs m k++[⟨k,h⟩] else eZ zs m k
theorem F0 (zs:List Int) (m:Int) (k:Nat):(eZ zs m k).length<=k:=by
 induction k with
 |zero=>simp[eZ]
 |succ k a=>
  unfold eZ;split;·simp;omega
  ·omega
theorem wo {m:Int} {k:Nat} (h:cY zs m k=true):eZ zs m (k+1)=eZ zs m k++[⟨k,h⟩]:=by show(if h:cY zs m k=true then eZ zs m k++[⟨k,h⟩] else eZ zs m k)=_;rw[dif_pos h]
theorem sN {m:Int} {k:Nat} (h:cY zs m k=false):eZ zs m (k+1)=eZ zs m k:=by show(if h:cY zs m k=true then eZ zs m k++[⟨k,h⟩] else eZ zs m k)=_;rw[dif_neg (by simp[h])]
def wq (zs:List Int) (c m:Int) (k:Nat) (b:Int):Prop:=(b=-1∧∀a:Nat,a<k->cY zs m a=true->(a:Int)=c)∨∃p:Nat,b=p∧p<k∧cY zs m p=true∧(p:Int)≠c∧∀a:Nat,a<k->cY zs m a=true->(a:Int)≠c->a_ zs a<=a_ zs p∧(a<p->a_ zs a<a_ zs p)
theorem zG (zs:List Int) (h m:Int) (k:Nat):wq zs h m k (gz zs h m (eZ zs m k)):=by
 induction k with
 |zero=>exact .inl ⟨rfl,λc l=>by omega⟩
 |succ k u=>
  by_cases i:cY zs m k=true
  ·rw[wo i,wi];show wq _ _ _ _ (kX zs h (gz zs h m (eZ zs m k)) k);rcases u with⟨g,j⟩|⟨p,g,j,s,t,q⟩
   ·rw[g];by_cases r:(k:Int)=h
    ·refine .inl ⟨by simp[kX,r],λc n d=>?_⟩;by_cases e:c=k;·subst e;exact r
     ·exact j c (by omega) d
    ·refine .inr ⟨k,by simp[kX,r],by omega,i,r,λc n d f=>?_⟩;by_cases e:c=k;·subst e;exact⟨jw _,λl=>by omega⟩
     ·exact absurd (j c (by omega) d) f
   ·rw[g];by_cases o:(k:Int)≠h∧a_ zs p<a_ zs k
    ·refine .inr ⟨k,?_,by omega,i,o.1,λc n d f=>?_⟩;·unfold kX;rw[aj ⟨o.1,.inr (by simpa using o.2)⟩]
     ·by_cases e:c=k;·subst e;exact⟨jw _,λl=>by omega⟩
      ·have:=q c (by omega) d f;exact⟨by omega,λ_=>by omega⟩
    ·refine .inr ⟨p,?_,by omega,s,t,λc n d f=>?_⟩;·unfold kX;rw[z0 (by
      rintro⟨a,b|b⟩;·omega
      ·exact o ⟨a,by simpa using b⟩)]
     ·by_cases e:c=k;·subst e;have:¬a_ zs p<a_ zs c:=λl=>o ⟨f,l⟩;exact⟨by omega,λl=>by omega⟩
      ·exact q c (by omega) d f
  ·have v:cY zs m k=false:=(by simpa using i);rw[sN v];rcases u with⟨g,j⟩|⟨p,g,j,s,t,q⟩
   ·refine .inl ⟨g,λc n d=>?_⟩;by_cases e:c=k;·subst e;exact absurd d i
    ·exact j c (by omega) d
   ·refine .inr ⟨p,g,by omega,s,t,λc n d f=>?_⟩;by_cases e:c=k;·subst e;exact absurd d i
    ·exact q c (by omega) d f
theorem sO {e m:Int}:qV zs e m p=true↔(cY zs m p=true∧(p:Int)≠e)∧∀d:Nat,d<zs.length->cY zs m d=true->(d:Int)≠e->a_ zs d<=a_ zs p:=by
 simp[qV,zE];intro _ _;refine⟨λf d a b c=>(f d a).resolve_left (by simp[b,c]),λf g a=>?_⟩;cases i:cY zs m g;·exact .inl (.inl rfl)
 ·by_cases h:(g:Int)=e;·exact .inl (.inr h)
  ·exact .inr (f g a i h)
theorem wu {m:Int}:pO zs m p=true↔cY zs m p=true∧∀c:Nat,c<zs.length->cY zs m c=true->a_ zs p<=a_ zs c:=by
 simp[pO,zF];intro _;refine⟨λd c a b=>(d c a).resolve_left (by simp[b]),λd e a=>?_⟩;cases f:cY zs m e;·exact .inl rfl
 ·exact .inr (d e a f)
theorem wv (zs:List Int) (d m:Int):wq zs d m zs.length (lG zs d m):=by
 have j:=zG zs d m zs.length;have o:gz zs d m (eZ zs m zs.length)=lG zs d m:=by
  unfold lG;rcases j with⟨i,g⟩|⟨p,i,g,k,l,n⟩
  ·rw[i];symm;refine wh λe f=>?_;cases h:qV zs d m e;·rfl
   ·exact absurd (g e f (sO.1 h).1.1) (sO.1 h).1.2
  ·rw[i];symm;refine wg g (sO.2 ⟨⟨k,l⟩,λe f q r=>(n e f q r).1⟩) λe f=>?_;cases h:qV zs d m e;·rfl
   ·obtain⟨⟨a,b⟩,c⟩:=sO.1 h;have:=(n e (by omega) a b).2 f;have:=c p g k l;omega
 rw[<-o];exact j
theorem F1 (zs:List Int) (c m:Int):gz zs c m (eZ zs m zs.length)=lG zs c m:=by
 have n:=zG zs c m zs.length;have o:=wv zs c m;rcases n with⟨f,d⟩|⟨p,f,d,i,j,q⟩<;>rcases o with⟨g,e⟩|⟨h,g,e,k,l,r⟩;·rw[f,g]
 ·exact absurd (d h e k) l
 ·exact absurd (e p d i) j
 ·rw[f,g];have a:=q h e k l;have b:=r p d i j;have:p=h:=by omega
  rw[this]
def wx (zs:List Int) (m:Int) (k:Nat) (b:Int):Prop:=(b=-1∧∀q:Nat,q<k->cY zs m q=false)∨∃p:Nat,b=p∧p<k∧cY zs m p=true∧∀q:Nat,q<k->cY zs m q=true->a_ zs p<=a_ zs q∧(q<p->a_ zs p<a_ zs q)
theorem zH (zs:List Int) (m:Int) (k:Nat):wx zs m k (hg zs m (eZ zs m k)):=by
 induction k with
 |zero=>exact .inl ⟨rfl,λa j=>by omega⟩
 |succ k n=>
  by_cases f:cY zs m k=true
  ·rw[wo f,wj];show wx _ _ _ (me zs (hg zs m (eZ zs m k)) k);rcases n with⟨e,g⟩|⟨p,e,g,l,h⟩
   ·rw[e];refine .inr ⟨k,by simp[me],by omega,f,λa i c=>?_⟩;by_cases d:a=k;·subst d;exact⟨jw _,λj=>by omega⟩
    ·rw[g a (by omega)] at c;cases c
   ·rw[e];by_cases o:a_ zs k<a_ zs p
    ·refine .inr ⟨k,?_,by omega,f,λa i c=>?_⟩;·unfold me;rw[aj (.inr (by simpa using o))]
     ·by_cases d:a=k;·subst d;exact⟨jw _,λj=>by omega⟩
      ·have:=h a (by omega) c;exact⟨by omega,λ_=>by omega⟩
    ·refine .inr ⟨p,?_,by omega,l,λa i c=>?_⟩;·unfold me;rw[z0 (by
      rintro(b|b);·omega
      ·exact o (by simpa using b))]
     ·by_cases d:a=k;·subst d;exact⟨by omega,λj=>by omega⟩
      ·exact h a (by omega) c
  ·have q:cY zs m k=false:=(by simpa using f);rw[sN q];rcases n with⟨e,g⟩|⟨p,e,g,l,h⟩
   ·refine .inl ⟨e,λa i=>?_⟩;by_cases d:a=k;·subst d;exact q
    ·exact g a (by omega)
   ·refine .inr ⟨p,e,by omega,l,λa i c=>?_⟩;by_cases d:a=k;·subst d;exact absurd c f
    ·exact h a (by omega) c
theorem zI (zs:List Int) (m:Int):hg zs m (eZ zs m zs.length)=least zs m:=by
 have j:=zH zs m zs.length;unfold least;rcases j with⟨f,e⟩|⟨p,f,e,h,i⟩
 ·rw[f];symm;refine wh λb d=>?_;cases g:pO zs m b;·rfl
  ·have:=(wu.1 g).1;rw[e b d] at this;cases this
 ·rw[f];symm;refine wg e (wu.2 ⟨h,λb d k=>(i b d k).1⟩) λb d=>?_;cases g:pO zs m b;·rfl
  ·obtain⟨a,c⟩:=wu.1 g;have:=(i b (by omega) a).2 d;have:=c p e h;omega
theorem F2 (zs:List Int) (m:Int):wx zs m zs.length (least zs m):=by rw[<-zI];exact zH zs m zs.length
variable {aE:Value} {gap:Int}
structure dc where
 id:Int
 w:Int
 m:Int
 r:Bool
def cat (zs:List dc) (p:Nat):dc:=zs[p]?.getD ⟨0,0,0,false⟩
def gA (c:dc) (gap p:Int):Bool:=decide (0<=p)&&(decide (p<64)&&(bW c.m p.toNat&&(!c.r&&(decide (0<c.w)&&decide (c.w<gap)))))
theorem zJ {c:dc} {p:Int}:gA c gap p=true↔0<=p∧p<64∧bW c.m p.toNat=true∧c.r=false∧0<c.w∧c.w<gap:=by simp[gA]
def mf (c:dc) (gap p:Int):Bool:=gA c gap p&&decide (c.w<=gap/2)
def kY (a b:Nat->Int) (i j:Nat):Bool:=decide (a i<a j)||(decide (a i=a j)&&decide (b i<b j))
theorem lH {a b:Nat->Int}:kY a b i j=true↔a i<a j∨(a i=a j∧b i<b j):=by simp[kY]
def iN (P:Nat->Bool) (a c:Nat->Int) (b:Int) (k:Nat):Int:=if P k=true∧(b<0∨kY a c k b.toNat=true) then(k:Int) else b
def fO (P:Nat->Bool) (a b:Nat->Int):Nat->Int
 |0=>-1
 |n+1=>iN P a b (fO P a b n) n
def zK (P:Nat->Bool) (c d:Nat->Int) (k:Nat) (b:Int):Prop:=(b=-1∧∀a:Nat,a<k->P a=false)∨∃p:Nat,b=p∧p<k∧P p=true∧∀a:Nat,a<k->P a=true->¬kY c d a p=true∧(a<p->kY c d p a=true)
theorem zL (P:Nat->Bool) (g h:Nat->Int) (k:Nat):zK P g h k (fO P g h k):=by
 induction k with
 |zero=>exact .inl ⟨rfl,λc d=>by omega⟩
 |succ k r=>
  show zK _ _ _ _ (iN P g h (fO P g h k) k);by_cases i:P k=true
  ·rcases r with⟨j,l⟩|⟨p,j,l,q,m⟩
   ·rw[j];refine .inr ⟨k,by simp[iN,i],by omega,i,λc n e=>?_⟩;by_cases f:c=k;·subst f;exact⟨λd=>by rw[lH] at d;omega,λd=>by omega⟩
    ·rw[l c (by omega)] at e;cases e
   ·rw[j];by_cases o:kY g h k p=true
    ·refine .inr ⟨k,?_,by omega,i,λc n e=>?_⟩;·unfold iN;rw[aj ⟨i,.inr (by simpa using o)⟩]
     ·by_cases f:c=k;·subst f;exact⟨λd=>by rw[lH] at d;omega,λd=>by omega⟩
      ·have:=(m c (by omega) e).1;rw[lH] at this o;exact⟨λd=>by rw[lH] at d;omega,λ_=>by rw[lH];omega⟩
    ·refine .inr ⟨p,?_,by omega,q,λc n e=>?_⟩;·unfold iN;rw[z0 (by
      rintro⟨_,b|b⟩;·omega
      ·exact o (by simpa using b))]
     ·by_cases f:c=k;·subst f;exact⟨o,λd=>by omega⟩
      ·exact m c (by omega) e
  ·have s:P k=false:=(by simpa using i);have t:iN P g h (fO P g h k) k=fO P g h k:=(by unfold iN;rw[z0 (by rintro⟨a,_⟩;exact i a)]);rw[t];rcases r with⟨j,l⟩|⟨p,j,l,q,m⟩
   ·refine .inl ⟨j,λc n=>?_⟩;by_cases f:c=k;·subst f;exact s
    ·exact l c (by omega)
   ·refine .inr ⟨p,j,by omega,q,λc n e=>?_⟩;by_cases f:c=k;·subst f;exact absurd e i
    ·exact m c (by omega) e
def hA (zs:List dc) (gap p:Int) (k:Nat):Bool:=gA (cat zs k) gap p
def ij (zs:List dc) (gap p:Int) (k:Nat):Bool:=mf (cat zs k) gap p
def jk (zs:List dc) (k:Nat):Int:=(cat zs k).w
def b_ (zs:List dc) (k:Nat):Int:=-(cat zs k).w
def eP (zs:List dc) (k:Nat):Int:=(cat zs k).id
def nC (zs:List dc) (gap p:Int):Int:=fO (ij zs gap p) (b_ zs) (eP zs) zs.length
def qW (zs:List dc) (gap p:Int):Int:=fO (hA zs gap p) (jk zs) (eP zs) zs.length
def kZ (zs:List dc) (gap p:Int):Int:=if 0<=nC zs gap p then nC zs gap p else qW zs gap p
def oC (c:dc) (gap:Int):Bool:=decide (c.w<=gap-c.w)
def wz (zs:List dc) (gap:Int) (a b:Nat):Bool:=if oC (cat zs a) gap≠oC (cat zs b) gap then oC (cat zs a) gap else if(cat zs a).w≠(cat zs b).w then decide ((cat zs b).w<(cat zs a).w)==oC (cat zs a) gap else if(cat zs a).id≠(cat zs b).id then decide ((cat zs a).id<(cat zs b).id) else decide (a<b)
theorem F3 {c:dc}:oC c gap=true↔c.w<=gap/2:=by simp[oC];omega
theorem zM (zs:List dc) (gap p:Int):(kZ zs gap p=-1∧∀a,a<zs.length->hA zs gap p a=false)∨∃b:Nat,kZ zs gap p=b∧b<zs.length∧hA zs gap p b=true∧∀a,a<zs.length->a≠b->hA zs gap p a=true->wz zs gap b a=true:=by
 have t:=zL (ij zs gap p) (b_ zs) (eP zs) zs.length;have u:=zL (hA zs gap p) (jk zs) (eP zs) zs.length;have h:∀a,hA zs gap p a=true->oC (cat zs a) gap=ij zs gap p a:=λa q=>by unfold hA at q;unfold ij mf;rw[q,hN,F3];simp
 unfold kZ;rcases t with⟨e,i⟩|⟨b,e,i,j,v⟩
 ·change nC zs gap p=-1 at e;rw[e,z0 (by omega)];rcases u with⟨k,l⟩|⟨b,k,l,r,x⟩;·exact .inl ⟨k,l⟩
  ·change qW zs gap p=b at k;refine .inr ⟨b,k,l,r,λa m y n=>?_⟩;have d:=h b r;have c:=h a n;rw[i b l] at d;rw[i a m] at c;have:=x a m n;rw[lH,lH] at this;unfold jk eP at this;unfold wz;rw[d,c,z0 (by simp)];split;·rename_i f;have:¬(cat zs a).w<(cat zs b).w:=(by omega);simp;omega
   ·rename_i f;simp at f;split;·rename_i g;simp;omega
    ·rename_i g;simp at g;simp;omega
 ·change nC zs gap p=b at e;rw[e,aj (by omega)];have s:hA zs gap p b=true:=by unfold ij mf at j;unfold hA;simp at j;exact j.1
  refine .inr ⟨b,rfl,i,s,λa m y n=>?_⟩;have d:=h b s;have c:=h a n;rw[j] at d;unfold wz;cases o:ij zs gap p a;·rw[o] at c;rw[d,c,aj (by simp)]
  ·rw[o] at c;rw[d,c,z0 (by simp)];have:=v a m o;rw[lH,lH] at this;unfold b_ eP at this;split;·rename_i f;simp;omega
   ·rename_i f;simp at f;split;·rename_i g;simp;omega
    ·rename_i g;simp at g;simp;omega
theorem F4 (zs:List dc) (gap p:Int):kZ zs gap p=-1∨∃a:Nat,kZ zs gap p=a∧a<zs.length:=by
 rcases zM zs gap p with⟨b,_⟩|⟨a,b,c,_⟩;·exact .inl b
 ·exact .inr ⟨a,b,c⟩
def gB (a b:Int):Int:=if b<=a then a-b else 0
def iO (n₀:Nat) (W:ab) (aE:Value) (zs:List dc):Prop:=((∃a cap,aE=ay a 0 cap)∧zs=[])∨∃b c cap,aE=ay (R ⟨b,c,U⟩) zs.length cap∧b<n₀∧∀j,j<zs.length->W.cell? ⟨b,c+j*4,U⟩=R (I J (cat zs j).id)∧W.cell? ⟨b,c+j*4+1,U⟩=R (I ah (cat zs j).w)∧W.cell? ⟨b,c+j*4+2,U⟩=R (I ah (cat zs j).m)∧W.cell? ⟨b,c+j*4+3,U⟩=R (aD (cat zs j).r)
theorem iO.below {B:ab} (h:Below n₀ A B) {zs:List dc}:iO n₀ A aE zs->iO n₀ B aE zs
 | .inl e=>.inl e
 | .inr ⟨b,off,cap,e,a,c⟩=>.inr ⟨b,off,cap,e,a,λj d=>by obtain⟨f,g,i,k⟩:=c j d;exact⟨(h.cell (p:=⟨b,off+j*4,U⟩) a).trans f,(h.cell (p:=⟨b,off+j*4+1,U⟩) a).trans g,(h.cell (p:=⟨b,off+j*4+2,U⟩) a).trans i,(h.cell (p:=⟨b,off+j*4+3,U⟩) a).trans k⟩⟩
theorem iO.grow {a:Nat} (d:n₀<=a) {zs:List dc}:iO n₀ A aE zs->iO a A aE zs
 | .inl e=>.inl e
 | .inr ⟨b,off,cap,e,f,c⟩=>.inr ⟨b,off,cap,e,by omega,c⟩
theorem iO.next {B:ab} (h:Below A.heap.size A B) {zs:List dc} (hI:iO A.heap.size A aE zs):iO B.heap.size B aE zs:=(hI.below h).grow h.size
theorem iO.cells {zs:List dc} (h:iO n₀ W (ay a n cap) zs) (f:p<zs.length):∃b d,a=R ⟨b,d,U⟩∧b<n₀∧∀j,j<zs.length->W.cell? ⟨b,d+j*4,U⟩=R (I J (cat zs j).id)∧W.cell? ⟨b,d+j*4+1,U⟩=R (I ah (cat zs j).w)∧W.cell? ⟨b,d+j*4+2,U⟩=R (I ah (cat zs j).m)∧W.cell? ⟨b,d+j*4+3,U⟩=R (aD (cat zs j).r):=by
 rcases h with⟨_,rfl⟩|⟨b,d,c,e,g,i⟩;·simp at f
 ·simp only[Value.slice.injEq] at e;exact⟨b,d,e.1,g,i⟩
def qX (bs:List Bool) (p:Nat):Bool:=bs[p]?.getD false
def hS (zs:List Int) (bs:List Bool) (m:Int) (p:Nat):Bool:=cY zs m p&&(a_ zs p==0&&(decide (bs.length<=p)||!qX bs p))
def jX (zs:List Int) (bs:List Bool) (m p:Int):Bool:=decide (0<=p)&&hS zs bs m p.toNat
def jy (zs:List Int) (m p:Int):Bool:=decide (0<=p)&&cY zs m p.toNat
def iP (zs:List Int) (bs:List Bool) (m:Int):Int:=jW (hS zs bs m) zs.length
def choose (zs:List Int) (bs:List Bool) (prev m:Int):Int×Int:=if least zs m<0 then(0,9) else if jX zs bs m prev=true then(prev,0) else if 0<=iP zs bs m then(iP zs bs m,0) else if jy zs m prev=true∧a_ zs prev.toNat<=a_ zs (least zs m).toNat then(prev,0) else(least zs m,0)
theorem wA (zs:List Int) (bs:List Bool) (m:Int) (p:Nat):jX zs bs m p=hS zs bs m p:=by simp[jX]
theorem F5 (zs:List Int) (m:Int) (p:Nat):jy zs m p=cY zs m p:=by simp[jy]
theorem zN (zs:List Int) (m:Int) (p:Nat):(cY zs m p=false∧¬p<zs.length)∨(cY zs m p=false∧p<zs.length∧¬p<64)∨(p<zs.length∧p<64∧cY zs m p=bW m p):=by
 unfold cY;by_cases a:p<zs.length
 ·by_cases b:p<64;·exact .inr (.inr ⟨a,b,by simp[a,b]⟩)
  ·exact .inr (.inl ⟨by simp[b],a,b⟩)
 ·exact .inl ⟨by simp[a],a⟩
section
variable {zs:List Int} {bs:List Bool} {prev m:Int}
theorem F6 (h:least zs m<0):choose zs bs prev m=(0,9):=by unfold choose;rw[aj h]
theorem F7 (h:¬least zs m<0) (a:jX zs bs m prev=true):choose zs bs prev m=(prev,0):=by unfold choose;rw[z0 h,aj a]
theorem F8 (h:¬least zs m<0) (a:jX zs bs m prev=false) (b:0<=iP zs bs m):choose zs bs prev m=(iP zs bs m,0):=by unfold choose;rw[z0 h,z0 (by rw[a];decide),aj b]
theorem F9 (h:¬least zs m<0) (a:jX zs bs m prev=false) (b:¬0<=iP zs bs m) (c:jy zs m prev=true∧a_ zs prev.toNat<=a_ zs (least zs m).toNat):choose zs bs prev m=(prev,0):=by unfold choose;rw[z0 h,z0 (by rw[a];decide),z0 b,aj c]
theorem F_ (h:¬least zs m<0) (a:jX zs bs m prev=false) (b:¬0<=iP zs bs m) (c:¬(jy zs m prev=true∧a_ zs prev.toNat<=a_ zs (least zs m).toNat)):choose zs bs prev m=(least zs m,0):=by unfold choose;rw[z0 h,z0 (by rw[a];decide),z0 b,z0 c]
end
theorem Ga (zs:List Int) (m p:Int):(jy zs m p=false∧p<0)∨(∃a:Nat,p=a∧jy zs m p=false∧¬a<zs.length)∨(∃a:Nat,p=a∧jy zs m p=false∧a<zs.length∧¬a<64)∨(∃a:Nat,p=a∧jy zs m p=false∧a<zs.length∧a<64∧bW m a=false)∨(∃a:Nat,p=a∧jy zs m p=true∧cY zs m a=true∧a<zs.length∧a<64∧bW m a=true):=by
 by_cases f:0<=p
 ·obtain⟨a,rfl⟩:=dS f;rw[F5];rcases zN zs m a with⟨b,c⟩|⟨b,c,e⟩|⟨c,e,b⟩;·exact .inr (.inl ⟨a,rfl,b,c⟩)
  ·exact .inr (.inr (.inl ⟨a,rfl,b,c,e⟩))
  ·cases d:bW m a;·exact .inr (.inr (.inr (.inl ⟨a,rfl,by rw[b,d],c,e,d⟩)))
   ·exact .inr (.inr (.inr (.inr ⟨a,rfl,by rw[b,d],by rw[b,d],c,e,d⟩)))
 ·exact .inl ⟨by unfold jy;rw[decide_eq_false f];rfl,by omega⟩
def ei (n:Int):Nat:=if n< -20∨19<n then 0 else if n<0 then 1024*5^n.natAbs/4^n.natAbs else 1024*4^n.natAbs/5^n.natAbs
def e8 (n:Int):Int:=if n< -20∨19<n then 1 else 0
theorem wB (n:Int) (h:e8 n=0):2<=ei n∧ei n<=262144:=by
 unfold e8 at h;split at h;·omega
 ·rename_i a;have:∀k:Fin 40,2<=ei ((k.val:Int)-20)∧ei ((k.val:Int)-20)<=262144:=by decide
  have:=this ⟨(n+20).toNat,by omega⟩;rwa[show(((⟨(n+20).toNat,by omega⟩:Fin 40).val:Int)-20)=n by simp only[];omega] at this
structure hT where
 aO:Nat
 tick:Int
 bG:Int
 ch:Int
 hC:Nat deriving DecidableEq
structure ex where
 h:aF
 dead:Bool
 on:Bool
 p:Int
 g:Nat
 nice:Int
 w:Nat
 mask:Int
 e:aI
 mn:Int deriving DecidableEq
structure cb where
 h:aF
 shares:Nat
 quota:Int
 band:Option aM
 line:Option (List Int)
 there:Bool deriving DecidableEq
structure aa where
 c:hT
 tree:ae
 pool:an Int
 tasks:List ex
 groups:List cb
 places:List (Option Nat)
 at_:List Int
 hiers:List ad
 clocks:List cD
 book:fS
def ik:cb:=⟨bM,0,0,U,U,true⟩
def aa.new (c:hT):aa:=⟨c,lE,an.new,[],[ik],R 0::gY 31 U,gY 64 0,gY c.aO (h0 c.ch c.bG),gY c.aO (cD.new c.hC),fS.new⟩
def aa.group (s:aa) (n:Int):Option cb:=if n<0 then U else match s.groups[n.toNat]? with
 |none=>U
 |some g=>if g.there then R g else U
def aa.task (s:aa) (n:Int):Option ex:=if n<0 then U else match s.tasks[n.toNat]? with
 |none=>U
 |some t=>if t.dead then U else R t
def aa.e0 (s:aa) (p:Int):Bool:=decide (0<=p)&&decide (p<s.c.aO)
def aa.aY (s:aa) (p:Int):ad:=s.hiers.getD p.toNat (h0 0 0)
def aa.clock (s:aa) (p:Int):cD:=s.clocks.getD p.toNat (cD.new 0)
def aa.aw (s:aa) (n:Nat):cb:=s.groups.getD n ik
def aa.running (s:aa) (p:Int):Int:=if s.e0 p=false then-1 else if(s.aY p).running<0 then-1 else s.at_.getD (s.aY p).running.toNat 0
def aa.cC (s:aa) (g:Nat):List (Option Nat):=(ae.path s.tree (s.aw g).h).map λi=>s.places.getD i.toNat U
def ku (s:aa) (h:aF) (p:Int) (t:ex):Bool:=t.on&&(decide (t.p=p)&&ae.c1 s.tree (s.aw t.g).h h)
def gC (s:aa) (h:aF) (p:Int) (l:List ex):Nat:=l.foldl (λa t=>if ku s h p t then a+t.w else a) 0
def aa.load (s:aa) (g:Nat) (p:Int):Nat:=gC s (s.aw g).h p s.tasks
def aa.dt (s:aa):List Int:=(gi s.c.aO).map λp:Nat=>(s.load 0 p:Int)
def aa.least (s:aa) (t:ex) (p:Int):Int:=(s.aY p).minOf (s.aw t.g).h.idx
def aa.bU (s:aa) (p:Int) (h:ad):aa:={s with hiers:=s.hiers.set p.toNat h}
def aa.dJ (s:aa) (p:Int) (t:cD):aa:={s with clocks:=s.clocks.set p.toNat t}
def aa.cE (s:aa) (n:Nat) (t:ex):aa:={s with tasks:=s.tasks.set n t}
def aa.b0 (s:aa) (n:Nat) (g:cb):aa:={s with groups:=s.groups.set n g}
def aa.leave (s:aa) (n:Nat):aa:=match s.tasks[n]? with
 |none=>s
 |some t=>(s.bU t.p ((s.aY t.p).drop (s.aw t.g).h.idx t.h.idx)).cE n {t with mn:=s.least t t.p,e:=(s.aY t.p).ed (s.aw t.g).h.idx t.h.idx,on:=false}
def aa.lI (s:aa) (t:ex) (p:Int):aI:=if p=t.p then t.e else {t.e with v:=(kU t.e.v t.mn (s.least t p)).1}
def aa.gl (s:aa) (t:ex) (p:Int) (a:Bool):aI:=if a then {s.lI t p with v:=ic (s.lI t p).v (s.least t p) s.c.ch} else s.lI t p
def aa.put (s:aa) (n:Nat) (p:Int) (a:Bool):aa:=match s.tasks[n]? with
 |none=>s
 |some t=>(s.cE n {t with e:=s.gl t p a,p:=p,on:=true}).bU p ((s.aY p).put (s.aw t.g).h.idx (s.gl t p a))
def cb.limited (g:cb):Bool:=match g.band with|none=>false|some b=>b.limited
def aa.limited (s:aa) (l:List (Option Nat)):List Nat:=l.filterMap λo=>match o with|none=>U|some g=>if(s.aw g).limited then R g else U
def aa.mg (s:aa) (g:Nat):List (Nat×Nat):=(gi s.c.aO).zip (jV (s.aw g).shares ((gi s.c.aO).map λp:Nat=>s.load g p))
def aa.bO (s:aa) (g:Nat):aa:=(s.mg g).foldl (λr x=>if 0<s.load g x.1 then r.bU x.1 ((r.aY x.1).bO (s.aw g).h.idx x.2) else r) s
def aa.bP (s:aa) (g:Nat) (f:aM->aM):aa:=match(s.aw g).band with
 |none=>s
 |some b=>s.b0 g {s.aw g with band:=R (f b)}
def aa.b7 (s:aa) (g:Nat) (f:List Int->List Int):aa:=match(s.aw g).line with
 |none=>s
 |some l=>s.b0 g {s.aw g with line:=R (f l)}
def aa.il (s:aa) (g:Nat):List Int:=(s.aw g).line.getD []
def aa.im (s:aa) (g:Nat):aM:=(s.aw g).band.getD (aM.new 0)
def aa.stop (s:aa) (g:Nat) (p:Int) (is:Bool):aa:=s.bU p ((s.aY p).stop (s.aw g).h.idx is)
def aa.returns (s:aa) (g:Nat):aa:=(gi s.c.aO).foldl (λr (p:Nat)=>if r.load g p=0 then r.bP g (λb=>b.ret p) else r) s
def aa.hand:Nat->aa->Nat->aa
 |0,s,_=>s
 |n+1,s,g=>
  if(s.im g).pool<=0 then s else match s.il g with
  |[]=>s
  |p::l=>if(s.im g).hz p then aa.hand n ((((s.b7 g λ_=>l).bP g (λb=>b.cP p))).stop g p false) g else aa.hand n (((s.b7 g λ_=>l).bP g (λb=>b.cP p)).b7 g λl=>fT l p) g
def aa.share (s:aa) (g:Nat):aa:=aa.hand 66 (s.returns g) g
def aa.begin (s:aa) (p n:Int):aa:=s.dJ p ((s.clock p).begin n)
def aa.asks (p:Int):List Nat->aa->aa×Option Nat
 |[],s=>(s,U)
 |g::l,s=>if(s.im g).hz p then aa.asks p l (s.bP g λb=>b.cP p) else(s.bP g λb=>b.cP p,R g)
def aa.fB (s:aa) (p:Int):aa:=s.bU p (s.aY p).pick
def aa.fC (s:aa) (p:Int):aa×Bool:=
 let s1:=s.fB p;if s1.running p=-1 then(s1.begin p (-1),true) else match s1.tasks[(s1.running p).toNat]? with
 |none=>(s1,true)
 |some t=>
  match aa.asks p (s1.limited (s1.cC t.g)) s1 with
  |(s2,U)=>(s2.begin p (s1.running p),true)
  |(s2,R g)=>((s2.b7 g λl=>fT l p).stop g p true,false)
def aa.hh:Nat->aa->Int->aa
 |0,s,_=>s
 |n+1,s,p=>if(s.fC p).2 then(s.fC p).1 else aa.hh n (s.fC p).1 p
def aa.settle (s:aa):aa:=let s1:=(s.places.drop 1).foldl (λr o=>match o with|none=>r|some g=>r.bO g) s;let s2:=(s1.limited (s1.places.drop 1)).foldl (λr g=>r.share g) s1;(gi s2.c.aO).foldl (λr (p:Nat)=>aa.hh 40 r p) s2
abbrev dO:=aa×Int×Int
def kv (n:Int):Bool:=decide (2<=n)&&decide (n<=262144)
def aa.grow (s:aa) (A N:Int):dO:=match s.group A with
 |none=>(s,0,2)
 |some up=>if kv N=false then(s,0,4) else if ae.fl s.tree up.h≠0 then(s,0,ae.fl s.tree up.h) else let c:=ae.create s.tree up.h;({s with tree:=c.1,hiers:=s.hiers.map (λx=>x.link c.2.idx up.h.idx),groups:=s.groups++[⟨c.2,N.toNat,0,R (aM.new s.c.aO),R [],true⟩],places:=s.places.set c.2.idx.toNat (R s.groups.length)},s.groups.length,0)
def aa.drop (s:aa) (A:Int):dO:=match s.group A with
 |none=>(s,0,2)
 |some g=>if s.tasks.any (λt=>!t.dead&&decide ((t.g:Int)=A)) then(s,0,6) else if ae.ie s.tree g.h≠0 then(s,0,ae.ie s.tree g.h) else({s with tree:=ae.hf s.tree g.h,hiers:=s.hiers.map (λx=>x.unlink g.h.idx),groups:=s.groups.set A.toNat {g with there:=false},places:=s.places.set g.h.idx.toNat U},0,0)
def aa.move (s:aa) (A B:Int):dO:=match s.group A,s.group B with
 |some g,R up=>if s.tasks.any (λt=>t.on&&ae.c1 s.tree (s.aw t.g).h g.h) then(s,0,6) else if ae.eh s.tree g.h up.h≠0 then(s,0,ae.eh s.tree g.h up.h) else({s with tree:=ae.move s.tree g.h up.h,hiers:=s.hiers.map (λx=>x.move g.h.idx up.h.idx)},0,0)
 |_,_=>(s,0,2)
def aa.shares (s:aa) (A N:Int):dO:=match s.group A with
 |none=>(s,0,2)
 |some g=>if A=0 then(s,0,1) else if kv N=false then(s,0,4) else(s.b0 A.toNat {g with shares:=N.toNat},0,0)
def aa.eQ (g:Nat):List Int->aa->aa
 |[],s=>s
 |p::l,s=>aa.eQ g l (s.stop g p false)
def aa.lJ (s:aa) (A N M:Int):dO:=match s.group A with
 |none=>(s,0,2)
 |some g=>if A=0 then(s,0,1) else if aM.hR N M≠0 then(s,0,aM.hR N M) else(aa.eQ A.toNat (s.il A.toNat) ((((s.bP A.toNat λb=>b.set N M)).b0 A.toNat {(s.bP A.toNat λb=>b.set N M).aw A.toNat with quota:=N}).b7 A.toNat λ_=>[]),0,0)
def aa.gy (s:aa) (A:Int):dO:=match s.group A with
 |none=>(s,0,2)
 |some g=>if g.limited=false then(s,0,7) else(s.bP A.toNat λb=>b.gy,0,0)
def aa.runs (s:aa):List Bool:=(gi s.c.aO).map λp:Nat=>decide (s.running p≠-1)
def aa.free (s:aa) (prev mask:Int):Int×Int:=choose s.dt s.runs prev mask
def kx (n:Int):Bool:=decide (-128<=n)&&decide (n<=127)
def aa.spawn (s:aa) (A N mask:Int):dO:=match s.group A with
 |none=>(s,0,2)
 |some g=>if kx N=false then(s,0,1) else if e8 N≠0 then(s,0,e8 N) else if(s.free (-1) mask).2≠0 then(s,0,9) else if an.many s.pool=64 then(s,0,3) else let c:=an.put s.pool (s.tasks.length:Int);let t:ex:=⟨c.2,false,false,(s.free (-1) mask).1,A.toNat,N,ei N,mask,⟨c.2.idx,ei N,(s.aY (s.free (-1) mask).1).minOf g.h.idx,0⟩,0⟩;(aa.put {s with pool:=c.1,tasks:=s.tasks++[t],at_:=s.at_.set c.2.idx.toNat (s.tasks.length:Int)} s.tasks.length (s.free (-1) mask).1 false,s.tasks.length,0)
def aa.k0 (s:aa) (A:Int):dO:=match s.task A with
 |none=>(s,0,2)
 |some t=>if t.on then(s,0,7) else(s.put A.toNat (s.free t.p t.mask).1 true,(s.free t.p t.mask).1,0)
def wC (e:aI) (w:Nat):aI:={e with rem:=e.rem*w/e.wt,wt:=w}
def aa.nice (s:aa) (A N:Int):dO:=match s.task A with
 |none=>(s,0,2)
 |some t=>if kx N=false then(s,0,1) else if e8 N≠0 then(s,0,e8 N) else if t.on then((s.bU t.p ((s.aY t.p).nice (s.aw t.g).h.idx t.h.idx (ei N))).cE A.toNat {t with nice:=N,w:=ei N},0,0) else(s.cE A.toNat {t with e:=wC t.e (ei N),nice:=N,w:=ei N},0,0)
def aa.mask (s:aa) (A m:Int):dO:=match s.task A with
 |none=>(s,0,2)
 |some t=>if(s.free (-1) m).2≠0 then(s,0,9) else let s1:=s.cE A.toNat {t with mask:=m};if t.on&&!bW m t.p.toNat then let s2:=s1.leave A.toNat;(s2.put A.toNat (s2.free (-1) m).1 false,0,0) else(s1,0,0)
def aa.block (s:aa) (A:Int):dO:=if s.e0 A=false then(s,0,1) else if s.running A=-1 then(s,0,7) else(s.leave (s.running A).toNat,s.running A,0)
def aa.exit (s:aa) (A:Int):dO:=if s.e0 A=false then(s,0,1) else if s.running A=-1 then(s,0,7) else match(s.leave (s.running A).toNat).tasks[(s.running A).toNat]? with
 |none=>(s,0,7)
 |some t=>({(s.leave (s.running A).toNat).cE (s.running A).toNat {t with dead:=true} with pool:=an.free 0 (s.leave (s.running A).toNat).pool t.h},s.running A,0)
def aa.yield (s:aa) (A:Int):dO:=if s.e0 A=false then(s,0,1) else if s.running A=-1 then(s,0,7) else(s.bU A (s.aY A).yield,s.at_.getD (s.aY A).yielded.toNat 0,0)
def aa.ee (p ns:Int):List Nat->aa->aa
 |[],s=>s
 |g::l,s=>aa.ee p ns l (s.bP g λb=>b.b4 p ns)
def aa.numbers (s:aa) (g:Nat):List Int:=0::(s.cC g).map λo=>match o with|none=>0|some n=>(n:Int)
def aa.tick (s:aa) (A N:Int):dO:=if s.e0 A=false then(s,0,1) else if N<0∨s.c.tick<N then(s,0,8) else if s.running A=-1 then(s.dJ A ((s.clock A).tick N.toNat),-1,0) else match s.tasks[(s.running A).toNat]? with
 |none=>(s,0,7)
 |some t=>if s.book.ih (s.numbers t.g) (s.running A) N≠0 then(s,0,s.book.ih (s.numbers t.g) (s.running A) N) else let s1:={s with book:=s.book.ch (s.numbers t.g) (s.running A) N};let s2:=s1.bU A ((s1.aY A).b4 N.toNat);let iQ:=aa.ee A N (s2.limited (s2.cC t.g)) s2;let qY:=iQ.dJ A ((iQ.clock A).tick N.toNat);if(iQ.clock A).due N.toNat t.w (iQ.load 0 A) then((qY.bU A (qY.aY A).yield).begin A (-1),s.running A,0) else(qY,s.running A,0)
def aa.hU (s:aa) (a:Int):List dc:=(s.tasks.zipIdx.filter λx=>x.1.on&&decide (x.1.p=a)).map λx=>⟨x.2,x.1.w,x.1.mask,decide ((x.2:Int)=s.running a)⟩
def aa.pull (s:aa) (A:Int):dO:=if s.e0 A=false then(s,0,1) else let from_:=lG s.dt A 18446744073709551615;if from_<0 then(s,0,12) else let i:=kZ (s.hU from_) (gB (a_ s.dt from_.toNat) (a_ s.dt A.toNat)) A;if i<0 then(s,0,12) else((s.leave (cat (s.hU from_) i.toNat).id.toNat).put (cat (s.hU from_) i.toNat).id.toNat A false,(cat (s.hU from_) i.toNat).id,0)
structure gm where
 kind:Int
 a:Int
 b:Int
 n:Int
 m:Int
 mask:Int deriving DecidableEq
def aa.event (s:aa) (e:gm):dO:=if e.kind=1 then s.grow e.a e.n else if e.kind=2 then s.drop e.a else if e.kind=3 then s.move e.a e.b else if e.kind=4 then s.shares e.a e.n else if e.kind=5 then s.lJ e.a e.n e.m else if e.kind=6 then s.spawn e.a e.n e.mask else if e.kind=7 then s.k0 e.a else if e.kind=8 then s.block e.a else if e.kind=9 then s.yield e.a else if e.kind=10 then s.exit e.a else if e.kind=11 then s.tick e.a e.n else if e.kind=12 then s.gy e.a else if e.kind=13 then s.pull e.a else if e.kind=14 then s.nice e.a e.n else if e.kind=15 then s.mask e.a e.mask else(s,0,1)
def aa.dP (s:aa) (e:gm):aa×Int×Int:=if(s.event e).2.2≠0 then(s,0,(s.event e).2.2) else((s.event e).1.settle,(s.event e).2.1,0)
def ad.has (h:ad) (g k:Int):Bool:=match h.at g with|none=>false|some x=>cH k x.q.es
def ad.halted (h:ad) (g:Int):Bool:=match h.at g with|none=>false|some x=>x.stopped
theorem ad.lK {h:ad} {g k:Int} {x:aJ} (e:h.at g=R x):h.has g k=cH k x.q.es:=by unfold ad.has;rw[e]
theorem ad.sP {h:ad} {g k:Int} (e:h.at g=U):h.has g k=false:=by unfold ad.has;rw[e]
theorem ad.sQ {h:ad} {g:Int} {x:aJ} (e:h.at g=R x):h.halted g=x.stopped:=by unfold ad.halted;rw[e]
theorem ad.zO {h:ad} {g:Int} (e:h.at g=U):h.halted g=false:=by unfold ad.halted;rw[e]
theorem ad.wD {h:ad} {g:Int} {x:aJ} (e:h.at g=R x) (y:aJ) (j k:Int):(h.set g (R y)).has j k=if j=g then cH k y.q.es else h.has j k:=by
 unfold ad.has;rw[ad.dm e];unfold cL;by_cases q:j=g;·rw[aj q,aj q]
 ·rw[z0 q,z0 q]
theorem ad.zP {h:ad} {g:Int} {x:aJ} (e:h.at g=R x) (y:aJ) (j:Int):(h.set g (R y)).halted j=if j=g then y.stopped else h.halted j:=by
 unfold ad.halted;rw[ad.dm e];unfold cL;by_cases q:j=g;·rw[aj q,aj q]
 ·rw[z0 q,z0 q]
theorem ad.mJ {h:ad} {g:Int} {x:aJ} (e:h.at g=R x) {y:aJ} (j:Int) {k:Int} (b:cH k y.q.es=cH k x.q.es):(h.set g (R y)).has j k=h.has j k:=by
 rw[ad.wD e];by_cases a:j=g;·rw[aj a,a,ad.lK e,b]
 ·rw[z0 a]
theorem ad.mh {h:ad} {g:Int} {x:aJ} (e:h.at g=R x) {y:aJ} (j:Int) (b:y.stopped=x.stopped):(h.set g (R y)).halted j=h.halted j:=by
 rw[ad.zP e];by_cases a:j=g;·rw[aj a,a,ad.sQ e,b]
 ·rw[z0 a]
theorem aC.zQ (q:aC) (e:aI) (k:Int):cH k (q.put e).es=(cH k q.es||(decide (q.dE e=0)&&decide (k=e.id))):=by
 by_cases a:q.dE e=0
 ·rw[hN];simp only[ob,jb,decide_eq_true_eq,dC,aC.l9 a];constructor
  ·rintro⟨b,rfl|c,rfl⟩;·exact .inr ⟨a,rfl⟩
   ·exact .inl ⟨b,c,rfl⟩
  ·rintro(⟨b,c,rfl⟩|⟨_,rfl⟩);·exact⟨b,.inr c,rfl⟩
   ·exact⟨e,.inl rfl,rfl⟩
 ·unfold aC.put;rw[z0 a];simp[a]
theorem aC.zR (q:aC) (j k:Int):cH k (q.drop j).es=(cH k q.es&&decide (k≠j)):=by
 rw[hN];simp only[jb,decide_eq_true_eq,dC,aC.mC];constructor;·rintro⟨a,⟨b,c⟩,rfl⟩;exact⟨⟨a,b,rfl⟩,c⟩
 ·rintro⟨⟨a,b,rfl⟩,c⟩;exact⟨a,⟨b,c⟩,rfl⟩
theorem ad.Gb (n:Nat):∀(a:ad) (g:Int) (G:aJ),a.at g=R G->G.deep<n->cX a.at g->∀j i,(a.settle n g).has j (2*i)=a.has j (2*i)∧(a.settle n g).halted j=a.halted j:=by
 induction n with
 |zero=>intro a g G b A d;have:=(d.deep g G b).1;omega
 |succ n B=>
  intro a g G b A d j i;unfold ad.settle;rw[b];dsimp only;by_cases h:g=0;·rw[aj ((d.ny b).2 h)];exact⟨rfl,rfl⟩
  ·rw[z0 (λe=>h ((d.ny b).1 e))];obtain⟨c,o,H⟩:=d.up g G b h;rw[o];dsimp only;have C:=(d.mB b h).1;by_cases l:G.fM=G.on;·rw[aj l];exact⟨rfl,rfl⟩
   ·rw[z0 l];have t:∀(y:aJ) (f:aC),y.q=G.q->y.stopped=G.stopped->(∀i,cH (2*i) f.es=cH (2*i) c.q.es)->cX (cL (cL a.at g (R y)) G.up (R {c with q:=f})) G.up->(((a.set g (R y)).set G.up (R {c with q:=f})).settle n G.up).has j (2*i)=a.has j (2*i)∧(((a.set g (R y)).set G.up (R {c with q:=f})).settle n G.up).halted j=a.halted j:=(by intro y f D E F m;have u:=ad.dm (x:=R y) b;have p:(a.set g (R y)).at G.up=R c:=(by rw[u];exact(gj _ C).trans o);have r:=ad.dm (x:=R {c with q:=f}) p;rw[u] at r;have:=B ((a.set g (R y)).set G.up (R {c with q:=f})) G.up {c with q:=f} (by rw[r];exact eV _ _ _) (by show c.deep<n;omega) (by rw[r];exact m) j i;exact⟨this.1.trans ((ad.mJ p j (F i)).trans (ad.mJ b j (by rw[D]))),this.2.trans ((ad.mh p j (by rfl)).trans (ad.mh b j E))⟩);by_cases k:G.fM=true
    ·rw[aj k];have s:G.on=false:=by cases m:G.on with
      |false=>rfl
      |true=>rw[m] at l;exact absurd k l
     have w:=(d.own g G b h).vN (ic G.own.v c.q.mn a.ch);refine t _ _ rfl rfl (λi=>?_) (d.vL b h o s k w);rw[aC.zQ];have:decide ((2:Int)*i=({G.own with v:=ic G.own.v c.q.mn a.ch}:aI).id)=false:=(by have k:({G.own with v:=ic G.own.v c.q.mn a.ch}:aI).id=2*g+1:=w.1;rw[k];simp only[decide_eq_false_iff_not];omega);rw[this];simp
    ·have z:G.fM=false:=(by simpa using k);rw[z0 k];have s:G.on=true:=by cases m:G.on with
      |true=>rfl
      |false=>rw[m,z] at l;exact absurd rfl l
     refine t _ _ rfl rfl (λi=>?_) (d.vM b h o s z);rw[aC.zR];have:decide ((2:Int)*i≠2*g+1)=true:=(by simp only[decide_eq_true_eq];omega);rw[this];simp
theorem ad.wE {h:ad} {g:Int} (a:h.at g=R G) (hk:cX h.at g) (j i:Int):(h.settle 10 g).has j (2*i)=h.has j (2*i)∧(h.settle 10 g).halted j=h.halted j:=ad.Gb 10 h g G a (by have:=(hk.deep g G a).2;omega) hk j i
theorem ad.Ok.Gc {h:ad} (hk:h.Ok) (g:Int) (e:aI) (j i:Int):(h.put g e).has j (2*i)=(h.has j (2*i)||(decide (h.dE g e=0)&&(decide (j=g)&&decide (i=e.id))))∧(h.put g e).halted j=h.halted j:=by
 unfold ad.put;by_cases a:h.dE g e=0;·rw[aj a];have k:=a;unfold ad.dE at a;cases b:h.at g with
  |none=>rw[b] at a;cases a
  |some x=>
   rw[b] at a;dsimp only at a⊢;split at a;·omega
   ·rename_i l;have m:hc e.id=true:=(by simpa using l);have f:=ad.dm (x:=R {x with q:=x.q.put {e with id:=e.id*2}}) b;have n:cX (h.set g (R {x with q:=x.q.put {e with id:=e.id*2}})).at g:=by
     rw[f];refine hk.g.queue b ((hk.g.q g x b).put _) ?_ ?_ (.inl rfl) (.inl rfl)
     ·intro d c;rcases(aC.l9 a).1 c with rfl|c;·exact .inl (vO m)
      ·exact .inr ⟨d,c,rfl⟩
     ·intro d c _;exact dC.2 ⟨d,(aC.l9 a).2 (.inr c),rfl⟩
    have:=ad.wE (G:={x with q:=x.q.put {e with id:=e.id*2}}) (by rw[f];exact eV _ _ _) n j i;refine⟨this.1.trans ((ad.wD b _ _ _).trans ?_),this.2.trans (ad.mh b j rfl)⟩;by_cases q:j=g;·rw[aj q,q,ad.lK b];show cH (2*i) (x.q.put {e with id:=e.id*2}).es=_;rw[aC.zQ,decide_eq_true a,decide_eq_true k];have:decide ((2:Int)*i=({e with id:=e.id*2}:aI).id)=decide (i=e.id):=(by rw[hN];simp only[decide_eq_true_eq];constructor<;>intro<;>omega);rw[this];simp
    ·rw[z0 q,decide_eq_false q];simp
 ·rw[z0 a,decide_eq_false a];simp
theorem ad.Ok.Gd {h:ad} (hk:h.Ok) (g t:Int) (j i:Int):(h.drop g t).has j (2*i)=(h.has j (2*i)&&!(decide (h.e6 g t=0)&&(decide (j=g)&&decide (i=t))))∧(h.drop g t).halted j=h.halted j:=by
 unfold ad.drop;by_cases a:h.e6 g t=0;·rw[aj a];cases b:h.at g with
  |none=>unfold ad.e6 at a;rw[b] at a;cases a
  |some x=>
   dsimp only;have e:=ad.dm (x:=R {x with q:=x.q.drop (2*t)}) b;have f:cX (h.set g (R {x with q:=x.q.drop (2*t)})).at g:=by
    rw[e];refine hk.g.queue b ((hk.g.q g x b).drop _) ?_ ?_ (.inl rfl) (.inl rfl);·intro c d;exact .inr ⟨c,(aC.mC.1 d).1,rfl⟩
    ·intro c d k;exact dC.2 ⟨c,aC.mC.2 ⟨d,by omega⟩,rfl⟩
   have:=ad.wE (G:={x with q:=x.q.drop (2*t)}) (by rw[e];exact eV _ _ _) f j i;refine⟨this.1.trans ((ad.wD b _ _ _).trans ?_),this.2.trans (ad.mh b j rfl)⟩;rw[decide_eq_true a];by_cases q:j=g;·rw[aj q,q,ad.lK b];show cH (2*i) (x.q.drop (2*t)).es=_;rw[aC.zR];have:decide ((2:Int)*i≠2*t)=!decide (i=t):=(by rw[hN];simp only[decide_eq_true_eq,sj,decide_eq_false_iff_not];constructor<;>intro<;>omega);rw[this];simp
   ·rw[z0 q,decide_eq_false q];simp
 ·rw[z0 a,decide_eq_false a];simp
theorem ad.Ge (h:ad) (g t:Int) (w:Nat) (j k:Int):(h.nice g t w).has j k=h.has j k∧(h.nice g t w).halted j=h.halted j:=by
 unfold ad.nice;split;·exact⟨rfl,rfl⟩
 ·rename_i x a;split;·exact⟨rfl,rfl⟩
  ·exact⟨ad.mJ a j (aC.sE _ _ _ _),ad.mh a j rfl⟩
theorem ad.zS (h:ad) (g:Int) (w:Nat) (j k:Int):(h.bO g w).has j k=h.has j k∧(h.bO g w).halted j=h.halted j:=by
 unfold ad.bO;split;·exact⟨rfl,rfl⟩
 ·rename_i x a;obtain⟨c,a⟩:=kt a;split;·exact⟨rfl,rfl⟩
  ·split
   ·split;·exact⟨rfl,rfl⟩
    ·rename_i u b;exact⟨ad.mJ b j (aC.sE _ _ _ _),ad.mh b j rfl⟩
   ·exact⟨ad.mJ a j rfl,ad.mh a j rfl⟩
theorem ad.Ok.zT {h:ad} (hk:h.Ok) (g:Int) (is:Bool) (j i:Int):(h.stop g is).has j (2*i)=h.has j (2*i)∧(h.stop g is).halted j=if j=g∧(h.linked g).isSome then is else h.halted j:=by
 unfold ad.stop;cases a:h.linked g with
 |none=>simp
 |some x=>
  dsimp only;obtain⟨c,a⟩:=kt a;have d:=ad.dm (x:=R {x with stopped:=is}) a;have e:cX (h.set g (R {x with stopped:=is})).at g:=by rw[d];exact hk.g.other (own':=x.own) a (λc=>hk.g.own g x a c) (.inl rfl) (.inl rfl)
  have:=ad.wE (G:={x with stopped:=is}) (by rw[d];exact eV _ _ _) e j i;refine⟨this.1.trans (ad.mJ a j rfl),this.2.trans ((ad.zP a _ _).trans ?_)⟩;by_cases b:j=g;·rw[aj b,aj ⟨b,rfl⟩]
  ·rw[z0 b,z0 (λr=>b r.1)]
theorem ad.Gf (n:Nat):∀(c:ad) (g j k:Int),(ad.gO n c g).1.has j k=c.has j k∧(ad.gO n c g).1.halted j=c.halted j:=by
 induction n with
 |zero=>intro c g j k;exact⟨rfl,rfl⟩
 |succ n d=>
  intro c g j k;unfold ad.gO;split;·exact⟨rfl,rfl⟩
  ·rename_i x e;have a:(c.set g (R {x with q:=x.q.pick c.bG})).has j k=c.has j k:=ad.mJ e j (by rw[aC.ov]);have b:(c.set g (R {x with q:=x.q.pick c.bG})).halted j=c.halted j:=ad.mh e j rfl;split;·exact⟨a,b⟩
   ·exact⟨(d _ _ _ _).1.trans a,(d _ _ j k).2.trans b⟩
theorem ad.pP (h:ad) (j k:Int):h.pick.has j k=h.has j k∧h.pick.halted j=h.halted j:=ad.Gf 10 h 0 j k
theorem ad.Gg (h:ad) (j k:Int):h.yield.has j k=h.has j k∧h.yield.halted j=h.halted j:=by
 unfold ad.yield;split;·exact h.pP j k
 ·split;·exact h.pP j k
  ·split;·exact h.pP j k
   ·rename_i g _ _ x a;have:=(h.set g (R {x with q:=x.q.yield h.bG})).pP j k;exact⟨this.1.trans (ad.mJ a j (by rw[aC.qO])),this.2.trans (ad.mh a j rfl)⟩
theorem ad.Gh (ns:Nat) (l:List Int):∀a:ad,a.Ok->∀j k,(ad.ee ns l a).has j k=a.has j k∧(ad.ee ns l a).halted j=a.halted j:=by
 induction l with
 |nil=>intro a _ j k;exact⟨rfl,rfl⟩
 |cons g l d=>
  intro a c j k;unfold ad.ee;split;·exact d a c j k
  ·rename_i x b;have e:=c.same b ((c.g.q g x b).b4 ns) (aC.sF (c.g.q g x b) ns);have:=d _ e j k;exact⟨this.1.trans (ad.mJ b j (aC.sF (c.g.q g x b) ns k)),this.2.trans (ad.mh b j rfl)⟩
theorem ad.Ok.zU {h:ad} (hk:h.Ok) (ns:Nat) (j k:Int):(h.b4 ns).has j k=h.has j k∧(h.b4 ns).halted j=h.halted j:=by
 unfold ad.b4;split;·exact ad.Gh _ _ _ hk j k
 ·exact⟨rfl,rfl⟩
theorem ad.Ok.Gi {h:ad} (hk:h.Ok) (g parent j k:Int):(h.link g parent).has j k=h.has j k∧(h.link g parent).halted j=h.halted j:=by
 by_cases e:h.gx g parent=0
 ·obtain⟨l,b,c,d,f,m⟩:=ad.vS e;have i:=hk.vT b c d e;unfold ad.has ad.halted;rw[i];unfold cL;by_cases a:j=g;·rw[aj a,a,f];exact⟨rfl,rfl⟩
  ·rw[z0 a];exact⟨rfl,rfl⟩
 ·unfold ad.link;rw[z0 e];exact⟨rfl,rfl⟩
theorem ad.Gj {h:ad} (g j k:Int):(h.unlink g).has j k=h.has j k∧(j≠g->(h.unlink g).halted j=h.halted j):=by
 by_cases e:h.jh g=0
 ·obtain⟨x,f,b,i,c⟩:=ad.vU e;have d:=ad.vV e;unfold ad.has ad.halted;rw[d];unfold cL;by_cases a:j=g;·rw[aj a,a,b];refine⟨?_,λr=>absurd rfl r⟩;show false=cH k x.q.es;rw[c];rfl
  ·rw[z0 a];exact⟨rfl,λ_=>rfl⟩
 ·unfold ad.unlink;rw[z0 e];exact⟨rfl,λ_=>rfl⟩
theorem ad.Ok.Gk {h:ad} (hk:h.Ok) (g parent j k:Int):(h.move g parent).has j k=h.has j k∧(h.move g parent).halted j=h.halted j:=by
 by_cases e:h.eh g parent=0;·obtain⟨x,c,d,f,i,_⟩:=ad.oy hk e;have l:=(hk.vW e f d i).1;have a:(h.move g parent).at j=(h.at j).map (jj h g parent x c j):=congrFun l j;cases b:h.at j with
  |none=>rw[b] at a;exact⟨(ad.sP a).trans (ad.sP b).symm,(ad.zO a).trans (ad.zO b).symm⟩
  |some K=>rw[b] at a;rw[ad.lK a,ad.sQ a,ad.lK b,ad.sQ b];unfold jj;split<;>(try split)<;>exact⟨rfl,rfl⟩
 ·unfold ad.move;rw[z0 e];exact⟨rfl,rfl⟩
def ad.free (h:ad) (g:Int):Prop:=∀k,k≠0->ez h.a1 g k=true->h.halted k=false
theorem ad.Ok.Gl {h:ad} (hk:h.Ok):h.free 0:=λk b a=>by rw[hk.mF.qP] at a;simp only[decide_eq_true_eq] at a;exact absurd a.symm b
theorem ad.Ok.Gm {h:ad} (hk:h.Ok) {c g:Int} {ar:aJ} (a:h.at c=R ar) (h0:c≠0) (d:ar.up=g) (f:ar.on=true) (i:h.free g):h.free c:=λk j b=>by
 rw[hk.mF.ow (ad.d_ a) h0] at b;simp only[ob,decide_eq_true_eq] at b;rcases b with e|e;·rw[<-e,ad.sQ a];have:=hk.g.st c ar a h0 h0;rw[f] at this;unfold aJ.fM at this;cases l:ar.stopped with
  |false=>rfl
  |true=>rw[l] at this;simp at this
 ·exact i k j (d▸e)
theorem ad.Ok.cz {h:ad} (hk:h.Ok) {g:Int} (d:h.at g=R G) (l:e∈G.q.es):(∃i:Int,0<=i∧i<64∧e.id=2*i)∨∃c ar,e.id=2*c+1∧h.at c=R ar∧c≠0∧0<=c∧ar.up=g∧ar.on=true∧ar.deep=G.deep+1∧ar.q.es≠[]:=by
 rcases hk.g.ids g G d e l with m|⟨c,ar,n,a,b,f,j⟩;·exact .inl m
 ·refine .inr ⟨c,ar,n,a,b,(hk.g.lo c ar a).1,f,j,?_,?_⟩;·obtain⟨r,k,o⟩:=hk.g.up c ar a b;rw[f,d] at k;cases k;exact o
  ·have:=hk.g.st c ar a b b;rw[j] at this;unfold aJ.fM at this;intro p;rw[p] at this;simp at this
theorem ad.Ok.zV {h:ad} (hk:h.Ok):∀(n:Nat) (g:Int) (G:aJ),h.at g=R G->10<=G.deep+n->h.free g->(h.cC n g).2=-1∨∃i j:Int,0<=i∧i<64∧(h.cC n g).2=2*i∧h.has j (2*i)=true∧h.free j
 |0,g,G,a,o,d=>by have:=(hk.g.deep g G a).2;omega
 |n+1,g,G,a,o,d=>by
  have p:=hk.g.q g G a;have r:(h.cC (n+1) g).2=if G.q.cur<0∨G.q.cur%2=0 then G.q.cur else(h.cC n (G.q.cur/2)).2:=by
   conv=>lhs;unfold ad.cC
   rw[a];dsimp only;split<;>rfl
  rw[r];rcases p.cur with k|⟨e,l,k⟩;·rw[aj (.inl (by omega)),k];exact .inl rfl
  ·rcases hk.cz a l with⟨i,m,b,f⟩|⟨c,ar,m,b,f,u,s,t,v,w⟩;·rw[aj (.inr (by omega))];exact .inr ⟨i,g,m,b,by omega,by rw[ad.lK a];exact dC.2 ⟨e,l,f⟩,d⟩
   ·rw[z0 (by omega),show G.q.cur/2=c by omega];exact ad.Ok.zV hk n c ar b (by omega) (hk.Gm b f s t d)
theorem ad.Ok.runs {h:ad} (hk:h.Ok):h.running=-1∨∃i g:Int,0<=i∧i<64∧h.running=i∧h.has g (2*i)=true∧h.free g:=by
 obtain⟨r,a,_,k⟩:=hk.g.root;rcases hk.zV 10 0 r a (by omega) hk.Gl with e|⟨i,g,b,c,d,f,j⟩;·left;unfold ad.running;rw[e];rfl
 ·right;refine⟨i,g,b,c,?_,f,j⟩;unfold ad.running ou;rw[d,z0 (by omega)];omega
theorem aC.Ok.Gn {q:aC} (h:q.Ok) (d:q.es≠[]) (f:Int):∃e∈q.es,e.id=(q.pick f).cur:=by
 unfold aC.pick;split
 ·rename_i a;unfold aC.first at a;split at a;·rename_i e;exact absurd e d
  ·rename_i e l g;split at a;·rename_i b;exact⟨e,by rw[g];exact e5,b⟩
   ·cases a
 ·rename_i o a;split;·exact⟨o,aC.ot a,rfl⟩
  ·rename_i c b;obtain⟨i,j⟩:=lC b;split;·exact⟨c,i,j⟩
   ·exact⟨o,aC.ot a,rfl⟩
theorem ad.Ok.zW:∀(n:Nat) {a:ad},a.Ok->∀(g:Int) (G:aJ),a.at g=R G->10<=G.deep+n->G.q.es≠[]->∃i:Int,0<=i∧i<64∧(ad.gO n a g).2=2*i
 |0,a,hk,g,G,b,j,f=>by have:=(hk.g.deep g G b).2;omega
 |n+1,a,hk,g,G,b,j,f=>by
  obtain⟨e,l,t⟩:=(hk.g.q g G b).Gn f a.bG;unfold ad.gO;rw[b];dsimp only;rcases hk.cz b l with⟨i,h,d,m⟩|⟨c,ar,h,d,m,u,v,w,x,o⟩;·rw[aj (.inr (by omega))];exact⟨i,h,d,by show(G.q.pick a.bG).cur=_;omega⟩
  ·rw[z0 (by omega),show(G.q.pick a.bG).cur/2=c by omega];have p:=hk.same b ((hk.g.q g G b).pick a.bG) (λk=>by rw[aC.ov]);have r:c≠g:=λq=>by rw[q,b] at d;cases d;omega
   have s:(a.set g (R {G with q:=G.q.pick a.bG})).at c=R ar:=(by rw[ad.dm b];exact(gj _ r).trans d);exact ad.Ok.zW n p c ar s (by omega) o
theorem ad.Ok.wF {h:ad} (hk:h.Ok) (a:h.at 0=R G) (c:G.q.es≠[]):0<=h.l8∧h.l8<64:=by obtain⟨r,b,_,e⟩:=hk.g.root;rw[a] at b;cases b;obtain⟨i,f,j,d⟩:=ad.Ok.zW 10 hk 0 G a (by omega) c;unfold ad.l8 ou;rw[d,z0 (by omega)];omega
theorem ad.Ok.Gp {h:ad} (hk:h.Ok) (d:h.running≠-1):∃G,h.at 0=R G∧G.q.es≠[]:=by
 obtain⟨r,a,_,j⟩:=hk.g.root;refine⟨r,a,λf=>d ?_⟩;have i:=hk.g.q 0 r a;have b:r.q.cur=-1:=by
  rcases i.cur with b|⟨e,c,_⟩;·exact b
  ·rw[f] at c;cases c
 unfold ad.running;have:(h.cC 10 0).2=-1:=by unfold ad.cC;rw[a];dsimp only;rw[aj (.inl (by omega)),b]
 rw[this];rfl
theorem ad.Ok.Gq {h:ad} (hk:h.Ok) (e:h.running≠-1):0<=h.yielded∧h.yielded<64:=by
 obtain⟨G,b,c⟩:=hk.Gp e;unfold ad.yielded;rw[z0 e];split;·exact hk.wF b c
 ·split;·exact hk.wF b c
  ·rename_i g _ _ x a;have f:=hk.same a ((hk.g.q g x a).yield h.bG) (λk=>by rw[aC.qO]);have i:∃d,(h.set g (R {x with q:=x.q.yield h.bG})).at 0=R d∧d.q.es≠[]:=by
    rw[ad.dm a];unfold cL;by_cases q:(0:Int)=g;·rw[aj q];subst q;rw[b] at a;cases a;exact⟨_,rfl,by show(G.q.yield h.bG).es≠[];rw[aC.qO];exact c⟩
    ·rw[z0 q];exact⟨G,b,c⟩
   obtain⟨d,j,l⟩:=i;exact f.wF j l
variable {t:ex}
def aa.e9 (s:aa) (p:Nat) (g i:Int):Bool:=match s.hiers[p]? with|none=>false|some h=>h.has g (2*i)
structure pQ (s:aa) (n:Nat) (t:ex):Prop where
 g:t.g<s.groups.length
 p:0<=t.p∧t.p<s.c.aO
 w:2<=t.w∧t.w<=262144
 dead:t.dead=true->t.on=false
 live:t.dead=false->(s.aw t.g).there=true∧(∃pl,an.at s.pool t.h=R pl)∧t.h.idx<64∧s.at_[t.h.idx.toNat]?=R (n:Int)
 e:t.e.id=t.h.idx∧2<=t.e.wt∧t.e.wt<=262144∧t.e.rem<t.e.wt
 mask:0<=t.mask∧t.mask<18446744073709551616
 on:t.on=true->s.e9 t.p.toNat (s.aw t.g).h.idx t.h.idx=true
structure sR (aO:Nat) (G:cb):Prop where
 band:∃b,G.band=R b∧b.loc.length=aO
 line:∃l,G.line=R l∧(∀p∈l,0<=p∧p<(aO:Int))∧l.Nodup
 shares:2<=G.shares∧G.shares<=262144
structure aa.Ok (k:Nat) (s:aa):Prop where
 aO:1<=s.c.aO∧s.c.aO<=64
 tick:1<=s.c.tick∧s.c.tick<=1000000000
 iq:s.c.hC<=1000000000
 eJ:s.tasks.length<=k∧s.groups.length<=k+1
 tree:ae.Ok s.tree
 pool:an.Ok s.pool
 cy:s.pool.pl.length<=64
 hlen:s.hiers.length=s.c.aO
 jl:s.clocks.length=s.c.aO
 iR:∀(p:Nat) c,s.clocks[p]?=R c->c.hC=s.c.hC
 eB:s.places.length=32
 gP:s.at_.length=64
 aY:∀(p:Nat) h,s.hiers[p]?=R h->h.Ok∧h.a1=ae.a1 s.tree
 root:∃r,s.groups[0]?=R r∧r.there=true∧r.h=bM∧r.band=U∧r.line=U
 aw:∀(g:Nat) G,s.groups[g]?=R G->g≠0->sR s.c.aO G
 there:∀(g:Nat) G,s.groups[g]?=R G->G.there=true->(ae.get s.tree G.h).isSome=true∧s.places[G.h.idx.toNat]?=R (R g)
 place:∀(i g:Nat),s.places[i]?=R (R g)->∃G,s.groups[g]?=R G∧G.there=true∧G.h.idx=i
 get:∀h,(ae.get s.tree h).isSome=true->∃(g:Nat) (G:cb),s.groups[g]?=R G∧G.there=true∧G.h=h
 task:∀(n:Nat) t,s.tasks[n]?=R t->pQ s n t
 cz:∀(p:Nat) (g i:Int),s.e9 p g i=true->∃(n:Nat) (t:ex),s.tasks[n]?=R t∧t.on=true∧t.p=p∧t.h.idx=i∧(s.aw t.g).h.idx=g
theorem aa.lL {s:aa} {G:cb} (e:s.groups[g]?=R G):s.aw g=G:=by unfold aa.aw;rw[dy,e];rfl
theorem aa.zX {s:aa} {h:ad} (e:s.hiers[p]?=R h):s.aY p=h:=by unfold aa.aY;rw[dy,bZ,e];rfl
theorem aa.qZ {s:aa} {h:ad} (e:s.hiers[p]?=R h) (g i:Int):s.e9 p g i=h.has g (2*i):=by unfold aa.e9;rw[e]
section
variable {k:Nat} {s:aa}
theorem aa.Ok.mono {a:Nat} (h:s.Ok k) (hk:k<=a):s.Ok a:=⟨h.aO,h.tick,h.iq,⟨cA h.eJ.1 hk,by have:=h.eJ.2;omega⟩,h.tree,h.pool,h.cy,h.hlen,h.jl,h.iR,h.eB,h.gP,h.aY,h.root,h.aw,h.there,h.place,h.get,h.task,h.cz⟩
theorem aa.Ok.ep (h:s.Ok k) {p:Int} (h0:0<=p) (a:p<s.c.aO):s.hiers[p.toNat]?=R (s.aY p):=by have b:=h.hlen;unfold aa.aY;rw[dy,b5 (by omega)];rfl
theorem aa.Ok.oD (h:s.Ok k) (a:g<s.groups.length):s.groups[g]?=R (s.aw g):=by unfold aa.aw;rw[dy,b5 a];rfl
theorem aa.Ok.jz (h:s.Ok k) (a:s.tasks[n]?=R t):s.groups[t.g]?=R (s.aw t.g):=h.oD (h.task n t a).g
theorem aa.Ok.dk (h:s.Ok k) {x:ad} {G:cb} (a:s.hiers[p]?=R x) (b:s.groups[g]?=R G) (c:G.there=true):∃y,x.at G.h.idx=R y:=by obtain⟨e,d⟩:=gK.1 (h.there g G b c).1;have:=ae.d_ d;rw[<-(h.aY p x a).2] at this;obtain⟨y,f,_⟩:=ad.mG this;exact⟨y,f⟩
theorem aa.Ok.one (h:s.Ok k) {u:ex} (c:s.tasks[n]?=R t) (d:s.tasks[m]?=R u) (f:t.dead=false) (g:u.dead=false) (e:t.h.idx=u.h.idx):n=m:=by have a:=((h.task n t c).live f).2.2.2;have b:=((h.task m u d).live g).2.2.2;rw[e,b] at a;have:=Option.some.inj a;omega
theorem pQ.jY (h:pQ s n t) (a:t.on=true):t.dead=false:=by
 cases b:t.dead with
 |false=>rfl
 |true=>rw[h.dead b] at a;cases a
theorem aa.Ok.sS (h:s.Ok k) (a:s.tasks[n]?=R t) (b:t.dead=false):0<=t.h.idx∧t.h.idx<64:=by obtain⟨e,⟨f,c⟩,d,g⟩:=(h.task n t a).live b;exact⟨(an.qS.1 c).1,d⟩
theorem aa.Ok.hiers (h:s.Ok k) (b:List ad) (d:b.length=s.hiers.length) (f:∀(p:Nat) x,b[p]?=R x->x.Ok∧x.a1=ae.a1 s.tree) (c:∀p g i,({s with hiers:=b}:aa).e9 p g i=s.e9 p g i):({s with hiers:=b}:aa).Ok k:=⟨h.aO,h.tick,h.iq,h.eJ,h.tree,h.pool,h.cy,d.trans h.hlen,h.jl,h.iR,h.eB,h.gP,f,h.root,h.aw,h.there,h.place,h.get,λn t j=>by have a:=h.task n t j;exact⟨a.g,a.p,a.w,a.dead,a.live,a.e,a.mask,λo=>(c _ _ _).trans (a.on o)⟩,λp g i a=>h.cz p g i ((c p g i).symm.trans a)⟩
theorem aa.Ok.bU (h:s.Ok k) {p:Int} {x y:ad} (h0:0<=p) (b:s.hiers[p.toNat]?=R x) (f:y.Ok) (j:y.a1=x.a1) (l:∀g i,y.has g (2*i)=x.has g (2*i)):(s.bU p y).Ok k:=by
 have d:=(bD.1 b).1;refine h.hiers _ (by simp) ?_ ?_
 ·intro c m a;by_cases e:c=p.toNat;·subst e;rw[cV d] at a;cases a;exact⟨f,j.trans (h.aY _ _ b).2⟩
  ·rw[dN (Ne.symm e)] at a;exact h.aY _ _ a
 ·intro c g i;unfold aa.e9;dsimp only;by_cases e:c=p.toNat;·subst e;rw[cV d,b];exact l g i
  ·rw[dN (Ne.symm e)]
theorem aa.Ok.b0 (h:s.Ok k) {g:Nat} {G G':cb} (q:s.groups[g]?=R G) (u:G'.h=G.h) (v:G'.there=G.there) (I:g≠0->sR s.c.aO G') (J:g=0->G'=G):(s.b0 g G').Ok k:=by
 have K:=(bD.1 q).1;have o:∀j,(s.b0 g G').groups[j]?=if j=g then R G' else s.groups[j]?:=by
  intro j;unfold aa.b0;dsimp only;by_cases e:j=g;·rw[aj e,e,cV K]
  ·rw[z0 e,dN (Ne.symm e)]
 have y:∀j,((s.b0 g G').aw j).h=(s.aw j).h∧((s.b0 g G').aw j).there=(s.aw j).there:=by
  intro j;unfold aa.aw;rw[dy,dy,o];by_cases e:j=g;·rw[aj e,e,q];exact⟨u,v⟩
  ·rw[z0 e];exact⟨rfl,rfl⟩
 have L:∀(j:Nat) d,(s.b0 g G').groups[j]?=R d->∃l,s.groups[j]?=R l∧d.h=l.h∧d.there=l.there:=by
  intro j d f;rw[o] at f;by_cases e:j=g;·rw[aj e] at f;cases f;exact⟨G,by rw[e];exact q,u,v⟩
  ·rw[z0 e] at f;exact⟨d,f,rfl,rfl⟩
 have E:∀(j:Nat) l,s.groups[j]?=R l->∃d,(s.b0 g G').groups[j]?=R d∧d.h=l.h∧d.there=l.there:=by
  intro j l f;rw[o];by_cases e:j=g;·rw[aj e];rw[e,q] at f;cases f;exact⟨G',rfl,u,v⟩
  ·rw[z0 e];exact⟨l,f,rfl,rfl⟩
 refine⟨h.aO,h.tick,h.iq,⟨h.eJ.1,?_⟩,h.tree,h.pool,h.cy,h.hlen,h.jl,h.iR,h.eB,h.gP,h.aY,?_,?_,?_,?_,?_,?_,?_⟩;·show(s.groups.set g G').length<=k+1;rw[eg];exact h.eJ.2
 ·obtain⟨r,z,F⟩:=h.root;by_cases e:0=g;·subst e;rw[q] at z;cases z;exact⟨G,by rw[o,aj rfl,J rfl],F⟩
  ·exact⟨r,by rw[o,z0 e];exact z,F⟩
 ·intro j d f H;rw[o] at f;by_cases e:j=g;·rw[aj e] at f;cases f;exact I (e▸H)
  ·rw[z0 e] at f;exact h.aw j d f H
 ·intro j d f A;obtain⟨l,a,b,c⟩:=L j d f;rw[b];exact h.there j l a (c▸A)
 ·intro i j M;obtain⟨l,a,b,c⟩:=h.place i j M;obtain⟨d,B,C,D⟩:=E j l a;exact⟨d,B,D.trans b,by rw[C];exact c⟩
 ·intro x N;obtain⟨j,l,a,b,c⟩:=h.get x N;obtain⟨d,B,C,D⟩:=E j l a;exact⟨j,d,B,D.trans b,C.trans c⟩
 ·intro n t A;have m:=h.task n t A;refine⟨by show t.g<(s.groups.set g G').length;rw[eg];exact m.g,m.p,m.w,m.dead,λO=>?_,m.e,m.mask,λP=>?_⟩;·rw[(y t.g).2];exact m.live O
  ·rw[(y t.g).1];exact m.on P
 ·intro p j i Q;obtain⟨n,t,a,b,c,S,e⟩:=h.cz p j i Q;exact⟨n,t,a,b,c,S,by rw[(y t.g).1];exact e⟩
theorem aa.Ok.cE (h:s.Ok k) {n:Nat} {t t':ex} (l:s.tasks[n]?=R t) (o:t'.h=t.h) (j:t'.g=t.g) (v:t'.dead=t.dead) (q:t'.on=t.on) (r:t'.p=t.p) (z:2<=t'.w∧t'.w<=262144) (A:t'.e.id=t'.h.idx∧2<=t'.e.wt∧t'.e.wt<=262144∧t'.e.rem<t'.e.wt) (B:0<=t'.mask∧t'.mask<18446744073709551616):(s.cE n t').Ok k:=by
 have x:=(bD.1 l).1;refine⟨h.aO,h.tick,h.iq,⟨?_,h.eJ.2⟩,h.tree,h.pool,h.cy,h.hlen,h.jl,h.iR,h.eB,h.gP,h.aY,h.root,h.aw,h.there,h.place,h.get,?_,?_⟩;·show(s.tasks.set n t').length<=k;rw[eg];exact h.eJ.1
 ·intro m u f;change(s.tasks.set n t')[m]?=R u at f;by_cases e:m=n;·subst e;rw[cV x] at f;cases f;have d:=h.task m t l;exact⟨by rw[j];exact d.g,by rw[r];exact d.p,z,by rw[v,q];exact d.dead,by rw[v,o,j];exact d.live,A,B,by rw[q,r,o,j];exact d.on⟩
  ·rw[dN (Ne.symm e)] at f;have d:=h.task m u f;exact⟨d.g,d.p,d.w,d.dead,d.live,d.e,d.mask,d.on⟩
 ·intro p g i C;obtain⟨m,u,a,b,c,y,e⟩:=h.cz p g i C;by_cases d:m=n;·subst d;rw[l] at a;cases a;exact⟨m,t',by show(s.tasks.set m t')[m]?=_;rw[cV x],q.trans b,r.trans c,by rw[o];exact y,by rw[j];exact e⟩
  ·exact⟨m,u,by show(s.tasks.set n t')[m]?=_;rw[dN (Ne.symm d)];exact a,b,c,y,e⟩
theorem aa.Ok.dJ (h:s.Ok k) (p:Int) {c:cD} (f:c.hC=s.c.hC):(s.dJ p c).Ok k:=by
 refine⟨h.aO,h.tick,h.iq,h.eJ,h.tree,h.pool,h.cy,h.hlen,?_,?_,h.eB,h.gP,h.aY,h.root,h.aw,h.there,h.place,h.get,?_,h.cz⟩;·show(s.clocks.set p.toNat c).length=s.c.aO;rw[eg];exact h.jl
 ·intro a d b;change(s.clocks.set p.toNat c)[a]?=R d at b;by_cases e:a=p.toNat;·subst e;rw[cV (by have:=(bD.1 b).1;simpa using this)] at b;cases b;exact f
  ·rw[dN (Ne.symm e)] at b;exact h.iR a d b
 ·intro n t i;have a:=h.task n t i;exact⟨a.g,a.p,a.w,a.dead,a.live,a.e,a.mask,a.on⟩
theorem aa.Ok.zY (h:s.Ok k) (b:fS):({s with book:=b}:aa).Ok k:=⟨h.aO,h.tick,h.iq,h.eJ,h.tree,h.pool,h.cy,h.hlen,h.jl,h.iR,h.eB,h.gP,h.aY,h.root,h.aw,h.there,h.place,h.get,λn t c=>by have a:=h.task n t c;exact⟨a.g,a.p,a.w,a.dead,a.live,a.e,a.mask,a.on⟩,h.cz⟩
end
section
variable {k:Nat} {s:aa}
theorem pQ.ep {n:Nat} {t:ex} (h:s.Ok k) (q:pQ s n t):s.hiers[t.p.toNat]?=R (s.aY t.p):=h.ep q.p.1 q.p.2
theorem aa.Ok.zZ (h:s.Ok k) (d:s.tasks[n]?=R t) (e:t.on=true):(s.aY t.p).e6 (s.aw t.g).h.idx t.h.idx=0∧cH (2*t.h.idx) (match(s.aY t.p).at (s.aw t.g).h.idx with|none=>[]|some x=>x.q.es)=true:=by
 have b:=h.task n t d;have f:=b.ep h;have a:=b.on e;rw[aa.qZ f] at a;obtain⟨j,l⟩:=h.sS d (b.jY e);cases c:(s.aY t.p).at (s.aw t.g).h.idx with
 |none=>rw[ad.sP c] at a;cases a
 |some x=>
  rw[ad.lK c] at a;refine⟨?_,a⟩;unfold ad.e6;rw[c];dsimp only;have i:hc t.h.idx=true:=by unfold hc;simp;omega
  rw[z0 (by rw[i];simp)];unfold aC.e6;rw[aj a]
theorem aa.Ok.Gr (h:s.Ok k) (f:s.tasks[n]?=R t) (l:t.on=true):((s.aY t.p).ed (s.aw t.g).h.idx t.h.idx).id=t.h.idx∧2<=((s.aY t.p).ed (s.aw t.g).h.idx t.h.idx).wt∧((s.aY t.p).ed (s.aw t.g).h.idx t.h.idx).wt<=262144∧((s.aY t.p).ed (s.aw t.g).h.idx t.h.idx).rem<((s.aY t.p).ed (s.aw t.g).h.idx t.h.idx).wt:=by
 have m:=h.task n t f;have o:=m.ep h;obtain⟨b,a⟩:=h.zZ f l;unfold ad.ed;rw[aj b];cases c:(s.aY t.p).at (s.aw t.g).h.idx with
 |none=>rw[c] at a;simp[cH,hb] at a
 |some x=>
  rw[c] at a;dsimp only at a⊢;obtain⟨i,b,r⟩:=dC.1 a;have j:=(h.aY _ _ o).1.g.q _ x c;have d:=j.rt i b;have e:x.q.ed (2*t.h.idx)=i:=by unfold aC.ed;rw[<-r,qI j.ids b];rfl
  rw[e];exact⟨rfl,d.2.1,d.2.2.1,d.2.2.2⟩
theorem aa.q0 (a:s.tasks[n]?=R t):s.leave n=(s.bU t.p ((s.aY t.p).drop (s.aw t.g).h.idx t.h.idx)).cE n {t with mn:=s.least t t.p,e:=(s.aY t.p).ed (s.aw t.g).h.idx t.h.idx,on:=false}:=by unfold aa.leave;rw[a]
theorem aa.Ok.leave (h:s.Ok k) {n:Nat} {t:ex} (d:s.tasks[n]?=R t) (v:t.on=true):(s.leave n).Ok k:=by
 rw[aa.q0 d];have f:=h.task n t d;have y:=f.ep h;have z:=h.aY _ _ y;have E:=(h.zZ d v).1;have F:=h.Gr d v;have A:=f.jY v;obtain⟨J,K⟩:=h.sS d A;have G:=(bD.1 d).1;have B:=(bD.1 y).1;have C:∀p g i,((s.bU t.p ((s.aY t.p).drop (s.aw t.g).h.idx t.h.idx)).cE n {t with mn:=s.least t t.p,e:=(s.aY t.p).ed (s.aw t.g).h.idx t.h.idx,on:=false}).e9 p g i=(s.e9 p g i&&!(decide (p=t.p.toNat)&&(decide (g=(s.aw t.g).h.idx)&&decide (i=t.h.idx)))):=by
  intro p g i;unfold aa.e9;show(match(s.hiers.set t.p.toNat _)[p]? with|none=>false|some h=>h.has g (2*i))=_;by_cases e:p=t.p.toNat;·subst e;rw[cV B,y];dsimp only;rw[(z.1.Gd _ _ g i).1,decide_eq_true E];simp
  ·rw[dN (Ne.symm e),decide_eq_false e];simp;try rfl
 refine⟨h.aO,h.tick,h.iq,⟨?_,h.eJ.2⟩,h.tree,h.pool,h.cy,?_,h.jl,h.iR,h.eB,h.gP,?_,h.root,h.aw,h.there,h.place,h.get,?_,?_⟩;·show(s.tasks.set n _).length<=k;rw[eg];exact h.eJ.1
 ·show(s.hiers.set t.p.toNat _).length=s.c.aO;rw[eg];exact h.hlen
 ·intro p x l;change(s.hiers.set t.p.toNat _)[p]?=R x at l;by_cases e:p=t.p.toNat;·subst e;rw[cV B] at l;cases l;exact⟨z.1.drop _ _,(ad.FQ _ _ _).trans z.2⟩
  ·rw[dN (Ne.symm e)] at l;exact h.aY p x l
 ·intro m u j;change(s.tasks.set n _)[m]?=R u at j;by_cases e:m=n;·subst e;rw[cV G] at j;cases j;exact⟨f.g,f.p,f.w,λ_=>rfl,f.live,F,f.mask,λo=>by cases o⟩
  ·rw[dN (Ne.symm e)] at j;have r:=h.task m u j;refine⟨r.g,r.p,r.w,r.dead,r.live,r.e,r.mask,λo=>?_⟩;refine(C _ _ _).trans ?_;show(s.e9 u.p.toNat (s.aw u.g).h.idx u.h.idx&&!(decide (u.p.toNat=t.p.toNat)&&(decide ((s.aw u.g).h.idx=(s.aw t.g).h.idx)&&decide (u.h.idx=t.h.idx))))=true;have:decide (u.h.idx=t.h.idx)=false:=decide_eq_false λH=>e (h.one j d (r.jY o) A H);rw[this,r.on o];simp
 ·intro p g i q;rw[C] at q;simp only[jb,sj,Bool.and_eq_false_iff,decide_eq_false_iff_not] at q;obtain⟨m,u,a,b,c,D,e⟩:=h.cz p g i q.1;have I:m≠n:=by
   rintro rfl;rw[d] at a;cases a;rcases q.2 with r|r|r;·exact r (by omega)
   ·exact r e.symm
   ·exact r D.symm
  exact⟨m,u,by show(s.tasks.set n _)[m]?=_;rw[dN (Ne.symm I)];exact a,b,c,D,e⟩
theorem aa.z1 (q:pQ s n t) (p:Int) (a:Bool):(s.gl t p a).id=t.h.idx∧2<=(s.gl t p a).wt∧(s.gl t p a).wt<=262144∧(s.gl t p a).rem<(s.gl t p a).wt:=by unfold aa.gl aa.lI;split<;>split<;>exact q.e
theorem aa.Ok.z6 (h:s.Ok k) (d:s.tasks[n]?=R t) (v:t.on=false) (i:t.dead=false) {p:Int} (h0:0<=p) (w:p<s.c.aO) (f:Bool):(s.aY p).dE (s.aw t.g).h.idx (s.gl t p f)=0:=by
 have o:=h.task n t d;have j:=h.ep h0 w;obtain⟨y,l⟩:=h.dk j (h.jz d) (o.live i).1;obtain⟨E,F⟩:=h.sS d i;obtain⟨r,G,H,I⟩:=aa.z1 o p f;unfold ad.dE;rw[l];dsimp only;have x:hc (s.gl t p f).id=true:=by rw[r];unfold hc;simp;omega
 rw[z0 (by rw[x];simp)];unfold aC.dE;have z:cH ((s.gl t p f).id*2) y.q.es=false:=by
  cases A:cH ((s.gl t p f).id*2) y.q.es with
  |false=>rfl
  |true=>have B:s.e9 p.toNat (s.aw t.g).h.idx t.h.idx=true:=(by rw[aa.qZ j,ad.lK l,<-A,r,Int.mul_comm]);obtain⟨m,u,a,b,c,C,e⟩:=h.cz _ _ _ B;have:=h.one a d ((h.task m u a).jY b) i C;subst this;rw[d] at a;cases a;rw[v] at b;cases b
 have D:=(h.aY _ _ j).1.g.room l;dsimp only;rw[z0 (by omega),z0 (by rw[qK.2 ⟨by omega,by omega⟩];simp),z0 (by omega),z,z0 (by simp),z0 D]
theorem aa.put_eq (b:s.tasks[n]?=R t) (p:Int) (a:Bool):s.put n p a=(s.cE n {t with e:=s.gl t p a,p:=p,on:=true}).bU p ((s.aY p).put (s.aw t.g).h.idx (s.gl t p a)):=by unfold aa.put;rw[b]
theorem aa.Ok.put (h:s.Ok k) {n:Nat} {t:ex} (d:s.tasks[n]?=R t) (E:t.on=false) (y:t.dead=false) {p:Int} (h0:0<=p) (z:p<s.c.aO) (f:Bool):(s.put n p f).Ok k:=by
 rw[aa.put_eq d];have j:=h.task n t d;have A:=h.ep h0 z;have B:=h.aY _ _ A;have I:=h.z6 d E y h0 z f;have F:=aa.z1 j p f;obtain⟨N,O⟩:=h.sS d y;have G:=(bD.1 d).1;have H:=(bD.1 A).1;have C:∀r g i,((s.cE n {t with e:=s.gl t p f,p:=p,on:=true}).bU p ((s.aY p).put (s.aw t.g).h.idx (s.gl t p f))).e9 r g i=(s.e9 r g i||(decide (r=p.toNat)&&(decide (g=(s.aw t.g).h.idx)&&decide (i=t.h.idx)))):=by
  intro r g i;unfold aa.e9;show(match(s.hiers.set p.toNat _)[r]? with|none=>false|some h=>h.has g (2*i))=_;by_cases e:r=p.toNat;·subst e;rw[cV H,A];dsimp only;rw[(B.1.Gc _ _ g i).1,decide_eq_true I,F.1];simp
  ·rw[dN (Ne.symm e),decide_eq_false e];simp;try rfl
 refine⟨h.aO,h.tick,h.iq,⟨?_,h.eJ.2⟩,h.tree,h.pool,h.cy,?_,h.jl,h.iR,h.eB,h.gP,?_,h.root,h.aw,h.there,h.place,h.get,?_,?_⟩;·show(s.tasks.set n _).length<=k;rw[eg];exact h.eJ.1
 ·show(s.hiers.set p.toNat _).length=s.c.aO;rw[eg];exact h.hlen
 ·intro r x l;change(s.hiers.set p.toNat _)[r]?=R x at l;by_cases e:r=p.toNat;·subst e;rw[cV H] at l;cases l;exact⟨B.1.put _ _,(ad.FP _ _ _).trans B.2⟩
  ·rw[dN (Ne.symm e)] at l;exact h.aY r x l
 ·intro m u q;change(s.tasks.set n _)[m]?=R u at q;by_cases e:m=n;·subst e;rw[cV G] at q;cases q;refine⟨j.g,⟨h0,z⟩,j.w,λD=>?_,j.live,F,j.mask,λo=>(C _ _ _).trans (by show(s.e9 p.toNat (s.aw t.g).h.idx t.h.idx||(decide (p.toNat=p.toNat)&&(decide ((s.aw t.g).h.idx=(s.aw t.g).h.idx)&&decide (t.h.idx=t.h.idx))))=true;simp)⟩;change t.dead=true at D;rw[y] at D;cases D
  ·rw[dN (Ne.symm e)] at q;have r:=h.task m u q;exact⟨r.g,r.p,r.w,r.dead,r.live,r.e,r.mask,λo=>(C _ _ _).trans (by show(s.e9 u.p.toNat (s.aw u.g).h.idx u.h.idx||_)=true;rw[r.on o];rfl)⟩
 ·intro r g i v;rw[C] at v;simp only[ob,jb,decide_eq_true_eq] at v;rcases v with v|⟨P,J,K⟩;·obtain⟨m,u,a,b,c,L,e⟩:=h.cz r g i v;have M:m≠n:=(by rintro rfl;rw[d] at a;cases a;rw[E] at b;cases b);exact⟨m,u,by show(s.tasks.set n _)[m]?=_;rw[dN (Ne.symm M)];exact a,b,c,L,e⟩
  ·refine⟨n,{t with e:=s.gl t p f,p:=p,on:=true},by show(s.tasks.set n _)[n]?=_;rw[cV G],rfl,?_,K.symm,J.symm⟩;show p=(r:Int);omega
end
section
variable {k:Nat} {s:aa}
theorem aa.mi {p:Int}:s.e0 p=true↔0<=p∧p<s.c.aO:=by unfold aa.e0;simp
theorem aa.Ok.runs (h:s.Ok k) (p:Int):s.running p=-1∨∃(n:Nat) (t:ex),s.running p=n∧s.tasks[n]?=R t∧t.on=true∧t.p=p∧s.e0 p=true∧(s.aY p).free (s.aw t.g).h.idx∧(s.aY p).running=t.h.idx:=by
 unfold aa.running;cases hp:s.e0 p with
 |false=>left;rw[aj rfl]
 |true=>
  rw[z0 (by simp)];obtain⟨m,o⟩:=aa.mi.1 hp;have f:=h.ep m o;rcases(h.aY _ _ f).1.runs with e|⟨i,g,a,b,c,q,e⟩;·left;rw[e,aj (by omega)]
  ·right;have r:s.e9 p.toNat g i=true:=(by rw[aa.qZ f];exact q);obtain⟨n,t,d,j,w,l,u⟩:=h.cz _ _ _ r;have v:=((h.task n t d).live ((h.task n t d).jY j)).2.2.2;refine⟨n,t,?_,d,j,by omega,rfl,by rw[u];exact e,by rw[c,l]⟩;rw[c,z0 (by omega),dy,<-l,v];rfl
structure cN (s r:aa):Prop where
 c:r.c=s.c
 tree:r.tree=s.tree
 pool:r.pool=s.pool
 tasks:r.tasks=s.tasks
 places:r.places=s.places
 at_:r.at_=s.at_
 book:r.book=s.book
 len:r.groups.length=s.groups.length
 h:∀g,(r.aw g).h=(s.aw g).h
 there:∀g,(r.aw g).there=(s.aw g).there
 shares:∀g,(r.aw g).shares=(s.aw g).shares
 aP:r.hiers.length=s.hiers.length
 jA:r.clocks.length=s.clocks.length
theorem cN.refl (s:aa):cN s s:=⟨rfl,rfl,rfl,rfl,rfl,rfl,rfl,rfl,λ_=>rfl,λ_=>rfl,λ_=>rfl,rfl,rfl⟩
theorem cN.trans {a b c:aa} (h:cN a b) (k:cN b c):cN a c:=⟨k.c.trans h.c,k.tree.trans h.tree,k.pool.trans h.pool,k.tasks.trans h.tasks,k.places.trans h.places,k.at_.trans h.at_,k.book.trans h.book,k.len.trans h.len,λg=>(k.h g).trans (h.h g),λg=>(k.there g).trans (h.there g),λg=>(k.shares g).trans (h.shares g),k.aP.trans h.aP,k.jA.trans h.jA⟩
theorem cN.bU (s:aa) (p:Int) (x:ad):cN s (s.bU p x):=⟨rfl,rfl,rfl,rfl,rfl,rfl,rfl,rfl,λ_=>rfl,λ_=>rfl,λ_=>rfl,by unfold aa.bU;simp,rfl⟩
theorem cN.dJ (s:aa) (p:Int) (x:cD):cN s (s.dJ p x):=⟨rfl,rfl,rfl,rfl,rfl,rfl,rfl,rfl,λ_=>rfl,λ_=>rfl,λ_=>rfl,rfl,by unfold aa.dJ;simp⟩
theorem aa.mj (s:aa) (g:Nat) (G:cb) (j:Nat):(s.b0 g G).aw j=if j=g∧g<s.groups.length then G else s.aw j:=by
 unfold aa.aw aa.b0;dsimp only;rw[dy,dy];by_cases e:j=g
 ·subst e;by_cases a:j<s.groups.length;·rw[cV a,aj ⟨rfl,a⟩];rfl
  ·rw[gh (by simp;omega),gh (by omega),z0 (λb=>a b.2)]
 ·rw[dN (Ne.symm e),z0 (λb=>e b.1)]
theorem cN.b0 (s:aa) (g:Nat) {G:cb} (a:G.h=(s.aw g).h) (b:G.there=(s.aw g).there) (c:G.shares=(s.aw g).shares):cN s (s.b0 g G):=by
 refine⟨rfl,rfl,rfl,rfl,rfl,rfl,rfl,by unfold aa.b0;simp,?_,?_,?_,rfl,rfl⟩
 ·intro j;rw[aa.mj];split;·rename_i e;rw[e.1];exact a
  ·rfl
 ·intro j;rw[aa.mj];split;·rename_i e;rw[e.1];exact b
  ·rfl
 ·intro j;rw[aa.mj];split;·rename_i e;rw[e.1];exact c
  ·rfl
theorem cN.bP (s:aa) (g:Nat) (f:aM->aM):cN s (s.bP g f):=by
 unfold aa.bP;split;·exact cN.refl s
 ·exact cN.b0 s g rfl rfl rfl
theorem cN.b7 (s:aa) (g:Nat) (f:List Int->List Int):cN s (s.b7 g f):=by
 unfold aa.b7;split;·exact cN.refl s
 ·exact cN.b0 s g rfl rfl rfl
theorem cN.stop (s:aa) (g:Nat) (p:Int) (is:Bool):cN s (s.stop g p is):=cN.bU s p _
theorem aa.q1 (s:aa) (a:¬g<s.groups.length):s.aw g=ik:=by unfold aa.aw;rw[dy,gh (by omega)];rfl
theorem aa.Ok.wG (h:s.Ok k) {b:aM} (a:(s.aw g).band=R b):s.groups[g]?=R (s.aw g)∧g≠0∧sR s.c.aO (s.aw g)∧b.loc.length=s.c.aO:=by
 by_cases e:g<s.groups.length
 ·have d:=h.oD e;have f:g≠0:=by rintro rfl;obtain⟨r,i,_,_,j,_⟩:=h.root;rw[d] at i;cases i;rw[a] at j;cases j
  have l:=h.aw g _ d f;obtain⟨o,m,n⟩:=l.band;rw[a] at m;cases m;exact⟨d,f,l,n⟩
 ·rw[s.q1 e] at a;cases a
theorem aa.Ok.q2 (h:s.Ok k) (a:(s.aw g).line=R l):s.groups[g]?=R (s.aw g)∧g≠0∧sR s.c.aO (s.aw g)∧(∀p∈l,0<=p∧p<(s.c.aO:Int))∧l.Nodup:=by
 by_cases d:g<s.groups.length
 ·have b:=h.oD d;have e:g≠0:=by rintro rfl;obtain⟨r,f,_,_,_,i⟩:=h.root;rw[b] at f;cases f;rw[a] at i;cases i
  have j:=h.aw g _ b e;obtain⟨o,m,n⟩:=j.line;rw[a] at m;cases m;exact⟨b,e,j,n⟩
 ·rw[s.q1 d] at a;cases a
theorem aa.Ok.bP (h:s.Ok k) (g:Nat) (f:aM->aM) (c:∀b,(f b).loc.length=b.loc.length):(s.bP g f).Ok k:=by
 unfold aa.bP;cases d:(s.aw g).band with
 |none=>exact h
 |some b=>obtain⟨i,j,a,e⟩:=h.wG d;exact h.b0 i rfl rfl (λ_=>⟨⟨f b,rfl,(c b).trans e⟩,a.line,a.shares⟩) (λe=>absurd e j)
theorem aa.Ok.b7 (h:s.Ok k) (g:Nat) (f:List Int->List Int) (d:∀l,(s.aw g).line=R l->(∀p∈l,0<=p∧p<(s.c.aO:Int))->l.Nodup->(∀p∈f l,0<=p∧p<(s.c.aO:Int))∧(f l).Nodup):(s.b7 g f).Ok k:=by
 unfold aa.b7;cases a:(s.aw g).line with
 |none=>exact h
 |some l=>obtain⟨i,j,b,e,m⟩:=h.q2 a;exact h.b0 i rfl rfl (λ_=>⟨b.band,⟨f l,rfl,d l a e m⟩,b.shares⟩) (λe=>absurd e j)
theorem Gs {f:Nat} {p:Int} (h0:0<=p) (j:p<f) (h:∀p∈l,0<=p∧p<(f:Int)) (g:l.Nodup):(∀d∈fT l p,0<=d∧d<(f:Int))∧(fT l p).Nodup:=by
 unfold fT;split
 ·rename_i e;refine⟨λd c=>?_,?_⟩
  ·rcases nj.1 c with c|c;·exact h d c
   ·rw[qt] at c;subst c;exact⟨h0,j⟩
  ·rw[List.nodup_append];exact⟨g,by simp,λa k b i=>by rw[qt] at i;subst i;rintro rfl;exact e.2.2 k⟩
 ·exact⟨h,g⟩
theorem aa.Ok.sT (h:s.Ok k) (g:Nat) {p:Int} (h0:0<=p) (d:p<s.c.aO):(s.b7 g λl=>fT l p).Ok k:=h.b7 g _ λl _ a b=>Gs h0 d a b
theorem aa.Ok.stop (h:s.Ok k) (g:Nat) {p:Int} (h0:0<=p) (d:p<s.c.aO) (is:Bool):(s.stop g p is).Ok k:=by have a:=h.ep h0 d;have b:=h.aY _ _ a;exact h.bU h0 a (b.1.stop _ _) (ad.vR _ _ _) (λj i=>(b.1.zT _ _ j i).1)
theorem aa.Ok.fB (h:s.Ok k) {p:Int} (h0:0<=p) (b:p<s.c.aO):(s.fB p).Ok k:=by have a:=h.ep h0 b;have d:=h.aY _ _ a;exact h.bU h0 a d.1.pick (ad.pN _) (λj i=>(ad.pP _ j _).1)
theorem cD.Gt (t:cD) (n:Int):(t.begin n).hC=t.hC:=by unfold cD.begin;split<;>rfl
theorem cD.Gu (t:cD) (n:Nat):(t.tick n).hC=t.hC:=by unfold cD.tick;split<;>(try split)<;>rfl
theorem aa.Ok.pR (h:s.Ok k) {p:Int} (h0:0<=p) (a:p<s.c.aO):s.clocks[p.toNat]?=R (s.clock p):=by have b:=h.jl;unfold aa.clock;rw[dy,b5 (by omega)];rfl
theorem aa.Ok.begin (h:s.Ok k) {p:Int} (h0:0<=p) (a:p<s.c.aO) (n:Int):(s.begin p n).Ok k:=h.dJ p ((cD.Gt _ _).trans (h.iR _ _ (h.pR h0 a)))
theorem aM.q3 (b:aM) (p:Int):(b.cP p).loc.length=b.loc.length:=by unfold aM.cP;split<;>(try split)<;>(try split)<;>simp
theorem aM.z7 (b:aM) (p n:Int):(b.b4 p n).loc.length=b.loc.length:=by
 unfold aM.b4;split;·rw[aM.q3];dsimp only;split<;>simp
 ·rfl
theorem aM.z8 (b:aM) (p:Int):(b.ret p).loc.length=b.loc.length:=by unfold aM.ret;split<;>simp
theorem aM.Gv (b:aM):(b.gy).loc.length=b.loc.length:=by unfold aM.gy;simp
theorem aM.md (b:aM) (q n:Int):(b.set q n).loc.length=b.loc.length:=by unfold aM.set;split<;>simp
end
structure cI (k:Nat) (s r:aa):Prop where
 ok:r.Ok k
 du:cN s r
theorem cI.refl {k:Nat} {s:aa} (h:s.Ok k):cI k s s:=⟨h,cN.refl s⟩
theorem cI.trans {k:Nat} {a b c:aa} (h:cI k a b) (q:cI k b c):cI k a c:=⟨q.ok,h.du.trans q.du⟩
theorem lM {α:Type} {k:Nat} (f:aa->α->aa):∀(l:List α) (s:aa),s.Ok k->(∀x∈l,∀r,cI k s r->cI k r (f r x))->cI k s (l.foldl f s)
 |[],s,h,_=>cI.refl h
 |x::l,s,h,b=>by rw[nk];have a:=b x e5 s (cI.refl h);exact a.trans (lM f l _ a.ok λy c r d=>b y (hK _ c) r (a.trans d))
section
variable {k:Nat} {s:aa}
theorem aa.Ok.bO (h:s.Ok k) (g:Nat):cI k s (s.bO g):=by
 unfold aa.bO;apply lM _ _ s h;intro x e r d;have o:x.1<s.c.aO:=by unfold aa.mg at e;have:=(List.of_mem_zip (a:=x.1) (b:=x.2) e).1;simpa using this
 split
 ·have f:(0:Int)<=(x.1:Int):=by omega
  have m:(x.1:Int)<r.c.aO:=by rw[d.du.c];omega
  have l:=d.ok.ep f m;have n:=d.ok.aY _ _ l;exact⟨d.ok.bU f l (n.1.bO _ _) (ad.zq _ _ _) (λj i=>(ad.zS _ _ _ j _).1),cN.bU _ _ _⟩
 ·exact cI.refl d.ok
theorem aa.Ok.returns (h:s.Ok k) (g:Nat):cI k s (s.returns g):=by
 unfold aa.returns;apply lM _ _ s h;intro x c r a;split;·exact⟨a.ok.bP _ _ (λb=>b.z8 _),cN.bP _ _ _⟩
 ·exact cI.refl a.ok
theorem aa.wH {p:Int} (e:s.il g=p::l):(s.aw g).line=R (p::l):=by
 unfold aa.il at e;cases aP:(s.aw g).line with
 |none=>rw[aP] at e;cases e
 |some m=>rw[aP] at e;simp only[kl] at e;rw[e]
theorem aa.Ok.hand (n:Nat):∀(s:aa),s.Ok k->∀g,cI k s (aa.hand n s g):=by
 induction n with
 |zero=>intro s d g;exact cI.refl d
 |succ n j=>
  intro s d g;unfold aa.hand;split;·exact cI.refl d
  ·split;·exact cI.refl d
   ·rename_i p l v;have o:=aa.wH v;obtain⟨x,y,z,e,A⟩:=d.q2 o;have i:=e p e5;have q:cI k s (s.b7 g λ_=>l):=⟨d.b7 g _ λm t a b=>by rw[o] at t;cases t;exact⟨λr w=>a r (hK _ w),(jL.1 b).2⟩,cN.b7 _ _ _⟩;have f:=q.trans ⟨q.ok.bP g (λb=>b.cP p) (λb=>b.q3 p),cN.bP _ _ _⟩;have u:p<(((s.b7 g λ_=>l).bP g (λb=>b.cP p)).c.aO:Int):=(by rw[f.du.c];exact i.2);split;·have h:=f.trans ⟨f.ok.stop g i.1 u false,cN.stop _ _ _ _⟩;exact h.trans (j _ h.ok g)
    ·have h:=f.trans ⟨f.ok.sT g i.1 u,cN.b7 _ _ _⟩;exact h.trans (j _ h.ok g)
theorem aa.Ok.share (h:s.Ok k) (g:Nat):cI k s (s.share g):=(h.returns g).trans (aa.Ok.hand 66 _ (h.returns g).ok g)
theorem aa.Ok.asks (p:Int):∀(l:List Nat) (s:aa),s.Ok k->cI k s (aa.asks p l s).1∧(aa.asks p l s).1.hiers=s.hiers∧∀g,(aa.asks p l s).2=R g->g∈l
 |[],s,h=>⟨cI.refl h,rfl,λg e=>by cases e⟩
 |a::l,s,h=>by
  unfold aa.asks;have w:=(⟨h.bP a (λb=>b.cP p) (λb=>b.q3 p),cN.bP _ _ _⟩:cI k s (s.bP a λb=>b.cP p));have c:(s.bP a λb=>b.cP p).hiers=s.hiers:=by unfold aa.bP;split<;>rfl
  split;·have:=aa.Ok.asks p l _ w.ok;exact⟨w.trans this.1,this.2.1.trans c,λg e=>hK _ (this.2.2 g e)⟩
  ·exact⟨w,c,λg e=>by cases e;exact e5⟩
theorem aa.wI (s:aa) (p:Int):s.fC p=(if(s.fB p).running p=-1 then((s.fB p).begin p (-1),true) else match(s.fB p).tasks[((s.fB p).running p).toNat]? with
 |none=>(s.fB p,true)
 |some t=>
  match aa.asks p ((s.fB p).limited ((s.fB p).cC t.g)) (s.fB p) with
  |(s2,U)=>(s2.begin p ((s.fB p).running p),true)
  |(s2,R g)=>((s2.b7 g λl=>fT l p).stop g p true,false)):=rfl
def ad.going (h:ad):Nat:=((gi 32).filter λi:Nat=>(h.at i).isSome&&!h.halted i).length
theorem ad.Gw (h:ad):h.going<=32:=by unfold ad.going;exact cA (py _ _) (by simp)
theorem z_ {α:Type} (f g:α->Bool):∀(l:List α),(∀x∈l,g x=true->f x=true)->(∃x∈l,f x=true∧g x=false)->(l.filter g).length<(l.filter f).length
 |[],_,⟨x,c,_⟩=>by cases c
 |a::l,d,⟨x,c,aq,aA⟩=>by
  have j:∀(m:List α),(∀x∈m,g x=true->f x=true)->(m.filter g).length<=(m.filter f).length:=by
   intro m;induction m with
   |nil=>intro _;exact bK _
   |cons b m k=>
    intro i;have:=k λx c=>i x (hK _ c);simp only[List.filter_cons];cases e:g b with
    |false=>cases n:f b<;>simp<;>omega
    |true=>rw[i b e5 e];simp;omega
  rcases gZ.1 c with rfl|c;·simp only[List.filter_cons,aq,aA];have:=j l λy h=>d y (hK _ h);simp;omega
  ·have:=z_ f g l (λy h=>d y (hK _ h)) ⟨x,c,aq,aA⟩;simp only[List.filter_cons];cases e:g a with
   |false=>cases n:f a<;>simp<;>omega
   |true=>rw[d a e5 e];simp;omega
theorem ae.Aa {t:ae}:∀(n:Nat) (b x:aF),x∈ae.ft t n b->(ae.get t x).isSome=true
 |0,b,x,a=>by simp[ae.ft] at a
 |n+1,b,x,a=>by
  unfold ae.ft at a;cases c:ae.get t b with
  |none=>rw[c] at a;simp at a
  |some g=>
   rw[c] at a;dsimp only at a;rcases gZ.1 a with rfl|a;·rw[c];rfl
   ·split at a;·simp at a
    ·exact ae.Aa n _ x a
theorem Ab {α:Type} (f:α->Bool):∀(l:List α) (x:α),x∈l.takeWhile f->f x=true
 |a::l,x,h=>by
  rw[List.takeWhile_cons] at h;split at h
  ·rcases gZ.1 h with rfl|h;·assumption
   ·exact Ab f l x h
  ·cases h
theorem ae.Ok.Ac {t:ae} (h:ae.Ok t) {x:aF} {i:Int} (b:i∈ae.path t x):i≠0∧(∃y,y.idx=i∧(ae.get t y).isSome=true)∧ez (ae.a1 t) x.idx i=true:=by
 unfold ae.path at b;rw[List.mem_reverse,eY] at b;obtain⟨y,c,rfl⟩:=b;have f:=Ab _ _ _ c;have a:=(List.takeWhile_sublist _).subset c;have d:=ae.Aa 10 x y a;obtain⟨k,g⟩:=gK.1 d;cases e:ae.get t x with
 |none=>rw[show ae.ft t 10 x=[] by unfold ae.ft;rw[e]] at a;cases a
 |some j=>refine⟨by simpa using f,⟨y,rfl,d⟩,?_⟩;have:=h.vY g 10 x j e;unfold ez;rw[<-this,n_];exact⟨y,a,by simp⟩
theorem aa.Ok.wJ (h:s.Ok k) {o:Option Nat} (e:o∈s.cC g):∃(j:Nat) (d:cb),o=R j∧s.groups[j]?=R d∧d.there=true∧d.h.idx≠0∧ez (ae.a1 s.tree) (s.aw g).h.idx d.h.idx=true:=by unfold aa.cC at e;obtain⟨i,f,rfl⟩:=eY.1 e;obtain⟨l,⟨y,rfl,m⟩,n⟩:=h.tree.Ac f;obtain⟨j,d,a,b,c⟩:=h.get y m;have:=(h.there j d a b).2;rw[c] at this;exact⟨j,d,by rw[dy,this];rfl,a,b,by rw[c];exact l,by rw[c];exact n⟩
theorem aa.sU {l:List (Option Nat)} (a:g∈s.limited l):R g∈l∧(s.aw g).limited=true:=by
 unfold aa.limited at a;rw[List.mem_filterMap] at a;obtain⟨o,b,e⟩:=a;cases o with
 |none=>cases e
 |some j=>
  dsimp only at e;split at e;·cases e;exact⟨b,by assumption⟩
  ·cases e
theorem aa.Ok.fC (h:s.Ok k) {p:Int} (h0:0<=p) (v:p<s.c.aO):cI k s (s.fC p).1∧((s.fC p).2=false->((s.fC p).1.aY p).going<(s.aY p).going):=by
 have o:=h.fB h0 v;have r:cI k s (s.fB p):=⟨o,cN.bU _ _ _⟩;have u:p<(s.fB p).c.aO:=by rw[r.du.c];exact v
 rw[aa.wI];split;·exact⟨r.trans ⟨o.begin h0 u _,cN.dJ _ _ _⟩,λe=>by cases e⟩
 ·rename_i M;split;·exact⟨r,λe=>by cases e⟩
  ·rename_i t w;have f:=aa.Ok.asks p ((s.fB p).limited ((s.fB p).cC t.g)) (s.fB p) o;rcases o.runs p with e|⟨n,Y,q,N,Z,aq,ac,G,az⟩;·exact absurd e M
   ·rw[q] at w;simp only[bZ] at w;rw[N] at w;cases w;split;·rename_i d D;rw[D] at f;have E:p<(d.c.aO:Int):=(by rw[f.1.du.c];exact u);exact⟨(r.trans f.1).trans ⟨f.1.ok.begin h0 E _,cN.dJ _ _ _⟩,λe=>by cases e⟩
    ·rename_i d g D;rw[D] at f;dsimp only at f;have E:p<(d.c.aO:Int):=(by rw[f.1.du.c];exact u);have x:cI k s (d.b7 g λl=>fT l p):=(r.trans f.1).trans ⟨f.1.ok.sT g h0 E,cN.b7 _ _ _⟩;have H:p<((d.b7 g λl=>fT l p).c.aO:Int):=(by rw[x.du.c];exact v);have O:=x.trans ⟨x.ok.stop g h0 H true,cN.stop _ _ _ _⟩;refine⟨O,λ_=>?_⟩;obtain⟨P,aB⟩:=aa.sU (f.2.2 g rfl);obtain⟨j,m,Q,a,b,c,R⟩:=o.wJ P;cases Q;have S:=aa.lL a;have T:(d.b7 g λl=>fT l p).aY p=(s.fB p).aY p:=(by have:(d.b7 g λl=>fT l p).hiers=d.hiers:=(by unfold aa.b7;split<;>rfl);unfold aa.aY;rw[this,f.2.1]);have z:(s.fB p).aY p=(s.aY p).pick:=(by have F:=(bD.1 (h.ep h0 v)).1;unfold aa.fB aa.bU;show((s.hiers.set p.toNat _).getD p.toNat _)=_;rw[dy,cV F];rfl);have U:((d.b7 g λl=>fT l p).aw g).h=m.h:=(by rw[(cN.b7 d g _).h,f.1.du.h,S]);have V:(((d.b7 g λl=>fT l p).stop g p true).aY p)=((s.aY p).pick).stop m.h.idx true:=(by have F:=(bD.1 (x.ok.ep h0 H)).1;have:((d.b7 g λl=>fT l p).stop g p true).aY p=(((d.b7 g λl=>fT l p).aY p).stop ((d.b7 g λl=>fT l p).aw g).h.idx true):=(by unfold aa.stop aa.bU;show((List.set _ p.toNat _).getD p.toNat _)=_;rw[dy,cV F];rfl);rw[this,T,z,U]);rw[V];have A:=o.aY _ _ (o.ep h0 u);rw[z] at A;obtain⟨y,B⟩:=o.dk (o.ep h0 u) a b;rw[z] at B;have W:((s.aY p).pick.linked m.h.idx).isSome=true:=(by unfold ad.linked;rw[z0 c,B];rfl);have X:(s.aY p).pick.halted m.h.idx=false:=(by rw[z] at G;refine G m.h.idx c ?_;rw[A.2];exact R);have I:=λi:Int=>(A.1.zT m.h.idx true i 0).2;have J:∀i:Int,(((s.aY p).pick.stop m.h.idx true).at i).isSome=((s.aY p).at i).isSome:=(by intro i;have q:=congrFun ((ad.vR (s.aY p).pick m.h.idx true).trans (ad.pN (s.aY p))) i;unfold ad.a1 at q;have:=congrArg Option.isSome q;simpa using this);have K:=λi:Int=>(ad.pP (s.aY p) i 0).2;unfold ad.going;refine z_ _ _ _ ?_ ?_
     ·intro i aA C;simp only[jb,sj] at C⊢;rw[J] at C;refine⟨C.1,?_⟩;have:=C.2;rw[I] at this;split at this;·cases this
      ·rw[K] at this;exact this
     ·have L:=(A.1.g.lo _ _ B);refine⟨m.h.idx.toNat,by rw[pB];omega,?_,?_⟩;·rw[Int.toNat_of_nonneg L.1];simp only[jb,sj];refine⟨?_,by rw[<-K];exact X⟩;rw[<-J];have q:=congrFun (ad.vR (s.aY p).pick m.h.idx true) m.h.idx;unfold ad.a1 at q;have:=congrArg Option.isSome q;simp only[Option.isSome_map] at this;rw[this,B];rfl
      ·rw[Int.toNat_of_nonneg L.1,I,aj ⟨rfl,W⟩];simp
theorem aa.Ok.hh (n:Nat):∀(s:aa),s.Ok k->∀{p:Int},0<=p->p<s.c.aO->cI k s (aa.hh n s p):=by
 induction n with
 |zero=>intro s b p d e;exact cI.refl b
 |succ n f=>
  intro s b p d e;unfold aa.hh;have a:=(b.fC d e).1;split;·exact a
  ·exact a.trans (f _ a.ok d (by rw[a.du.c];exact e))
theorem aa.Ok.Gx (n:Nat):∀(m:Nat) (s:aa),s.Ok k->∀{p:Int},0<=p->p<s.c.aO->(s.aY p).going<n->(s.aY p).going<m->aa.hh n s p=aa.hh m s p:=by
 induction n with
 |zero=>intro m s f p d e a b;omega
 |succ n h=>
  intro m s f p d e a b;cases m with
  |zero=>omega
  |succ m=>
   unfold aa.hh;obtain⟨g,i⟩:=f.fC d e;cases j:(s.fC p).2 with
   |true=>rfl
   |false=>simp only[jI,if_false];have:=i j;exact h m _ g.ok d (by rw[g.du.c];exact e) (by omega) (by omega)
theorem aa.Ok.Gy (h:s.Ok k) {p:Int} (h0:0<=p) (a:p<s.c.aO):aa.hh 40 s p=if(s.fC p).2 then(s.fC p).1 else aa.hh 40 (s.fC p).1 p:=by
 obtain⟨b,d⟩:=h.fC h0 a;have f:=(s.aY p).Gw;conv=>lhs;unfold aa.hh
 cases e:(s.fC p).2 with
 |true=>rfl
 |false=>simp only[jI,if_false];have:=d e;exact aa.Ok.Gx 39 40 _ b.ok h0 (by rw[b.du.c];exact a) (by omega) (by omega)
theorem aa.Ok.settle (h:s.Ok k):cI k s s.settle:=by
 unfold aa.settle;have b:cI k s ((s.places.drop 1).foldl (λr o=>match o with|none=>r|some g=>r.bO g) s):=lM _ _ s h λo _ r a=>by
  cases o with
  |none=>exact cI.refl a.ok
  |some g=>exact a.ok.bO g
 have d:=b.trans (lM (λr g=>r.share g) (((s.places.drop 1).foldl (λr o=>match o with|none=>r|some g=>r.bO g) s).limited (((s.places.drop 1).foldl (λr o=>match o with|none=>r|some g=>r.bO g) s).places.drop 1)) _ b.ok λg _ r a=>a.ok.share g);refine d.trans (lM _ _ _ d.ok ?_);intro p e r a;rw[pB] at e;exact aa.Ok.hh 40 r a.ok (by omega) (by rw[a.du.c];exact Int.ofNat_lt.2 e)
end
section
variable {k:Nat} {s:aa}
theorem aa.hi {n:Int} {G:cb} (e:s.group n=R G):0<=n∧s.groups[n.toNat]?=R G∧G.there=true:=by
 unfold aa.group at e;split at e;·cases e
 ·split at e;·cases e
  ·rename_i g a;split at e;·cases e;exact⟨by omega,a,by assumption⟩
   ·cases e
theorem aa.oE {n:Int} (e:s.task n=R t):0<=n∧s.tasks[n.toNat]?=R t∧t.dead=false:=by
 unfold aa.task at e;split at e;·cases e
 ·split at e;·cases e
  ·rename_i g a;split at e;·cases e
   ·rename_i b;cases e;exact⟨by omega,a,by simpa using b⟩
theorem q4 {n:Int}:kv n=true↔2<=n∧n<=262144:=by unfold kv;simp
theorem Ad (P:Nat->Bool) (n:Nat):jW P n<n∨jW P n=-1:=by
 rcases we P n with⟨e,_⟩|⟨p,a,e,_⟩;·exact .inr e
 ·left;omega
theorem Gz (zs:List Int) (bs:List Bool) (prev m:Int) (h:1<=zs.length):0<=(choose zs bs prev m).1∧(choose zs bs prev m).1<zs.length:=by
 unfold choose;split;·show(0:Int)<=0∧(0:Int)<_;omega
 ·rename_i c;split;·rename_i a;unfold jX at a;simp only[jb,decide_eq_true_eq] at a;have:=a.2;unfold hS at this;simp only[jb] at this;have:=(mI.1 this.1).1;show 0<=prev∧prev<_;omega
  ·split
   ·rename_i b;rcases Ad (hS zs bs m) zs.length with e|e;·exact⟨b,e⟩
    ·unfold iP at b;omega
   ·split;·rename_i a;have a:=a.1;unfold jy at a;simp only[jb,decide_eq_true_eq] at a;have:=(mI.1 a.2).1;show 0<=prev∧prev<_;omega
    ·rcases Ad (pO zs m) zs.length with e|e;·exact⟨by show 0<=least zs m;omega,e⟩
     ·unfold least at c;omega
theorem aa.wK (s:aa):s.dt.length=s.c.aO:=by unfold aa.dt;simp
theorem aa.Ok.pS (h:s.Ok k) (prev m:Int):0<=(s.free prev m).1∧(s.free prev m).1<s.c.aO:=by have:=Gz s.dt s.runs prev m (by rw[s.wK];exact h.aO.1);rw[s.wK] at this;exact this
theorem ad.Ok.GA {x:ad} (d:x.Ok) {g parent:Int} {up:aJ} (a:x.at parent=R up) (e:1<=g) (f:g<32) (b:x.at g=U) (c:up.deep≠8):x.gx g parent=0:=by unfold ad.gx;rw[a];dsimp only;rw[z0 (by omega),b,z0 (by simp),z0 c]
theorem aa.Ok.grow (h:s.Ok k) (A N:Int):(s.grow A N).1.Ok (k+1):=by
 unfold aa.grow;cases W:s.group A with
 |none=>exact h.mono (by omega)
 |some up=>
  obtain⟨aU,X,Y⟩:=aa.hi W;dsimp only;cases Z:kv N with
  |false=>simp only[if_true];exact h.mono (by omega)
  |true=>
   have aP:=q4.1 Z;rw[z0 (by simp)];by_cases m:ae.fl s.tree up.h=0
   ·rw[z0 (by simp[m])];obtain⟨aq,B,ac,aV⟩:=ae.v8 m;obtain⟨I,J,L,M⟩:=h.tree.sI m;have C:=ae.qU h.tree B m;have O:=h.tree.zA B m;generalize az:ae.create s.tree up.h=c at I J L M C O⊢;have aB:ae.Ok c.1:=az▸h.tree.create up.h;have aA:∀(p:Nat) x,s.hiers[p]?=R x->(x.link c.2.idx up.h.idx).Ok∧(x.link c.2.idx up.h.idx).a1=ae.a1 c.1:=by
     intro p x j;obtain⟨D,E⟩:=h.aY p x j;obtain⟨y,q⟩:=h.dk j X Y;have P:=ad.d_ q;rw[E,ae.d_ B] at P;have Q:y.deep=aq.2:=(by have:=Option.some.inj P;exact(Prod.mk.inj this).2.symm);have F:x.at c.2.idx=U:=by
      cases aG:x.at c.2.idx with
      |none=>rfl
      |some K=>have:=ad.d_ aG;rw[E,M] at this;cases this
     have ab:=D.GA q I J F (by rw[Q];exact ac);exact⟨D.link _ _,by rw[D.zt q ab,E,O,Q]⟩
    have aL:∀(g:Nat) G,s.groups[g]?=R G->G.there=true->G.h.idx≠c.2.idx:=(by intro g G d o e;have:=(h.there g G d o).1;rw[L _ e] at this;cases this);have v:∀g,g<s.groups.length->(s.groups++[(⟨c.2,N.toNat,0,R (aM.new s.c.aO),R [],true⟩:cb)])[g]?=s.groups[g]?:=λg d=>ja d;have H:∀g,g<s.groups.length->(s.groups++[(⟨c.2,N.toNat,0,R (aM.new s.c.aO),R [],true⟩:cb)]).getD g ik=s.aw g:=(by intro g d;unfold aa.aw;rw[dy,dy,v g d]);have S:∀p g i,(match(s.hiers.map (λx=>x.link c.2.idx up.h.idx))[p]? with|none=>false|some h=>h.has g (2*i))=s.e9 p g i:=by
     intro p g i;unfold aa.e9;rw[dD];cases j:s.hiers[p]? with
     |none=>rfl
     |some x=>exact((h.aY p x j).1.Gi _ _ g _).1
    have af:=h.eB;refine⟨h.aO,h.tick,h.iq,⟨by have:=h.eJ.1;show s.tasks.length<=_;omega,?_⟩,aB,h.pool,h.cy,by show(List.map _ _).length=_;rw[dY];exact h.hlen,h.jl,h.iR,?_,h.gP,?_,?_,?_,?_,?_,?_,?_,?_⟩;·show(s.groups++[_]).length<=_;rw[eX];have:=h.eJ.2;simp;omega
    ·show(s.places.set _ _).length=32;rw[eg];exact af
    ·intro p x j;change(s.hiers.map _)[p]?=R x at j;rw[dD] at j;obtain⟨y,q,rfl⟩:=h9.1 j;exact aA p y q
    ·obtain⟨r,T,am⟩:=h.root;refine⟨r,?_,am⟩;show(s.groups++[_])[0]?=_;rw[v 0 (bD.1 T).1];exact T
    ·intro g G d aN;change(s.groups++[_])[g]?=R G at d;rw[va] at d;split at d;·exact h.aw g G d aN
     ·rename_i ap;rw[qs] at d;split at d;·cases d;exact⟨⟨_,rfl,by unfold aM.new;simp⟩,⟨[],rfl,(λp j=>absurd j (by simp)),List.nodup_nil⟩,by show 2<=N.toNat∧N.toNat<=262144;omega⟩
      ·cases d
    ·intro g G d o;change(s.groups++[_])[g]?=R G at d;show(ae.get c.1 G.h).isSome=true∧(s.places.set _ _)[G.h.idx.toNat]?=_;rw[C];rw[va] at d;split at d;·have F:=aL g G d o;obtain⟨V,aQ⟩:=h.there g G d o;have aZ:=(ae.get_some (gK.1 V).choose_spec).1;rw[z0 (λe=>F (by rw[e])),dN (by omega)];exact⟨V,aQ⟩
     ·rename_i ap;rw[qs] at d;split at d;·cases d;rw[aj rfl,cV (by omega)];exact⟨rfl,by congr 2;omega⟩
      ·cases d
    ·intro i g j;change(s.places.set _ _)[i]?=_ at j;show∃G,(s.groups++[_])[g]?=R G∧_;by_cases e:i=c.2.idx.toNat;·subst e;rw[cV (by omega)] at j;cases j;exact⟨_,by rw[gJ zK9,lu];rfl,rfl,by show c.2.idx=_;omega⟩
     ·rw[dN (Ne.symm e)] at j;obtain⟨G,a,b,u⟩:=h.place i g j;exact⟨G,by rw[v g (bD.1 a).1];exact a,b,u⟩
    ·intro x z;change(ae.get c.1 x).isSome=true at z;show∃(g:Nat) (G:cb),(s.groups++[_])[g]?=R G∧_;rw[C] at z;split at z;·rename_i e;exact⟨s.groups.length,_,by rw[gJ zK9,lu];rfl,rfl,e.symm⟩
     ·obtain⟨g,G,a,b,u⟩:=h.get x z;exact⟨g,G,by rw[v g (bD.1 a).1];exact a,b,u⟩
    ·intro n t o;have l:=h.task n t o;refine⟨by show t.g<(s.groups++[_]).length;rw[eX];have:=l.g;omega,l.p,l.w,l.dead,λah=>?_,l.e,l.mask,λaR=>?_⟩;·show((s.groups++[_]).getD t.g ik).there=true∧_;rw[H t.g l.g];exact l.live ah
     ·refine(S _ _ _).trans ?_;show s.e9 t.p.toNat ((s.groups++[_]).getD t.g ik).h.idx t.h.idx=true;rw[H t.g l.g];exact l.on aR
    ·intro p g i aS;obtain⟨n,t,a,b,u,e,f⟩:=h.cz p g i ((S p g i).symm.trans aS);refine⟨n,t,a,b,u,e,?_⟩;show((s.groups++[_]).getD t.g ik).h.idx=g;rw[H t.g (h.task n t a).g];exact f
   ·rw[aj m];exact h.mono (by omega)
theorem ad.Ok.Ae {x:ad} (a:x.Ok) {top:Int}:∀(n:Nat) (g:Int) (G:aJ),x.at g=R G->10<=G.deep+n->G.q.es≠[]->ez x.a1 g top=true->∃j i:Int,x.has j (2*i)=true∧ez x.a1 j top=true
 |0,g,G,b,m,k,d=>by have:=(a.g.deep g G b).2;omega
 |n+1,g,G,b,m,k,d=>by
  obtain⟨e,l⟩:=List.exists_mem_of_ne_nil _ k;rcases a.cz b l with⟨i,o,f,h⟩|⟨c,ar,o,f,h,s,p,t,u,r⟩;·exact⟨g,i,by rw[ad.lK b];exact dC.2 ⟨e,l,h⟩,d⟩
  ·refine ad.Ok.Ae a n c ar f (by omega) r ?_;rw[a.mF.ow (ad.d_ f) h,p,d];simp
theorem aa.any_false {f:ex->Bool} (e:¬s.tasks.any f=true) (a:s.tasks[n]?=R t):f t=false:=by
 cases b:f t with
 |false=>rfl
 |true=>exact absurd (n_.2 ⟨t,ea a,b⟩) e
theorem aa.Ok.GB (h:s.Ok k) {A:Nat} {G:cb} (v:s.groups[A]?=R G) (w:G.there=true) (I:∀(n:Nat) (t:ex),s.tasks[n]?=R t->t.dead=false->t.g≠A) (J:ae.ie s.tree G.h=0) {x:ad} (m:s.hiers[p]?=R x):x.jh G.h.idx=0:=by
 obtain⟨K,L⟩:=h.aY p x m;obtain⟨y,q⟩:=h.dk m v w;obtain⟨ac,r,M,N⟩:=ae.sJ J;have O:G.h.idx≠0:=λe=>M ((h.tree.nB r).1 e);have z:∀c ar,x.at c=R ar->ar.up≠G.h.idx:=by
  intro c ar P e;have d:=ad.d_ P;rw[L] at d;obtain⟨Q,S,B,T⟩:=ae.ma d;have C:=(Prod.mk.inj T).1;by_cases u:c=0;·rw[aj u] at C;have:=(ae.get_some r).1;omega
  ·rw[z0 u] at C;refine N ⟨c,Q⟩ S (λj=>u (by have:=congrArg aF.idx j;exact this)) B ?_;obtain⟨az,U⟩:=gK.1 (h.tree.up _ _ B);exact ae.nA U r (by omega)
 unfold ad.jh ad.linked;rw[z0 O,q];dsimp only;rw[z0,aj]
 ·rw[pA];refine Decidable.byContradiction λV=>?_;obtain⟨e,D⟩:=List.exists_mem_of_ne_nil _ V;rcases K.cz q D with⟨i,W,E,F⟩|⟨c,ar,W,E,F,aB,l,_⟩;·have d:s.e9 p G.h.idx i=true:=(by rw[aa.qZ m,ad.lK q];exact dC.2 ⟨e,D,F⟩);obtain⟨n,t,a,b,c,aA,f⟩:=h.cz _ _ _ d;have j:=h.task n t a;have H:=j.jY b;have l:=(h.there t.g _ (h.jz a) (j.live H).1).2;have X:=(h.there A G v w).2;rw[f,X] at l;exact I n t a H (by have:=Option.some.inj (Option.some.inj l);exact this.symm)
  ·exact z c ar E l
 ·rw[n_];rintro⟨o,Y,e⟩;cases o with
  |none=>cases e
  |some ar=>simp only[decide_eq_true_eq] at e;obtain⟨i,Z,aq⟩:=u_.1 Y;refine z (i:Int) ar ?_ e;unfold ad.at;rw[z0 (by omega),dy,bZ,b5 Z,aq];rfl
theorem aa.Ok.drop (h:s.Ok k) (A:Int):(s.drop A).1.Ok (k+1):=by
 unfold aa.drop;cases P:s.group A with
 |none=>exact h.mono (by omega)
 |some G=>
  obtain⟨aQ,m,E⟩:=aa.hi P;dsimp only;split;·exact h.mono (by omega)
  ·rename_i Q;split;·exact h.mono (by omega)
   ·rename_i S;have z:ae.ie s.tree G.h=0:=(by simpa using S);have F:∀(n:Nat) (t:ex),s.tasks[n]?=R t->t.dead=false->t.g≠A.toNat:=(by intro n t o B e;have:=aa.any_false Q o;rw[B] at this;simp at this;omega);obtain⟨ah,H,T,aR⟩:=ae.sJ z;have U:G.h.idx≠0:=λe=>T ((h.tree.nB H).1 e);have aS:=(ae.get_some H).1;have V:=(bD.1 m).1;have I:=ae.sK z;have J:A.toNat≠0:=λe=>by obtain⟨r,C,_,W,_⟩:=h.root;rw[e,C] at m;cases m;exact U (by rw[W];rfl)
    have q:∀j,(s.groups.set A.toNat {G with there:=false})[j]?=if j=A.toNat then R {G with there:=false} else s.groups[j]?:=by
     intro j;by_cases e:j=A.toNat;·rw[aj e,e,cV V]
     ·rw[z0 e,dN (Ne.symm e)]
    have K:∀j,((s.groups.set A.toNat {G with there:=false}).getD j ik).h=(s.aw j).h:=by
     intro j;unfold aa.aw;rw[dy,dy,q];by_cases e:j=A.toNat;·rw[aj e,e,m];rfl
     ·rw[z0 e]
    have X:∀j,j≠A.toNat->((s.groups.set A.toNat {G with there:=false}).getD j ik)=s.aw j:=(by intro j e;unfold aa.aw;rw[dy,dy,q,z0 e]);have L:∀p g i,(match(s.hiers.map (λx=>x.unlink G.h.idx))[p]? with|none=>false|some h=>h.has g (2*i))=s.e9 p g i:=by
     intro p g i;unfold aa.e9;rw[dD];cases hp:s.hiers[p]? with
     |none=>rfl
     |some x=>exact(ad.Gj _ g _).1
    have Y:∀j c,s.groups[j]?=R c->c.there=true->c.h.idx=G.h.idx->j=A.toNat:=(by intro j c Z aq e;have M:=(h.there j c Z aq).2;have ac:=(h.there _ G m E).2;rw[e,ac] at M;exact(Option.some.inj (Option.some.inj M)).symm);have az:=h.eB;refine⟨h.aO,h.tick,h.iq,⟨by have:=h.eJ.1;show s.tasks.length<=_;omega,?_⟩,h.tree.hf G.h,h.pool,h.cy,by show(List.map _ _).length=_;rw[dY];exact h.hlen,h.jl,h.iR,?_,h.gP,?_,?_,?_,?_,?_,?_,?_,?_⟩;·show(s.groups.set _ _).length<=_;rw[eg];have:=h.eJ.2;omega
    ·show(s.places.set _ _).length=32;rw[eg];exact az
    ·intro p x hp;change(s.hiers.map _)[p]?=R x at hp;rw[dD] at hp;obtain⟨y,N,rfl⟩:=h9.1 hp;have aB:=h.GB m E F z N;obtain⟨aA,aG⟩:=h.aY p y N;exact⟨aA.unlink _,by rw[ad.FW aB,aG,h.tree.zB z]⟩
    ·obtain⟨r,C,ab⟩:=h.root;refine⟨r,?_,ab⟩;show(s.groups.set _ _)[0]?=_;rw[q,z0 (Ne.symm J)];exact C
    ·intro g c d aL;change(s.groups.set _ _)[g]?=R c at d;rw[q] at d;split at d;·cases d;have l:=h.aw _ G m J;exact⟨l.band,l.line,l.shares⟩
     ·exact h.aw g c d aL
    ·intro g c d o;change(s.groups.set _ _)[g]?=R c at d;show(ae.get (ae.hf s.tree G.h) c.h).isSome=true∧(s.places.set _ _)[c.h.idx.toNat]?=_;rw[q] at d;split at d;·cases d;cases o
     ·rename_i D;obtain⟨O,af⟩:=h.there g c d o;have am:c.h.idx≠G.h.idx:=λe=>D (Y g c d o e);have aU:=(ae.get_some (gK.1 O).choose_spec).1;rw[I,z0 am,dN (by omega)];exact⟨O,af⟩
    ·intro i g hp;change(s.places.set _ _)[i]?=_ at hp;show∃c,(s.groups.set _ _)[g]?=R c∧_;by_cases e:i=G.h.idx.toNat;·subst e;rw[mw] at hp;simp at hp
     ·rw[dN (Ne.symm e)] at hp;obtain⟨c,a,b,u⟩:=h.place i g hp;refine⟨c,?_,b,u⟩;rw[q,z0];·exact a
      ·rintro rfl;rw[m] at a;cases a;omega
    ·intro x v;change(ae.get (ae.hf s.tree G.h) x).isSome=true at v;show∃(g:Nat) (c:cb),(s.groups.set _ _)[g]?=R c∧_;rw[I] at v;split at v;·cases v
     ·rename_i D;obtain⟨g,c,a,b,u⟩:=h.get x v;refine⟨g,c,?_,b,u⟩;rw[q,z0];·exact a
      ·rintro rfl;rw[m] at a;cases a;exact D (by rw[u])
    ·intro n t o;have l:=h.task n t o;refine⟨by show t.g<(s.groups.set _ _).length;rw[eg];exact l.g,l.p,l.w,l.dead,λB=>?_,l.e,l.mask,λaN=>?_⟩;·show((s.groups.set _ _).getD t.g ik).there=true∧_;rw[X t.g (F n t o B)];exact l.live B
     ·refine(L _ _ _).trans ?_;show s.e9 t.p.toNat ((s.groups.set _ _).getD t.g ik).h.idx t.h.idx=true;rw[K t.g];exact l.on aN
    ·intro p g i ap;obtain⟨n,t,a,b,u,e,f⟩:=h.cz p g i ((L p g i).symm.trans ap);refine⟨n,t,a,b,u,e,?_⟩;show((s.groups.set _ _).getD t.g ik).h.idx=g;rw[K t.g];exact f
end
section
variable {k:Nat} {s:aa}
theorem aa.Ok.GC (h:s.Ok k) {A:Nat} {G d:cb} (Y:s.groups[A]?=R G) (Z:G.there=true) (aq:s.groups[B]?=R d) (ac:d.there=true) (az:∀(n:Nat) (t:ex),s.tasks[n]?=R t->t.on=true->ae.c1 s.tree (s.aw t.g).h G.h=false) (aB:ae.eh s.tree G.h d.h=0) {x:ad} (E:s.hiers[p]?=R x):x.eh G.h.idx d.h.idx=0∧∃y u g c,G.h.idx≠0∧x.at G.h.idx=R y∧x.at d.h.idx=R u∧ae.get s.tree G.h=R g∧ae.get s.tree d.h=R c∧y.deep=g.2∧u.deep=c.2:=by
 obtain⟨f,o⟩:=h.aY p x E;obtain⟨y,F⟩:=h.dk E Y Z;obtain⟨u,H⟩:=h.dk E aq ac;obtain⟨g,c,r,K,aA,aG,ab⟩:=ae.oy aB;have L:G.h.idx≠0:=λe=>aA ((h.tree.nB r).1 e);have S:y.deep=g.2:=by have e:=ad.d_ F;rw[o,ae.d_ r] at e;exact(Prod.mk.inj (Option.some.inj e)).2.symm
 have T:u.deep=c.2:=by have e:=ad.d_ H;rw[o,ae.d_ K] at e;exact(Prod.mk.inj (Option.some.inj e)).2.symm
 refine⟨?_,y,u,g,c,L,F,H,r,K,S,T⟩;unfold ad.eh ad.linked;rw[z0 L,F,H];dsimp only;have aL:x.c1 d.h.idx G.h.idx=false:=by rw[ad.vP,o,<-h.tree.c1 K r];exact aG
 rw[aL,z0 (by simp)];have U:∀i∈x.below G.h.idx,(∃v,x.at i=R v)∧ez x.a1 i G.h.idx=true:=λi C=>(ad.jU f.len).1 C;have M:(x.below G.h.idx).any x.busy=false:=by
  cases af:(x.below G.h.idx).any x.busy with
  |false=>rfl
  |true=>
   obtain⟨i,C,D⟩:=n_.1 af;obtain⟨⟨v,w⟩,N⟩:=U i C;unfold ad.busy at D;rw[w] at D;have am:v.q.es≠[]:=λI=>by dsimp only at D;rw[I] at D;simp at D
   have a6:=(f.g.deep _ _ w).1;obtain⟨j,m,O,aN⟩:=f.Ae 10 i v w (by omega) am N;have aj:s.e9 p j m=true:=(by rw[aa.qZ E];exact O);obtain⟨n,t,P,W,ak,a7,ap⟩:=h.cz _ _ _ aj;have I:=h.task n t P;have J:=I.jY W;obtain⟨a8,aQ⟩:=gK.1 (h.there t.g _ (h.jz P) (I.live J).1).1;have:=az n t P W;rw[h.tree.c1 aQ r,ap,<-o,aN] at this;cases this
 rw[M,z0 (by simp),z0];have ah:∀i∈x.below G.h.idx,x.fA i+(c.2+1-g.2)<=8:=by
  intro i C;obtain⟨⟨v,w⟩,N⟩:=U i C;have e:=ad.d_ w;rw[o] at e;obtain⟨aR,au,Q,aS⟩:=ae.ma e;have aU:(⟨i,aR⟩:aF)∈ae.below s.tree G.h:=by rw[ae.jU];refine⟨by rw[Q];rfl,?_⟩;rw[h.tree.c1 Q r,<-o];exact N
  have:=ab _ aU;unfold ae.fA at this;rw[Q] at this;dsimp only at this;have M:=(Prod.mk.inj aS).2;rw[show x.fA i=v.deep by unfold ad.fA;rw[w],M];exact this
 have ba:c.2+1-g.2<=8:=by have a:=(f.g.deep _ _ H).2;obtain⟨V,aP,av⟩:=f.g.up _ _ F L;have b:=(f.g.deep _ _ aP).1;omega
 rw[S,T];have aV:∀(l:List Int) (z:Int),z+(c.2+1-g.2)<=8->(∀i∈l,x.fA i+(c.2+1-g.2)<=8)->l.foldl (λz i=>max z (x.fA i)) z+(c.2+1-g.2)<=8:=by
  intro l;induction l with
  |nil=>intro z X _;exact X
  |cons i l aZ=>intro z X J;rw[nk];refine aZ _ ?_ λj O=>J j (hK _ O);have:=J i e5;omega
 have:=aV (x.below G.h.idx) 0 (by omega) ah;unfold ad.kV;omega
theorem aa.Ok.move (h:s.Ok k) (A B:Int):(s.move A B).1.Ok (k+1):=by
 unfold aa.move;cases C:s.group A with
 |none=>exact h.mono (by omega)
 |some G=>
  cases D:s.group B with
  |none=>exact h.mono (by omega)
  |some b8=>
   obtain⟨ac,E,F⟩:=aa.hi C;obtain⟨az,H,I⟩:=aa.hi D;dsimp only;split;·exact h.mono (by omega)
   ·rename_i J;split;·exact h.mono (by omega)
    ·rename_i K;have c:ae.eh s.tree G.h b8.h=0:=(by simpa using K);have L:∀(n:Nat) (t:ex),s.tasks[n]?=R t->t.on=true->ae.c1 s.tree (s.aw t.g).h G.h=false:=(by intro n t b d;have:=aa.any_false J b;rw[d] at this;simpa using this);obtain⟨g,ad,f,j,aB,_⟩:=ae.oy c;have M:=ae.sL f j c;have l:∀x,(ae.get (ae.move s.tree G.h b8.h) x).isSome=(ae.get s.tree x).isSome:=(by intro x;rw[M];split<;>simp);have m:∀p g i,(match(s.hiers.map (λx=>x.move G.h.idx b8.h.idx))[p]? with|none=>false|some h=>h.has g (2*i))=s.e9 p g i:=by
      intro p g i;unfold aa.e9;rw[dD];cases hp:s.hiers[p]? with
      |none=>rfl
      |some x=>exact((h.aY p x hp).1.Gk _ _ g _).1
     refine⟨h.aO,h.tick,h.iq,⟨by have:=h.eJ.1;show s.tasks.length<=_;omega,by have:=h.eJ.2;show s.groups.length<=_;omega⟩,h.tree.move _ _,h.pool,h.cy,by show(List.map _ _).length=_;rw[dY];exact h.hlen,h.jl,h.iR,h.eB,h.gP,?_,h.root,h.aw,?_,h.place,?_,?_,?_⟩;·intro p x hp;change(s.hiers.map _)[p]?=R x at hp;rw[dD] at hp;obtain⟨y,o,rfl⟩:=h9.1 hp;obtain⟨N,aA,u,q,aG,O,P,Q,r,v,S,T⟩:=h.GC E F H I L c o;obtain⟨z,U⟩:=h.aY p y o;rw[f] at r;rw[j] at v;cases r;cases v;refine⟨z.move _ _,?_⟩;rw[z.qQ N P O Q,U];show kW (ae.a1 s.tree) G.h.idx b8.h.idx _=ae.a1 (ae.move s.tree G.h b8.h);rw[h.tree.qQ f j c,S,T]
     ·intro q V W b;obtain⟨X,Y⟩:=h.there q V W b;exact⟨(l _).trans X,Y⟩
     ·intro x Z;exact h.get x ((l x).symm.trans Z)
     ·intro n t b;have a:=h.task n t b;exact⟨a.g,a.p,a.w,a.dead,a.live,a.e,a.mask,λd=>(m _ _ _).trans (a.on d)⟩
     ·intro p g i aq;exact h.cz p g i ((m p g i).symm.trans aq)
theorem aa.Ok.shares (h:s.Ok k) (A N:Int):(s.shares A N).1.Ok k:=by
 unfold aa.shares;cases c:s.group A with
 |none=>exact h
 |some G=>
  obtain⟨f,a,g⟩:=aa.hi c;dsimp only;split;·exact h
  ·rename_i i;split;·exact h
   ·rename_i d;have j:=q4.1 (by simpa using d);have b:=λe=>h.aw _ G a e;exact h.b0 a rfl rfl (λe=>⟨(b e).band,(b e).line,by show 2<=N.toNat∧N.toNat<=262144;omega⟩) (λe=>absurd e (by omega))
theorem aa.Ok.eQ (g:Nat):∀(l:List Int) (s:aa),s.Ok k->(∀p∈l,0<=p∧p<(s.c.aO:Int))->cI k s (aa.eQ g l s)
 |[],s,h,_=>cI.refl h
 |p::l,s,h,aP=>by have b:=aP p e5;have a:cI k s (s.stop g p false):=⟨h.stop g b.1 b.2 false,cN.stop _ _ _ _⟩;exact a.trans (aa.Ok.eQ g l _ a.ok λd e=>by rw[a.du.c];exact aP d (hK _ e))
def aa.oF (s:aa) (A:Nat) (N M:Int):aa:=(((s.bP A λb=>b.set N M)).b0 A {(s.bP A λb=>b.set N M).aw A with quota:=N}).b7 A λ_=>[]
theorem aa.Ok.oF (h:s.Ok k) {A:Nat} (l:A<s.groups.length) (h0:A≠0) (N d:Int):cI k s (s.oF A N d):=by unfold aa.oF;have a:cI k s (s.bP A λb=>b.set N d):=⟨h.bP A _ (λb=>b.md N d),cN.bP _ _ _⟩;obtain⟨c,m⟩:∃c,s.bP A (λb=>b.set N d)=c:=⟨_,rfl⟩;rw[m] at a⊢;have i:=a.ok.oD (g:=A) (by rw[a.du.len];exact l);have f:=a.ok.aw A _ i h0;have n:cI k c (c.b0 A {c.aw A with quota:=N}):=⟨a.ok.b0 i rfl rfl (λ_=>⟨f.band,f.line,f.shares⟩) (λe=>absurd e h0),cN.b0 c A rfl rfl rfl⟩;have j:=a.trans n;exact j.trans ⟨j.ok.b7 A _ λ_ _ _ _=>⟨(λp o=>absurd o (by simp)),List.nodup_nil⟩,cN.b7 _ _ _⟩
theorem aa.Af (s:aa) (A N M:Int):s.lJ A N M=match s.group A with
 |none=>(s,0,2)
 |some g=>if A=0 then(s,0,1) else if aM.hR N M≠0 then(s,0,aM.hR N M) else(aa.eQ A.toNat (s.il A.toNat) (s.oF A.toNat N M),0,0):=rfl
theorem aa.Ok.GD (h:s.Ok k) (g:Nat):∀p∈s.il g,0<=p∧p<(s.c.aO:Int):=by
 intro p a;unfold aa.il at a;cases aP:(s.aw g).line with
 |none=>rw[aP] at a;cases a
 |some l=>rw[aP] at a;exact(h.q2 aP).2.2.2.1 p a
theorem aa.Ok.lJ (h:s.Ok k) (A N a:Int):(s.lJ A N a).1.Ok k:=by
 rw[aa.Af];cases d:s.group A with
 |none=>exact h
 |some G=>
  obtain⟨i,e,j⟩:=aa.hi d;dsimp only;split;·exact h
  ·split;·exact h
   ·have f:=(bD.1 e).1;have b:=h.oF f (by omega) N a;exact(aa.Ok.eQ A.toNat _ _ b.ok λp g=>by rw[b.du.c];exact h.GD _ p g).ok
theorem aa.Ok.gy (h:s.Ok k) (A:Int):(s.gy A).1.Ok k:=by
 unfold aa.gy;cases a:s.group A with
 |none=>exact h
 |some G=>
  dsimp only;split;·exact h
  ·exact h.bP _ _ (λb=>b.Gv)
theorem aa.Ok.k0 (h:s.Ok k) (A:Int):(s.k0 A).1.Ok k:=by
 unfold aa.k0;cases a:s.task A with
 |none=>exact h
 |some t=>
  obtain⟨e,b,c⟩:=aa.oE a;dsimp only;split;·exact h
  ·rename_i d;have:=h.pS t.p t.mask;exact h.put b (by simpa using d) c this.1 this.2 true
theorem aa.Ok.nice (h:s.Ok k) (A N:Int):(s.nice A N).1.Ok k:=by
 unfold aa.nice;cases f:s.task A with
 |none=>exact h
 |some t=>
  obtain⟨o,c,q⟩:=aa.oE f;have a:=h.task _ t c;dsimp only;split;·exact h
  ·split;·exact h
   ·rename_i l;have b:=wB N (by simpa using l);split;·rename_i r;have d:=a.ep h;have m:=h.aY _ _ d;have n:=h.bU a.p.1 d (m.1.nice (s.aw t.g).h.idx t.h.idx (ei N)) (ad.FR _ _ _ _) (λj i=>(ad.Ge _ _ _ _ j _).1);exact n.cE (t:=t) (t':={t with nice:=N,w:=ei N}) c rfl rfl rfl rfl rfl b a.e a.mask
    ·refine h.cE (t':={t with e:=wC t.e (ei N),nice:=N,w:=ei N}) c rfl rfl rfl rfl rfl b ⟨a.e.1,b.1,b.2,?_⟩ a.mask;show t.e.rem*ei N/t.e.wt<ei N;have:=a.e.2.1;rw[Nat.div_lt_iff_lt_mul (by omega),Nat.mul_comm (ei N)];exact Nat.mul_lt_mul_of_pos_right a.e.2.2.2 (by omega)
theorem aa.oG (a:s.tasks[n]?=R t):(s.leave n).tasks[n]?=R {t with mn:=s.least t t.p,e:=(s.aY t.p).ed (s.aw t.g).h.idx t.h.idx,on:=false}:=by rw[aa.q0 a];show(s.tasks.set n _)[n]?=_;rw[cV (bD.1 a).1]
theorem aa.q5 (a:s.tasks[n]?=R t):(s.leave n).c=s.c:=by rw[aa.q0 a];rfl
theorem aa.Ok.fv (h:s.Ok k) (a:s.tasks[n]?=R t) (b:t.on=true) {p:Int} (h0:0<=p) (e:p<s.c.aO) (d:Bool):((s.leave n).put n p d).Ok k:=(h.leave a b).put (aa.oG a) rfl ((h.task n t a).jY b) h0 (by rw[aa.q5 a];exact e) d
theorem aa.Ok.mask (h:s.Ok k) (A m:Int) (i:0<=m∧m<18446744073709551616):(s.mask A m).1.Ok k:=by
 unfold aa.mask;cases j:s.task A with
 |none=>exact h
 |some t=>
  obtain⟨n,a,o⟩:=aa.oE j;have f:=h.task _ t a;dsimp only;split;·exact h
  ·have b:(s.cE A.toNat {t with mask:=m}).Ok k:=h.cE (t':={t with mask:=m}) a rfl rfl rfl rfl rfl f.w f.e i;have c:(s.cE A.toNat {t with mask:=m}).tasks[A.toNat]?=R {t with mask:=m}:=(by show(s.tasks.set _ _)[_]?=_;rw[cV (bD.1 a).1]);split;·rename_i d;simp only[jb] at d;have l:=b.leave c d.1;have g:=l.pS (-1) m;exact b.fv c d.1 g.1 (by have:=g.2;rw[aa.q5 c] at this;exact this) false
   ·exact b
theorem aa.Ok.block (h:s.Ok k) (A:Int):(s.block A).1.Ok k:=by
 unfold aa.block;split;·exact h
 ·split;·exact h
  ·rename_i a;rcases h.runs A with e|⟨n,t,b,c,d,_⟩;·exact absurd e a
   ·rw[b,bZ];exact h.leave c d
theorem aa.Ok.die {r:aa} (d:r.Ok k) {u:ex} (l:r.tasks[n]?=R u) (q:u.on=false) (s:u.dead=false):({r.cE n {u with dead:=true} with pool:=an.free 0 r.pool u.h}:aa).Ok k:=by
 have f:=d.task n u l;have y:=(bD.1 l).1;obtain⟨I,⟨t,z⟩,J,K⟩:=f.live s;refine⟨d.aO,d.tick,d.iq,⟨by show(r.tasks.set _ _).length<=k;rw[eg];exact d.eJ.1,d.eJ.2⟩,d.tree,d.pool.free _ _,?_,d.hlen,d.jl,d.iR,d.eB,d.gP,d.aY,d.root,d.aw,d.there,d.place,d.get,?_,?_⟩;·show(an.free 0 r.pool _).pl.length<=64;rw[an.zy];exact d.cy
 ·intro m v j;change(r.tasks.set n _)[m]?=R v at j;by_cases e:m=n;·subst e;rw[cV y] at j;cases j;exact⟨f.g,f.p,f.w,λ_=>q,(λo=>absurd o (by simp)),f.e,f.mask,f.on⟩
  ·rw[dN (Ne.symm e)] at j;have w:=d.task m v j;refine⟨w.g,w.p,w.w,w.dead,λx=>?_,w.e,w.mask,w.on⟩;obtain⟨A,⟨B,C⟩,D,E⟩:=w.live x;refine⟨A,?_,D,E⟩;show∃t,an.at (an.free 0 r.pool u.h) v.h=R t;rw[an.zx 0 z,z0];·exact⟨B,C⟩
   ·intro F;exact e (d.one j l x s F)
 ·intro p g i G;obtain⟨m,v,a,b,c,o,e⟩:=d.cz p g i G;have H:m≠n:=by rintro rfl;rw[l] at a;cases a;rw[q] at b;cases b
  exact⟨m,v,by show(r.tasks.set n _)[m]?=_;rw[dN (Ne.symm H)];exact a,b,c,o,e⟩
theorem aa.Ok.exit (h:s.Ok k) (A:Int):(s.exit A).1.Ok k:=by
 unfold aa.exit;split;·exact h
 ·split;·exact h
  ·rename_i c;rcases h.runs A with e|⟨n,t,d,a,b,_⟩;·exact absurd e c
   ·rw[d,bZ,aa.oG a];exact(h.leave a b).die (aa.oG a) rfl ((h.task n t a).jY b)
theorem aa.Ok.Ag (h:s.Ok k) {A:Int} (h0:0<=A) (b:A<s.c.aO):(s.bU A (s.aY A).yield).Ok k:=by have a:=h.ep h0 b;have d:=h.aY _ _ a;exact h.bU h0 a d.1.yield (ad.FU _) (λj i=>(ad.Gg _ j _).1)
theorem aa.Ok.yield (h:s.Ok k) (A:Int):(s.yield A).1.Ok k:=by
 unfold aa.yield;split;·exact h
 ·rename_i a;obtain⟨b,c⟩:=aa.mi.1 (by simpa using a);split;·exact h
  ·exact h.Ag b c
theorem aa.Ok.ee (p ns:Int):∀(l:List Nat) (s:aa),s.Ok k->cI k s (aa.ee p ns l s)
 |[],s,h=>cI.refl h
 |g::l,s,h=>by have a:cI k s (s.bP g λb=>b.b4 p ns):=⟨h.bP g _ (λb=>b.z7 p ns),cN.bP _ _ _⟩;exact a.trans (aa.Ok.ee p ns l _ a.ok)
theorem aa.Ok.Ah (h:s.Ok k) {A:Int} (h0:0<=A) (a:A<s.c.aO) (n:Nat):(s.dJ A ((s.clock A).tick n)).Ok k:=h.dJ A ((cD.Gu _ _).trans (h.iR _ _ (h.pR h0 a)))
theorem aa.Ok.GF (h:s.Ok k) (A N:Int):(s.tick A N).1.Ok k:=by
 unfold aa.tick;split;·exact h
 ·rename_i w;obtain⟨b,d⟩:=aa.mi.1 (by simpa using w);split;·exact h
  ·split;·exact h.Ah b d _
   ·split;·exact h
    ·rename_i t y;split;·exact h
     ·have e:({s with book:=s.book.ch (s.numbers t.g) (s.running A) N}:aa).Ok k:=h.zY _;obtain⟨a,m⟩:=aW ({s with book:=s.book.ch (s.numbers t.g) (s.running A) N}:aa);have n:a.c=s.c:=(by rw[<-m]);rw[m] at e⊢;dsimp only;have o:=e.ep (p:=A) b (by rw[n];exact d);have q:=e.aY _ _ o;have r:(a.bU A ((a.aY A).b4 N.toNat)).Ok k:=e.bU b o (q.1.b4 _) (ad.zr _ _) (λj i=>(q.1.zU _ j _).1);have u:(a.bU A ((a.aY A).b4 N.toNat)).c=s.c:=n;generalize z:a.bU A ((a.aY A).b4 N.toNat)=s2 at r u⊢;have f:=aa.Ok.ee A N (s2.limited (s2.cC t.g)) s2 r;generalize B:aa.ee A N (s2.limited (s2.cC t.g)) s2=iQ at f⊢;have l:iQ.c=s.c:=f.du.c.trans u;have v:=f.ok.Ah (A:=A) b (by rw[l];exact d) N.toNat;split;·have x:=v.Ag (A:=A) b (by show A<(iQ.c.aO:Int);rw[l];exact d);exact x.begin b (by show A<(iQ.c.aO:Int);rw[l];exact d) _
      ·exact v
theorem GG {α:Type} {l:List α} {x:α×Nat} (h:x∈l.zipIdx):l[x.2]?=R x.1:=by
 obtain⟨i,b⟩:=lp.1 h;rw[n5] at b;cases aP:l[i]? with
 |none=>rw[aP] at b;cases b
 |some a=>rw[aP] at b;simp at b;rw[<-b];exact aP
theorem aa.sV {f:Int} (e:i<(s.hU f).length):∃(n:Nat) (t:ex),cat (s.hU f) i=⟨n,t.w,t.mask,decide ((n:Int)=s.running f)⟩∧s.tasks[n]?=R t∧t.on=true∧t.p=f:=by unfold cat;obtain⟨c,b⟩:∃c,(s.hU f)[i]?=R c:=⟨_,b5 e⟩;rw[b];have d:=ea b;unfold aa.hU at d;obtain⟨x,a,rfl⟩:=eY.1 d;rw[List.mem_filter] at a;simp only[jb,decide_eq_true_eq] at a;exact⟨x.2,x.1,rfl,GG a.1,a.2.1,a.2.2⟩
theorem aa.Ok.pull (h:s.Ok k) (A:Int):(s.pull A).1.Ok k:=by
 unfold aa.pull;split;·exact h
 ·rename_i a;obtain⟨b,c⟩:=aa.mi.1 (by simpa using a);dsimp only;split;·exact h
  ·split;·exact h
   ·rename_i l;rcases F4 (s.hU (lG s.dt A 18446744073709551615)) (gB (a_ s.dt (lG s.dt A 18446744073709551615).toNat) (a_ s.dt A.toNat)) A with e|⟨i,e,d⟩;·omega
    ·rw[e,bZ];obtain⟨n,t,f,g,j,m⟩:=aa.sV d;rw[f];dsimp only;rw[bZ];exact h.fv g j b c false
end
section
variable {k:Nat} {s:aa}
def aa.born (s:aa) (g:Nat) (N mask p:Int):aa:={s with pool:=(an.put s.pool (s.tasks.length:Int)).1,tasks:=s.tasks++[⟨(an.put s.pool (s.tasks.length:Int)).2,false,false,p,g,N,ei N,mask,⟨(an.put s.pool (s.tasks.length:Int)).2.idx,ei N,(s.aY p).minOf (s.aw g).h.idx,0⟩,0⟩],at_:=s.at_.set (an.put s.pool (s.tasks.length:Int)).2.idx.toNat (s.tasks.length:Int)}
theorem aa.Ok.born (h:s.Ok k) {g:Nat} {G:cb} (y:s.groups[g]?=R G) (F:G.there=true) {N mask p:Int} (H:e8 N=0) (q:0<=mask∧mask<18446744073709551616) (h0:0<=p) (I:p<s.c.aO) (J:an.many s.pool≠64):(s.born g N mask p).Ok (k+1):=by
 obtain⟨K,z,L,M,O,P⟩:=h.pool.qT (s.tasks.length:Int);have A:=h.pool.put (s.tasks.length:Int);have r:=h.pool.zw (s.tasks.length:Int);have v:=wB N H;have ad:=h.cy;have aB:=h.pool.cy;have B:(an.put s.pool (s.tasks.length:Int)).1.pl.length<=64:=by
  have:an.many s.pool+1<=64:=by unfold an.many at J⊢;omega
  omega
 unfold aa.born;generalize aA:an.put s.pool (s.tasks.length:Int)=c at K z L M O P A r B⊢;have Q:=h.gP;have S:=(bD.1 y).1;have T:=aa.lL y;have C:∀(m:Nat) (u:ex),s.tasks[m]?=R u->u.dead=false->u.h.idx≠c.2.idx:=by intro m u d l e;obtain⟨x,D⟩:=((h.task m u d).live l).2.1;rw[z _ e] at D;cases D
 have U:∀m,m<s.tasks.length->∀t:ex,(s.tasks++[t])[m]?=s.tasks[m]?:=λm q t=>ja q;refine⟨h.aO,h.tick,h.iq,⟨?_,by have:=h.eJ.2;show s.groups.length<=_;omega⟩,h.tree,A,B,h.hlen,h.jl,h.iR,h.eB,by show(List.set _ _ _).length=64;rw[eg];exact Q,h.aY,h.root,h.aw,h.there,h.place,h.get,?_,?_⟩;·show(s.tasks++[_]).length<=_;rw[eX];have:=h.eJ.1;simp;omega
 ·intro m u d;change(s.tasks++[_])[m]?=R u at d;rw[va] at d;split at d
  ·rename_i V;have j:=h.task m u d;refine⟨j.g,j.p,j.w,j.dead,λl=>?_,j.e,j.mask,j.on⟩;obtain⟨W,⟨x,E⟩,X,Y⟩:=j.live l;refine⟨W,⟨x,?_⟩,X,?_⟩;·show an.at c.1 u.h=R x;rw[r,z0 (λe=>C m u d l (by rw[e]))];exact E
   ·show(List.set _ _ _)[_]?=_;have:=C m u d l;have:=(an.qS.1 E).1;rw[dN (by omega)];exact Y
  ·rename_i V;rw[qs] at d;split at d
   ·cases d;have Z:m=s.tasks.length:=(by omega);refine⟨S,⟨h0,I⟩,v,λ_=>rfl,λ_=>⟨?_,⟨⟨(s.tasks.length:Int),c.2.gen,true⟩,?_⟩,?_,?_⟩,⟨rfl,v.1,v.2,?_⟩,q,λo=>by cases o⟩;·show(s.aw g).there=true;rw[T];exact F
    ·show an.at c.1 c.2=_;rw[r,aj rfl]
    ·show c.2.idx<64;omega
    ·show(List.set _ c.2.idx.toNat _)[c.2.idx.toNat]?=_;rw[cV (by omega),Z]
    ·show(0:Nat)<ei N;omega
   ·cases d
 ·intro j aq i ac;obtain⟨n,t,a,b,az,e,f⟩:=h.cz j aq i ac;exact⟨n,t,by show(s.tasks++[_])[n]?=_;rw[U n (bD.1 a).1];exact a,b,az,e,f⟩
theorem aa.Ai (s:aa) (g:Nat) (N mask p:Int):(s.born g N mask p).tasks[s.tasks.length]?=R ⟨(an.put s.pool (s.tasks.length:Int)).2,false,false,p,g,N,ei N,mask,⟨(an.put s.pool (s.tasks.length:Int)).2.idx,ei N,(s.aY p).minOf (s.aw g).h.idx,0⟩,0⟩:=by show(s.tasks++[_])[s.tasks.length]?=_;rw[gJ zK9,lu];rfl
theorem aa.Aj (s:aa) (A N mask:Int):s.spawn A N mask=match s.group A with
 |none=>(s,0,2)
 |some g=>if kx N=false then(s,0,1) else if e8 N≠0 then(s,0,e8 N) else if(s.free (-1) mask).2≠0 then(s,0,9) else if an.many s.pool=64 then(s,0,3) else((s.born A.toNat N mask (s.free (-1) mask).1).put s.tasks.length (s.free (-1) mask).1 false,s.tasks.length,0):=by
 unfold aa.spawn
 cases a:s.group A with
 |none=>rfl
 |some G=>obtain⟨c,b,d⟩:=aa.hi a;have:=aa.lL b;unfold aa.born;dsimp only;rw[this]
theorem aa.Ok.spawn (h:s.Ok k) (A N mask:Int) (b:0<=mask∧mask<18446744073709551616):(s.spawn A N mask).1.Ok (k+1):=by
 rw[aa.Aj];cases c:s.group A with
 |none=>exact h.mono (by omega)
 |some G=>
  obtain⟨j,d,e⟩:=aa.hi c;dsimp only;split;·exact h.mono (by omega)
  ·split;·exact h.mono (by omega)
   ·rename_i f;split;·exact h.mono (by omega)
    ·split;·exact h.mono (by omega)
     ·rename_i g;have a:=h.pS (-1) mask;have i:=h.born d e (N:=N) (by simpa using f) b a.1 a.2 g;exact i.put (s.Ai _ _ _ _) rfl rfl a.1 a.2 false
theorem aa.Ok.event (h:s.Ok k) (e:gm) (g:0<=e.mask∧e.mask<18446744073709551616):(s.event e).1.Ok (k+1):=by
 have d:∀{r:aa},r.Ok k->r.Ok (k+1):=λf=>f.mono (by omega);have c:∀{p:Prop} [Decidable p] {a b:dO},a.1.Ok (k+1)->b.1.Ok (k+1)->(if p then a else b).1.Ok (k+1):=by
  intro p _ a b i j;by_cases f:p;·rw[aj f];exact i
  ·rw[z0 f];exact j
 unfold aa.event;exact c (h.grow _ _) (c (h.drop _) (c (h.move _ _) (c (d (h.shares _ _)) (c (d (h.lJ _ _ _)) (c (h.spawn _ _ _ g) (c (d (h.k0 _)) (c (d (h.block _)) (c (d (h.yield _)) (c (d (h.exit _)) (c (d (h.GF _ _)) (c (d (h.gy _)) (c (d (h.pull _)) (c (d (h.nice _ _)) (c (d (h.mask _ _ g)) (d h)))))))))))))))
theorem aa.Ok.dP (h:s.Ok k) (e:gm) (a:0<=e.mask∧e.mask<18446744073709551616):(s.dP e).1.Ok (k+1):=by
 unfold aa.dP;split;·exact h.mono (by omega)
 ·exact(h.event e a).settle.ok
end
theorem q6 {α:Type} (n p:Nat) (x y:α) (e:(gY n x)[p]?=R y):y=x:=by
 rw[yw] at e;split at e;·exact(Option.some.inj e).symm
 ·cases e
theorem aa.qR {c:hT} (s:1<=c.aO∧c.aO<=64) (u:1<=c.tick∧c.tick<=1000000000) (v:c.hC<=1000000000):(aa.new c).Ok 0:=by
 have w:∀p g i,(aa.new c).e9 p g i=false:=by
  intro p g i;unfold aa.e9 aa.new;dsimp only;have y:∀j,(h0 c.ch c.bG).has j (2*i)=false:=by
   intro j;cases k:(h0 c.ch c.bG).at j with
   |none=>exact ad.sP k
   |some x=>
    rw[ad.lK k];obtain⟨a,b,h⟩:=ad.dk k;unfold h0 at h;dsimp only at h;cases d:j.toNat with
    |zero=>rw[d] at h;simp at h;rw[<-h];rfl
    |succ m=>rw[d,nh] at h;have:=q6 _ _ _ _ h;cases this
  cases hp:(gY c.aO (h0 c.ch c.bG))[p]? with
  |none=>rfl
  |some z=>rw[q6 _ _ _ _ hp];exact y g
 refine⟨s,u,v,⟨by simp[aa.new],by simp[aa.new]⟩,zD,an.qR,by simp[aa.new,an.new],by simp[aa.new],by simp[aa.new],?_,by simp[aa.new],by simp[aa.new],?_,⟨ik,rfl,rfl,rfl,rfl,rfl⟩,?_,?_,?_,?_,?_,?_⟩;·intro p h A;have:=q6 _ _ _ _ A;rw[this];rfl
 ·intro p x k;have:=q6 _ _ _ _ k;rw[this];refine⟨FX _ _,?_⟩;funext j;show((h0 c.ch c.bG).at j).map lD=ae.a1 lE j;unfold ad.at ae.a1 h0 lE;dsimp only;by_cases o:j<0;·rw[aj o,aj o];rfl
  ·rw[z0 o,z0 o];cases d:j.toNat with
   |zero=>have:j=0:=(by omega);subst this;rfl
   |succ m=>rw[dy,nh,nh,List.getElem?_nil,yw];split<;>rfl
 ·intro g G d h0;have l:=(bD.1 d).1;simp[aa.new] at l;omega
 ·intro g G d q;have l:=(bD.1 d).1;simp[aa.new] at l;subst l;cases d;exact⟨rfl,rfl⟩
 ·intro i g hp;cases i with
  |zero=>have:g=0:=(by have:=Option.some.inj (Option.some.inj hp);exact this.symm);subst this;exact⟨ik,rfl,rfl,rfl⟩
  |succ i=>change(gY 31 U)[i]?=_ at hp;have:=q6 _ _ _ _ hp;cases this
 ·intro x k;obtain⟨g,d⟩:=gK.1 k;obtain⟨a,p,b,h,e,f⟩:=ae.get_some d;have l:=(bD.1 b).1;change x.idx.toNat<1 at l;have B:x.idx=0:=by omega
  have:x=bM:=ae.nA d zD.oz B;exact⟨0,ik,rfl,rfl,this.symm⟩
 ·intro n t q;simp[aa.new] at q
 ·intro p g i r;rw[w] at r;cases r
structure Same (s r:aa):Prop where
 len:r.tasks.length=s.tasks.length
 q7:r.groups.length=s.groups.length
 dead:∀(n:Nat) t,s.tasks[n]?=R t->t.dead=true->∃t',r.tasks[n]?=R t'∧t'.dead=true
 book:r.book=s.book
section
variable {k:Nat} {s r:aa}
theorem aa.GH (s:aa) (A N mask:Int):(s.spawn A N mask).1.groups=s.groups∧(s.spawn A N mask).1.book=s.book∧(((s.spawn A N mask).2.2≠0∧(s.spawn A N mask).1=s)∨((s.spawn A N mask).2.2=0∧(s.spawn A N mask).2.1=s.tasks.length∧(s.spawn A N mask).1.tasks.length=s.tasks.length+1∧∀(n:Nat) t,s.tasks[n]?=R t->(s.spawn A N mask).1.tasks[n]?=R t)):=by
 have a:∀e:Int,e≠0->((s,0,e):dO).1.groups=s.groups∧((s,0,e):dO).1.book=s.book∧((((s,0,e):dO).2.2≠0∧((s,0,e):dO).1=s)∨(((s,0,e):dO).2.2=0∧((s,0,e):dO).2.1=s.tasks.length∧((s,0,e):dO).1.tasks.length=s.tasks.length+1∧∀(n:Nat) t,s.tasks[n]?=R t->((s,0,e):dO).1.tasks[n]?=R t)):=λe c=>⟨rfl,rfl,.inl ⟨c,rfl⟩⟩;unfold aa.spawn;split;·exact a 2 (by decide)
 ·split;·exact a 1 (by decide)
  ·split;·rename_i c;exact a _ c
   ·split;·exact a 9 (by decide)
    ·split;·exact a 3 (by decide)
     ·dsimp only;have f:∀(r:aa) (n:Nat) (p:Int) (b:Bool),(r.put n p b).groups=r.groups∧(r.put n p b).book=r.book∧(r.put n p b).tasks.length=r.tasks.length∧∀m,m≠n->(r.put n p b).tasks[m]?=r.tasks[m]?:=by
       intro r n p b;unfold aa.put;split;·exact⟨rfl,rfl,rfl,λ_ _=>rfl⟩
       ·exact⟨rfl,rfl,by unfold aa.bU aa.cE;simp,λm g=>by unfold aa.bU aa.cE;dsimp only;rw[dN (Ne.symm g)]⟩
      obtain⟨i,j,k,l⟩:=f {s with pool:=(an.put s.pool (s.tasks.length:Int)).1,tasks:=s.tasks++[⟨(an.put s.pool (s.tasks.length:Int)).2,false,false,(s.free (-1) mask).1,A.toNat,N,ei N,mask,⟨(an.put s.pool (s.tasks.length:Int)).2.idx,ei N,(s.aY (s.free (-1) mask).1).minOf (by assumption:cb).h.idx,0⟩,0⟩],at_:=s.at_.set (an.put s.pool (s.tasks.length:Int)).2.idx.toNat (s.tasks.length:Int)} s.tasks.length (s.free (-1) mask).1 false;refine⟨i,j,.inr ⟨rfl,rfl,k.trans (by simp),λn t d=>?_⟩⟩;have o:=(bD.1 d).1;rw[l n (by omega)];show(s.tasks++[_])[n]?=_;rw[ja o];exact d
end
section
variable {k:Nat} {s r:aa}
theorem aa.GI {e:gm} (h:(s.dP e).2.2≠0):(s.dP e).1=s:=by
 unfold aa.dP at h⊢;by_cases q:(s.event e).2.2≠0;·rw[aj q]
 ·rw[z0 q] at h;exact absurd rfl h
theorem aa.Ak {e:gm} (h:(s.dP e).2.2=0):(s.event e).2.2=0∧s.dP e=((s.event e).1.settle,(s.event e).2.1,0):=by
 unfold aa.dP at h⊢;by_cases q:(s.event e).2.2≠0;·rw[aj q] at h;exact absurd h q
 ·rw[z0 q];exact⟨Decidable.byContradiction q,rfl⟩
structure OE (s:aa) (e:gm) (d:dO):Prop where
 fresh:d.2.2=0->e.kind=6->d.2.1=s.tasks.length∧d.1.tasks.length=s.tasks.length+1
 stay:¬(d.2.2=0∧e.kind=6)->d.1.tasks.length=s.tasks.length
 more:d.2.2=0->e.kind=1->d.2.1=s.groups.length∧d.1.groups.length=s.groups.length+1
 OF:¬(d.2.2=0∧e.kind=1)->d.1.groups.length=s.groups.length
 dead:∀(n:Nat) t,s.tasks[n]?=R t->t.dead=true->∃t',d.1.tasks[n]?=R t'∧t'.dead=true
def nD (f:Int->Int):Nat->Int
 |0=>0
 |n+1=>nD f n+f n
structure OG (s:aa) (sum:Int):Prop where
 total:s.book.total=sum
 all:nD s.book.tasks s.tasks.length=sum
 none_:∀n:Nat,s.tasks.length<=n->s.book.tasks n=0
 task:∀n:Nat,0<=s.book.tasks n∧s.book.tasks n<=sum
 root:s.book.groups 0=sum
 aw:∀g:Int,0<=s.book.groups g∧s.book.groups g<=sum
theorem GJ {n:Int} (h0:-9223372036854775808<=n) (a:n<=9223372036854775807):cK n=n:=by unfold cK Go.RowKit.wrap64;omega
end
section
variable {k:Nat} {s r:aa}
theorem aa.Al {e:gm} (h:e.kind=13):s.event e=s.pull e.a:=by unfold aa.event;rw[z0 (by omega),z0 (by omega),z0 (by omega),z0 (by omega),z0 (by omega),z0 (by omega),z0 (by omega),z0 (by omega),z0 (by omega),z0 (by omega),z0 (by omega),z0 (by omega),aj h]
theorem Am {f:eO} (h:fN f):∀(d:Nat) (a:Int) (b:Int×Int),f a=R b->b.2<d->ez f a 0=true
 |0,a,b,c,g=>by have:=(h.deep _ _ c).1;omega
 |d+1,a,b,c,g=>by
  by_cases e:a=0;·subst e;rw[h.qP];rfl
  ·obtain⟨i,j,k⟩:=h.up a b c e;rw[h.ow c e,Am h d b.1 i j (by omega)];simp
def gD (p:Int) (t:ex):Nat:=if t.on=true∧t.p=p then t.w else 0
def gn (p:Int):List ex->Nat
 |[]=>0
 |t::l=>gD p t+gn p l
theorem wL (p:Int):∀(l m:List ex),gn p (l++m)=gn p l+gn p m
 |[],m=>by simp[gn]
 |t::l,m=>by rw[gM,gn,gn,wL p l m];omega
theorem An {p:Int} {l:List ex} {i:Nat} {t:ex} (e:l[i]?=R t):gn p (l.take (i+1))=gn p (l.take i)+gD p t:=by rw[gL,e,lY,wL];simp[gn]
theorem Ao (p:Int):∀(b:List ex) (f:Nat) (c d:ex),b[f]?=R c->gn p (b.set f d)+gD p c=gn p b+gD p d
 |[],f,c,d,e=>by cases e
 |a::b,0,c,d,e=>by simp only[List.getElem?_cons_zero,Option.some.injEq] at e;subst e;rw[List.set_cons_zero,gn,gn];omega
 |a::b,f+1,c,d,e=>by rw[nh] at e;have:=Ao p b f c d e;rw[List.set_cons_succ,gn,gn];omega
theorem Ap (p:Int) (c:Nat):∀a:List ex,(∀b∈a,b.w<=c)->gn p a<=a.length*c
 |[],_=>gN _
 |b::a,h=>by
  have f:=Ap p c a (λd e=>h d (hK _ e));have g:=h b e5;have i:gD p b<=b.w:=by unfold gD;split<;>omega
  rw[gn,dX,Nat.succ_mul];omega
theorem Aq (s:aa) (h:aF) (p:Int):∀(c:List ex) (b:Nat),(∀a∈c,ku s h p a=decide (a.on=true∧a.p=p))->c.foldl (λb a=>if ku s h p a then b+a.w else b) b=b+gn p c
 |[],b,_=>rfl
 |a::c,b,aP=>by
  rw[nk,Aq s h p c _ (λe f=>aP e (hK _ f)),aP a e5,gn];unfold gD;by_cases d:a.on=true∧a.p=p;·rw[decide_eq_true d,aj rfl,aj d];omega
  ·rw[decide_eq_false d,z0 d];simp
theorem aa.Ok.q8 (h:s.Ok k) (p:Int):s.load 0 p=gn p s.tasks:=by
 obtain⟨r,e,q,f,_⟩:=h.root;have i:s.aw 0=r:=aa.lL e;unfold aa.load gC;rw[i,f,Aq,lZ];intro a j;obtain⟨l,c⟩:=lp.1 j;unfold ku;cases m:a.on with
 |false=>simp
 |true=>
  have d:=h.task l a c;have n:=d.live (d.jY m);obtain⟨t,b⟩:=gK.1 (h.there a.g _ (h.jz c) n.1).1;have o:ae.c1 s.tree (s.aw a.g).h bM=true:=by rw[h.tree.c1 b h.tree.oz];exact Am h.tree.a1 10 _ _ (ae.d_ b) (by have:=(h.tree.a1.deep _ _ (ae.d_ b)).2;omega)
  rw[o];simp
theorem aa.Ok.wM (h:s.Ok k) (p:Int):s.load 0 p<=k*262144:=by rw[h.q8];refine cA (Ap p 262144 _ λa b=>?_) (n3 _ h.eJ.1);obtain⟨c,d⟩:=lp.1 b;exact(h.task c a d).w.2
theorem aa.Ar (s:aa) {p:Nat} (a:p<s.c.aO):s.dt[p]?=R (s.load 0 p:Int):=by unfold aa.dt;rw[dD,sg a];rfl
theorem aa.jZ (s:aa) {p:Nat} (a:p<s.c.aO):a_ s.dt p=(s.load 0 p:Int):=by unfold a_;rw[s.Ar a];rfl
def lN (s:aa) (p:Int) (j:Nat):Nat:=gn p (s.tasks.take j)
structure q9 (s r:aa) (n:Nat) (f A:Nat):Prop where
 As:A<s.c.aO
 from_:f<s.c.aO
 ne:f≠A
 task:∃t t',s.tasks[n]?=R t∧t.dead=false∧t.p=f∧r.tasks[n]?=R t'∧t'.dead=false∧t'.p=A∧bW t'.mask A=true
 c:r.c=s.c
 less:∃w,0<w∧r.load 0 f+w=s.load 0 f∧r.load 0 A=s.load 0 A+w∧s.load 0 A+w<s.load 0 f
 other:∀p:Nat,p≠f->p≠A->r.load 0 p=s.load 0 p
theorem cN.GK (h:cN s r) (p:Int):r.load 0 p=s.load 0 p:=by
 unfold aa.load gC;rw[h.tasks,h.h];have:∀t,ku r (s.aw 0).h p t=ku s (s.aw 0).h p t:=λt=>by unfold ku;rw[h.tree,h.h]
 simp only[this]
theorem aa.Ok.GL (h:s.Ok k) (e:gm) (E:0<=e.mask∧e.mask<18446744073709551616) (hk:e.kind=13) (Q:(s.dP e).2.2=0):∃d f j:Nat,(s.dP e).2.1=d∧e.a=j∧q9 s (s.dP e).1 d f j:=by
 obtain⟨m,R⟩:=aa.Ak Q;have l:=(aa.Ok.settle (h.event e E)).du;rw[R];rw[aa.Al hk] at m l⊢;have o:=(h.event e E);rw[aa.Al hk] at o;show∃d f j:Nat,(s.pull e.a).2.1=d∧e.a=j∧q9 s (s.pull e.a).1.settle d f j;generalize(s.pull e.a).1.settle=r at l⊢;unfold aa.pull at m l o⊢;by_cases A:s.e0 e.a=false;·rw[aj A] at m;cases m
 rw[z0 A] at m l o⊢;dsimp only at m l o⊢;obtain⟨S,T⟩:=aa.mi.1 (by simpa using A);by_cases F:lG s.dt e.a 18446744073709551615<0;·rw[aj F] at m;cases m
 rw[z0 F] at m l o⊢;rcases wv s.dt e.a 18446744073709551615 with⟨G,_⟩|⟨f,G,B,ap,x,aQ⟩;·omega
 rw[G] at m l o⊢;rw[s.wK] at B;by_cases H:kZ (s.hU (f:Int)) (gB (a_ s.dt (f:Int).toNat) (a_ s.dt e.a.toNat)) e.a<0;·rw[aj H] at m;cases m
 rw[z0 H] at m l o⊢;rcases zM (s.hU (f:Int)) (gB (a_ s.dt (f:Int).toNat) (a_ s.dt e.a.toNat)) e.a with⟨I,_⟩|⟨i,I,U,V,_⟩;·omega
 rw[I] at l o⊢;obtain⟨d,b,C,u,J,y⟩:=aa.sV (s:=s) (f:=(f:Int)) (i:=i) U;obtain⟨ah,aR,v,aS,K,t⟩:=zJ.1 (show gA (cat (s.hU (f:Int)) i) _ _=true from V);rw[bZ,C] at l o;rw[C] at v K t;dsimp only at v K t;simp only[bZ] at t l o;obtain⟨j,L⟩:=dS S;rw[L] at T v t x l o;rw[bZ] at v t;have M:j<s.c.aO:=by omega
 rw[s.jZ B,s.jZ M] at t;have W:=h.task d b u;have N:=W.jY J;have O:=aa.oG (s:=s) u;have X:=(bD.1 u).1;have Y:(s.leave d).c=s.c:=aa.q5 u;have Z:∃n,n.on=true∧n.p=(j:Int)∧n.w=b.w∧n.dead=false∧n.mask=b.mask∧((s.leave d).put d (j:Int) false).tasks=s.tasks.set d n:=by rw[aa.put_eq O];refine⟨{({b with mn:=s.least b b.p,e:=(s.aY b.p).ed (s.aw b.g).h.idx b.h.idx,on:=false}:ex) with e:=(s.leave d).gl {b with mn:=s.least b b.p,e:=(s.aY b.p).ed (s.aw b.g).h.idx b.h.idx,on:=false} (j:Int) false,p:=(j:Int),on:=true},rfl,rfl,rfl,N,rfl,?_⟩;show((s.leave d).tasks.set d _)=_;rw[aa.q0 u];show((s.tasks.set d _).set d _)=_;rw[List.set_set]
 obtain⟨n,aq,z,ac,az,ad,P⟩:=Z;have aB:((s.leave d).put d (j:Int) false).c=s.c:=by rw[aa.put_eq O];exact Y
 have D:∀p:Int,r.load 0 p+gD p b=s.load 0 p+gD p n:=λp=>by rw[l.GK,o.q8,h.q8,P];exact Ao p s.tasks d b n u
 have aA:gD (f:Int) b=b.w:=by unfold gD;rw[aj ⟨J,y⟩]
 have aG:gD (f:Int) n=0:=by unfold gD;rw[z0 (λq=>x (by rw[<-q.2,z]))]
 have ab:gD (j:Int) b=0:=by unfold gD;rw[z0 (λq=>x (by rw[<-y,q.2]))]
 have aL:gD (j:Int) n=b.w:=by unfold gD;rw[aj ⟨aq,z⟩,ac]
 have af:=D (f:Int);have ae:=D (j:Int);rw[aA,aG] at af;rw[ab,aL] at ae;have aU:(b.w:Int)<(s.load 0 (f:Int):Int)-(s.load 0 (j:Int):Int):=by unfold gB at t;split at t<;>omega
 refine⟨d,f,j,?_,L,⟨M,B,λq=>x (by rw[q]),⟨b,n,u,N,y,?_,az,z,by rw[ad];exact v⟩,?_,⟨b.w,by omega,by omega,by omega,by omega⟩,?_⟩⟩;·show(cat (s.hU (f:Int)) (i:Int).toNat).id=_;rw[bZ,C]
 ·rw[l.tasks,P,cV X]
 ·rw[l.c];exact aB
 ·intro p am aN;have aP:=D (p:Int);have aV:gD (p:Int) b=0:=by unfold gD;rw[z0 (λq=>am (by have:=y.symm.trans q.2;omega))]
  have aZ:gD (p:Int) n=0:=by unfold gD;rw[z0 (λq=>aN (by have:=z.symm.trans q.2;omega))]
  omega
theorem Au (zs d:List Int) (f A:Nat) (w:Int) (j:a_ d f=a_ zs f-w) (k:a_ d A=a_ zs A+w) (n:f≠A) (l:∀g,g≠f->g≠A->a_ d g=a_ zs g):∀a:Nat,nD (λi=>a_ d i.toNat) a=nD (λi=>a_ zs i.toNat) a-(if f<a then w else 0)+(if A<a then w else 0)
 |0=>by simp[nD]
 |a+1=>by
  have b:=Au zs d f A w j k n l a;unfold nD;simp only[bZ];by_cases m:a=f
  ·subst m;rw[j];rw[z0 (by omega)] at b;rw[aj (by omega)];by_cases e:A<a;·rw[aj e] at b;rw[aj (by omega)];omega
   ·rw[z0 e] at b;rw[z0 (by omega)];omega
  ·by_cases e:a=A
   ·subst e;rw[k];rw[z0 (show¬a<a by omega)] at b;rw[aj (show a<a+1 by omega)];by_cases c:f<a;·rw[aj c] at b;rw[aj (by omega)];omega
    ·rw[z0 c] at b;rw[z0 (by omega)];omega
   ·rw[l a m e];by_cases c:f<a<;>by_cases h:A<a;·rw[aj c,aj h] at b;rw[aj (by omega),aj (by omega)];omega
    ·rw[aj c,z0 h] at b;rw[aj (by omega),z0 (by omega)];omega
    ·rw[z0 c,aj h] at b;rw[z0 (by omega),aj (by omega)];omega
    ·rw[z0 c,z0 h] at b;rw[z0 (by omega),z0 (by omega)];omega
end
structure Mod (S:Nat->Prop) (w w':ab):Prop where
 os:w'.os=w.os
 tape:w'.tape=w.tape
 output:w'.output=w.output
 size:w.heap.size<=w'.heap.size
 block:∀k,k<w.heap.size->¬S k->w'.heap[k]?=w.heap[k]?
def cS (S:Nat->Prop) (w:ab) (k:Nat):Prop:=S k∨w.heap.size<=k
namespace Mod
theorem refl (S:Nat->Prop) (w:ab):Mod S w w:=⟨rfl,rfl,rfl,bK _,λ_ _ _=>rfl⟩
theorem mono {T:Nat->Prop} (h:Mod S w w') (c:∀a,a<w.heap.size->S a->T a):Mod T w w':=⟨h.os,h.tape,h.output,h.size,λa b d=>h.block a b λg=>d (c a b g)⟩
theorem trans {S T:Nat->Prop} {x y z:ab} (h:Mod S x y) (k:Mod T y z) (c:∀i,i<x.heap.size->T i->S i):Mod S x z:=⟨k.os.trans h.os,k.tape.trans h.tape,k.output.trans h.output,cA h.size k.size,λi a b=>(k.block i (dd a h.size) λg=>b (c i a g)).trans (h.block i a b)⟩
theorem below {x:ab} (h:Below x.heap.size x y):Mod S x y:=⟨h.os,h.tape,h.output,h.size,λa b _=>h.block a b⟩
theorem hV {x z:ab} (h:Mod S x y) (k:Below y.heap.size y z):Mod S x z:=h.trans (T:=S) (below k) λ_ _ g=>g
theorem toBelow {x:ab} (h:Mod (λ_=>False) x y):Below x.heap.size x y:=⟨h.os,h.tape,h.output,h.size,λa b=>h.block a b id⟩
theorem setCell {S:Nat->Prop} {x y:ab} {b i:Nat} (h:Mod S x y) (d:S b) (v:Value):Mod S x (y.setCell ⟨b,i,U⟩ v):=⟨h.os,h.tape,h.output,by simpa using h.size,λa e c=>(heap_setCell_other y ⟨b,i,U⟩ a v (λf=>c (f▸d))).trans (h.block a e c)⟩
theorem fw {x:ab} (h:Mod S x y) (e:x.heap.size<=b) (v:Value):Mod S x (y.setCell ⟨b,i,U⟩ v):=⟨h.os,h.tape,h.output,by simpa using h.size,λa c d=>(heap_setCell_other y ⟨b,i,U⟩ a v (by simp only;omega)).trans (h.block a c d)⟩
theorem alloc {S:Nat->Prop} {x y:ab} (h:Mod S x y) (O:Obj):Mod S x (y.alloc O):=h.trans (T:=S) (below ((Below.refl _ _).alloc zK9 O)) λ_ _ g=>g
theorem drew {S:Nat->Prop} {x y:ab} (h:Mod S x y):Mod S x y.drew:=⟨h.os,h.tape,h.output,h.size,h.block⟩
theorem drewN {S:Nat->Prop} {x y:ab} (h:Mod S x y) (n:Nat):Mod S x (y.drewN n):=⟨h.os,h.tape,h.output,h.size,h.block⟩
theorem one (w:ab) (b i:Nat) (v:Value):Mod (λy=>y=b) w (w.setCell ⟨b,i,U⟩ v):=(refl (λy=>y=b) w).setCell (rfl:b=b) v
theorem mL {x:ab} (h:Mod S (x.drewN n) y):Mod S x y:=⟨h.os,h.tape,h.output,h.size,h.block⟩
theorem jm {x:ab} (h:Mod S x.drew y):Mod S x y:=⟨h.os,h.tape,h.output,h.size,h.block⟩
theorem keep {x:ab} (h:Mod S x y) {O:Obj} (a:x.heap[b]?=R O) (c:¬S b):y.heap[b]?=R O:=(h.block b (jd a) c).trans a
theorem cell {x:ab} (h:Mod S x y) (c:x.cell? ⟨b,o,U⟩=R v) (d:b<x.heap.size) (e:¬S b):y.cell? ⟨b,o,U⟩=R v:=(lq (a:=⟨b,o,U⟩) (h.block b d e)).trans c
end Mod
def ak (w:ab) (b:Nat) (ar:Array Value) (T:TypeId):Prop:=w.heap[b]?=R (av ar T (0,0))
theorem ak.cell {T:Nat} (h:ak w b ar T) (i:Nat) (hv:ar[i]?=R v):w.cell? ⟨b,i,U⟩=R v:=bJ h hv
theorem ak.free {T:Nat} (h:ak w b ar T) (i:Nat):w.frozen? ⟨b,i,U⟩=false:=l1 h
theorem ak.lt {T:Nat} (h:ak w b ar T):b<w.heap.size:=jd h
theorem ak.set {T:Nat} (h:ak w b ar T) (i:Nat) (v:Value):ak (w.setCell ⟨b,i,U⟩ v) b (ar.setIfInBounds i v) T:=eL v h
theorem ak.other {T:Nat} (h:ak w b ar T) (a:b≠c) (v:Value):ak (w.setCell ⟨c,i,U⟩ v) b ar T:=(heap_setCell_other w ⟨c,i,U⟩ b v a).trans h
theorem ak.alloc {w:ab} {b T:Nat} {ar:Array Value} (h:ak w b ar T) (O:Obj):ak (w.alloc O) b ar T:=nn h
theorem ak.new (w:ab) (ar:Array Value) (T:TypeId):ak (w.alloc (av ar T)) w.heap.size ar T:=l2 w _
theorem ak.mod {T:Nat} (h:ak w b ar T) (a:Mod S w w') (c:¬S b):ak w' b ar T:=a.keep h c
theorem ak.next {T:Nat} (h:ak w b ar T) (a:Below w.heap.size w w'):ak w' b ar T:=(a.block b h.lt).trans h
theorem j0 {x:Value} (h:b≠c) (d:w.cell? ⟨b,o,U⟩=R v):(w.setCell ⟨c,i,U⟩ x).cell? ⟨b,o,U⟩=R v:=(lq (a:=⟨b,o,U⟩) (heap_setCell_other w ⟨c,i,U⟩ b x h)).trans d
theorem zF9 {w w':World} (h:Below w.heap.size w w'):Mod (λ_=>False) w w':=Mod.below h
def h2:List Int->Int
 |[]=>0
 |x::l=>max x 0+h2 l
theorem tK:∀l:List Int,0<=h2 l
 |[]=>jw _
 |x::l=>by have:=tK l;unfold h2;omega
theorem Cc:∀(l:List Int) (i:Nat) (x y:Int),l[i]?=R x->h2 (l.set i y)+max x 0=h2 l+max y 0
 |[],i,x,y,e=>by cases e
 |a::l,0,x,y,e=>by simp only[List.getElem?_cons_zero,Option.some.injEq] at e;subst e;rw[List.set_cons_zero,h2,h2];omega
 |a::l,i+1,x,y,e=>by rw[nh] at e;have:=Cc l i x y e;rw[List.set_cons_succ,h2,h2];omega
theorem xz:∀(l:List Int) (x:Int),x∈l->max x 0<=h2 l
 |a::l,x,h=>by
  have:=tK l;rcases gZ.1 h with rfl|h;·rw[h2];omega
  ·have:=xz l x h;rw[h2];omega
theorem tL:∀l:List Int,(∀x∈l,x<=0)->h2 l=0
 |[],_=>rfl
 |a::l,h=>by have:=h a e5;rw[h2,tL l (λx b=>h x (hK _ b))];omega
structure ff (c:Int) (b:aM):Prop where
 quota:0<=b.quota∧b.quota<=1099511627776
 slice:0<b.quota->1<=b.slice∧b.slice<=1099511627776
 pool:0<=b.pool
 sum:b.pool+h2 b.loc<=1099511627776
 lo:∀x∈b.loc,-c<=x
theorem ff.mono {c c':Int} {b:aM} (h:ff c b) (d:c<=c'):ff c' b:=⟨h.quota,h.slice,h.pool,h.sum,λx a=>by have:=h.lo x a;omega⟩
theorem ff.new {c:Int} (f:0<=c) (b:Nat):ff c (aM.new b):=by
 have d:∀x∈(aM.new b).loc,x=0:=λx a=>(List.mem_replicate.1 a).2;refine⟨⟨by show(0:Int)<=0;omega,by show(0:Int)<=_;omega⟩,λe=>?_,by show(0:Int)<=0;omega,?_,λx a=>by rw[d x a];omega⟩;·change(0:Int)<0 at e;omega
 ·rw[tL _ (λx a=>by rw[d x a];omega)];show(0:Int)+0<=_;omega
theorem aM.tM {b:aM} {p:Int} (h:b.there p=true):b.loc[p.toNat]?=R (b.at p):=by unfold aM.there at h;simp only[jb,decide_eq_true_eq] at h;unfold aM.at;rw[dy,b5 (by omega)];rfl
theorem mX {n:Int} (h0:-9223372036854775808<=n) (a:n<=9223372036854775807):cK n=n:=GJ h0 a
theorem ff.rW {c:Int} {b:aM} (h:ff c b) {x y q:Int} (d:b.loc[i]?=R x) (f:-c<=y) (g:0<=q) (k:q+max y 0<=b.pool+max x 0):ff c {b with loc:=b.loc.set i y,pool:=q}:=by
 have e:=Cc b.loc i x y d;have:=h.sum;refine⟨h.quota,h.slice,g,?_,λj a=>?_⟩;·show q+h2 (b.loc.set i y)<=_;omega
 ·rcases List.mem_or_eq_of_mem_set a with a|rfl;·exact h.lo j a
  ·exact f
theorem ff.cP {c:Int} {b:aM} (h:ff c b) (g:c<=1000000000000000) (p:Int):ff c (b.cP p):=by
 unfold aM.cP;split;·exact h
 ·rename_i e;split;·exact h
  ·rename_i i;split;·rename_i j;have f:b.there p=true:=(by simpa using e);have a:=aM.tM f;have k:=h.lo _ (ea a);have l:=h.quota;have m:=h.slice (by omega);have n:=h.pool;have o:=h.sum;have q:=tK b.loc;have d:b.ig p=min b.pool (b.slice-b.at p):=(by unfold aM.ig;rw[mX (by omega) (by omega)]);have r:0<=b.ig p:=(by rw[d];omega);have s:b.ig p<=b.pool:=(by rw[d];omega);rw[mX (by omega) (by omega),mX (by omega) (by omega)];exact h.rW a (by omega) (by omega) (by omega)
   ·exact h
theorem ff.ret {c:Int} {b:aM} (h:ff c b) (e:0<=c) (f:c<=1000000000000000) (p:Int):ff c (b.ret p):=by
 unfold aM.ret;split;·rename_i d;have a:=aM.tM d;have g:=h.lo _ (ea a);have i:=h.pool;have j:=h.sum;have k:=xz _ _ (ea a);rw[mX (by omega) (by omega),mX (by omega) (by omega)];exact h.rW a (by omega) (by omega) (by omega)
 ·exact h
theorem ff.gy {c:Int} {b:aM} (h:ff c b) (e:0<=c):ff c b.gy:=by
 unfold aM.gy;refine⟨h.quota,h.slice,h.quota.1,?_,λx a=>?_⟩;·show b.quota+h2 (b.loc.map λn=>min n 0)<=_;rw[tL _ (λx a=>by obtain⟨y,_,rfl⟩:=eY.1 a;omega)];have:=h.quota;omega
 ·obtain⟨y,d,rfl⟩:=eY.1 a;have:=h.lo y d;omega
theorem ff.set {c:Int} {b:aM} (h:ff c b) (g:0<=c) (q n:Int):ff c (b.set q n):=by
 unfold aM.set;split
 ·rename_i a;unfold aM.hR at a;split at a;·omega
  ·rename_i i;have e:h2 (b.loc.map λ_=>(0:Int))=0:=tL _ (λx d=>by obtain⟨y,_,rfl⟩:=eY.1 d;omega);refine⟨⟨by show 0<=q;omega,by show q<=_;omega⟩,λf=>?_,by show 0<=q;omega,?_,λx d=>?_⟩
   ·change 0<q at f;show 1<=(if q=0 then 0 else n)∧(if q=0 then 0 else n)<=_;split at a;·omega
    ·split at a;·omega
     ·rw[z0 (by omega)];omega
   ·show q+h2 (b.loc.map λ_=>(0:Int))<=_;rw[e];omega
   ·obtain⟨y,_,rfl⟩:=eY.1 d;omega
 ·exact h
theorem ff.b4 {c:Int} {b:aM} (h:ff c b) (g:c+1000000000<=1000000000000000) (p ns:Int):ff (c+1000000000) (b.b4 p ns):=by
 unfold aM.b4;split
 ·rename_i d;unfold aM.e7 at d;split at d;·omega
  ·rename_i i;split at d;·omega
   ·rename_i l;have j:b.there p=true:=(by simpa using i);have e:=aM.tM j;have m:=h.lo _ (ea e);have n:=h.sum;have k:=h.pool;have o:=xz _ _ (ea e);have a:=h.mono (c':=c+1000000000) (by omega);refine ff.cP (b:={b with spent:=kr b.spent ns,loc:=if 0<b.quota then b.loc.set p.toNat (cK (b.at p-ns)) else b.loc}) ?_ g p;by_cases f:0<b.quota;·have:=a.rW e (y:=b.at p-ns) (q:=b.pool) (by omega) k (by omega);rw[aj f,mX (by omega) (by omega)];exact⟨this.quota,this.slice,this.pool,this.sum,this.lo⟩
    ·rw[z0 f];exact⟨a.quota,a.slice,a.pool,a.sum,a.lo⟩
 ·exact h.mono (by omega)
def bA (c:Int) (l:List cb):Prop:=∀G∈l,∀b,G.band=R b->ff c b
section
variable {k:Nat} {s r:aa} {c c':Int}
theorem bA.mono {l:List cb} (h:bA c l) (a:c<=c'):bA c' l:=λG d b e=>(h G d b e).mono a
theorem aa.KJ {b:aM} (h:(s.aw g).band=R b):s.aw g∈s.groups:=by
 by_cases a:g<s.groups.length;·unfold aa.aw;rw[dy,b5 a];exact List.getElem_mem a
 ·rw[s.q1 a] at h;cases h
theorem bA.at_ (h:bA c s.groups) {b:aM} (a:(s.aw g).band=R b):ff c b:=h _ (aa.KJ a) b a
theorem bA.b0 (h:bA c s.groups) (e:c<=c') {g:Nat} {G:cb} (f:∀b,G.band=R b->ff c' b):bA c' (s.b0 g G).groups:=by
 intro i a b d;rcases List.mem_or_eq_of_mem_set a with a|rfl;·exact(h i a b d).mono e
 ·exact f b d
theorem bA.bP (h:bA c s.groups) (a:c<=c') (g:Nat) {f:aM->aM} (d:∀b,ff c b->ff c' (f b)):bA c' (s.bP g f).groups:=by
 unfold aa.bP;cases i:(s.aw g).band with
 |none=>exact h.mono a
 |some b=>exact h.b0 a λj e=>by cases e;exact d b (h.at_ i)
theorem bA.b7 (h:bA c s.groups) (g:Nat) (f:List Int->List Int):bA c (s.b7 g f).groups:=by
 unfold aa.b7;cases a:(s.aw g).line with
 |none=>exact h
 |some l=>exact h.b0 (jw _) λb e=>h.at_ e
theorem nN {α:Type} (f:aa->α->aa) (a:∀(r:aa) x,bA c r.groups->bA c (f r x).groups):∀(l:List α) (s:aa),bA c s.groups->bA c (l.foldl f s).groups
 |[],s,h=>h
 |x::l,s,h=>by rw[nk];exact nN f a l _ (a s x h)
theorem bA.bO (h:bA c s.groups) (g:Nat):bA c (s.bO g).groups:=by
 unfold aa.bO;refine nN _ (λr x a=>?_) _ s h;split;·exact a
 ·exact a
theorem bA.returns (h:bA c s.groups) (h0:0<=c) (d:c<=1000000000000000) (g:Nat):bA c (s.returns g).groups:=by
 unfold aa.returns;refine nN _ (λr x a=>?_) _ s h;split;·exact a.bP (jw _) g λb e=>e.ret h0 d _
 ·exact a
theorem bA.hand (a:c<=1000000000000000) (g:Nat):∀(n:Nat) (s:aa),bA c s.groups->bA c (aa.hand n s g).groups
 |0,s,h=>h
 |n+1,s,h=>by
  unfold aa.hand;split;·exact h
  ·split;·exact h
   ·rename_i p l f;have d:bA c ((s.b7 g λ_=>l).bP g (λb=>b.cP p)).groups:=(h.b7 g _).bP (jw _) g λb e=>e.cP a p;split;·exact bA.hand a g n _ d
    ·exact bA.hand a g n _ (d.b7 g _)
theorem bA.share (h:bA c s.groups) (h0:0<=c) (a:c<=1000000000000000) (g:Nat):bA c (s.share g).groups:=bA.hand a g 66 _ (h.returns h0 a g)
theorem bA.asks (a:c<=1000000000000000) (p:Int):∀(l:List Nat) (s:aa),bA c s.groups->bA c (aa.asks p l s).1.groups
 |[],s,h=>h
 |g::l,s,h=>by
  unfold aa.asks;have d:bA c (s.bP g λb=>b.cP p).groups:=h.bP (jw _) g λb e=>e.cP a p;split;·exact bA.asks a p l _ d
  ·exact d
theorem bA.fC (h:bA c s.groups) (f:c<=1000000000000000) (p:Int):bA c (s.fC p).1.groups:=by
 rw[aa.wI];have b:bA c (s.fB p).groups:=h;split;·exact b
 ·split;·exact b
  ·rename_i t i;have a:=bA.asks f p ((s.fB p).limited ((s.fB p).cC t.g)) (s.fB p) b;split;·rename_i e d;rw[d] at a;exact a
   ·rename_i e g d;rw[d] at a;exact bA.b7 (s:=e) a g _
theorem bA.hh (a:c<=1000000000000000) (p:Int):∀(n:Nat) (s:aa),bA c s.groups->bA c (aa.hh n s p).groups
 |0,s,h=>h
 |n+1,s,h=>by
  unfold aa.hh;split;·exact h.fC a p
  ·exact bA.hh a p n _ (h.fC a p)
theorem bA.settle (h:bA c s.groups) (h0:0<=c) (b:c<=1000000000000000):bA c s.settle.groups:=by
 unfold aa.settle
 have d:bA c ((s.places.drop 1).foldl (λr o=>match o with|none=>r|some g=>r.bO g) s).groups:=nN _ (λr o a=>by
  cases o with
  |none=>exact a
  |some g=>exact a.bO g) _ s h
 have e:=nN (λr g=>r.share g) (λr g a=>a.share h0 b g) (((s.places.drop 1).foldl (λr o=>match o with|none=>r|some g=>r.bO g) s).limited (((s.places.drop 1).foldl (λr o=>match o with|none=>r|some g=>r.bO g) s).places.drop 1)) _ d;exact nN _ (λr (p:Nat) a=>bA.hh b (p:Int) 40 r a) _ _ e
theorem bA.ee (p ns:Int):∀(l:List Nat) (s:aa) (c:Int),bA c s.groups->c+l.length*1000000000<=1000000000000000->bA (c+l.length*1000000000) (aa.ee p ns l s).groups
 |[],s,c,h,_=>by unfold aa.ee;exact h.mono (by simp)
 |g::l,s,c,h,a=>by
  unfold aa.ee;rw[dX] at a⊢;have d:((l.length+1:Nat):Int)*1000000000=1000000000+(l.length:Int)*1000000000:=by rw[Int.natCast_add,Int.add_mul];omega
  rw[d] at a⊢;have:=bA.ee p ns l (s.bP g λb=>b.b4 p ns) (c+1000000000) (h.bP (by omega) g λb e=>e.b4 (by omega) p ns) (by omega);rw[show c+(1000000000+(l.length:Int)*1000000000)=c+1000000000+(l.length:Int)*1000000000 by omega];exact this
theorem bA.eQ (g:Nat):∀(l:List Int) (s:aa),bA c s.groups->bA c (aa.eQ g l s).groups
 |[],s,h=>h
 |p::l,s,h=>bA.eQ g l (s.stop g p false) h
theorem ae.Cd (t:ae):∀(n:Nat) (h:aF),(ae.ft t n h).length<=n
 |0,h=>by simp[ae.ft]
 |n+1,h=>by
  unfold ae.ft;split;·simp
  ·split;·simp
   ·have:=ae.Cd t n (by assumption:aF×Int).1;rw[dX];omega
theorem aa.tN (s:aa) (g:Nat):(s.cC g).length<=10:=by unfold aa.cC ae.path;rw[dY,vd,dY];exact cA (List.takeWhile_sublist _).length_le (ae.Cd _ 10 _)
theorem aa.rX (s:aa) (l:List (Option Nat)):(s.limited l).length<=l.length:=by unfold aa.limited;exact List.length_filterMap_le _ _
theorem aa.tO (s:aa) (n:Nat):(s.leave n).groups=s.groups:=by unfold aa.leave;split<;>rfl
theorem aa.xA (s:aa) (n:Nat) (p:Int) (b:Bool):(s.put n p b).groups=s.groups:=by unfold aa.put;split<;>rfl
theorem bA.event (h:bA c s.groups) (h0:0<=c) (N:c+10000000000<=1000000000000000) (e:gm):bA (c+10000000000) (s.event e).1.groups:=by
 have d:bA (c+10000000000) s.groups:=h.mono (by omega);have f:∀{p:Prop} [Decidable p] {a b:dO},bA (c+10000000000) a.1.groups->bA (c+10000000000) b.1.groups->bA (c+10000000000) (if p then a else b).1.groups:=by
  intro p _ a b u i;split;·exact u
  ·exact i
 have v:bA (c+10000000000) (s.grow e.a e.n).1.groups:=by
  unfold aa.grow;split;·exact d
  ·refine f d (f d ?_);intro G j b i;rcases nj.1 j with j|j;·exact d G j b i
   ·rw[qt] at j;subst j;cases i;exact ff.new (by omega) _
 have w:bA (c+10000000000) (s.drop e.a).1.groups:=by
  unfold aa.drop;split;·exact d
  ·rename_i g k;refine f d (f d ?_);intro G j b i;rcases List.mem_or_eq_of_mem_set j with j|rfl;·exact d G j b i
   ·exact d g (ea (aa.hi k).2.1) b i
 have x:bA (c+10000000000) (s.move e.a e.b).1.groups:=by
  unfold aa.move;split;·exact f d (f d d)
  ·exact d
 have y:bA (c+10000000000) (s.shares e.a e.n).1.groups:=by
  unfold aa.shares;split;·exact d
  ·rename_i g k;refine f d (f d ?_);exact h.b0 (by omega) λb i=>d g (ea (aa.hi k).2.1) b i
 have z:bA (c+10000000000) (s.lJ e.a e.n e.m).1.groups:=by
  unfold aa.lJ;split;·exact d
  ·refine f d (f d ?_);have q:bA c (s.bP e.a.toNat λb=>b.set e.n e.m).groups:=h.bP (jw _) _ λb i=>i.set h0 _ _;have A:bA c ((s.bP e.a.toNat λb=>b.set e.n e.m).b0 e.a.toNat {(s.bP e.a.toNat λb=>b.set e.n e.m).aw e.a.toNat with quota:=e.n}).groups:=q.b0 (jw _) λb i=>q.at_ i;exact(bA.eQ _ _ _ (A.b7 _ _)).mono (by omega)
 have B:bA (c+10000000000) (s.spawn e.a e.n e.mask).1.groups:=by rw[(s.GH _ _ _).1];exact d
 have C:bA (c+10000000000) (s.k0 e.a).1.groups:=by
  unfold aa.k0;split;·exact d
  ·refine f d ?_;rw[aa.xA];exact d
 have D:bA (c+10000000000) (s.block e.a).1.groups:=by unfold aa.block;refine f d (f d ?_);rw[aa.tO];exact d
 have E:bA (c+10000000000) (s.yield e.a).1.groups:=by unfold aa.yield;exact f d (f d d)
 have F:bA (c+10000000000) (s.exit e.a).1.groups:=by
  unfold aa.exit;refine f d (f d ?_);split;·exact d
  ·show bA _ (s.leave _).groups;rw[aa.tO];exact d
 have H:bA (c+10000000000) (s.tick e.a e.n).1.groups:=by
  unfold aa.tick;refine f d (f d (f d ?_));split;·exact d
  ·rename_i t O;apply f d;dsimp only;have o:∀(l:List Nat) (r:aa),r.groups=s.groups->l.length<=10->bA (c+10000000000) (aa.ee e.a e.n l r).groups:=λl r I o=>(bA.ee e.a e.n l r c (by rw[I];exact h) (by omega)).mono (by omega);refine f ?_ ?_;·exact o _ _ rfl (cA (aa.rX _ _) (aa.tN _ _))
   ·exact o _ _ rfl (cA (aa.rX _ _) (aa.tN _ _))
 have J:bA (c+10000000000) (s.gy e.a).1.groups:=by
  unfold aa.gy;split;·exact d
  ·exact f d ((h.bP (jw _) _ λb i=>i.gy h0).mono (by omega))
 have K:bA (c+10000000000) (s.pull e.a).1.groups:=by unfold aa.pull;refine f d ?_;dsimp only;refine f d (f d ?_);rw[aa.xA,aa.tO];exact d
 have L:bA (c+10000000000) (s.nice e.a e.n).1.groups:=by
  unfold aa.nice;split;·exact d
  ·exact f d (f d (f d d))
 have M:bA (c+10000000000) (s.mask e.a e.mask).1.groups:=by
  unfold aa.mask;split;·exact d
  ·split;·exact d
   ·dsimp only;split;·show bA _ (aa.put _ _ _ _).groups;rw[aa.xA,aa.tO];exact d
    ·exact d
 unfold aa.event;exact f v (f w (f x (f y (f z (f B (f C (f D (f E (f F (f H (f J (f K (f L (f M d))))))))))))))
theorem bA.dP (h:bA c s.groups) (h0:0<=c) (a:c+10000000000<=1000000000000000) (e:gm):bA (c+10000000000) (s.dP e).1.groups:=by
 unfold aa.dP;split;·exact h.mono (by omega)
 ·exact(h.event h0 a e).settle (by omega) (by omega)
theorem bA.new (a:hT):bA 0 (aa.new a).groups:=by
 intro G c b d;have:G=ik:=by simpa[aa.new] using c
 subst this;cases d
def iV (s:aa) (g:Nat):Nat:=if(s.im g).pool<=0 then 0 else 1+(s.il g).length
def eK (s:aa) (g:Nat) (p:Int) (l:List Int):aa:=if(s.im g).hz p then(((s.b7 g λ_=>l).bP g (λb=>b.cP p))).stop g p false else(((s.b7 g λ_=>l).bP g (λb=>b.cP p)).b7 g λl=>fT l p)
theorem aa.qc (n:Nat) (s:aa) (g:Nat):aa.hand (n+1) s g=if(s.im g).pool<=0 then s else match s.il g with|[]=>s|p::l=>aa.hand n (eK s g p l) g:=by
 rw[aa.hand];split;·rfl
 ·split;·rename_i h;first|rfl|rw[h]
  ·rename_i p l h;unfold eK;(try rw[h]);(try dsimp only);split<;>rfl
theorem aa.rY {b:aM} (a:(s.aw g).band=R b) (f:aM->aM):(s.bP g f).aw g={s.aw g with band:=R (f b)}:=by
 have c:g<s.groups.length:=by refine Decidable.byContradiction λd=>?_;rw[s.q1 d] at a;cases a
 unfold aa.bP;rw[a];dsimp only;rw[aa.mj,aj ⟨rfl,c⟩]
theorem aa.tP (a:(s.aw g).line=R l) (f:List Int->List Int):(s.b7 g f).aw g={s.aw g with line:=R (f l)}:=by
 have b:g<s.groups.length:=by refine Decidable.byContradiction λc=>?_;rw[s.q1 c] at a;cases a
 unfold aa.b7;rw[a];dsimp only;rw[aa.mj,aj ⟨rfl,b⟩]
theorem Ce (h:s.Ok k) (u:bA c s.groups) (E:c<=1000000000000000) {p:Int} {b:aM} (f:(s.aw g).band=R b) (v:0<b.quota) (m:s.il g=p::l) (w:¬(s.im g).pool<=0):iV (eK s g p l) g<iV s g:=by
 have n:=aa.wH m;have x:s.im g=b:=by unfold aa.im;rw[f];rfl
 obtain⟨F,G,H,e,I⟩:=h.q2 n;have J:=e p e5;obtain⟨_,_,_,K⟩:=h.wG f;have o:(s.b7 g λ_=>l).aw g={s.aw g with line:=R l}:=aa.tP n _;have y:((s.b7 g λ_=>l).aw g).band=R b:=by rw[o];exact f
 have i:=aa.rY y (λb=>b.cP p);rw[o] at i;have d:=u.at_ f;have z:iV s g=1+(l.length+1):=by unfold iV;rw[z0 w,m,dX]
 rw[z];unfold eK;rw[x];cases a:b.hz p with
 |true=>
  rw[aj rfl];have A:((((s.b7 g λ_=>l).bP g (λb=>b.cP p))).stop g p false).aw g={s.aw g with line:=R l,band:=R (b.cP p)}:=i;unfold iV aa.im aa.il;rw[A];split;·omega
  ·show 1+l.length<_;omega
 |false=>
  rw[z0 (by simp)];have B:(((s.b7 g λ_=>l).bP g (λb=>b.cP p)).aw g).line=R l:=by rw[i]
  have q:=aa.tP B (λl=>fT l p);rw[i] at q;have j:b.there p=true:=by unfold aM.there;simp;omega
  have r:=aM.tM j;have L:=d.lo _ (ea r);have M:=d.quota;have N:=d.slice v;have O:=d.pool;have P:=d.sum;have Q:=tK b.loc;have C:(b.cP p).pool<=0:=by
   unfold aM.hz at a;rw[z0 (by rw[j];simp),z0 (by omega)] at a;unfold aM.cP at a⊢;rw[z0 (by rw[j];simp),z0 (by omega)] at a⊢;by_cases t:b.at p<=0;·rw[aj t] at a⊢;have S:b.ig p=min b.pool (b.slice-b.at p):=(by unfold aM.ig;rw[mX (by omega) (by omega)]);have D:({b with loc:=b.loc.set p.toNat (cK (b.at p+b.ig p)),pool:=cK (b.pool-b.ig p)}:aM).at p=cK (b.at p+b.ig p):=(by unfold aM.at;show(b.loc.set p.toNat _).getD p.toNat 0=_;rw[dy,cV (bD.1 r).1];rfl);rw[D] at a;simp only[decide_eq_false_iff_not] at a;show cK (b.pool-b.ig p)<=0;rw[mX (by omega) (by omega)] at a;rw[mX (by omega) (by omega)];omega
   ·rw[z0 t] at a;simp only[decide_eq_false_iff_not] at a;omega
  unfold iV aa.im;rw[q];rw[aj (by show(b.cP p).pool<=0;exact C)];omega
end
end Go.Proofs.YtddbkdjcjoofpaaGreatDoor
