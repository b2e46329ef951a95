/- Joined by a program out of the session's own texts. -/
import Derived.Lib.Hide
import Derived.Test.YtddbkdjcjoofpaaGreatDoorProg
import Derived.WalkKit
import Derived.Below
import Derived.Laws.Rows
import Derived.Laws.AppendOwn
import Derived.Deep.QuietTactic
import Derived.Shelf.Spec.TrailingZeros
import Derived.Lib.Strings
import Derived.Lib.IndexBytes
import Derived.Lib.ItoaNum
import Derived.Lib.ItoaLen
import Derived.Lib.ParseIntB
import Derived.Maps.AppendAt
import Derived.Laws.AppendOwnNone
namespace Go.Proofs.YtddbkdjcjoofpaaGreatDoor
set_option linter.unusedVariables false
set_option linter.unusedSimpArgs false
set_option maxRecDepth 100000
set_option maxHeartbeats 20000000
open _root_.Go.Proofs.Tryz Go.RowKit
open Go renaming World→ab
open _root_.Go.Proofs.Tryz renaming prog→au
open Option renaming none→U,some→R
open _root_.Go.Value renaming int→I,pointer→af,slice→aA,bool→aE
open _root_.Go.IntKind renaming i64→J,u64→ah
open _root_.Go.Obj renaming cells→av
open _root_.Nat renaming le_refl→bM,le_trans→cJ,lt_of_lt_of_le→dm,zero_add→mq,mul_le_mul_right→o5,add_mul→pc,sub_self→k5
open _root_.Array renaming getElem?_eq_some_iff→iQ
open _root_.Go.World renaming cell?_of_block→lH
open _root_.Go renaming World→ab
open _root_.List renaming getElem?_eq_getElem→b6,getElem?_map→dP,map_cons→j9,length_eq_zero_iff→nM,drop_eq_getElem_cons→o3,getElem?_eq_some_iff→bE,length_cons→dY,length_append→eZ,getElem?_append_right→gC,getElem?_append_left→iR,isEmpty_iff→o8,mem_map→e0,mem_cons→gu,mem_iff_getElem?→mm,getD_eq_getElem?_getD→dD,mem_of_getElem?→ea,length_map→ep,append_assoc→h2,nodup_cons→iT,pairwise_cons→o7,filter_append→r1,mem_cons_self→ey,mem_cons_of_mem→gD,length_filter_le→o4,getElem?_set_self→cZ,getElem?_set_ne→dK,range→gh,replicate→gR,nodup_iff_pairwise_ne→p2,any_eq_true→nS,foldl_cons→nV,mem_range→o9,getElem?_replicate→xN,getElem?_eq_none→ho,getElem?_append→ud,length_set→ef,mem_append→nc,mem_singleton→p8,getElem?_set→mo,getElem?_singleton→p6,mem_iff_getElem→uc,getElem?_zipIdx→nR,getElem?_cons_succ→nN,length_reverse→ug
open _root_.UInt8 renaming toNat→pb
open _root_.Bool renaming eq_iff_iff→hK,and_eq_true→iy,or_eq_true→nW,false_eq_true→jD,not_eq_true'→r3
open _root_.Int renaming toNat_natCast→cd,le_refl→hL,eq_ofNat_of_zero_le→dW,add_zero→pa
open _root_.Option renaming getD_some→j8,isSome_iff_exists→gP,map_eq_some_iff→h1,map_some→iS
theorem aX {α:Sort _} (a:α):∃x,a=x:=⟨a,rfl⟩
theorem z0 {c:Prop} {h:Decidable c} (n:¬c) {α:Sort _} {t e:α}:ite c t e=e:=if_neg n
theorem aj {c:Prop} {h:Decidable c} (n:c) {α:Sort _} {t e:α}:ite c t e=t:=if_pos n
theorem C {p:Prop} (h:p):Go.RowKit.Hid p:=h
theorem zK9 {n:Nat}:n<=n:=Nat.le.refl
variable {b n i c B o:Nat} {w w' y:ab} {v:Value} {a:Option Addr} {ar:Array Value}
structure Kept (b:Nat) (w w':ab):Prop where
 os:w'.os=w.os
 tape:w'.tape=w.tape
 output:w'.output=w.output
 size:w.heap.size<=w'.heap.size
 block:∀k,k<w.heap.size->k≠b->w'.heap[k]?=w.heap[k]?
theorem Kept.refl (b:Nat) (w:ab):Kept b w w:=⟨rfl,rfl,rfl,bM _,λ_ _ _=>rfl⟩
theorem Kept.trans {b:Nat} {x y z:ab} (h:Kept b x y) (k:Kept b y z):Kept b x z:=⟨k.os.trans h.os,k.tape.trans h.tape,k.output.trans h.output,cJ h.size k.size,λi a c=>(k.block i (dm a h.size) c).trans (h.block i a c)⟩
theorem Kept.setCell {b i:Nat} {x y:ab} (h:Kept b x y) (v:Value):Kept b x (y.setCell ⟨b,i,U⟩ v):=⟨h.os,h.tape,h.output,by simpa using h.size,λa d c=>(heap_setCell_other y ⟨b,i,U⟩ a v c).trans (h.block a d c)⟩
theorem Kept.drewN {b:Nat} {x y:ab} (h:Kept b x y) (n:Nat):Kept b x (y.drewN n):=⟨h.os,h.tape,h.output,h.size,h.block⟩
theorem Kept.below {x:ab} (h:Kept b x y) (c:B<=b) (d:B<=x.heap.size):Below B x y:=⟨h.os,h.tape,h.output,h.size,λa e=>h.block a (by omega) (by omega)⟩
theorem Kept.cell {x:ab} (h:Kept b x y) {k:Nat} (hk:k<x.heap.size) (c:k≠b) (d:x.cell? ⟨k,o,U⟩=R v):y.cell? ⟨k,o,U⟩=R v:=(lH (a:=⟨k,o,U⟩) (h.block k hk c)).trans d
theorem lJ {x:ab} (h:Below x.heap.size x y):Kept b x y:=⟨h.os,h.tape,h.output,h.size,λa c _=>h.block a c⟩
theorem bN {T:Nat} (h:w.heap[b]?=R (av ar T (0,0))) (hv:ar[i]?=R v):w.cell? ⟨b,i,U⟩=R v:=by simp[World.cell?,h,hv]
theorem lK {T:Nat} (h:w.heap[b]?=R (av ar T (0,0))):w.frozen? ⟨b,i,U⟩=false:=frozen_of_row w b i ar T h
theorem eN {T:Nat} (v:Value) (h:w.heap[b]?=R (av ar T (0,0))):(w.setCell ⟨b,i,U⟩ v).heap[b]?=R (av (ar.setIfInBounds i v) T (0,0)):=heap_setCell_same w b i ar T v h
theorem iV {O:Obj} (h:w.heap[b]?=R O):b<w.heap.size:=(iQ.1 h).1
theorem ui {O:Obj} (h:w.heap[b]?=R O):(w.drewN n).heap[b]?=R O:=h
theorem lL (w:ab) (O:Obj):(w.alloc O).heap[w.heap.size]?=R O:=by show(w.heap.push O)[w.heap.size]?=_;simp
theorem nf {O a:Obj} (h:w.heap[b]?=R O):(w.alloc a).heap[b]?=R O:=by have:=iV h;show(w.heap.push a)[b]?=_;rw[Array.getElem?_push,z0 (by omega),h]
def Df (w:ab):Prop:=TabAt 9 Lib.deBruijn64tab w
variable {p:Nat} {l:List Int}
def bh (s:ByteArray):List Nat:=s.data.toList.map pb
theorem lM (s:ByteArray):(bh s).length=s.size:=by simp[bh]
theorem Dp (s:ByteArray) (p:Nat) (h:p<s.size):(bh s).take (p+1)=(bh s).take p++[(s[p]'h).toNat]:=by rw[List.take_succ_eq_append_getElem (by rw[lM];exact h)];simp[bh];rfl
theorem xO (s:ByteArray) (p:Nat) (h:p<s.size):(bh s).drop p=(s[p]'h).toNat::(bh s).drop (p+1):=by rw[o3 (by rw[lM];exact h)];simp[bh];rfl
theorem qe (s:ByteArray):bh s=[]↔s.size=0:=by rw[<-nM,lM]
def str (l:List Nat):ByteArray:=⟨(l.map UInt8.ofNat).toArray⟩
theorem Dq {l:List Nat} (h:∀a∈l,a<256):(l.map UInt8.ofNat).map pb=l:=by
 induction l with
 |nil=>rfl
 |cons a l b=>rw[j9,j9,b λy c=>h y (by simp[c]),UInt8.toNat_ofNat_of_lt' (h a (by simp))]
theorem xP {l:List Nat} (h:∀x∈l,x<256):bh (str l)=l:=by unfold bh str;exact Dq h
theorem r4 (l:List UInt8):(l.map pb).map UInt8.ofNat=l:=by
 induction l with
 |nil=>rfl
 |cons x l a=>rw[j9,j9,a,UInt8.ofNat_toNat]
theorem xQ (s:ByteArray):str (bh s)=s:=by unfold bh str;rw[r4]
theorem Dr {s:ByteArray} {k:Nat} (h:k<s.size):(bh s)[k]?=R (s[k]'h).toNat:=by unfold bh;rw[dP,b6 (by simpa using h)];rfl
theorem Ds (s:ByteArray) (a b:Nat):bh (s.extract a b)=((bh s).drop a).take (b-a):=by unfold bh;rw[Lib.extract_data,List.map_take,List.map_drop]
theorem Dt (s:ByteArray) (a:Nat):bh (s.extract a s.size)=(bh s).drop a:=by unfold bh;rw[Lib.extract_to_end,List.map_drop]
theorem Du (s:ByteArray) (b:Nat):bh (s.extract 0 b)=(bh s).take b:=by rw[Ds];simp
variable {u:Value}
def uo (u:Nat):List Nat:=(Lib.decDigits u).map pb
def dec (n:Int):List Nat:=if n<0 then 45::uo n.natAbs else uo n.toNat
theorem xR (n:Int):(Lib.itoa n).map pb=dec n:=by unfold Lib.itoa dec uo;split<;>rfl
def jI (l:List Nat):Option Int:=match Lib.parseIntB 64 (l.map UInt8.ofNat) with
 | .ok v=>if dec v=l then R v else U
 |_=>U
theorem Dv {l:List UInt8} {v:Int} (h:Lib.parseIntB 64 l= .ok v):-9223372036854775808<=v∧v<=9223372036854775807:=by
 unfold Lib.parseIntB at h;cases l with
 |nil=>cases h
 |cons c r=>
  simp only at h;cases a:Lib.parseUintB 64 (if c.toNat=43∨c.toNat=45 then r else c::r) with
  |«syntax»=>rw[a] at h;cases h
  |range=>rw[a] at h;cases h
  |ok u=>
   rw[a] at h;simp only at h;split at h;·cases h
   ·split at h;·cases h
    ·injection h with h
     by_cases b:c.toNat=45;·simp[b] at*;omega
     ·simp[b] at*;omega
variable {g j n₀ cap m:Nat} {W A W':ab} {zs:List Int}
theorem qf {B ar:ab} (h:Below A.heap.size A B) (k:Below B.heap.size B ar):Below A.heap.size A ar:=h.trans (k.mono h.size)
theorem b1 (a:Below n₀ W W') (h:b<n₀) (c:W.cell? ⟨b,o,U⟩=R v):W'.cell? ⟨b,o,U⟩=R v:=(a.cell (p:=⟨b,o,U⟩) h).trans c
theorem below_drewN {a:ab} (h:Below B a w) (n:Nat):Below B a (w.drewN n):=⟨h.os,h.tape,h.output,h.size,h.block⟩
theorem b7 {a:Addr} (b:W.cell? a=R v):W.drew.cell? a=R v:=b
theorem bz (W:ab) (O:Obj):Below W.heap.size W (W.alloc O):=(Below.refl _ _).alloc zK9 O
theorem uq {O:Obj} (h:b<W.heap.size):b<(W.alloc O).heap.size:=by simp;omega
theorem fo (O:Obj) (h:b<W.heap.size) (a:W.cell? ⟨b,o,U⟩=R v):(W.alloc O).cell? ⟨b,o,U⟩=R v:=b1 ((Below.refl _ _).alloc zK9 _) h a
theorem dE {t:Nat}:(W.alloc (av ar t)).cell? ⟨W.heap.size,j,U⟩=ar[j]?:=by simp
theorem addr_add (b a j:Nat):(⟨b,a,U⟩:Addr).add j=⟨b,a+j,U⟩:=by
 by_cases c:j=0;·subst c;simp[Addr.add]
 ·simp[Addr.add,c]
structure cm (α:Type) where
 c:Nat
 e:α->List Value
 len:∀x,(e x).length=c
 one:∀x,∀u∈e x,u.oneCell'=true
 pos:0<c
def cm.all {α:Type} (E:cm α) (zs:List α):List Value:=zs.flatMap E.e
section
variable {α:Type} {E:cm α}
theorem cm.k6 (zs:List α):(E.all zs).length=zs.length*E.c:=by
 induction zs with
 |nil=>simp[cm.all]
 |cons z zs a=>
  have:E.all (z::zs)=E.e z++E.all zs:=by simp[cm.all]
  rw[this,eZ,a,E.len,dY,pc];omega
theorem cm.ur (zs:List α) (z:α):E.all (zs++[z])=E.all zs++E.e z:=by simp[cm.all]
theorem cm.k7 {zs:List α} {q:Nat} {z:α} (a:zs[j]?=R z) (h:q<E.c):(E.all zs)[j*E.c+q]?=(E.e z)[q]?:=by
 induction zs generalizing j with
 |nil=>simp at a
 |cons y zs d=>
  have b:(E.e y).length=E.c:=E.len y;have f:E.all (y::zs)=E.e y++E.all zs:=by simp[cm.all]
  rw[f];cases j with
  |zero=>simp at a;subst a;rw[Nat.zero_mul,mq,iR (by omega)]
  |succ j=>have g:=d (j:=j) (by simpa using a);rw[gC (by rw[b,pc];omega),b,show(j+1)*E.c+q-E.c=j*E.c+q by rw[pc];omega,g]
def Rd (E:cm α) (n₀:Nat) (W:ab) (a:Option Addr) (n:Nat) (zs:List α):Prop:=zs.length=n∧(0<n->∃b d,a=R ⟨b,d,U⟩∧b<n₀∧∀j f,zs[j]?=R f->∀g v,(E.e f)[g]?=R v->W.cell? ⟨b,d+(j*E.c+g),U⟩=R v)
theorem Rd.below {B:ab} {zs:List α} (h:Rd E n₀ A a n zs) (d:Below n₀ A B):Rd E n₀ B a n zs:=⟨h.1,λe=>by obtain⟨b,f,g,c,i⟩:=h.2 e;exact⟨b,f,g,c,λj k l m v o=>(d.cell (p:=⟨b,_,U⟩) c).trans (i j k l m v o)⟩⟩
theorem Rd.grow {c:Nat} {zs:List α} (h:Rd E n₀ A a n zs) (i:n₀<=c):Rd E c A a n zs:=⟨h.1,λd=>by obtain⟨b,e,f,j,g⟩:=h.2 d;exact⟨b,e,f,by omega,g⟩⟩
theorem Rd.next {B:ab} {zs:List α} (h:Rd E A.heap.size A a n zs) (b:Below A.heap.size A B):Rd E B.heap.size B a n zs:=(h.below b).grow b.size
theorem Rd.cells {zs:List α} (h:Rd E n₀ W a n zs) (i:0<n):∃b d,a=R ⟨b,d,U⟩∧b<n₀∧∀j f,zs[j]?=R f->∀g v,(E.e f)[g]?=R v->W.cell? ⟨b,d+(j*E.c+g),U⟩=R v:=h.2 i
def Own (E:cm α) (W:ab) (B T:Nat) (v:Value) (n:Nat) (zs:List α):Prop:=W.ownsRow B T E.c v n (E.all zs)
theorem Own.nil (w:ab) (B T:Nat):Own E w B T (aA U 0 0) 0 []:=⟨by simp[cm.all],.inl ⟨rfl,rfl⟩⟩
theorem Own.alloc {W:ab} {B T n:Nat} {v:Value} {zs:List α} (h:Own E W B T v n zs) (O:Obj):Own E (W.alloc O) B T v n zs:=World.ownsRow.alloc h O
theorem Own.drew {W:ab} {B T n:Nat} {v:Value} {zs:List α} (h:Own E W B T v n zs):Own E W.drew B T v n zs:=World.ownsRow.drew h
theorem Own.rd {T:Nat} {zs:List α} (h:Own E W B T v n zs):zs.length=n∧∃a cap,v=aA a n cap∧n<=cap∧cap<=maxLen∧(a=U->cap=0)∧Rd E W.heap.size W a n zs:=by
 have k:=E.pos;have l:zs.length=n:=by have:=h.1;rw[cm.k6] at this;exact Nat.eq_of_mul_eq_mul_right k this
 subst l;refine⟨rfl,?_⟩;have e:=h;unfold Own at e;rcases h.2 with⟨rfl,b⟩|⟨g,cap,t,rfl,u,m,b,o,w,x⟩;·exact⟨U,0,by rw[b],by omega,by unfold maxLen;omega,λ_=>rfl,rfl,λh=>by omega⟩
 ·refine⟨_,cap,rfl,b,o,(λp=>by cases p),rfl,λy=>⟨g,0,rfl,(iQ.1 m).1,λj z f d v i=>?_⟩⟩;have q:=(bE.1 f).1;have r:d<E.c:=by have:=(bE.1 i).1;rw[E.len] at this;exact this
  have s:j*E.c+d<zs.length*E.c:=by have:(j+1)*E.c<=zs.length*E.c:=o5 _ q;rw[pc] at this;omega
  rw[mq];exact(e.cellAt (j*E.c+d) s).trans ((cm.k7 f r).trans i)
theorem Own.lt {W:ab} {B T n:Nat} {v:Value} {zs:List α} (h:Own E W B T v n zs):∀g,v.ownBlock=R g->B<=g∧g<W.heap.size:=λg e=>World.ownsRow.lt h g e
end
def encS:cm ByteArray:=⟨1,λx=>[.string x],λ_=>rfl,λ_ u h=>by simp at h;subst h;rfl,by decide⟩
variable {lev:Nat} {al:Nat->Prop}
structure Key where
 v:Int
 id:Int
theorem Key.eq_iff (a b:Key):a=b↔a.v=b.v∧a.id=b.id:=by cases a;cases b;simp
instance:DecidableEq Key:=λa b=>decidable_of_iff (a.v=b.v∧a.id=b.id) (Key.eq_iff a b).symm
def Key.lt (a b:Key):Prop:=a.v<b.v∨(a.v=b.v∧a.id<b.id)
instance (a b:Key):Decidable (a.lt b):=inferInstanceAs (Decidable (_∨_))
theorem Key.lt_trans {a b c:Key} (h:a.lt b) (k:b.lt c):a.lt c:=by unfold Key.lt at*;omega
theorem Key.lt_irrefl (a:Key):¬a.lt a:=by unfold Key.lt;omega
theorem Key.lt_asymm {a b:Key} (h:a.lt b):¬b.lt a:=by unfold Key.lt at*;omega
theorem Key.jK {a b:Key} (h:a.lt b):a≠b:=λe=>Key.lt_irrefl b (e▸h)
theorem Key.pj {a b:Key} (h:¬a.lt b) (c:a≠b):b.lt a:=by rw[Ne,Key.eq_iff] at c;unfold Key.lt at*;omega
inductive T where
 |nil:T
 |node (b:Nat) (l:T) (k:Key) (lev:Nat) (r:T):T
namespace T
def h:T->Nat
 |nil=>0
 |node _ _ _ lev _=>lev
def hr:T->Nat
 |nil=>0
 |node _ _ _ _ r=>r.h
def blocks:T->List Nat
 |nil=>[]
 |node b l _ _ r=>b::(l.blocks++r.blocks)
def keys:T->List Key
 |nil=>[]
 |node _ l k _ r=>l.keys++k::r.keys
def size:T->Nat
 |nil=>0
 |node _ l _ _ r=>1+(l.size+r.size)
def cz:T->T
 |node b (node lb c d a e) k lev r=>if a=lev then node lb c d a (node b e k lev r) else node b (node lb c d a e) k lev r
 |t=>t
def split:T->T
 |node b l k lev (node rb rl rk rlev (node c d e a f))=>if a=lev then node rb (node b l k lev rl) rk (rlev+1) (node c d e a f) else node b l k lev (node rb rl rk rlev (node c d e a f))
 |t=>t
def right (f:T->T):T->T
 |node b l k lev r=>node b l k lev (f r)
 |nil=>nil
def lower:T->T
 |node b l k lev r=>if min l.h r.h+1<lev then node b l k (min l.h r.h+1) (match r with|node rb rl rk rlev rr=>if min l.h r.h+1<rlev then node rb rl rk (min l.h r.h+1) rr else node rb rl rk rlev rr|nil=>nil) else node b l k lev r
 |nil=>nil
def settled (t:T):T:=right split (split (right (right cz) (right cz (cz (lower t)))))
def first:T->Key
 |node _ l k _ _=>match l with|nil=>k|node b l' a c d=>(node b l' a c d).first
 |nil=>⟨0,0⟩
def last:T->Key
 |node _ _ k _ r=>match r with|nil=>k|node b l' a c d=>(node b l' a c d).last
 |nil=>⟨0,0⟩
def ins (a:Nat) (x:Key):T->T×Bool
 |nil=>(node a nil x 1 nil,true)
 |node b l k lev r=>if x=k then(split (cz (node b l k lev r)),false) else if x.lt k then(split (cz (node b (l.ins a x).1 k lev r)),(l.ins a x).2) else(split (cz (node b l k lev (r.ins a x).1)),(r.ins a x).2)
def del:T->Key->T×Bool
 |nil,_=>(nil,false)
 |node b l k lev r,x=>if x=k then(match l with
  |node lb a c d e=>(settled (node b ((node lb a c d e).del (node lb a c d e).last).1 (node lb a c d e).last lev r),true)
  |nil=>match r with
   |node rb rl rk rlev rr=>(settled (node b nil (node rb rl rk rlev rr).first lev ((node rb rl rk rlev rr).del (node rb rl rk rlev rr).first).1),true)
   |nil=>(nil,true)) else if x.lt k then(settled (node b (l.del x).1 k lev r),(l.del x).2) else(settled (node b l k lev (r.del x).1),(r.del x).2)
end T
def fh (x:Key):List Key->List Key
 |[]=>[x]
 |y::l=>if x=y then y::l else if x.lt y then x::y::l else y::fh x l
def eO (x:Key) (l:List Key):List Key:=l.filter λy=>decide (y≠x)
def gU (l:List Key):Prop:=l.Pairwise Key.lt
theorem EW {x k:Key} (h:x.lt k) (A B:List Key):fh x (A++k::B)=fh x A++k::B:=by
 induction A with
 |nil=>show(if x=k then k::B else if x.lt k then x::k::B else k::fh x B)=[x]++k::B;rw[z0 (Key.jK h),aj h];rfl
 |cons a A b=>
  show(if x=a then a::(A++k::B) else if x.lt a then x::a::(A++k::B) else a::fh x (A++k::B))=(if x=a then a::A else if x.lt a then x::a::A else a::fh x A)++k::B;split;·rfl
  ·split;·rfl
   ·rw[b];rfl
theorem EX {x k:Key} (h:k.lt x) (A B:List Key) (b:∀a∈A,a.lt k):fh x (A++k::B)=A++k::fh x B:=by
 induction A with
 |nil=>show(if x=k then k::B else if x.lt k then x::k::B else k::fh x B)=k::fh x B;rw[z0 (Key.jK h).symm,z0 (Key.lt_asymm h)]
 |cons a A d=>have c:=Key.lt_trans (b a (by simp)) h;show(if x=a then a::(A++k::B) else if x.lt a then x::a::(A++k::B) else a::fh x (A++k::B))=_;rw[z0 (Key.jK c).symm,z0 (Key.lt_asymm c),d (λy e=>b y (by simp[e]))];rfl
theorem EY (k:Key) (A B:List Key) (b:∀a∈A,a.lt k):fh k (A++k::B)=A++k::B:=by
 induction A with
 |nil=>show(if k=k then k::B else _)=_;rw[aj rfl];rfl
 |cons a A d=>have c:=b a (by simp);show(if k=a then a::(A++k::B) else if k.lt a then k::a::(A++k::B) else a::fh k (A++k::B))=_;rw[z0 (Key.jK c).symm,z0 (Key.lt_asymm c),d (λy e=>b y (by simp[e]))];rfl
theorem EZ {x y:Key} {l:List Key}:y∈fh x l↔y=x∨y∈l:=by
 induction l with
 |nil=>simp[fh]
 |cons a l c=>
  show y∈(if x=a then a::l else if x.lt a then x::a::l else a::fh x l)↔_;split;·next e=>subst e;simp
  ·split;·simp
   ·simp[c];constructor;·rintro(b|b|b)<;>simp[b]
    ·rintro(b|b|b)<;>simp[b]
theorem yq {x:Key} {l:List Key} (h:gU l):gU (fh x l):=by
 induction l with
 |nil=>simp[fh,gU]
 |cons a l e=>
  have c:=o7.1 h;show gU (if x=a then a::l else if x.lt a then x::a::l else a::fh x l);split;·exact h
  ·next f=>
   split;·next d=>
    refine o7.2 ⟨λy b=>?_,h⟩;rcases gu.1 b with rfl|b;·exact d
    ·exact Key.lt_trans d (c.1 y b)
   ·next g=>
    refine o7.2 ⟨λy b=>?_,e c.2⟩;rcases EZ.1 b with rfl|b;·exact Key.pj g f
    ·exact c.1 y b
theorem E0 {x:Key} {l:List Key} (h:gU l):gU (eO x l):=List.Pairwise.filter _ h
theorem n5 {x:Key} {l:List Key} (h:x∉l):eO x l=l:=by unfold eO;rw[List.filter_eq_self];intro a b;simp;exactλc=>h (c▸b)
theorem sb (x:Key) (A B:List Key):eO x (A++B)=eO x A++eO x B:=by unfold eO;rw[r1]
theorem sc (x:Key) (B:List Key):eO x (x::B)=eO x B:=by unfold eO;rw[List.filter_cons_of_neg];simp
theorem uJ {x k:Key} (h:k≠x) (B:List Key):eO x (k::B)=k::eO x B:=by unfold eO;rw[List.filter_cons_of_pos];simp[h]
theorem sd {A B:List Key} {k:Key} (h:gU (A++k::B)):gU A∧gU B∧(∀a∈A,a.lt k)∧(∀b∈B,k.lt b)∧∀a∈A,∀b∈B,a.lt b:=by obtain⟨f,g,d⟩:=List.pairwise_append.1 h;have e:=o7.1 g;exact⟨f,e.2,λa c=>d a c k (by simp),e.1,λa c b i=>d a c b (by simp[i])⟩
namespace T
theorem pk (t:T):t.cz.keys=t.keys:=by
 unfold cz;split
 ·split;·simp[keys]
  ·rfl
 ·rfl
theorem ql (t:T):t.split.keys=t.keys:=by
 unfold split;split
 ·split;·simp[keys]
  ·rfl
 ·rfl
theorem se {f:T->T} (a:∀t,(f t).keys=t.keys) (t:T):(t.right f).keys=t.keys:=by
 unfold right;split;·simp[keys,a]
 ·rfl
theorem E1 (t:T):t.lower.keys=t.keys:=by
 unfold lower;split
 ·split
  ·split;·split<;>simp[keys]
   ·simp[keys]
  ·rfl
 ·rfl
theorem sf (t:T):t.settled.keys=t.keys:=by unfold settled;rw[se ql,ql,se (se pk),se pk,pk,E1]
theorem rs (t:T):t.cz.blocks.Perm t.blocks:=by
 unfold cz;split
 ·split;·simp only[blocks];rename_i b a c g h d i lev e _;have f:(a::(c.blocks++b::(d.blocks++e.blocks))).Perm (a::b::(c.blocks++(d.blocks++e.blocks))):=List.Perm.cons _ List.perm_middle;refine f.trans ((List.Perm.swap _ _ _).trans ?_);simp[h2]
  ·exact List.Perm.refl _
 ·exact List.Perm.refl _
theorem nk (t:T):t.split.blocks.Perm t.blocks:=by
 unfold split;split
 ·split;·simp only[blocks];rename_i b l h lev a c i j d e k m f _;refine(List.Perm.swap _ _ _).trans (List.Perm.cons _ ?_);have g:(l.blocks++a::(c.blocks++d::(e.blocks++f.blocks))).Perm (a::(l.blocks++(c.blocks++d::(e.blocks++f.blocks)))):=List.perm_middle;refine List.Perm.trans ?_ g.symm;simp[h2]
  ·exact List.Perm.refl _
 ·exact List.Perm.refl _
theorem sg {f:T->T} (a:∀t,(f t).blocks.Perm t.blocks) (t:T):(t.right f).blocks.Perm t.blocks:=by
 unfold right;split;·simp only[blocks];exact List.Perm.cons _ (List.Perm.append_left _ (a _))
 ·exact List.Perm.refl _
theorem uK (t:T):t.lower.blocks=t.blocks:=by
 unfold lower;split
 ·split
  ·split;·split<;>simp[blocks]
   ·simp[blocks]
  ·rfl
 ·rfl
theorem yr (t:T):t.settled.blocks.Perm t.blocks:=by unfold settled;refine(sg nk _).trans ((nk _).trans ((sg (sg rs) _).trans ((sg rs _).trans ((rs _).trans ?_))));rw[uK]
theorem ys:∀a:T,a≠nil->∃l,a.keys=l++[a.last]
 |nil,h=>absurd rfl h
 |node b l k lev nil,_=>⟨l.keys,by simp[keys,last]⟩
 |node b l k lev (node rb rl rk rlev rr),_=>by obtain⟨m,c⟩:=ys (node rb rl rk rlev rr) (by simp);refine⟨l.keys++k::m,?_⟩;show l.keys++k::(node rb rl rk rlev rr).keys=l.keys++k::m++[(node rb rl rk rlev rr).last];rw[c];simp
theorem uL:∀a:T,a≠nil->∃l,a.keys=a.first::l
 |nil,h=>absurd rfl h
 |node b nil k lev r,_=>⟨r.keys,by simp[keys,first]⟩
 |node b (node lb c d e f) k lev r,_=>by obtain⟨m,g⟩:=uL (node lb c d e f) (by simp);refine⟨m++k::r.keys,?_⟩;show(node lb c d e f).keys++k::r.keys=(node lb c d e f).first::(m++k::r.keys);rw[g];simp
theorem yt (a:Nat) (x:Key) (t:T) (h:gU t.keys):(t.ins a x).1.keys=fh x t.keys∧(t.ins a x).2=decide (x∉t.keys):=by
 induction t with
 |nil=>exact⟨rfl,by simp[ins,keys]⟩
 |node b l k lev r m n=>
  obtain⟨o,p,e,q,s⟩:=sd h;unfold ins;by_cases c:x=k
  ·subst c;rw[aj rfl];refine⟨?_,?_⟩;·rw[ql,pk];exact(EY _ _ _ e).symm
   ·simp[keys]
  ·rw[z0 c];by_cases d:x.lt k
   ·rw[aj d];obtain⟨f,g⟩:=m o;refine⟨?_,?_⟩;·rw[ql,pk];show(l.ins a x).1.keys++k::r.keys=fh x (l.keys++k::r.keys);rw[EW d,f]
    ·show(l.ins a x).2=_;rw[g,decide_eq_decide];have:x∉r.keys:=λi=>Key.lt_asymm d (q x i);simp[keys,c,this]
   ·rw[z0 d];have j:=Key.pj d c;obtain⟨f,g⟩:=n p;refine⟨?_,?_⟩;·rw[ql,pk];show l.keys++k::(r.ins a x).1.keys=fh x (l.keys++k::r.keys);rw[EX j _ _ e,f]
    ·show(r.ins a x).2=_;rw[g,decide_eq_decide];have:x∉l.keys:=λi=>Key.lt_asymm j (e x i);simp[keys,c,this]
theorem yu (t:T) (x:Key) (h:gU t.keys):(t.del x).1.keys=eO x t.keys∧(t.del x).2=decide (x∈t.keys):=by
 induction t generalizing x with
 |nil=>exact⟨rfl,by simp[del,keys]⟩
 |node b l k lev r w y=>
  obtain⟨n,o,z,C,J⟩:=sd h;have F:∀{A B:List Key},(∀a∈A,a.lt k)->(∀a∈B,k.lt a)->eO k (A++k::B)=A++B:=by intro A B G H;rw[sb,sc,n5 (λc=>Key.lt_irrefl _ (G k c)),n5 (λc=>Key.lt_irrefl _ (H k c))]
  unfold del;by_cases j:x=k
  ·subst j;rw[aj rfl];refine⟨?_,?_⟩;·show _=eO x (l.keys++x::r.keys);rw[F z C];cases l with
    |node lb d e f i=>obtain⟨m,c⟩:=ys (node lb d e f i) (by simp);simp only;rw[sf];show((node lb d e f i).del (node lb d e f i).last).1.keys++(node lb d e f i).last::r.keys=_;rw[(w (node lb d e f i).last n).1];have q:eO (node lb d e f i).last (node lb d e f i).keys=m:=(by rw[c] at n⊢;have s:=(sd n).2.2.1;rw[sb,sc,n5 (λg=>Key.lt_irrefl _ (s _ g))];simp[eO]);rw[q,c,h2];rfl
    |nil=>
     cases r with
     |node rb rl rk rlev rr=>obtain⟨m,c⟩:=uL (node rb rl rk rlev rr) (by simp);simp only;rw[sf];show nil.keys++(node rb rl rk rlev rr).first::((node rb rl rk rlev rr).del (node rb rl rk rlev rr).first).1.keys=_;rw[(y (node rb rl rk rlev rr).first o).1];have q:eO (node rb rl rk rlev rr).first (node rb rl rk rlev rr).keys=m:=(by rw[c] at o⊢;have s:=(o7.1 o).1;rw[sc,n5 (λg=>Key.lt_irrefl _ (s _ g))]);rw[q,c]
     |nil=>simp[keys]
   ·have:x∈(node b l x lev r).keys:=(by simp[keys]);cases l with
    |node lb d e f i=>simp[this]
    |nil=>cases r<;>simp[this]
  ·rw[z0 j];by_cases p:x.lt k
   ·rw[aj p];obtain⟨u,v⟩:=w x n;have D:x∉r.keys:=λc=>Key.lt_asymm p (C x c);refine⟨?_,?_⟩;·rw[sf];show(l.del x).1.keys++k::r.keys=eO x (l.keys++k::r.keys);rw[sb,uJ (Ne.symm j),n5 D,u]
    ·show(l.del x).2=_;rw[v,decide_eq_decide];simp[keys,j,D]
   ·rw[z0 p];have I:=Key.pj p j;obtain⟨u,v⟩:=y x o;have E:x∉l.keys:=λc=>Key.lt_asymm I (z x c);refine⟨?_,?_⟩;·rw[sf];show l.keys++k::(r.del x).1.keys=eO x (l.keys++k::r.keys);rw[sb,uJ (Ne.symm j),n5 E,u]
    ·show(r.del x).2=_;rw[v,decide_eq_decide];simp[keys,j,E]
theorem uM (c:Nat) (x:Key) (t:T):(t.ins c x).1.blocks.Perm (if(t.ins c x).2=true then c::t.blocks else t.blocks):=by
 induction t with
 |nil=>exact List.Perm.refl _
 |node b l k lev r d e=>
  unfold ins;by_cases f:x=k;·rw[aj f];simp only[jD,if_false];exact(nk _).trans (rs _)
  ·rw[z0 f];by_cases g:x.lt k;·rw[aj g];refine((nk _).trans (rs _)).trans ?_;simp only;cases aT:(l.ins c x).2<;>rw[aT] at d<;>simp only[jD,if_false,if_true] at d⊢<;>rw[List.perm_iff_count] at d⊢<;>intro a<;>have:=d a<;>simp[blocks,List.count_cons,List.count_append] at this⊢<;>omega
   ·rw[z0 g];refine((nk _).trans (rs _)).trans ?_;simp only;cases aT:(r.ins c x).2<;>rw[aT] at e<;>simp only[jD,if_false,if_true] at e⊢<;>rw[List.perm_iff_count] at e⊢<;>intro a<;>have:=e a<;>simp[blocks,List.count_cons,List.count_append] at this⊢<;>omega
theorem uN (t:T) (x:Key):∃al,t.blocks.Perm (al++(t.del x).1.blocks):=by
 induction t generalizing x with
 |nil=>exact⟨[],List.Perm.refl _⟩
 |node b l k lev r g h=>
  have left:∀(c y:Key),∃al,(node b l k lev r).blocks.Perm (al++(settled (node b (l.del y).1 c lev r)).blocks):=by intro c y;obtain⟨al,d⟩:=g y;refine⟨al,List.Perm.trans ?_ (List.Perm.append_left al (yr _).symm)⟩;rw[List.perm_iff_count] at d⊢;intro a;have:=d a;simp[blocks,List.count_cons,List.count_append] at this⊢;omega
  have right:∀(c y:Key),∃al,(node b l k lev r).blocks.Perm (al++(settled (node b l c lev (r.del y).1)).blocks):=by intro c y;obtain⟨al,d⟩:=h y;refine⟨al,List.Perm.trans ?_ (List.Perm.append_left al (yr _).symm)⟩;rw[List.perm_iff_count] at d⊢;intro a;have:=d a;simp[blocks,List.count_cons,List.count_append] at this⊢;omega
  unfold del;by_cases e:x=k;·rw[aj e];cases l with
   |node lb i j m n=>exact left _ _
   |nil=>
    cases r with
    |node rb rl rk rlev rr=>exact right _ _
    |nil=>exact⟨[b],by simp[blocks]⟩
  ·rw[z0 e];by_cases f:x.lt k;·rw[aj f];exact left _ _
   ·rw[z0 f];exact right _ _
theorem sh (t:T):t.keys.length=t.size:=by
 induction t with
 |nil=>rfl
 |node b l k lev r a c=>simp[keys,size,a,c];omega
theorem si (t:T):t.blocks.length=t.size:=by
 induction t with
 |nil=>rfl
 |node b l k lev r a c=>simp[blocks,size,a,c];omega
theorem nm {a:Nat} {x:Key} {t:T} {y:Nat} (h:y∈(t.ins a x).1.blocks):y=a∨y∈t.blocks:=by
 have:=(uM a x t).mem_iff.1 h;split at this;·exact gu.1 this
 ·exact .inr this
theorem uO {a:Nat} {x:Key} {t:T} (h:t.blocks.Nodup) (b:a∉t.blocks):(t.ins a x).1.blocks.Nodup:=by
 apply(uM a x t).nodup_iff.2;split;·exact iT.2 ⟨b,h⟩
 ·exact h
theorem yv (a:Nat) (x:Key) (t:T):(t.ins a x).1.size<=t.size+1:=by
 rw[<-si,<-si,(uM a x t).length_eq];split;·exact bM _
 ·omega
theorem kc {x:Key} {t:T} {y:Nat} (h:y∈(t.del x).1.blocks):y∈t.blocks:=by obtain⟨al,a⟩:=uN t x;exact a.mem_iff.2 (List.mem_append_right _ h)
theorem qm {x:Key} {t:T} (h:t.blocks.Nodup):(t.del x).1.blocks.Nodup:=by obtain⟨al,a⟩:=uN t x;exact(List.nodup_append.1 (a.nodup_iff.1 h)).2.1
theorem sj (x:Key) (t:T):(t.del x).1.size<=t.size:=by obtain⟨al,a⟩:=uN t x;rw[<-si,<-si,a.length_eq,eZ];omega
theorem yw {a:Nat} {x k:Key} {l r:T} (h:x.lt k):(node b l k lev r).ins a x=(split (cz (node b (l.ins a x).1 k lev r)),(l.ins a x).2):=by show(if x=k then _ else if x.lt k then _ else _)=_;rw[z0 (Key.jK h),aj h]
theorem yx {a:Nat} {x k:Key} {l r:T} (h:k.lt x):(node b l k lev r).ins a x=(split (cz (node b l k lev (r.ins a x).1)),(r.ins a x).2):=by show(if x=k then _ else if x.lt k then _ else _)=_;rw[z0 (Key.jK h).symm,z0 (Key.lt_asymm h)]
theorem yy {a:Nat} {x:Key} {l r:T}:(node b l x lev r).ins a x=(split (cz (node b l x lev r)),false):=by show(if x=x then _ else if x.lt x then _ else _)=_;rw[aj rfl]
end T
def cM (n:Int):Int:=wrap64 n
def pn (a b:Int):Bool:=decide (bits .and J (bits .xor J a (cM (a+b))) (bits .xor J b (cM (a+b)))<0)
def po (a b:Int):Bool:=decide (bits .and J (bits .xor J a b) (bits .xor J a (cM (a-b)))<0)
def lO (a b:Int):Int×Bool:=if pn a b then(0,false) else(cM (a+b),true)
def mu (a b:Int):Int×Bool:=if po a b then(0,false) else(cM (a-b),true)
def kd (a b:Int):Int:=if pn a b then(if 0<b then 9223372036854775807 else-9223372036854775808) else cM (a+b)
def nn (a b:Int):Int:=if po a b then(if b<0 then 9223372036854775807 else-9223372036854775808) else cM (a-b)
def n9 (n a b:Int):Int:=if n<a then a else min n b
def h7 (own mn a:Int):Int:=max own (nn mn (n9 a 0 1099511627776))
def kB (v mn:Int):Int×Bool:=if(mu v mn).2 then((mu v mn).1,false) else(nn v mn,true)
def lP (a mn:Int):Int×Bool:=if(lO a mn).2 then((lO a mn).1,false) else(kd a mn,true)
def kC (v a b:Int):Int×Bool:=((lP (kB v a).1 b).1,(kB v a).2||(lP (kB v a).1 b).2)
variable {k x:Key} {r:T}
structure aI where
 id:Int
 wt:Nat
 v:Int
 rem:Nat deriving DecidableEq
def aI.key (e:aI):Key:=⟨e.v,e.id⟩
def la:aI:=⟨0,0,0,0⟩
def dn (e:aI):Array Value:=#[I J e.id,I ah (e.wt:Int),I J e.v,I ah (e.rem:Int)]
def fi (x:aI):List aI->List aI
 |[]=>[x]
 |y::l=>if x.key=y.key then y::l else if x.key.lt y.key then x::y::l else y::fi x l
def eP (k:Int) (l:List aI):List aI:=l.filter λe=>decide (e.id≠k)
def gV (k:Int) (l:List aI):Option aI:=l.find? λe=>decide (e.id=k)
def cK (k:Int) (l:List aI):Bool:=(gV k l).isSome
structure aD where
 es:List aI
 cur:Int
 mn:Int deriving DecidableEq
def kD:aD:=⟨[],-1,0⟩
def E2 (mn:Int):List aI->Int
 |[]=>mn
 |e::_=>max mn e.v
def aD.raise (q:aD):aD:={q with mn:=E2 q.mn q.es}
def lQ (w:Int):Bool:=decide (2<=w)&&decide (w<=262144)
def aD.dI (q:aD) (e:aI):Int:=if e.id<0 then 1 else if lQ e.wt=false then 4 else if e.wt<=e.rem then 1 else if cK e.id q.es then 6 else if q.es.length=128 then 3 else 0
def aD.put (q:aD) (e:aI):aD:=if q.dI e=0 then aD.raise {q with es:=fi e q.es} else q
def aD.e5 (q:aD) (k:Int):Int:=if cK k q.es then 0 else 12
def aD.er (q:aD) (k:Int):aI:=(gV k q.es).getD la
def aD.drop (q:aD) (k:Int):aD:=if cK k q.es then aD.raise {q with es:=eP k q.es,cur:=if q.cur=k then-1 else q.cur} else q
def aI.bV (e:aI) (w:Nat):aI:={e with rem:=e.rem*w/e.wt,wt:=w}
def aD.fP (q:aD) (k:Int) (w:Nat):Int:=if cK k q.es then(if lQ w then 0 else 4) else 12
def aD.bV (q:aD) (k:Int) (w:Nat):aD:=if q.fP k w=0 then {q with es:=q.es.map λe=>if e.id=k then e.bV w else e} else q
def aI.b3 (e:aI) (ns:Nat):aI:={e with v:=kd e.v (((e.rem+ns*1024)/e.wt:Nat):Int),rem:=(e.rem+ns*1024)%e.wt}
def aD.e6 (q:aD):Int:=if q.cur=-1 then 7 else 0
def aD.b3 (q:aD) (ns:Nat):aD:=if q.cur=-1 then q else match gV q.cur q.es with
 |none=>q
 |some e=>aD.raise {q with es:=fi (e.b3 ns) (eP q.cur q.es)}
def aD.first (q:aD):Option aI:=match q.es with
 |[]=>U
 |e::l=>if e.id=q.cur then l.head? else R e
def n_ (a b:aI) (c:Int):Bool:=decide (a.v<=kd b.v (n9 c 0 1099511627776))
def aD.pick (q:aD) (a:Int):aD:=match q.first with
 |none=>q
 |some o=>
  match gV q.cur q.es with
  |none=>{q with cur:=o.id}
  |some c=>if n_ c o a then q else {q with cur:=o.id}
def aD.yield (q:aD) (a:Int):aD:=match q.first,gV q.cur q.es with
 |some o,R c=>if n_ o c a then {q with cur:=o.id} else q.pick a
 |_,_=>q.pick a
theorem uP (x:aI) (l:List aI):(fi x l).map aI.key=fh x.key (l.map aI.key):=by
 induction l with
 |nil=>rfl
 |cons y l a=>
  show(if x.key=y.key then y::l else if x.key.lt y.key then x::y::l else y::fi x l).map aI.key=if x.key=y.key then y.key::l.map aI.key else if x.key.lt y.key then x.key::y.key::l.map aI.key else y.key::fh x.key (l.map aI.key);split;·rfl
  ·split;·rfl
   ·simp[a]
theorem oa {x e:aI} {l:List aI} (h:x.key∉l.map aI.key):e∈fi x l↔e=x∨e∈l:=by
 induction l with
 |nil=>simp[fi]
 |cons y l c=>
  have d:x.key≠y.key:=λb=>h (by simp[b]);have f:x.key∉l.map aI.key:=λb=>h (by simp only[j9,gu];exact .inr b);show e∈(if x.key=y.key then y::l else if x.key.lt y.key then x::y::l else y::fi x l)↔_;rw[z0 d];split;·simp
  ·rw[gu,c f,gu];constructor
   ·rintro(a|a|a);·exact .inr (.inl a)
    ·exact .inl a
    ·exact .inr (.inr a)
   ·rintro(a|a|a);·exact .inr (.inl a)
    ·exact .inl a
    ·exact .inr (.inr a)
theorem uQ {x:aI} {l:List aI} (h:x.key∉l.map aI.key):(fi x l).Perm (x::l):=by
 induction l with
 |nil=>exact List.Perm.refl _
 |cons y l b=>
  have c:x.key≠y.key:=λa=>h (by simp[a]);have d:x.key∉l.map aI.key:=λa=>h (by simp only[j9,gu];exact .inr a);show(if x.key=y.key then y::l else if x.key.lt y.key then x::y::l else y::fi x l).Perm _;rw[z0 c];split;·exact List.Perm.refl _
  ·exact(List.Perm.cons y (b d)).trans (List.Perm.swap x y l)
theorem ld {k:Int} {l:List aI} {e:aI} (h:gV k l=R e):e∈l∧e.id=k:=by unfold gV at h;exact⟨List.mem_of_find?_eq_some h,by simpa using List.find?_some h⟩
theorem yz {k:Int} {l:List aI}:gV k l=U↔∀e∈l,e.id≠k:=by unfold gV;rw[List.find?_eq_none];simp
theorem uR {l:List aI} (h:(l.map (·.id)).Nodup) {a b:aI} (c:a∈l) (g:b∈l) (e:a.id=b.id):a=b:=by
 induction l with
 |nil=>cases c
 |cons y l i=>
  rw[j9,iT] at h;rcases gu.1 c with rfl|d<;>rcases gu.1 g with rfl|f;·rfl
  ·exact absurd (e0.2 ⟨b,f,e.symm⟩) h.1
  ·exact absurd (e0.2 ⟨a,d,e⟩) h.1
  ·exact i h.2 d f
theorem qn {l:List aI} (h:(l.map (·.id)).Nodup) {e:aI} (b:e∈l):gV e.id l=R e:=by
 cases a:gV e.id l with
 |none=>exact absurd rfl (yz.1 a e b)
 |some d=>rw[uR h (ld a).1 b (ld a).2]
theorem dG {k:Int} {l:List aI}:cK k l=true↔∃a∈l,a.id=k:=by
 unfold cK;cases b:gV k l with
 |none=>simp only[Option.isSome_none,jD,false_iff];rintro⟨a,c,e⟩;exact yz.1 b a c e
 |some d=>simp only[Option.isSome_some,true_iff];exact⟨d,(ld b).1,(ld b).2⟩
theorem qo {l:List aI} (h:(l.map (·.id)).Nodup) {e:aI} (b:e∈l):(eP e.id l).map aI.key=eO e.key (l.map aI.key):=by
 unfold eP eO;rw[List.filter_map];congr 1;apply List.filter_congr;intro y c;simp only[Function.comp];by_cases a:y.id=e.id;·rw[uR h c b a];simp
 ·have:y.key≠e.key:=λr=>a (by have:=congrArg Key.id r;exact this);simp[a,this]
theorem hs {k:Int} {l:List aI} {e:aI}:e∈eP k l↔e∈l∧e.id≠k:=by unfold eP;simp
theorem mv {l:List aI} {k:Int} {x:aI} (b:x.id=k) (h:∀a∈l,a.id≠k):x.key∉l.map aI.key:=by intro c;obtain⟨y,d,a⟩:=e0.1 c;exact h y d ((congrArg Key.id a).trans b)
structure aD.Ok (q:aD):Prop where
 ids:(q.es.map (·.id)).Nodup
 sorted:gU (q.es.map aI.key)
 rt:∀e∈q.es,0<=e.id∧2<=e.wt∧e.wt<=262144∧e.rem<e.wt
 cA:q.es.length<=128
 cur:q.cur=-1∨∃e∈q.es,e.id=q.cur
theorem yA:kD.Ok:=⟨by simp[kD],by simp[kD,gU],by simp[kD],by simp[kD],.inl rfl⟩
theorem aD.Ok.raise {q:aD} (h:q.Ok):q.raise.Ok:=⟨h.ids,h.sorted,h.rt,h.cA,h.cur⟩
theorem yB {q:aD} (h:q.Ok) {e:aI} (f:∀a∈q.es,a.id≠e.id) (i:0<=e.id∧2<=e.wt∧e.wt<=262144∧e.rem<e.wt) (j:q.es.length<128):aD.Ok {q with es:=fi e q.es}:=by
 have d:=mv rfl f;have g:=uQ d;refine⟨?_,?_,?_,?_,?_⟩;·refine(g.map _).nodup_iff.2 ?_;rw[j9,iT];refine⟨λq=>?_,h.ids⟩;obtain⟨a,b,e⟩:=e0.1 q;exact f a b e
 ·show gU ((fi e q.es).map aI.key);rw[uP];exact yq h.sorted
 ·intro a b;rcases(oa d).1 b with rfl|b;·exact i
  ·exact h.rt a b
 ·show(fi e q.es).length<=128;rw[g.length_eq];simp;omega
 ·rcases h.cur with c|⟨a,b,c⟩;·exact .inl c
  ·exact .inr ⟨a,(oa d).2 (.inr b),c⟩
theorem yC {q:aD} (h:q.Ok) (k c:Int) (d:c=-1∨∃a∈q.es,a.id=c∧a.id≠k):aD.Ok {q with es:=eP k q.es,cur:=c}:=by
 refine⟨?_,?_,?_,?_,?_⟩;·exact List.Nodup.sublist (List.filter_sublist.map _) h.ids
 ·exact List.Pairwise.sublist (List.filter_sublist.map _) h.sorted
 ·intro a b;exact h.rt a (hs.1 b).1
 ·exact cJ (o4 _ _) h.cA
 ·rcases d with c|⟨a,b,e,f⟩;·exact .inl c
  ·exact .inr ⟨a,hs.2 ⟨b,f⟩,e⟩
theorem qp {w:Int}:lQ w=true↔2<=w∧w<=262144:=by unfold lQ;simp
theorem yD {q:aD} {e:aI} (h:q.dI e=0):0<=e.id∧2<=e.wt∧e.wt<=262144∧e.rem<e.wt∧cK e.id q.es=false∧q.es.length≠128:=by
 unfold aD.dI at h;split at h;·omega
 ·split at h;·omega
  ·split at h;·omega
   ·split at h;·omega
    ·split at h;·omega
     ·rename_i f a g b c;have d:lQ e.wt=true:=(by simpa using a);have:=qp.1 d;exact⟨by omega,by omega,by omega,by omega,by simpa using b,c⟩
theorem qq {k:Int} {l:List aI} (h:cK k l=false):∀a∈l,a.id≠k:=λa b c=>by have:=dG.2 ⟨a,b,c⟩;rw[h] at this;cases this
theorem aD.Ok.put {q:aD} (h:q.Ok) (e:aI):(q.put e).Ok:=by
 unfold aD.put;split;·rename_i a;obtain⟨b,c,d,f,g,i⟩:=yD a;have:=h.cA;exact(yB h (qq g) ⟨b,c,d,f⟩ (by omega)).raise
 ·exact h
theorem aD.Ok.drop {q:aD} (h:q.Ok) (k:Int):(q.drop k).Ok:=by
 unfold aD.drop;split
 ·refine(yC h k _ ?_).raise;split;·exact .inl rfl
  ·rename_i a;rcases h.cur with c|⟨b,d,c⟩;·exact .inl c
   ·exact .inr ⟨b,d,c,by rw[c];exact a⟩
 ·exact h
theorem aD.Ok.bV {q:aD} (h:q.Ok) (k:Int) (w:Nat):(q.bV k w).Ok:=by
 unfold aD.bV;split
 ·rename_i b;have f:2<=w∧w<=262144:=by
   unfold aD.fP at b;split at b
   ·split at b;·rename_i j;have:=qp.1 j;omega
    ·omega
   ·omega
  have i:∀a:aI,(if a.id=k then a.bV w else a).id=a.id:=λa=>by split<;>rfl
  have l:∀a:aI,(if a.id=k then a.bV w else a).key=a.key:=λa=>by split<;>rfl
  refine⟨?_,?_,?_,?_,?_⟩;·show((q.es.map _).map _).Nodup;rw[List.map_map,show((λa:aI=>a.id)∘λa=>if a.id=k then a.bV w else a)=λa=>a.id from funext i];exact h.ids
  ·show gU ((q.es.map _).map _);rw[List.map_map,show(aI.key∘λa=>if a.id=k then a.bV w else a)=aI.key from funext l];exact h.sorted
  ·intro a d;obtain⟨e,m,rfl⟩:=e0.1 d;have g:=h.rt e m;split;·refine⟨g.1,f.1,f.2,?_⟩;show e.rem*w/e.wt<w;rw[Nat.div_lt_iff_lt_mul (by omega),Nat.mul_comm w];exact Nat.mul_lt_mul_of_pos_right g.2.2.2 (by omega)
   ·exact g
  ·simpa using h.cA
  ·rcases h.cur with c|⟨a,d,c⟩;·exact .inl c
   ·exact .inr ⟨_,e0.2 ⟨a,d,rfl⟩,(i a).trans c⟩
 ·exact h
theorem aD.Ok.b3 {q:aD} (h:q.Ok) (ns:Nat):(q.b3 ns).Ok:=by
 unfold aD.b3;split;·exact h
 ·split;·exact h
  ·rename_i l e i;obtain⟨d,b⟩:=ld i;have g:=h.rt e d;have a:=yC h q.cur (-1) (.inl rfl);have j:(eP q.cur q.es).length<128:=(by have m:(eP q.cur q.es).length<q.es.length:=(by unfold eP;rw[List.length_filter_lt_length_iff_exists];exact⟨e,d,by simp[b]⟩);have:=h.cA;omega);have c:=yB a (e:=e.b3 ns) (λf a=>by show f.id≠e.id;rw[b];exact(hs.1 a).2) ⟨g.1,g.2.1,g.2.2.1,Nat.mod_lt _ (by omega)⟩ j;exact aD.Ok.raise (q:={q with es:=fi (e.b3 ns) (eP q.cur q.es)}) ⟨c.ids,c.sorted,c.rt,c.cA,.inr ⟨e.b3 ns,(oa (x:=e.b3 ns) (mv (k:=q.cur) (x:=e.b3 ns) b (λf a=>(hs.1 a).2))).2 (.inl rfl),b⟩⟩
theorem aD.ob {q:aD} {o:aI} (h:q.first=R o):o∈q.es:=by
 unfold aD.first at h;split at h;·cases h
 ·rename_i b l a;rw[a];split at h;·exact gD _ (List.mem_of_mem_head? h)
  ·rw[Option.some.inj h];exact ey
theorem aD.Ok.uS {q:aD} (h:q.Ok) {o:aI} (a:o∈q.es):aD.Ok {q with cur:=o.id}:=⟨h.ids,h.sorted,h.rt,h.cA,.inr ⟨o,a,rfl⟩⟩
theorem aD.Ok.pick {q:aD} (h:q.Ok) (g:Int):(q.pick g).Ok:=by
 unfold aD.pick;split;·exact h
 ·rename_i o a;split;·exact h.uS (aD.ob a)
  ·split;·exact h
   ·exact h.uS (aD.ob a)
theorem aD.Ok.yield {q:aD} (h:q.Ok) (g:Int):(q.yield g).Ok:=by
 unfold aD.yield;split
 ·rename_i o c a b;split;·exact h.uS (aD.ob a)
  ·exact h.pick g
 ·exact h.pick g
variable {e:aI}
structure aL where
 up:Int
 deep:Int
 q:aD
 own:aI
 on:Bool
 stopped:Bool deriving DecidableEq
structure ad where
 b4:Int
 bI:Int
 gs:List (Option aL) deriving DecidableEq
def ad.at (h:ad) (g:Int):Option aL:=if g<0 then U else h.gs.getD g.toNat U
def ad.set (h:ad) (g:Int) (x:Option aL):ad:={h with gs:=h.gs.set g.toNat x}
def ad.linked (h:ad) (g:Int):Option aL:=if g=0 then U else h.at g
def kE:aL:=⟨-1,0,kD,la,false,false⟩
def h0 (a b:Int):ad:=⟨a,b,R kE::gR 31 U⟩
def ad.gw (h:ad) (g parent:Int):Int:=match h.at parent with
 |none=>1
 |some up=>if g<1∨32<=g then 1 else if(h.at g).isSome then 6 else if up.deep=8 then 5 else 0
def jL (g parent deep:Int):aL:=⟨parent,deep,kD,⟨2*g+1,1024,0,0⟩,false,false⟩
def ad.link (h:ad) (g parent:Int):ad:=if h.gw g parent=0 then match h.at parent with
 |none=>h
 |some up=>h.set g (R (jL g parent (up.deep+1))) else h
def ad.under (h:ad):Nat->Int->Int->Bool
 |0,_,_=>false
 |n+1,g,top=>if g=-1 then false else if g=top then true else match h.at g with
  |none=>false
  |some G=>h.under n G.up top
def ad.di (h:ad) (g top:Int):Bool:=h.under 10 g top
def ad.below (h:ad) (g:Int):List Int:=((gh 32).map λi:Nat=>(i:Int)).filter λi=>(h.at i).isSome&&h.di i g
def ad.busy (h:ad) (i:Int):Bool:=match h.at i with|none=>false|some G=>!G.q.es.isEmpty
def ad.fE (h:ad) (i:Int):Int:=match h.at i with|none=>0|some G=>G.deep
def ad.kF (h:ad) (l:List Int):Int:=l.foldl (λd i=>max d (h.fE i)) 0
def ad.eg (h:ad) (g parent:Int):Int:=match h.linked g,h.at parent with
 |some x,R up=>if h.di parent g then 10 else if(h.below g).any h.busy then 6 else if 8<h.kF (h.below g)+(up.deep+1-x.deep) then 5 else 0
 |_,_=>1
def ad.minOf (h:ad) (i:Int):Int:=match h.at i with|none=>0|some G=>G.q.mn
def ad.fp (h:ad) (a:Int):List Int->ad
 |[]=>h
 |i::l=>
  match h.at i with
  |none=>h.fp a l
  |some G=>(h.set i (R {G with deep:=G.deep+a})).fp a l
def ad.move (h:ad) (g parent:Int):ad:=if h.eg g parent=0 then match h.linked g,h.at parent with
 |some x,R up=>
  let h':=h.fp (up.deep+1-x.deep) (h.below g);match h'.at g with
  |none=>h'
  |some y=>h'.set g (R {y with own:={y.own with v:=(kC y.own.v (h.minOf y.up) (h.minOf parent)).1},up:=parent})
 |_,_=>h else h
def ad.iZ (h:ad) (g:Int):Int:=match h.linked g with
 |none=>1
 |some x=>if h.gs.any (λy=>match y with|none=>false|some y=>decide (y.up=g)) then 6 else if x.q.es.isEmpty then 0 else 6
def ad.unlink (h:ad) (g:Int):ad:=if h.iZ g=0 then h.set g U else h
def aL.fQ (x:aL):Bool:=!x.stopped&&!x.q.es.isEmpty
def ad.settle:Nat->ad->Int->ad
 |0,h,_=>h
 |n+1,h,g=>
  match h.at g with
  |none=>h
  |some x=>if x.up=-1 then h else match h.at x.up with
   |none=>h
   |some u=>if x.fQ=x.on then h else if x.fQ=true then ad.settle n ((h.set g (R {x with own:={x.own with v:=h7 x.own.v u.q.mn h.b4},on:=true})).set x.up (R {u with q:=u.q.put {x.own with v:=h7 x.own.v u.q.mn h.b4}})) x.up else ad.settle n ((h.set g (R {x with own:=u.q.er (2*g+1),on:=false})).set x.up (R {u with q:=u.q.drop (2*g+1)})) x.up
def gW (n:Int):Bool:=decide (0<=n)&&decide (n<64)
def ad.dI (h:ad) (g:Int) (e:aI):Int:=match h.at g with
 |none=>1
 |some x=>if gW e.id=false then 1 else x.q.dI {e with id:=e.id*2}
def ad.put (h:ad) (g:Int) (e:aI):ad:=if h.dI g e=0 then match h.at g with
 |none=>h
 |some x=>ad.settle 10 (h.set g (R {x with q:=x.q.put {e with id:=e.id*2}})) g else h
def ad.e5 (h:ad) (g task:Int):Int:=match h.at g with
 |none=>1
 |some x=>if gW task=false then 1 else x.q.e5 (2*task)
def ad.er (h:ad) (g task:Int):aI:=if h.e5 g task=0 then match h.at g with
 |none=>la
 |some x=>{x.q.er (2*task) with id:=task} else la
def ad.drop (h:ad) (g task:Int):ad:=if h.e5 g task=0 then match h.at g with
 |none=>h
 |some x=>ad.settle 10 (h.set g (R {x with q:=x.q.drop (2*task)})) g else h
def ad.e7 (h:ad) (g task:Int) (w:Nat):Int:=match h.at g with
 |none=>1
 |some x=>if gW task=false then 1 else x.q.fP (2*task) w
def ad.nice (h:ad) (g task:Int) (w:Nat):ad:=match h.at g with
 |none=>h
 |some x=>if gW task=false then h else h.set g (R {x with q:=x.q.bV (2*task) w})
def ad.fP (h:ad) (g:Int) (w:Nat):Int:=match h.linked g with
 |none=>1
 |some x=>if w<2∨262144<w then 4 else if x.on then(match h.at x.up with|none=>0|some u=>u.q.fP (2*g+1) w) else 0
def ad.bV (h:ad) (g:Int) (w:Nat):ad:=match h.linked g with
 |none=>h
 |some x=>if w<2∨262144<w then h else if x.on then(match h.at x.up with|none=>h|some u=>h.set x.up (R {u with q:=u.q.bV (2*g+1) w})) else h.set g (R {x with own:=x.own.bV w})
def ad.stop (h:ad) (g:Int) (is:Bool):ad:=match h.linked g with
 |none=>h
 |some x=>ad.settle 10 (h.set g (R {x with stopped:=is})) g
def ad.gF:Nat->ad->Int->ad×Int
 |0,h,_=>(h,-1)
 |n+1,h,g=>
  match h.at g with
  |none=>(h,-1)
  |some x=>if(x.q.pick h.bI).cur<0∨(x.q.pick h.bI).cur%2=0 then(h.set g (R {x with q:=x.q.pick h.bI}),(x.q.pick h.bI).cur) else ad.gF n (h.set g (R {x with q:=x.q.pick h.bI})) ((x.q.pick h.bI).cur/2)
def oc (n:Int):Int:=if n<0 then-1 else n/2
def ad.pick (h:ad):ad:=(ad.gF 10 h 0).1
def ad.lR (h:ad):Int:=oc (ad.gF 10 h 0).2
def ad.cF (h:ad):Nat->Int->List Int×Int
 |0,_=>([],-1)
 |n+1,g=>
  match h.at g with
  |none=>([],-1)
  |some x=>if x.q.cur<0∨x.q.cur%2=0 then([g],x.q.cur) else(g::(h.cF n (x.q.cur/2)).1,(h.cF n (x.q.cur/2)).2)
def ad.running (h:ad):Int:=oc (h.cF 10 0).2
def ad.yield (h:ad):ad:=if h.running=-1 then h.pick else match(h.cF 10 0).1.getLast? with
 |none=>h.pick
 |some g=>
  match h.at g with
  |none=>h.pick
  |some x=>(h.set g (R {x with q:=x.q.yield h.bI})).pick
def ad.yielded (h:ad):Int:=if h.running=-1 then h.lR else match(h.cF 10 0).1.getLast? with
 |none=>h.lR
 |some g=>
  match h.at g with
  |none=>h.lR
  |some x=>(h.set g (R {x with q:=x.q.yield h.bI})).lR
def ad.dU (ns:Nat):List Int->ad->ad
 |[],h=>h
 |g::l,h=>
  match h.at g with
  |none=>ad.dU ns l h
  |some x=>ad.dU ns l (h.set g (R {x with q:=x.q.b3 ns}))
def ad.e6 (h:ad) (ns:Nat):Int:=if h.running=-1 then 7 else if 1000000000<ns then 8 else 0
def ad.b3 (h:ad) (ns:Nat):ad:=if h.e6 ns=0 then ad.dU ns (h.cF 10 0).1 h else h
theorem ad.dp {h:ad} {g:Int} {G:aL} (e:h.at g=R G):0<=g∧g.toNat<h.gs.length∧h.gs[g.toNat]?=R (R G):=by
 unfold ad.at at e;split at e;·cases e
 ·rename_i b;rw[dD] at e;cases a:h.gs[g.toNat]? with
  |none=>rw[a] at e;cases e
  |some y=>rw[a] at e;simp only[j8] at e;exact⟨by omega,(bE.1 a).1,by rw[e]⟩
theorem ad.qs {h:ad} {g k:Int} {x:Option aL} (c:0<=g) (b:g.toNat<h.gs.length):(h.set g x).at k=if k=g then x else h.at k:=by
 unfold ad.at ad.set;dsimp only;by_cases e:k=g;·subst e;rw[z0 (by omega),aj rfl,dD,cZ b];rfl
 ·rw[z0 e];by_cases a:k<0;·rw[aj a,aj a]
  ·rw[z0 a,z0 a,dD,dD,dK (by omega)]
theorem ad.md (h:ad) (g:Int) (x:Option aL):(h.set g x).gs.length=h.gs.length:=by unfold ad.set;simp
def cP (f:Int->Option aL) (g:Int) (x:Option aL) (k:Int):Option aL:=if k=g then x else f k
theorem ad.dq {h:ad} {g:Int} {x:Option aL} {G:aL} (e:h.at g=R G):(h.set g x).at=cP h.at g x:=by funext k;have:=ad.dp e;rw[ad.qs this.1 this.2.1];rfl
def jM (g:Int) (e:aI):Prop:=e.id=2*g+1∧2<=e.wt∧e.wt<=262144∧e.rem<e.wt
def qt (n:Int):Prop:=∃i:Int,0<=i∧i<64∧n=2*i
structure c_ (f:Int->Option aL) (b:Int):Prop where
 lo:∀g G,f g=R G->0<=g∧g<32
 root:∃r,f 0=R r∧r.up=-1∧r.deep=0
 up:∀g G,f g=R G->g≠0->∃b5,f G.up=R b5∧G.deep=b5.deep+1
 deep:∀g G,f g=R G->0<=G.deep∧G.deep<=8
 q:∀g G,f g=R G->G.q.Ok
 ids:∀g G,f g=R G->∀e∈G.q.es,qt e.id∨∃c ar,e.id=2*c+1∧f c=R ar∧c≠0∧ar.up=g∧ar.on=true
 own:∀g G,f g=R G->g≠0->jM g G.own
 on:∀g G,f g=R G->g≠0->G.on=true->∃b5,f G.up=R b5∧cK (2*g+1) b5.q.es=true
 st:∀g G,f g=R G->g≠0->g≠b->G.on=G.fQ
theorem uT:∀(n:Nat) (l:List Nat),l.Nodup->(∀x∈l,x<n)->l.length<=n
 |0,l,_,h=>by
  cases l with
  |nil=>simp
  |cons a l=>exact absurd (h a ey) (by omega)
 |n+1,l,c,h=>by
  by_cases d:n∈l;·have f:=uT n (l.erase n) (c.erase n) (λx b=>by have:=(c.mem_erase_iff).1 b;have:=h x this.2;omega);rw[List.length_erase_of_mem d] at f;have:=List.length_pos_of_mem d;omega
  ·have:=uT n l c (λx b=>by have:=h x b;have:x≠n:=λe=>d (e▸b);omega);omega
theorem c_.room {f:Int->Option aL} {b g:Int} {G:aL} (h:c_ f b) (k:f g=R G):G.q.es.length≠128:=by
 have m:=h.q g G k;have d:∀e∈G.q.es,0<=e.id∧e.id<127:=by
  intro e j;rcases h.ids g G k e j with⟨i,n,l,u⟩|⟨c,ar,n,l,_⟩;·omega
  ·have:=h.lo c ar l;omega
 have o:(G.q.es.map λe=>e.id.toNat).Nodup:=by have:=m.ids;rw[p2,List.pairwise_map] at this⊢;refine this.imp_of_mem ?_;intro a p r s v;have:=d a r;have:=d p s;omega
 have:=uT 127 _ o (by intro x t;obtain⟨e,j,rfl⟩:=e0.1 t;have:=d e j;omega);simp only[ep] at this;omega
theorem c_.mw {f:Int->Option aL} {b g:Int} {G:aL} (h:c_ f b) (c:f g=R G) (h0:g≠0):G.up≠g∧0<=G.up:=by obtain⟨d,a,i⟩:=h.up g G c h0;refine⟨λe=>?_,(h.lo _ _ a).1⟩;rw[e,c] at a;cases a;omega
theorem c_.np {f:Int->Option aL} {b g:Int} {G:aL} (h:c_ f b) (a:f g=R G):G.up=-1↔g=0:=by
 constructor;·intro e;refine Decidable.byContradiction λd=>?_;have:=(h.mw a d).2;omega
 ·rintro rfl;obtain⟨r,c,i,_⟩:=h.root;rw[a] at c;cases c;exact i
variable {S Z:Nat->Prop} {G:aL} {f:Int->Option aL} {P:List (List Nat)} {V:List (Int×Int)->ab->Prop} {L:List ByteArray}
theorem eV (f:Int->Option aL) (g:Int) (x:Option aL):cP f g x g=x:=by unfold cP;rw[aj rfl]
theorem gi {g k:Int} (x:Option aL) (h:k≠g):cP f g x k=f k:=by unfold cP;rw[z0 h]
theorem ht {g k:Int} {x:Option aL} (h:cP f g x k=R G):(k=g∧x=R G)∨(k≠g∧f k=R G):=by
 unfold cP at h;split at h;·exact .inl ⟨by assumption,h⟩
 ·exact .inr ⟨by assumption,h⟩
theorem aD.E3 {q:aD} (h:q.dI e=0):(q.put e).es=fi e q.es:=by unfold aD.put;rw[aj h];rfl
theorem aD.lS {q:aD} {d:aI} (h:q.dI e=0):d∈(q.put e).es↔d=e∨d∈q.es:=by rw[aD.E3 h];exact oa (mv rfl (qq (yD h).2.2.2.2.1))
theorem aD.E4 (q:aD) (k:Int):(q.drop k).es=eP k q.es:=by
 unfold aD.drop;split;·rfl
 ·rename_i a;unfold eP;rw[List.filter_eq_self.2];intro e b;have:=qq (by simpa using a) e b;simpa using this
theorem aD.mx {q:aD} {k:Int} {d:aI}:d∈(q.drop k).es↔d∈q.es∧d.id≠k:=by rw[aD.E4];exact hs
theorem c_.queue {b y g:Int} {l:aD} (h:c_ f b) (m:f g=R G) (F:l.Ok) (H:∀e∈l.es,qt e.id∨∃i∈G.q.es,i.id=e.id) (I:∀i∈G.q.es,i.id%2=1->cK i.id l.es=true) (C:b=0∨b=y) (J:g=y∨(l.es.isEmpty=G.q.es.isEmpty)):c_ (cP f g (R {G with q:=l})) y:=by
 have v:∀k a,f k=R a->∃w,cP f g (R {G with q:=l}) k=R w∧w.up=a.up∧w.deep=a.deep∧w.on=a.on:=by
  intro k a d;by_cases e:k=g;·subst e;rw[m] at d;cases d;exact⟨_,eV _ _ _,rfl,rfl,rfl⟩
  ·exact⟨a,(gi _ e).trans d,rfl,rfl,rfl⟩
 refine⟨?_,?_,?_,?_,?_,?_,?_,?_,?_⟩
 ·intro k a d;rcases ht d with⟨rfl,e⟩|⟨_,e⟩;·exact h.lo _ _ m
  ·exact h.lo _ _ e
 ·obtain⟨r,K,L,M⟩:=h.root;obtain⟨N,e,t,o,_⟩:=v 0 r K;exact⟨N,e,t.trans L,o.trans M⟩
 ·intro k a d j;rcases ht d with⟨rfl,e⟩|⟨_,e⟩;·cases e;obtain⟨s,p,n⟩:=h.up _ _ m j;obtain⟨z,e,t,o,_⟩:=v _ _ p;exact⟨z,e,by show G.deep=_;rw[o];exact n⟩
  ·obtain⟨s,p,n⟩:=h.up _ _ e j;obtain⟨z,e,t,o,_⟩:=v _ _ p;exact⟨z,e,by rw[o];exact n⟩
 ·intro k a d;rcases ht d with⟨rfl,e⟩|⟨_,e⟩;·cases e;exact(h.deep _ _ m:)
  ·exact h.deep _ _ e
 ·intro k a d;rcases ht d with⟨rfl,e⟩|⟨_,e⟩;·cases e;exact F
  ·exact h.q _ _ e
 ·have u:∀k a,f k=R a->∀i∈a.q.es,qt i.id∨∃c ar,i.id=2*c+1∧cP f g (R {G with q:=l}) c=R ar∧c≠0∧ar.up=k∧ar.on=true:=by
   intro k a d i n;rcases h.ids k a d i n with A|⟨c,ar,t,o,O,P,Q⟩;·exact .inl A
   ·obtain⟨S,e,T,X,U⟩:=v _ _ o;exact .inr ⟨c,S,t,e,O,T.trans P,U.trans Q⟩
  intro k a d e D;rcases ht d with⟨rfl,q⟩|⟨_,q⟩
  ·cases q;rcases H e D with A|⟨i,n,B⟩;·exact .inl A
   ·have:=u _ _ m i n;rw[B] at this;exact this
  ·exact u _ _ q e D
 ·intro k a d j;rcases ht d with⟨rfl,e⟩|⟨_,e⟩;·cases e;exact(h.own _ _ m j:)
  ·exact h.own _ _ e j
 ·have u:∀k a,f k=R a->k≠0->a.on=true->∃s,cP f g (R {G with q:=l}) a.up=R s∧cK (2*k+1) s.q.es=true:=by
   intro k a d j x;obtain⟨s,p,E⟩:=h.on k a d j x;by_cases e:a.up=g;·rw[e,m] at p;cases p;obtain⟨i,n,B⟩:=dG.1 E;refine⟨{G with q:=l},by rw[e];exact eV _ _ _,?_⟩;have:=I i n (by omega);rw[B] at this;exact this
   ·exact⟨s,(gi _ e).trans p,E⟩
  intro k a d j x;rcases ht d with⟨rfl,e⟩|⟨_,e⟩;·cases e;exact(u _ _ m j x:)
  ·exact u _ _ e j x
 ·intro k a d j V;rcases ht d with⟨rfl,e⟩|⟨_,e⟩;·cases e;have W:=J.resolve_left V;have:=h.st _ _ m j (by rcases C with e|e<;>omega);show G.on=(!G.stopped&&!l.es.isEmpty);rw[W,this];rfl
  ·exact h.st _ _ e j (by rcases C with e|e<;>omega)
theorem c_.nr {x:Int} {d m:aL} {own':aI} {j:aD} {o:Bool} (h:c_ f x) (n:f x=R d) (h0:x≠0) (u:f d.up=R m) (N:d.fQ=o) (O:jM x own') (P:j.Ok) (Q:∀e∈j.es,(e.id=2*x+1∧o=true)∨∃g∈m.q.es,g.id=e.id∧g.id≠2*x+1) (S:∀g∈m.q.es,g.id≠2*x+1->cK g.id j.es=true) (T:o=true->cK (2*x+1) j.es=true):c_ (cP (cP f x (R {d with own:=own',on:=o})) d.up (R {m with q:=j})) d.up:=by
 have F:=(h.mw n h0).1;have v:∀k a,cP (cP f x (R {d with own:=own',on:=o})) d.up (R {m with q:=j}) k=R a->(k=d.up∧a={m with q:=j})∨(k=x∧a={d with own:=own',on:=o})∨(k≠d.up∧k≠x∧f k=R a):=by
  intro k a b;rcases ht b with⟨e,q⟩|⟨e,q⟩;·exact .inl ⟨e,(Option.some.inj q).symm⟩
  ·rcases ht q with⟨p,q⟩|⟨p,q⟩;·exact .inr (.inl ⟨p,(Option.some.inj q).symm⟩)
   ·exact .inr (.inr ⟨e,p,q⟩)
 have G:∀k a,f k=R a->∃D,cP (cP f x (R {d with own:=own',on:=o})) d.up (R {m with q:=j}) k=R D∧D.up=a.up∧D.deep=a.deep∧(k≠x->D.on=a.on):=by
  intro k a b;by_cases e:k=d.up;·subst e;rw[u] at b;cases b;exact⟨_,eV _ _ _,rfl,rfl,λ_=>rfl⟩
  ·by_cases p:k=x;·subst p;rw[n] at b;cases b;exact⟨_,(gi _ e).trans (eV _ _ _),rfl,rfl,λq=>absurd rfl q⟩
   ·exact⟨a,(gi _ e).trans ((gi _ p).trans b),rfl,rfl,λ_=>rfl⟩
 have J:cP (cP f x (R {d with own:=own',on:=o})) d.up (R {m with q:=j}) d.up=R {m with q:=j}:=eV _ _ _;have K:cP (cP f x (R {d with own:=own',on:=o})) d.up (R {m with q:=j}) x=R {d with own:=own',on:=o}:=(gi _ (Ne.symm F)).trans (eV _ _ _);refine⟨?_,?_,?_,?_,?_,?_,?_,?_,?_⟩
 ·intro k a b;rcases v k a b with⟨rfl,_⟩|⟨rfl,_⟩|⟨_,_,e⟩;·exact h.lo _ _ u
  ·exact h.lo _ _ n
  ·exact h.lo _ _ e
 ·obtain⟨r,U,W,X⟩:=h.root;obtain⟨Y,e,B,w,_⟩:=G 0 r U;exact⟨Y,e,B.trans W,w.trans X⟩
 ·have s:∀k a,f k=R a->k≠0->∃y,cP (cP f x (R {d with own:=own',on:=o})) d.up (R {m with q:=j}) a.up=R y∧a.deep=y.deep+1:=by intro k a b l;obtain⟨V,z,t⟩:=h.up _ _ b l;obtain⟨y,e,B,w,_⟩:=G _ _ z;exact⟨y,e,by rw[w];exact t⟩
  intro k a b l;rcases v k a b with⟨rfl,rfl⟩|⟨rfl,rfl⟩|⟨_,_,e⟩;·exact(s _ _ u l:)
  ·exact(s _ _ n l:)
  ·exact s _ _ e l
 ·intro k a b;rcases v k a b with⟨rfl,rfl⟩|⟨rfl,rfl⟩|⟨_,_,e⟩;·exact(h.deep _ _ u:)
  ·exact(h.deep _ _ n:)
  ·exact h.deep _ _ e
 ·intro k a b;rcases v k a b with⟨rfl,rfl⟩|⟨rfl,rfl⟩|⟨_,_,e⟩;·exact P
  ·exact(h.q _ _ n:)
  ·exact h.q _ _ e
 ·have s:∀k a,f k=R a->∀g∈a.q.es,g.id≠2*x+1->qt g.id∨∃c ar,g.id=2*c+1∧cP (cP f x (R {d with own:=own',on:=o})) d.up (R {m with q:=j}) c=R ar∧c≠0∧ar.up=k∧ar.on=true:=by
   intro k a b g t Z;rcases h.ids k a b g t with aa|⟨c,ar,B,w,ao,H,ac⟩;·exact .inl aa
   ·obtain⟨ay,e,ad,ae,aB⟩:=G _ _ w;exact .inr ⟨c,ay,B,e,ao,ad.trans H,(aB (λq=>Z (by omega))).trans ac⟩
  have L:∀k a,f k=R a->k≠d.up->∀g∈a.q.es,g.id≠2*x+1:=by
   intro k a b az g t e;rcases h.ids k a b g t with⟨i,_,_,q⟩|⟨c,ar,B,w,_,H,_⟩;·omega
   ·have:c=x:=(by omega);subst this;rw[n] at w;cases w;exact az H.symm
  intro k a b e C;rcases v k a b with⟨rfl,rfl⟩|⟨rfl,rfl⟩|⟨aC,E,M⟩
  ·rcases Q e C with⟨q,A⟩|⟨g,t,q,ab⟩;·exact .inr ⟨x,_,q,K,h0,rfl,A⟩
   ·have:=s _ _ u g t ab;rw[q] at this;exact this
  ·exact s _ _ n e C (L _ _ n (Ne.symm F) e C)
  ·exact s _ _ M e C (L _ _ M aC e C)
 ·intro k a b l;rcases v k a b with⟨rfl,rfl⟩|⟨rfl,rfl⟩|⟨_,_,e⟩;·exact(h.own _ _ u l:)
  ·exact O
  ·exact h.own _ _ e l
 ·have s:∀k a,f k=R a->k≠0->k≠x->a.on=true->∃y,cP (cP f x (R {d with own:=own',on:=o})) d.up (R {m with q:=j}) a.up=R y∧cK (2*k+1) y.q.es=true:=by
   intro k a b l am A;obtain⟨V,z,I⟩:=h.on k a b l A;by_cases e:a.up=d.up;·rw[e,u] at z;cases z;obtain⟨g,t,aF⟩:=dG.1 I;refine⟨{m with q:=j},by rw[e];exact J,?_⟩;have:=S g t (by omega);rw[aF] at this;exact this
   ·by_cases p:a.up=x;·rw[p,n] at z;cases z;exact⟨{d with own:=own',on:=o},by rw[p];exact K,I⟩
    ·exact⟨V,(gi _ e).trans ((gi _ p).trans z),I⟩
  intro k a b l A;rcases v k a b with⟨rfl,rfl⟩|⟨rfl,rfl⟩|⟨_,E,e⟩;·exact(s _ _ u l F A:)
  ·exact⟨_,J,T A⟩
  ·exact s _ _ e l E A
 ·intro k a b l af;rcases v k a b with⟨rfl,rfl⟩|⟨rfl,rfl⟩|⟨_,E,e⟩;·exact absurd rfl af
  ·exact N.symm
  ·exact h.st _ _ e l E
theorem c_.yE {b x:Int} {a d:aL} (h:c_ f b) (j:f x=R a) (k:f a.up=R d) (l:a.on=false):cK (2*x+1) d.q.es=false:=by
 cases m:cK (2*x+1) d.q.es with
 |false=>rfl
 |true=>
  obtain⟨n,o,p⟩:=dG.1 m;rcases h.ids _ _ k n o with⟨i,_,_,r⟩|⟨c,ar,s,e,_,t,g⟩;·omega
  ·have:c=x:=(by omega);subst this;rw[j] at e;cases e;rw[l] at g;cases g
theorem c_.dI {f:Int->Option aL} {b x:Int} {a c:aL} {e:aI} (h:c_ f b) (g:f x=R a) (n:0<=x) (d:f a.up=R c) (i:a.on=false) (j:jM x e):c.q.dI e=0:=by unfold aD.dI;have k:=h.yE g d i;have l:=h.room d;obtain⟨m,o,p,r⟩:=j;rw[z0 (by omega),z0 (by rw[qp.2 ⟨by omega,by omega⟩];simp),z0 (by omega),m,k,z0 (by simp),z0 l]
theorem c_.uU {x:Int} {a j:aL} (h:c_ f x) (c:f x=R a) (h0:x≠0) (d:f a.up=R j) (l:a.on=false) (m:a.fQ=true) (g:jM x e):c_ (cP (cP f x (R {a with own:=e,on:=true})) a.up (R {j with q:=j.q.put e})) a.up:=by
 have k:=h.dI c (h.lo _ _ c).1 d l g;refine h.nr c h0 d m g ((h.q _ _ d).put e) ?_ ?_ ?_
 ·intro i b;rcases(aD.lS k).1 b with rfl|b;·exact .inl ⟨g.1,rfl⟩
  ·exact .inr ⟨i,b,rfl,qq (h.yE c d l) i b⟩
 ·intro i b _;exact dG.2 ⟨i,(aD.lS k).2 (.inr b),rfl⟩
 ·intro _;exact dG.2 ⟨e,(aD.lS k).2 (.inl rfl),g.1⟩
theorem aD.Ok.E5 {q:aD} (h:q.Ok) {x:Int} (c:cK (2*x+1) q.es=true):jM x (q.er (2*x+1)):=by obtain⟨d,a,b⟩:=dG.1 c;unfold aD.er;rw[<-b,qn h.ids a];have:=h.rt d a;exact⟨b,this.2.1,this.2.2.1,this.2.2.2⟩
theorem c_.uV {x:Int} {a b:aL} (h:c_ f x) (j:f x=R a) (h0:x≠0) (c:f a.up=R b) (l:a.on=true) (m:a.fQ=false):c_ (cP (cP f x (R {a with own:=b.q.er (2*x+1),on:=false})) a.up (R {b with q:=b.q.drop (2*x+1)})) a.up:=by
 have d:cK (2*x+1) b.q.es=true:=by obtain⟨V,k,d⟩:=h.on x a j h0 l;rw[c] at k;cases k;exact d
 refine h.nr j h0 c m ((h.q _ _ c).E5 d) ((h.q _ _ c).drop _) ?_ ?_ (λe=>by cases e);·intro g i;have:=aD.mx.1 i;exact .inr ⟨g,this.1,rfl,this.2⟩
 ·intro g i n;exact dG.2 ⟨g,aD.mx.2 ⟨i,n⟩,rfl⟩
structure ad.Ok (h:ad):Prop where
 len:h.gs.length=32
 g:c_ h.at 0
theorem aL.stay {b:Int} (h:c_ f b) (d:f b=R G) (g:b=0∨G.on=G.fQ):c_ f 0:=⟨h.lo,h.root,h.up,h.deep,h.q,h.ids,h.own,h.on,λk i a c _=>by
 by_cases e:k=b;·subst e;rw[d] at a;cases a;exact g.resolve_left c
 ·exact h.st k i a c e⟩
theorem jM.uW {x:Int} (h:jM x e) (v:Int):jM x {e with v:=v}:=h
theorem ad.E6 (n:Nat):∀(a:ad) (g:Int),(a.settle n g).gs.length=a.gs.length:=by
 induction n with
 |zero=>intro a g;rfl
 |succ n b=>
  intro a g;unfold ad.settle;split;·rfl
  ·split;·rfl
   ·split;·rfl
    ·split;·rfl
     ·split;·rw[b,ad.md,ad.md]
      ·rw[b,ad.md,ad.md]
theorem ad.E7 (n:Nat):∀(c:ad) (g:Int) (G:aL),c.at g=R G->G.deep<n->c_ c.at g->c_ (c.settle n g).at 0:=by
 induction n with
 |zero=>intro c g G a t b;have:=(b.deep g G a).1;omega
 |succ n u=>
  intro c g G a t b;unfold ad.settle;rw[a];dsimp only;by_cases d:g=0;·rw[aj ((b.np a).2 d)];exact aL.stay b a (.inl d)
  ·rw[z0 (λe=>d ((b.np a).1 e))];obtain⟨h,l,z⟩:=b.up g G a d;rw[l];dsimp only;have v:=(b.mw a d).1;by_cases f:G.fQ=G.on;·rw[aj f];exact aL.stay b a (.inr f.symm)
   ·rw[z0 f];have p:∀(y:aL) (i:aD),c_ (cP (cP c.at g (R y)) G.up (R {h with q:=i})) G.up->c_ (((c.set g (R y)).set G.up (R {h with q:=i})).settle n G.up).at 0:=by
     intro y i j;have r:=ad.dq (x:=R y) a;have w:(c.set g (R y)).at G.up=R h:=(by rw[r];exact(gi _ v).trans l);have m:=ad.dq (x:=R {h with q:=i}) w;rw[r] at m;refine u _ _ {h with q:=i} ?_ ?_ (by rw[m];exact j);·rw[m];exact eV _ _ _
     ·show h.deep<n;omega
    by_cases k:G.fQ=true
    ·rw[aj k];have o:G.on=false:=by cases j:G.on with
      |false=>rfl
      |true=>rw[j] at f;exact absurd k f
     exact p _ _ (b.uU a d l o k ((b.own g G a d).uW _))
    ·have s:G.fQ=false:=(by simpa using k);rw[z0 k];have o:G.on=true:=by cases j:G.on with
      |true=>rfl
      |false=>rw[j,s] at f;exact absurd rfl f
     exact p _ _ (b.uV a d l o s)
theorem ad.Ok.settled {h:ad} {g:Int} (b:h.gs.length=32) (a:h.at g=R G) (hk:c_ h.at g):(h.settle 10 g).Ok:=⟨by rw[ad.E6];exact b,ad.E7 10 h g G a (by have:=(hk.deep g G a).2;omega) hk⟩
theorem uX {n:Int} (h:gW n=true):qt (n*2):=by unfold gW at h;simp only[iy,decide_eq_true_eq] at h;exact⟨n,h.1,h.2,by omega⟩
theorem ad.Ok.put {h:ad} (hk:h.Ok) (g:Int) (e:aI):(h.put g e).Ok:=by
 unfold ad.put;split
 ·rename_i a;unfold ad.dI at a;split;·exact hk
  ·rename_i x c;rw[c] at a;dsimp only at a;split at a;·omega
   ·rename_i i;have j:gW e.id=true:=(by simpa using i);have f:=ad.dq (x:=R {x with q:=x.q.put {e with id:=e.id*2}}) c;refine ad.Ok.settled (G:={x with q:=x.q.put {e with id:=e.id*2}}) (by rw[ad.md];exact hk.len) ?_ ?_;·rw[f];exact eV _ _ _
    ·rw[f];refine hk.g.queue c ((hk.g.q g x c).put _) ?_ ?_ (.inl rfl) (.inl rfl)
     ·intro d b;rcases(aD.lS a).1 b with rfl|b;·exact .inl (uX j)
      ·exact .inr ⟨d,b,rfl⟩
     ·intro d b _;exact dG.2 ⟨d,(aD.lS a).2 (.inr b),rfl⟩
 ·exact hk
theorem ad.Ok.drop {h:ad} (hk:h.Ok) (g task:Int):(h.drop g task).Ok:=by
 unfold ad.drop;split
 ·split;·exact hk
  ·rename_i x a;have d:=ad.dq (x:=R {x with q:=x.q.drop (2*task)}) a;refine ad.Ok.settled (G:={x with q:=x.q.drop (2*task)}) (by rw[ad.md];exact hk.len) ?_ ?_;·rw[d];exact eV _ _ _
   ·rw[d];refine hk.g.queue a ((hk.g.q g x a).drop _) ?_ ?_ (.inl rfl) (.inl rfl);·intro b c;exact .inr ⟨b,(aD.mx.1 c).1,rfl⟩
    ·intro b c e;exact dG.2 ⟨b,aD.mx.2 ⟨c,by omega⟩,rfl⟩
 ·exact hk
theorem ad.Ok.same {h:ad} (hk:h.Ok) {g:Int} {x:aL} (f:h.at g=R x) {b:aD} (j:b.Ok) (c:∀k,cK k b.es=cK k x.q.es):(h.set g (R {x with q:=b})).Ok:=by
 have m:=ad.dq (x:=R {x with q:=b}) f;refine⟨by rw[ad.md];exact hk.len,?_⟩;rw[m];refine hk.g.queue f j ?_ ?_ (.inl rfl) (.inr ?_);·intro a d;have:=dG.1 ((c a.id).symm.trans (dG.2 ⟨a,d,rfl⟩));exact .inr this
 ·intro a d _;exact(c a.id).trans (dG.2 ⟨a,d,rfl⟩)
 ·cases i:b.es with
  |nil=>
   cases e:x.q.es with
   |nil=>rfl
   |cons a l=>have:=(c a.id).trans (dG.2 ⟨a,by rw[e];exact ey,rfl⟩);rw[i] at this;cases this
  |cons a l=>
   cases e:x.q.es with
   |cons _ _=>rfl
   |nil=>have:=(c a.id).symm.trans (dG.2 ⟨a,by rw[i];exact ey,rfl⟩);rw[e] at this;cases this
theorem aD.sk (q:aD) (k:Int) (n:Nat) (i:Int):cK i (q.bV k n).es=cK i q.es:=by
 unfold aD.bV;split
 ·show cK i (q.es.map λe=>if e.id=k then e.bV n else e)=_;rw[hK,dG,dG];have d:∀a:aI,(if a.id=k then a.bV n else a).id=a.id:=λa=>by split<;>rfl
  constructor;·rintro⟨x,f,b⟩;obtain⟨a,c,rfl⟩:=e0.1 f;exact⟨a,c,(d a).symm.trans b⟩
  ·rintro⟨a,c,b⟩;exact⟨_,e0.2 ⟨a,c,rfl⟩,(d a).trans b⟩
 ·rfl
theorem aD.od (q:aD) (g:Int):(q.pick g).es=q.es:=by
 unfold aD.pick;split;·rfl
 ·split;·rfl
  ·split<;>rfl
theorem aD.qu (q:aD) (g:Int):(q.yield g).es=q.es:=by
 unfold aD.yield;split
 ·split;·rfl
  ·exact aD.od q g
 ·exact aD.od q g
theorem aD.sl {q:aD} (h:q.Ok) (ns:Nat) (i:Int):cK i (q.b3 ns).es=cK i q.es:=by
 unfold aD.b3;split;·rfl
 ·split;·rfl
  ·rename_i e f;obtain⟨g,j⟩:=ld f;show cK i (fi (e.b3 ns) (eP q.cur q.es))=_;have d:∀a,a∈fi (e.b3 ns) (eP q.cur q.es)↔a=e.b3 ns∨a∈eP q.cur q.es:=λa=>oa (mv (k:=q.cur) j (λa b=>(hs.1 b).2));rw[hK,dG,dG];constructor
   ·rintro⟨a,b,c⟩;rcases(d a).1 b with rfl|b;·exact⟨e,g,c⟩
    ·exact⟨a,(hs.1 b).1,c⟩
   ·rintro⟨a,b,c⟩;by_cases l:a.id=q.cur;·exact⟨e.b3 ns,(d _).2 (.inl rfl),by show e.id=i;omega⟩
    ·exact⟨a,(d _).2 (.inr (hs.2 ⟨b,l⟩)),c⟩
theorem ad.Ok.nice {h:ad} (hk:h.Ok) (g task:Int) (w:Nat):(h.nice g task w).Ok:=by
 unfold ad.nice;split;·exact hk
 ·rename_i x a;split;·exact hk
  ·exact hk.same a ((hk.g.q g x a).bV _ _) (aD.sk _ _ _)
theorem c_.other {b w g:Int} {own':aI} {st:Bool} (h:c_ f b) (x:f g=R G) (C:g≠0->jM g own') (D:b=0∨b=w) (E:g=w∨st=G.stopped):c_ (cP f g (R {G with own:=own',stopped:=st})) w:=by
 have t:∀k a,f k=R a->∃d,cP f g (R {G with own:=own',stopped:=st}) k=R d∧d.up=a.up∧d.deep=a.deep∧d.on=a.on∧d.q=a.q:=by
  intro k a i;by_cases e:k=g;·subst e;rw[x] at i;cases i;exact⟨_,eV _ _ _,rfl,rfl,rfl,rfl⟩
  ·exact⟨a,(gi _ e).trans i,rfl,rfl,rfl,rfl⟩
 have n:∀k a,cP f g (R {G with own:=own',stopped:=st}) k=R a->∃d,f k=R d∧a.up=d.up∧a.deep=d.deep∧a.on=d.on∧a.q=d.q∧(k≠g->a=d)∧(k=g->a.own=own'∧a.stopped=st):=by
  intro k a i;rcases ht i with⟨rfl,e⟩|⟨F,e⟩;·cases e;exact⟨_,x,rfl,rfl,rfl,rfl,λj=>absurd rfl j,λ_=>⟨rfl,rfl⟩⟩
  ·exact⟨_,e,rfl,rfl,rfl,rfl,λ_=>rfl,λj=>absurd j F⟩
 refine⟨?_,?_,?_,?_,?_,?_,?_,?_,?_⟩;·intro k a i;obtain⟨d,e,_⟩:=n k a i;exact h.lo _ _ e
 ·obtain⟨r,H,I,J⟩:=h.root;obtain⟨K,e,l,m,_⟩:=t 0 r H;exact⟨K,e,l.trans I,m.trans J⟩
 ·intro k a i o;obtain⟨d,e,l,m,_⟩:=n k a i;obtain⟨L,y,v⟩:=h.up _ _ e o;obtain⟨z,u,u1,u2,_⟩:=t _ _ y;exact⟨z,by rw[l];exact u,by rw[m,u2];exact v⟩
 ·intro k a i;obtain⟨d,e,l,m,_⟩:=n k a i;rw[m];exact h.deep _ _ e
 ·intro k a i;obtain⟨d,e,l,m,s,p,_⟩:=n k a i;rw[p];exact h.q _ _ e
 ·intro k a i M v;obtain⟨d,e,l,m,s,p,_⟩:=n k a i;rw[p] at v;rcases h.ids k d e M v with N|⟨c,ar,O,P,Q,S,T⟩;·exact .inl N
  ·obtain⟨U,u,u1,u2,u3,_⟩:=t _ _ P;exact .inr ⟨c,U,O,u,Q,u1.trans S,u3.trans T⟩
 ·intro k a i o;obtain⟨d,e,l,m,s,p,A,B⟩:=n k a i;by_cases j:k=g;·rw[(B j).1,j];exact C (j▸o)
  ·rw[A j];exact h.own _ _ e o
 ·intro k a i o V;obtain⟨d,e,l,m,s,p,_⟩:=n k a i;obtain⟨L,y,W⟩:=h.on k d e o (s▸V);obtain⟨z,u,u1,u2,u3,u4⟩:=t _ _ y;exact⟨z,by rw[l];exact u,by rw[u4];exact W⟩
 ·intro k a i o X;obtain⟨d,e,l,m,s,p,A,B⟩:=n k a i;have:=h.st k d e o (by rcases D with e|e<;>omega);rw[s,this];show(!d.stopped&&!d.q.es.isEmpty)=(!a.stopped&&!a.q.es.isEmpty);rw[p];by_cases j:k=g;·have Y:=E.resolve_left (λr=>X (j.trans r));subst j;rw[x] at e;cases e;rw[(B rfl).2,Y]
  ·rw[A j]
theorem ke {h:ad} {g:Int} {x:aL} (e:h.linked g=R x):g≠0∧h.at g=R x:=by
 unfold ad.linked at e;split at e;·cases e
 ·exact⟨by assumption,e⟩
theorem jM.bV {g:Int} {e:aI} (h:jM g e) {w:Nat} (a:2<=w) (b:w<=262144):jM g (e.bV w):=by refine⟨h.1,a,b,?_⟩;show e.rem*w/e.wt<w;have:=h.2.1;rw[Nat.div_lt_iff_lt_mul (by omega),Nat.mul_comm w];exact Nat.mul_lt_mul_of_pos_right h.2.2.2 (by omega)
theorem ad.Ok.bV {h:ad} (hk:h.Ok) (g:Int) (w:Nat):(h.bV g w).Ok:=by
 unfold ad.bV;split;·exact hk
 ·rename_i x a;obtain⟨c,a⟩:=ke a;split;·exact hk
  ·rename_i e;split
   ·split;·exact hk
    ·rename_i u b;exact hk.same b ((hk.g.q _ u b).bV _ _) (aD.sk _ _ _)
   ·have d:=ad.dq (x:=R {x with own:=x.own.bV w}) a;refine⟨by rw[ad.md];exact hk.len,?_⟩;rw[d];exact hk.g.other (st:=x.stopped) a (λ_=>(hk.g.own g x a c).bV (by omega) (by omega)) (.inl rfl) (.inr rfl)
theorem ad.Ok.stop {h:ad} (hk:h.Ok) (g:Int) (is:Bool):(h.stop g is).Ok:=by
 unfold ad.stop;split;·exact hk
 ·rename_i x a;obtain⟨b,a⟩:=ke a;have c:=ad.dq (x:=R {x with stopped:=is}) a;refine ad.Ok.settled (G:={x with stopped:=is}) (by rw[ad.md];exact hk.len) ?_ ?_;·rw[c];exact eV _ _ _
  ·rw[c];exact hk.g.other (own':=x.own) a (λb=>hk.g.own g x a b) (.inl rfl) (.inl rfl)
theorem ad.Ok.gF (n:Nat):∀(a:ad) (g:Int),a.Ok->(ad.gF n a g).1.Ok:=by
 induction n with
 |zero=>intro a g b;exact b
 |succ n d=>
  intro a g b;unfold ad.gF;split;·exact b
  ·rename_i x c;have:=b.same c ((b.g.q g x c).pick a.bI) (λk=>by rw[aD.od]);split;·exact this
   ·exact d _ _ this
theorem ad.Ok.pick {h:ad} (hk:h.Ok):h.pick.Ok:=ad.Ok.gF 10 h 0 hk
theorem ad.Ok.yield {h:ad} (hk:h.Ok):h.yield.Ok:=by
 unfold ad.yield;split;·exact hk.pick
 ·split;·exact hk.pick
  ·split;·exact hk.pick
   ·rename_i x a;exact(hk.same a ((hk.g.q _ x a).yield h.bI) (λk=>by rw[aD.qu])).pick
theorem ad.Ok.dU (ns:Nat) (l:List Int):∀b:ad,b.Ok->(ad.dU ns l b).Ok:=by
 induction l with
 |nil=>intro b a;exact a
 |cons g l d=>
  intro b a;unfold ad.dU;split;·exact d _ a
  ·rename_i x c;exact d _ (a.same c ((a.g.q g x c).b3 ns) (aD.sl (a.g.q g x c) ns))
theorem ad.Ok.b3 {h:ad} (hk:h.Ok) (ns:Nat):(h.b3 ns).Ok:=by
 unfold ad.b3;split;·exact ad.Ok.dU _ _ _ hk
 ·exact hk
abbrev eW:=Int->Option (Int×Int)
def i_ (s:eW):Nat->Int->Int->Bool
 |0,_,_=>false
 |n+1,g,top=>if g=-1 then false else if g=top then true else match s g with
  |none=>false
  |some p=>i_ s n p.1 top
structure fW (s:eW):Prop where
 lo:∀g p,s g=R p->0<=g∧g<32
 root:s 0=R (-1,0)
 up:∀g p,s g=R p->g≠0->∃q,s p.1=R q∧p.2=q.2+1
 deep:∀g p,s g=R p->0<=p.2∧p.2<=8
theorem fW.zero {s:eW} (h:fW s) {g:Int} {p:Int×Int} (a:s g=R p) (d:p.2=0):g=0:=by refine Decidable.byContradiction λb=>?_;obtain⟨f,c,e⟩:=h.up g p a b;have:=(h.deep _ _ c).1;omega
theorem fW.fuel {s:eW} (h:fW s) (top:Int):∀(n m:Nat) (g:Int) (p:Int×Int),s g=R p->p.2<n->p.2<m->i_ s n g top=i_ s m g top
 |0,_,g,p,a,c,_=>by have:=(h.deep _ _ a).1;omega
 |n+1,0,g,p,a,_,hm=>by have:=(h.deep _ _ a).1;omega
 |n+1,m+1,g,p,a,c,hm=>by
  unfold i_;split;·rfl
  ·split;·rfl
   ·rw[a];dsimp only;by_cases b:g=0
    ·subst b;rw[h.root] at a;cases a;have e:∀k,i_ s k (-1) top=false:=λk=>by cases k<;>simp[i_]
     rw[e,e]
    ·obtain⟨d,f,e⟩:=h.up g p a b;exact fW.fuel h top n m p.1 d f (by omega) (by omega)
def eJ (s:eW) (g top:Int):Bool:=i_ s 10 g top
theorem fW.sn {s:eW} (h:fW s) (top:Int):eJ s 0 top=decide (0=top):=by
 unfold eJ i_;rw[z0 (by omega),h.root];by_cases e:0=top;·rw[aj e];simp[e]
 ·rw[z0 e];simp[i_,e]
theorem fW.pq {s:eW} (h:fW s) {g top:Int} {p:Int×Int} (a:s g=R p) (h0:g≠0):eJ s g top=(decide (g=top)||eJ s p.1 top):=by
 obtain⟨b,c,e⟩:=h.up g p a h0;have d:=h.deep _ _ a;have f:=h.lo _ _ a;unfold eJ;rw[show i_ s 10 g top=if g=-1 then false else if g=top then true else match s g with|none=>false|some p=>i_ s 9 p.1 top from rfl,z0 (by omega),a];dsimp only;rw[h.fuel top 9 10 p.1 b c (by omega) (by omega)];by_cases e:g=top;·rw[aj e];simp[e]
 ·rw[z0 e];simp[e]
theorem fW.yF {s:eW} (h:fW s) {g:Int} {p:Int×Int} (b:s g=R p):eJ s g g=true:=by
 by_cases a:g=0;·subst a;rw[h.sn];simp
 ·rw[h.pq b a];simp
def kG (s:eW) (g parent a:Int):eW:=λk=>
 match s k with
 |none=>U
 |some p=>if eJ s k g then R (if k=g then parent else p.1,p.2+a) else R p
theorem fW.move {s:eW} (h:fW s) {g parent:Int} {p q:Int×Int} (t:s g=R p) (h0:g≠0) (u:s parent=R q) (x:eJ s parent g=false) (y:∀k r,s k=R r->eJ s k g=true->r.2+(q.2+1-p.2)<=8):fW (kG s g parent (q.2+1-p.2)):=by
 have m:∀k r,kG s g parent (q.2+1-p.2) k=R r->∃a,s k=R a∧((eJ s k g=true∧r=(if k=g then parent else a.1,a.2+(q.2+1-p.2)))∨(eJ s k g=false∧r=a)):=by
  intro k r d;unfold kG at d;cases hk:s k with
  |none=>rw[hk] at d;cases d
  |some a=>
   rw[hk] at d;dsimp only at d;refine⟨a,rfl,?_⟩;cases b:eJ s k g with
   |true=>rw[b,aj rfl] at d;exact .inl ⟨rfl,(Option.some.inj d).symm⟩
   |false=>rw[b,z0 (by simp)] at d;exact .inr ⟨rfl,(Option.some.inj d).symm⟩
 have z:∀k a,s k=R a->eJ s k g=true->kG s g parent (q.2+1-p.2) k=R (if k=g then parent else a.1,a.2+(q.2+1-p.2)):=by intro k a hk b;unfold kG;rw[hk];dsimp only;rw[b,aj rfl]
 have o:∀k a,s k=R a->eJ s k g=false->kG s g parent (q.2+1-p.2) k=R a:=by intro k a hk b;unfold kG;rw[hk];dsimp only;rw[b,z0 (by simp)]
 have w:eJ s 0 g=false:=by rw[h.sn];simp;omega
 refine⟨?_,o _ _ h.root w,?_,?_⟩;·intro k r d;obtain⟨a,c,_⟩:=m k r d;exact h.lo _ _ c
 ·intro k r d f;obtain⟨a,c,⟨b,e⟩|⟨b,e⟩⟩:=m k r d
  ·subst e;dsimp only;by_cases i:k=g;·rw[aj i];subst i;rw[t] at c;cases c;exact⟨q,o _ _ u x,by omega⟩
   ·rw[z0 i];obtain⟨v,l,e⟩:=h.up k a c f;have j:=h.pq (top:=g) c f;rw[b] at j;simp only[i,decide_false,Bool.false_or] at j;exact⟨_,z _ _ l j.symm,by dsimp only;omega⟩
  ·subst e;obtain⟨v,l,e⟩:=h.up k r c f;have j:=h.pq (top:=g) c f;rw[b] at j;have A:eJ s r.1 g=false:=by
    cases B:eJ s r.1 g with
    |false=>rfl
    |true=>rw[B] at j;simp at j
   exact⟨v,o _ _ l A,e⟩
 ·intro k r d;obtain⟨a,c,⟨b,e⟩|⟨b,e⟩⟩:=m k r d
  ·have C:=y k a c b;subst e;refine⟨?_,C⟩;dsimp only;have D:∀(n:Nat) (k:Int) (a:Int×Int),s k=R a->a.2<n->eJ s k g=true->p.2<=a.2:=by
    intro n;induction n with
    |zero=>intro k a c E _;have:=(h.deep _ _ c).1;omega
    |succ n F=>
     intro k a c E b;by_cases f:k=0;·subst f;rw[w] at b;cases b
     ·rw[h.pq c f] at b;by_cases i:k=g;·subst i;rw[t] at c;cases c;exact hL _
      ·simp only[i,decide_false,Bool.false_or] at b;obtain⟨v,l,e⟩:=h.up k a c f;have:=F a.1 v l (by omega) b;omega
   have:=D 9 k a c (by have:=(h.deep _ _ c).2;omega) b;have:=(h.deep _ _ u).1;omega
  ·subst e;exact h.deep _ _ c
def my (s:eW) (g:Int) (p:Int×Int):eW:=λk=>if k=g then R p else s k
def mz (s:eW) (g:Int):eW:=λk=>if k=g then U else s k
theorem fW.add {s:eW} (h:fW s) {g parent:Int} {q:Int×Int} (f:s g=U) (l:1<=g) (m:g<32) (d:s parent=R q) (n:q.2<8):fW (my s g (parent,q.2+1)):=by
 have b:∀k r,s k=R r->my s g (parent,q.2+1) k=R r:=λk r a=>by unfold my;rw[z0 (λe=>by rw[e,f] at a;cases a)];exact a
 have c:∀k r,my s g (parent,q.2+1) k=R r->(k=g∧r=(parent,q.2+1))∨s k=R r:=by
  intro k r a;unfold my at a;split at a;·exact .inl ⟨by assumption,(Option.some.inj a).symm⟩
  ·exact .inr a
 refine⟨?_,b _ _ h.root,?_,?_⟩
 ·intro k r a;rcases c k r a with⟨rfl,_⟩|e;·omega
  ·exact h.lo _ _ e
 ·intro k r a i;rcases c k r a with⟨rfl,rfl⟩|e;·exact⟨q,b _ _ d,rfl⟩
  ·obtain⟨v,j,e⟩:=h.up k r e i;exact⟨v,b _ _ j,e⟩
 ·intro k r a;rcases c k r a with⟨rfl,rfl⟩|e;·have:=h.deep _ _ d;exact⟨by dsimp only;omega,by dsimp only;omega⟩
  ·exact h.deep _ _ e
theorem fW.del {s:eW} (h:fW s) {g:Int} (h0:g≠0) (d:∀k p,s k=R p->p.1≠g):fW (mz s g):=by
 have c:∀k r,k≠g->s k=R r->mz s g k=R r:=λk r f a=>by unfold mz;rw[z0 f];exact a
 have b:∀k r,mz s g k=R r->k≠g∧s k=R r:=by
  intro k r a;unfold mz at a;split at a;·cases a
  ·exact⟨by assumption,a⟩
 refine⟨?_,c _ _ (Ne.symm h0) h.root,?_,?_⟩;·intro k r a;exact h.lo _ _ (b k r a).2
 ·intro k r a i;obtain⟨v,j,e⟩:=h.up k r (b k r a).2 i;exact⟨v,c _ _ (d _ _ (b k r a).2) j,e⟩
 ·intro k r a;exact h.deep _ _ (b k r a).2
variable {v1:Value}
def lf (G:aL):Int×Int:=(G.up,G.deep)
def ad.a7 (h:ad):eW:=λk=>(h.at k).map lf
theorem c_.mA {b:Int} (h:c_ f b):fW (λk=>(f k).map lf):=by
 have c:∀k p,(f k).map lf=R p->∃G,f k=R G∧lf G=p:=λk p e=>h1.1 e;refine⟨?_,?_,?_,?_⟩;·intro g p e;obtain⟨G,a,_⟩:=c g p e;exact h.lo _ _ a
 ·obtain⟨r,d,i,j⟩:=h.root;show(f 0).map lf=_;rw[d];show R (r.up,r.deep)=_;rw[i,j]
 ·intro g p e l;obtain⟨G,a,rfl⟩:=c g p e;obtain⟨m,n,o⟩:=h.up _ _ a l;exact⟨lf m,by show(f G.up).map lf=_;rw[n];rfl,o⟩
 ·intro g p e;obtain⟨G,a,rfl⟩:=c g p e;exact h.deep _ _ a
theorem ad.Ok.mA {h:ad} (hk:h.Ok):fW h.a7:=hk.g.mA
theorem ad.eh {h:ad} {g:Int} (e:h.at g=R G):h.a7 g=R (G.up,G.deep):=by unfold ad.a7;rw[e];rfl
theorem ad.mB {h:ad} {g:Int} {p:Int×Int} (e:h.a7 g=R p):∃G,h.at g=R G∧p=(G.up,G.deep):=by obtain⟨G,a,rfl⟩:=h1.1 e;exact⟨G,a,rfl⟩
theorem ad.jN {h:ad} {g:Int} {x y:aL} (a:h.at g=R x) (b:y.up=x.up) (c:y.deep=x.deep):(h.set g (R y)).a7=h.a7:=by
 funext k;unfold ad.a7;rw[ad.dq a];unfold cP;split;·rename_i e;rw[e,a];show R (y.up,y.deep)=R (x.up,x.deep);rw[b,c]
 ·rfl
theorem ad.yG (h:ad) (top:Int):∀(n:Nat) (g:Int),h.under n g top=i_ h.a7 n g top
 |0,g=>rfl
 |n+1,g=>by
  unfold ad.under i_;split;·rfl
  ·split;·rfl
   ·unfold ad.a7;cases h.at g with
    |none=>rfl
    |some G=>exact ad.yG h top n G.up
theorem ad.uY (h:ad) (g top:Int):h.di g top=eJ h.a7 g top:=ad.yG h top 10 g
theorem ad.uZ (n:Nat):∀(a:ad) (g:Int),(a.settle n g).a7=a.a7:=by
 induction n with
 |zero=>intro a g;rfl
 |succ n i=>
  intro a g;unfold ad.settle;split;·rfl
  ·rename_i x j;split;·rfl
   ·split;·rfl
    ·rename_i u k;split;·rfl
     ·have d:∀(y:aL) (b:aD),y.up=x.up->y.deep=x.deep->(((a.set g (R y)).set x.up (R {u with q:=b})).settle n x.up).a7=a.a7:=(by intro y b l m;rw[i];have f:(a.set g (R y)).a7=a.a7:=ad.jN j l m;have o:∃v,(a.set g (R y)).at x.up=R v∧v.up=u.up∧v.deep=u.deep:=(by have p:(a.set g (R y)).a7 x.up=R (u.up,u.deep):=(by rw[f];exact ad.eh k);obtain⟨v,c,e⟩:=ad.mB p;have h:=Prod.mk.inj e;exact⟨v,c,h.1.symm,h.2.symm⟩);obtain⟨v,c,v1,r⟩:=o;exact(ad.jN (y:={u with q:=b}) c v1.symm r.symm).trans f);split;·exact d _ _ rfl rfl
      ·exact d _ _ rfl rfl
theorem ad.E8 (h:ad) (g:Int) (e:aI):(h.put g e).a7=h.a7:=by
 unfold ad.put;split
 ·split;·rfl
  ·rename_i x a;rw[ad.uZ];exact ad.jN a rfl rfl
 ·rfl
theorem ad.E9 (h:ad) (g t:Int):(h.drop g t).a7=h.a7:=by
 unfold ad.drop;split
 ·split;·rfl
  ·rename_i x a;rw[ad.uZ];exact ad.jN a rfl rfl
 ·rfl
theorem ad.E_ (h:ad) (g t:Int) (w:Nat):(h.nice g t w).a7=h.a7:=by
 unfold ad.nice;split;·rfl
 ·rename_i x a;split;·rfl
  ·exact ad.jN a rfl rfl
theorem ad.yH (h:ad) (g:Int) (w:Nat):(h.bV g w).a7=h.a7:=by
 unfold ad.bV;split;·rfl
 ·rename_i x a;split;·rfl
  ·split
   ·split;·rfl
    ·rename_i u b;exact ad.jN b rfl rfl
   ·exact ad.jN (ke a).2 rfl rfl
theorem ad.u_ (h:ad) (g:Int) (is:Bool):(h.stop g is).a7=h.a7:=by
 unfold ad.stop;split;·rfl
 ·rename_i x a;rw[ad.uZ];exact ad.jN (ke a).2 rfl rfl
theorem ad.Fa (n:Nat):∀(a:ad) (g:Int),(ad.gF n a g).1.a7=a.a7:=by
 induction n with
 |zero=>intro a g;rfl
 |succ n c=>
  intro a g;unfold ad.gF;split;·rfl
  ·rename_i x b;split;·exact ad.jN b rfl rfl
   ·rw[c];exact ad.jN b rfl rfl
theorem ad.pr (h:ad):h.pick.a7=h.a7:=ad.Fa 10 h 0
theorem ad.Fb (h:ad):h.yield.a7=h.a7:=by
 unfold ad.yield;split;·exact h.pr
 ·split;·exact h.pr
  ·split;·exact h.pr
   ·rename_i x a;rw[ad.pr];exact ad.jN a rfl rfl
theorem ad.Fc (ns:Nat) (l:List Int):∀a:ad,(ad.dU ns l a).a7=a.a7:=by
 induction l with
 |nil=>intro a;rfl
 |cons g l b=>
  intro a;unfold ad.dU;split;·exact b _
  ·rename_i x c;rw[b];exact ad.jN c rfl rfl
theorem ad.yI (h:ad) (ns:Nat):(h.b3 ns).a7=h.a7:=by
 unfold ad.b3;split;·exact ad.Fc _ _ _
 ·rfl
theorem ad.va {h:ad} {g parent:Int} (e:h.gw g parent=0):∃a,h.at parent=R a∧1<=g∧g<32∧h.at g=U∧a.deep≠8:=by
 unfold ad.gw at e;cases hp:h.at parent with
 |none=>rw[hp] at e;cases e
 |some a=>
  rw[hp] at e;dsimp only at e;split at e;·cases e
  ·split at e;·cases e
   ·rename_i b;split at e;·cases e
    ·rename_i c;refine⟨a,rfl,by omega,by omega,?_,c⟩;cases d:h.at g with
     |none=>rfl
     |some y=>rw[d] at b;simp at b
theorem ad.Ok.vb {h:ad} (hk:h.Ok) {g parent:Int} {up:aL} (a:h.at parent=R up) (b:1<=g) (c:g<32) (e:h.gw g parent=0):(h.link g parent).at=cP h.at g (R (jL g parent (up.deep+1))):=by unfold ad.link;rw[aj e,a];dsimp only;funext k;rw[ad.qs (by omega) (by rw[hk.len];omega)];rfl
theorem ad.Ok.yJ {h:ad} (hk:h.Ok) {g parent:Int} {up:aL} (a:h.at parent=R up) (e:h.gw g parent=0):(h.link g parent).a7=my h.a7 g (parent,up.deep+1):=by obtain⟨d,f,b,c,i,j⟩:=ad.va e;funext k;unfold ad.a7 my;rw[hk.vb a b c e];unfold cP;split<;>rfl
theorem ad.Ok.link {h:ad} (hk:h.Ok) (g parent:Int):(h.link g parent).Ok:=by
 by_cases e:h.gw g parent=0
 ·obtain⟨n,j,w,x,y,N⟩:=ad.va e;have z:=hk.vb j w x e;have t:fW (h.link g parent).a7:=by rw[hk.yJ j e];have l:=hk.g.deep _ _ j;exact hk.mA.add (by unfold ad.a7;rw[y];rfl) w x (ad.eh j) (by show n.deep<8;omega)
  refine⟨?_,?_⟩;·unfold ad.link;rw[aj e,j];dsimp only;rw[ad.md];exact hk.len
  ·have o:∀k d,(h.link g parent).at k=R d->(h.link g parent).a7 k=R (d.up,d.deep):=λk d=>ad.eh;rw[z] at o⊢;have m:∀k d,cP h.at g (R (jL g parent (n.deep+1))) k=R d->(k=g∧d=jL g parent (n.deep+1))∨h.at k=R d:=by
    intro k d f;rcases ht f with⟨a,b⟩|⟨_,b⟩;·exact .inl ⟨a,(Option.some.inj b).symm⟩
    ·exact .inr b
   have u:∀k d,h.at k=R d->cP h.at g (R (jL g parent (n.deep+1))) k=R d:=λk d f=>(gi _ (λB=>by rw[B,y] at f;cases f)).trans f;refine⟨?_,?_,?_,?_,?_,?_,?_,?_,?_⟩;·intro k d f;exact t.lo _ _ (o k d f)
   ·obtain⟨r,C,D,E⟩:=hk.g.root;exact⟨r,u _ _ C,D,E⟩
   ·intro k d f i;obtain⟨p,F,l⟩:=t.up _ _ (o k d f) i;obtain⟨v,s,rfl⟩:=ad.mB F;rw[z] at s;exact⟨v,s,l⟩
   ·intro k d f;exact t.deep _ _ (o k d f)
   ·intro k d f;rcases m k d f with⟨rfl,rfl⟩|b;·exact yA
    ·exact hk.g.q _ _ b
   ·intro k d f G l;rcases m k d f with⟨rfl,rfl⟩|b;·simp[jL,kD] at l
    ·rcases hk.g.ids _ _ b G l with H|⟨c,ar,I,J,K⟩;·exact .inl H
     ·exact .inr ⟨c,ar,I,u _ _ J,K⟩
   ·intro k d f i;rcases m k d f with⟨rfl,rfl⟩|b;·exact⟨rfl,by simp[jL],by simp[jL],by simp[jL]⟩
    ·exact hk.g.own _ _ b i
   ·intro k d f i A;rcases m k d f with⟨rfl,rfl⟩|b;·cases A
    ·obtain⟨v,s,L⟩:=hk.g.on _ _ b i A;exact⟨v,u _ _ s,L⟩
   ·intro k d f i M;rcases m k d f with⟨rfl,rfl⟩|b;·rfl
    ·exact hk.g.st _ _ b i M
 ·unfold ad.link;rw[z0 e];exact hk
theorem ad.vc {h:ad} {g:Int} (e:h.iZ g=0):∃x,g≠0∧h.at g=R x∧(∀k b,h.at k=R b->b.up≠g)∧x.q.es=[]:=by
 unfold ad.iZ at e;cases a:h.linked g with
 |none=>rw[a] at e;cases e
 |some x=>
  rw[a] at e;dsimp only at e;split at e;·cases e
  ·rename_i c;split at e;·rename_i d;obtain⟨f,a⟩:=ke a;refine⟨x,f,a,?_,o8.1 d⟩;intro k b i j;refine c (nS.2 ⟨R b,ea (ad.dp i).2.2,by simpa using j⟩)
   ·cases e
theorem ad.vd {h:ad} {g:Int} (e:h.iZ g=0):(h.unlink g).at=cP h.at g U:=by obtain⟨x,b,a,_⟩:=ad.vc e;unfold ad.unlink;rw[aj e];exact ad.dq a
theorem ad.Fe {h:ad} {g:Int} (e:h.iZ g=0):(h.unlink g).a7=mz h.a7 g:=by funext k;unfold ad.a7 mz;rw[ad.vd e];unfold cP;split<;>rfl
theorem ad.Ok.unlink {h:ad} (hk:h.Ok) (g:Int):(h.unlink g).Ok:=by
 by_cases e:h.iZ g=0
 ·obtain⟨x,l,u,v,w⟩:=ad.vc e;have y:=ad.vd e;have f:∀k a,cP h.at g U k=R a->k≠g∧h.at k=R a:=by
   intro k a d;rcases ht d with⟨_,b⟩|b;·cases b
   ·exact b
  have j:∀k a,k≠g->h.at k=R a->cP h.at g U k=R a:=λk a n d=>(gi _ n).trans d;have z:x.on=false:=by rw[hk.g.st g x u l l];show(!x.stopped&&!x.q.es.isEmpty)=false;rw[w];simp
  refine⟨by unfold ad.unlink;rw[aj e,ad.md];exact hk.len,?_⟩;rw[y];refine⟨?_,?_,?_,?_,?_,?_,?_,?_,?_⟩;·intro k a d;exact hk.g.lo _ _ (f k a d).2
  ·obtain⟨r,A,B⟩:=hk.g.root;exact⟨r,j _ _ (Ne.symm l) A,B⟩
  ·intro k a d i;obtain⟨m,o,p⟩:=hk.g.up _ _ (f k a d).2 i;exact⟨m,j _ _ (v _ _ (f k a d).2) o,p⟩
  ·intro k a d;exact hk.g.deep _ _ (f k a d).2
  ·intro k a d;exact hk.g.q _ _ (f k a d).2
  ·intro k a d C p;rcases hk.g.ids _ _ (f k a d).2 C p with D|⟨c,ar,E,s,F,G,t⟩;·exact .inl D
   ·refine .inr ⟨c,ar,E,j _ _ (λH=>?_) s,F,G,t⟩;rw[H,u] at s;cases s;rw[z] at t;cases t
  ·intro k a d i;exact hk.g.own _ _ (f k a d).2 i
  ·intro k a d i I;obtain⟨m,o,J⟩:=hk.g.on _ _ (f k a d).2 i I;exact⟨m,j _ _ (v _ _ (f k a d).2) o,J⟩
  ·intro k a d i K;exact hk.g.st _ _ (f k a d).2 i K
 ·unfold ad.unlink;rw[z0 e];exact hk
theorem ad.jO {h:ad} (e:h.gs.length=32) {g k:Int}:k∈h.below g↔(∃a,h.at k=R a)∧eJ h.a7 k g=true:=by
 unfold ad.below;rw[List.mem_filter,e0];simp only[o9,iy,ad.uY,gP];constructor;·rintro⟨_,d,b⟩;exact⟨d,b⟩
 ·rintro⟨⟨a,c⟩,b⟩;have:=ad.dp c;exact⟨⟨k.toNat,by omega,by omega⟩,⟨a,c⟩,b⟩
theorem ad.oe (h:ad) (g:Int):(h.below g).Nodup:=by unfold ad.below;refine List.Nodup.sublist List.filter_sublist ?_;rw[p2,List.pairwise_map];have:=@List.nodup_range 32;rw[p2] at this;exact this.imp (λh=>by omega)
theorem ad.so (b:Int):∀(l:List Int) (a:ad),l.Nodup->∀k,(a.fp b l).at k=if k∈l then(a.at k).map (λG=>{G with deep:=G.deep+b}) else a.at k:=by
 intro l;induction l with
 |nil=>intro a _ k;rw[z0 (by simp)];rfl
 |cons i l d=>
  intro a c k;rw[iT] at c;unfold ad.fp;cases aT:a.at i with
  |none=>
   dsimp only;rw[d a c.2 k];by_cases e:k=i;·subst e;rw[z0 c.1,aj ey,aT];rfl
   ·by_cases m:k∈l;·rw[aj m,aj (gD _ m)]
    ·rw[z0 m,z0 (by simp[e,m])]
  |some G=>
   dsimp only;rw[d _ c.2 k,ad.dq aT];by_cases e:k=i;·subst e;rw[z0 c.1,aj ey,eV,aT];rfl
   ·rw[gi _ e];by_cases m:k∈l;·rw[aj m,aj (gD _ m)]
    ·rw[z0 m,z0 (by simp[e,m])]
theorem ad.sq (b:Int):∀(l:List Int) (a:ad),(a.fp b l).gs.length=a.gs.length:=by
 intro l;induction l with
 |nil=>intro a;rfl
 |cons i l c=>
  intro a;unfold ad.fp;split;·exact c a
  ·rw[c,ad.md]
theorem yK (f:Int->Int):∀(l:List Int) (b:Int),b<=l.foldl (λb i=>max b (f i)) b∧∀i∈l,f i<=l.foldl (λb i=>max b (f i)) b
 |[],b=>⟨hL _,λ_ e=>by cases e⟩
 |a::l,b=>by
  have c:=yK f l (max b (f a));refine⟨?_,?_⟩;·simp only[nV];have:=c.1;omega
  ·intro i d;simp only[nV];rcases gu.1 d with rfl|d;·have:=c.1;omega
   ·exact c.2 i d
theorem ad.og {h:ad} (hk:h.Ok) {g parent:Int} (e:h.eg g parent=0):∃x c,g≠0∧h.at g=R x∧h.at parent=R c∧eJ h.a7 parent g=false∧(∀k a,h.at k=R a->eJ h.a7 k g=true->a.q.es=[]∧a.deep+(c.deep+1-x.deep)<=8):=by
 unfold ad.eg at e;cases b:h.linked g with
 |none=>rw[b] at e;cases e
 |some x=>
  cases hp:h.at parent with
  |none=>rw[b,hp] at e;cases e
  |some c=>
   rw[b,hp] at e;dsimp only at e;split at e;·cases e
   ·rename_i i;split at e;·cases e
    ·rename_i j;split at e;·cases e
     ·rename_i l;obtain⟨m,b⟩:=ke b;refine⟨x,c,m,b,rfl,by rw[<-ad.uY];simpa using i,?_⟩;intro k a d n;have f:=(ad.jO hk.len).2 ⟨⟨a,d⟩,n⟩;constructor;·have o:(h.below g).any h.busy=false:=(by simpa using j);have:=List.any_eq_false.1 o k f;unfold ad.busy at this;rw[d] at this;simpa using this
      ·have:=(yK h.fE (h.below g) 0).2 k f;have p:h.fE k=a.deep:=(by unfold ad.fE;rw[d]);unfold ad.kF at l;omega
def ja (h:ad) (g parent:Int) (x up:aL) (k:Int) (K:aL):aL:=if eJ h.a7 k g=true then(if k=g then {K with deep:=K.deep+(up.deep+1-x.deep),own:={K.own with v:=(kC K.own.v (h.minOf K.up) (h.minOf parent)).1},up:=parent} else {K with deep:=K.deep+(up.deep+1-x.deep)}) else K
theorem ad.Ok.ve {h:ad} (hk:h.Ok) {g parent:Int} {x up:aL} (e:h.eg g parent=0) (a:h.at g=R x) (h0:g≠0) (j:h.at parent=R up):(h.move g parent).at=(λk=>(h.at k).map (ja h g parent x up k))∧(h.move g parent).gs.length=32:=by
 have f:=hk.mA.yF (ad.eh a);have i:=ad.so (up.deep+1-x.deep) (h.below g) h (h.oe g);have l:g∈h.below g:=(ad.jO hk.len).2 ⟨⟨x,a⟩,f⟩;have c:=i g;rw[aj l,a,iS] at c;have n:h.linked g=R x:=by unfold ad.linked;rw[z0 h0];exact a
 unfold ad.move;rw[aj e,n,j];dsimp only;rw[c];dsimp only;refine⟨?_,by rw[ad.md,ad.sq];exact hk.len⟩;rw[ad.dq c];funext k;by_cases d:k=g;·subst d;rw[eV,a,iS];unfold ja;rw[aj f,aj rfl]
 ·rw[gi _ d,i k];by_cases m:k∈h.below g;·rw[aj m];have b:=((ad.jO hk.len).1 m).2;congr 1;funext K;unfold ja;rw[aj b,z0 d]
  ·rw[z0 m];cases b8:h.at k with
   |none=>rfl
   |some K=>have b:¬eJ h.a7 k g=true:=λb=>m ((ad.jO hk.len).2 ⟨⟨K,b8⟩,b⟩);rw[iS];unfold ja;rw[z0 b]
theorem ad.Ok.qv {h:ad} (hk:h.Ok) {g parent:Int} {x up:aL} (e:h.eg g parent=0) (c:h.at g=R x) (h0:g≠0) (d:h.at parent=R up):(h.move g parent).a7=kG h.a7 g parent (up.deep+1-x.deep):=by
 funext k;show((h.move g parent).at k).map lf=_;rw[(hk.ve e c h0 d).1];unfold kG;show((h.at k).map _).map lf=match(h.at k).map lf with|none=>U|some p=>_
 cases b8:h.at k with
 |none=>rfl
 |some K=>
  simp only[iS];unfold ja;by_cases a:eJ h.a7 k g=true
  ·rw[aj a,aj a];by_cases b:k=g;·rw[aj b,aj b];rfl
   ·rw[z0 b,z0 b];rfl
  ·rw[z0 a,z0 a]
theorem ad.Ok.move {h:ad} (hk:h.Ok) (g parent:Int):(h.move g parent).Ok:=by
 by_cases e:h.eg g parent=0
 ·obtain⟨x,j,n,v,w,P,H⟩:=ad.og hk e;have y:=hk.ve e v n w;have t:fW (h.move g parent).a7:=by rw[hk.qv e v n w];refine hk.mA.move (p:=(x.up,x.deep)) (q:=(j.up,j.deep)) (ad.eh v) n (ad.eh w) P ?_;intro k r z A;obtain⟨a,b,rfl⟩:=ad.mB z;exact(H k a b A).2
  refine⟨y.2,?_⟩;have B:∀k a,(h.move g parent).at k=R a->(h.move g parent).a7 k=R (a.up,a.deep):=λk a=>ad.eh;have o:∀k C,(h.move g parent).at k=R C->∃a,h.at k=R a∧C=ja h g parent x j k a:=by intro k C b;rw[y.1] at b;obtain⟨a,Q,e⟩:=h1.1 b;exact⟨a,Q,e.symm⟩
  have I:∀k a,h.at k=R a->(h.move g parent).at k=R (ja h g parent x j k a):=by intro k a b;rw[y.1];show(h.at k).map _=_;rw[b];rfl
  have m:∀k a,(ja h g parent x j k a).q=a.q∧(ja h g parent x j k a).on=a.on∧(ja h g parent x j k a).stopped=a.stopped∧(∀i,jM i a.own->jM i (ja h g parent x j k a).own):=by
   intro k a;unfold ja;split
   ·split;·exact⟨rfl,rfl,rfl,λi h=>h⟩
    ·exact⟨rfl,rfl,rfl,λi h=>h⟩
   ·exact⟨rfl,rfl,rfl,λi h=>h⟩
  have J:∀k a,h.at k=R a->a.on=true->k≠0->ja h g parent x j k a=a:=by intro k a b s l;unfold ja;rw[z0];intro A;have:=(H k a b A).1;have D:=hk.g.st k a b l l;rw[s] at D;have:a.fQ=false:=(by show(!a.stopped&&!a.q.es.isEmpty)=false;rw[this];simp);rw[this] at D;cases D
  refine⟨?_,?_,?_,?_,?_,?_,?_,?_,?_⟩;·intro k a b;exact t.lo _ _ (B k a b)
  ·obtain⟨r,z,e⟩:=ad.mB t.root;have K:=Prod.mk.inj e;exact⟨r,z,K.1.symm,K.2.symm⟩
  ·intro k a b n;obtain⟨p,S,u⟩:=t.up _ _ (B k a b) n;obtain⟨E,F,rfl⟩:=ad.mB S;exact⟨E,F,u⟩
  ·intro k a b;exact t.deep _ _ (B k a b)
  ·intro k a b;obtain⟨d,f,rfl⟩:=o k a b;rw[(m k d).1];exact hk.g.q _ _ f
  ·intro k a b T u;obtain⟨d,f,rfl⟩:=o k a b;rw[(m k d).1] at u;rcases hk.g.ids _ _ f T u with U|⟨c,ar,V,L,M,W,N⟩;·exact .inl U
   ·have O:=I c ar L;rw[J c ar L N M] at O;exact .inr ⟨c,ar,V,O,M,W,N⟩
  ·intro k a b l;obtain⟨d,f,rfl⟩:=o k a b;exact(m k d).2.2.2 k (hk.g.own _ _ f l)
  ·intro k a b l s;obtain⟨d,f,rfl⟩:=o k a b;rw[(m k d).2.1] at s;obtain⟨E,F,X⟩:=hk.g.on _ _ f l s;rw[J k d f s l];exact⟨_,I _ _ F,by rw[(m _ E).1];exact X⟩
  ·intro k a b l Y;obtain⟨d,f,rfl⟩:=o k a b;have G:=m k d;unfold aL.fQ;rw[G.1,G.2.1,G.2.2.1];exact hk.g.st _ _ f l Y
 ·unfold ad.move;rw[z0 e];exact hk
theorem Ff (c d:Int):(h0 c d).Ok:=by
 have a:∀k G,(h0 c d).at k=R G->k=0∧G=kE:=by
  intro k G e;obtain⟨m,o,i⟩:=ad.dp e;have j:∀n:Nat,(h0 c d).gs[n]?=R (R G)->n=0∧G=kE:=by
   intro n f;cases n with
   |zero=>exact⟨rfl,((Option.some.inj (Option.some.inj f))).symm⟩
   |succ n=>have:(gR 31 (U:Option aL))[n]?=R (R G):=f;rw[xN] at this;split at this<;>simp at this
  have:=j _ i;exact⟨by omega,this.2⟩
 have l:(h0 c d).at 0=R kE:=rfl;refine⟨rfl,⟨?_,⟨kE,l,rfl,rfl⟩,?_,?_,?_,?_,?_,?_,?_⟩⟩;·intro g G e;have:=(a g G e).1;omega
 ·intro g G e b;exact absurd (a g G e).1 b
 ·intro g G e;rw[(a g G e).2];exact⟨by decide,by decide⟩
 ·intro g G e;rw[(a g G e).2];exact yA
 ·intro g G e p h;rw[(a g G e).2] at h;simp[kE,kD] at h
 ·intro g G e b;exact absurd (a g G e).1 b
 ·intro g G e b;exact absurd (a g G e).1 b
 ·intro g G e b;exact absurd (a g G e).1 b
structure aG where
 idx:Int
 gen:Int deriving DecidableEq
structure bt (α:Type) where
 x:α
 gen:Int
 used:Bool deriving DecidableEq
structure an (α:Type) where
 pl:List (bt α)
 ct:List Nat deriving DecidableEq
def bS:aG:=⟨0,0⟩
section
variable {α:Type}
def an.new:an α:=⟨[],[]⟩
def an.many (p:an α):Nat:=p.pl.length-p.ct.length
def an.at (p:an α) (h:aG):Option (bt α):=if h.idx<0 then U else match p.pl[h.idx.toNat]? with
 |none=>U
 |some s=>if s.used=true∧s.gen=h.gen then R s else U
def an.put (p:an α) (x:α):an α×aG:=match p.ct with
 |[]=>(⟨p.pl++[⟨x,0,true⟩],[]⟩,⟨p.pl.length,0⟩)
 |i::l=>
  match p.pl[i]? with
  |none=>(p,bS)
  |some s=>(⟨p.pl.set i ⟨x,s.gen,true⟩,l⟩,⟨i,s.gen⟩)
def an.set (p:an α) (h:aG) (x:α):an α:=match p.at h with
 |none=>p
 |some s=>⟨p.pl.set h.idx.toNat {s with x:=x},p.ct⟩
def an.free (z:α) (p:an α) (h:aG):an α:=match p.at h with
 |none=>p
 |some s=>⟨p.pl.set h.idx.toNat ⟨z,cM (s.gen+1),false⟩,h.idx.toNat::p.ct⟩
structure an.Ok (p:an α):Prop where
 nodup:p.ct.Nodup
 ct:∀i:Nat,i∈p.ct↔∃s,p.pl[i]?=R s∧s.used=false
theorem an.dp {p:an α} {h:aG} {s:bt α} (e:p.at h=R s):0<=h.idx∧p.pl[h.idx.toNat]?=R s∧s.used=true∧s.gen=h.gen:=by
 unfold an.at at e;split at e;·cases e
 ·split at e;·cases e
  ·rename_i c b;split at e;·rename_i a;cases e;exact⟨by omega,b,a.1,a.2⟩
   ·cases e
theorem an.qw:(an.new (α:=α)).Ok:=⟨List.nodup_nil,λi=>by simp[an.new]⟩
theorem vf {l:List Nat} (c:l.Nodup) (h:∀x∈l,x<n):l.length<=n:=by
 induction n generalizing l with
 |zero=>
  cases l with
  |nil=>simp
  |cons a l=>exact absurd (h a ey) (by omega)
 |succ n f=>
  by_cases d:n∈l;·have g:=f (c.erase n) (λx b=>by have:=(c.mem_erase_iff).1 b;have:=h x this.2;omega);rw[List.length_erase_of_mem d] at g;have:=List.length_pos_of_mem d;omega
  ·have:=f c (λx b=>by have:=h x b;have:x≠n:=λe=>d (e▸b);omega);omega
theorem an.Ok.lt {p:an α} (h:p.Ok) (a:i∈p.ct):i<p.pl.length:=by obtain⟨c,b,_⟩:=(h.ct i).1 a;exact(bE.1 b).1
theorem an.Ok.cA {p:an α} (h:p.Ok):p.ct.length<=p.pl.length:=vf h.nodup (λx a=>h.lt a)
theorem an.Ok.put {p:an α} (h:p.Ok) (x:α):(p.put x).1.Ok:=by
 unfold an.put;split
 ·rename_i d;refine⟨List.nodup_nil,λi=>⟨λb=>by simp at b,?_⟩⟩;rintro⟨j,a,c⟩;rw[ud] at a;split at a;·have:=(h.ct i).2 ⟨j,a,c⟩;rw[d] at this;exact this
  ·rename_i m;have:i-p.pl.length=0∨0<i-p.pl.length:=(by omega);rcases this with e|e;·rw[e] at a;simp at a;rw[<-a] at c;cases c
   ·rw[ho (by simp;omega)] at a;cases a
 ·rename_i i l d;split;·exact h
  ·rename_i j a;have f:=h.nodup;rw[d,iT] at f;have m:=(bE.1 a).1;refine⟨f.2,λk=>?_⟩;have g:=h.ct k;rw[d,gu] at g;dsimp only;by_cases e:k=i
   ·subst e;constructor;·intro b;exact absurd b f.1
    ·rintro⟨o,n,c⟩;rw[cZ m] at n;cases n;cases c
   ·rw[dK (Ne.symm e)];constructor;·intro b;exact g.1 (.inr b)
    ·intro b;exact(g.2 b).resolve_left e
theorem an.Ok.set {p:an α} (h:p.Ok) (c:aG) (x:α):(p.set c x).Ok:=by
 unfold an.set;split;·exact h
 ·rename_i l f;obtain⟨m,d,n,o⟩:=an.dp f;have g:=(bE.1 d).1;refine⟨h.nodup,λk=>?_⟩;have i:=h.ct k;dsimp only;rw[i];by_cases e:k=c.idx.toNat
  ·subst e;rw[cZ g,d];constructor;·rintro⟨j,a,b⟩;cases a;exact⟨_,rfl,b⟩
   ·rintro⟨j,a,b⟩;cases a;exact⟨_,rfl,b⟩
  ·rw[dK (Ne.symm e)]
theorem an.Ok.free {p:an α} (h:p.Ok) (z:α) (b:aG):(p.free z b).Ok:=by
 unfold an.free;split;·exact h
 ·rename_i m g;obtain⟨n,c,i,o⟩:=an.dp g;have j:=(bE.1 c).1;refine⟨?_,λk=>?_⟩;·rw[iT];refine⟨λa=>?_,h.nodup⟩;obtain⟨q,d,f⟩:=(h.ct _).1 a;rw[c] at d;cases d;rw[i] at f;cases f
  ·have l:=h.ct k;dsimp only;rw[gu,l];by_cases e:k=b.idx.toNat;·subst e;rw[cZ j];exact⟨λ_=>⟨_,rfl,rfl⟩,λ_=>.inl rfl⟩
   ·rw[dK (Ne.symm e)];exact⟨λa=>a.resolve_left e,.inr⟩
end
variable {s:bt (aG×Int)}
abbrev ae:=an (aG×Int)
def ae.get (t:ae) (h:aG):Option (aG×Int):=(an.at t h).map (·.x)
def lg:ae:=⟨[⟨(bS,0),0,true⟩],[]⟩
def ae.fq (t:ae):Nat->aG->List aG
 |0,_=>[]
 |n+1,h=>
  match ae.get t h with
  |none=>[]
  |some g=>h::(if h=bS then[] else ae.fq t n g.1)
def ae.fj (t:ae) (parent:aG):Int:=match ae.get t parent with
 |none=>2
 |some g=>if g.2=8 then 5 else if an.many t=32 then 3 else 0
def ae.create (t:ae) (parent:aG):ae×aG:=if ae.fj t parent=0 then match ae.get t parent with
 |none=>(t,bS)
 |some g=>an.put t (parent,g.2+1) else(t,bS)
def gX {α:Type}:Nat->List (bt α)->List aG
 |_,[]=>[]
 |i,s::l=>if s.used then⟨i,s.gen⟩::gX (i+1) l else gX (i+1) l
def ae.all (t:ae):List aG:=gX 0 t.pl
def ae.di (t:ae) (h top:aG):Bool:=(ae.get t top).isSome&&(ae.fq t 10 h).any λx=>decide (x=top)
def ae.lT (t:ae) (h:aG):aG:=match ae.get t h with|none=>bS|some g=>g.1
def ae.fE (t:ae) (h:aG):Int:=match ae.get t h with|none=>0|some g=>g.2
def ae.kids (t:ae) (h:aG):List aG:=(ae.all t).filter λx=>decide (x≠bS)&&decide (ae.lT t x=h)
def ae.h8 (t:ae) (h:aG):Int:=match ae.get t h with
 |none=>2
 |some _=>if h=bS then 1 else if(ae.kids t h).isEmpty then 0 else 6
def ae.gY (t:ae) (h:aG):ae:=if ae.h8 t h=0 then an.free (bS,0) t h else t
def ae.below (t:ae) (h:aG):List aG:=(ae.all t).filter λx=>ae.di t x h
def ae.eg (t:ae) (h parent:aG):Int:=match ae.get t h,ae.get t parent with
 |some g,R p=>if h=bS then 1 else if ae.di t parent h then 10 else if(ae.below t h).any (λx=>decide (8<ae.fE t x+(p.2+1-g.2))) then 5 else 0
 |_,_=>2
def ae.fs (h parent:aG) (a:Int):List aG->ae->ae
 |[],t=>t
 |x::l,t=>
  match ae.get t x with
  |none=>ae.fs h parent a l t
  |some y=>ae.fs h parent a l (an.set t x (if x=h then parent else y.1,y.2+a))
def ae.move (t:ae) (h parent:aG):ae:=if ae.eg t h parent=0 then match ae.get t h,ae.get t parent with
 |some g,R p=>ae.fs h parent (p.2+1-g.2) (ae.below t h) t
 |_,_=>t else t
def ae.path (t:ae) (h:aG):List Int:=(((ae.fq t 10 h).takeWhile λx=>decide (x.idx≠0)).map (·.idx)).reverse
def ae.a7 (t:ae):eW:=λk=>
 if k<0 then U else match t.pl[k.toNat]? with
 |none=>U
 |some s=>if s.used=true then R (if k=0 then-1 else s.x.1.idx,s.x.2) else U
structure ae.Ok (t:ae):Prop where
 pool:an.Ok t
 cA:t.pl.length<=32
 root:t.pl[0]?=R ⟨(bS,0),0,true⟩
 up:∀h g,ae.get t h=R g->(ae.get t g.1).isSome
 a7:fW (ae.a7 t)
theorem ae.get_some {t:ae} {h:aG} {g:aG×Int} (e:ae.get t h=R g):0<=h.idx∧∃s,t.pl[h.idx.toNat]?=R s∧s.used=true∧s.gen=h.gen∧s.x=g:=by obtain⟨s,a,rfl⟩:=h1.1 e;obtain⟨b,c,d,f⟩:=an.dp a;exact⟨b,s,c,d,f,rfl⟩
theorem ae.yL {t:ae} {h:aG} (h0:0<=h.idx) (a:t.pl[h.idx.toNat]?=R s) (b:s.used=true) (c:s.gen=h.gen):ae.get t h=R s.x:=by unfold ae.get an.at;rw[z0 (by omega),a];dsimp only;rw[aj ⟨b,c⟩];rfl
theorem ae.Ok.ps {t:ae} (h:ae.Ok t):ae.get t bS=R (bS,0):=ae.yL (h:=bS) (by decide) h.root rfl rfl
theorem ae.nt {t:ae} {a b:aG} {x y:aG×Int} (g:ae.get t a=R x) (h:ae.get t b=R y) (e:a.idx=b.idx):a=b:=by obtain⟨_,s,c,_,d,_⟩:=ae.get_some g;obtain⟨_,r,i,_,f,_⟩:=ae.get_some h;rw[e,i] at c;cases c;obtain⟨j,k⟩:=a;obtain⟨l,m⟩:=b;simp only at e d f;rw[e,<-d,<-f]
theorem ae.eh {t:ae} {h:aG} {g:aG×Int} (e:ae.get t h=R g):ae.a7 t h.idx=R (if h.idx=0 then-1 else g.1.idx,g.2):=by obtain⟨c,s,a,b,d,rfl⟩:=ae.get_some e;unfold ae.a7;rw[z0 (by omega),a];dsimp only;rw[aj b]
theorem ae.lU {t:ae} {k:Int} {p:Int×Int} (e:ae.a7 t k=R p):∃a g,ae.get t ⟨k,a⟩=R g∧p=(if k=0 then-1 else g.1.idx,g.2):=by
 unfold ae.a7 at e;split at e;·cases e
 ·split at e;·cases e
  ·rename_i s b;split at e;·rename_i c;exact⟨s.gen,s.x,ae.yL (h:=⟨k,s.gen⟩) (by show 0<=k;omega) b c rfl,(Option.some.inj e).symm⟩
   ·cases e
theorem ae.Ok.nu {t:ae} (h:ae.Ok t) {x:aG} {g:aG×Int} (a:ae.get t x=R g):x.idx=0↔x=bS:=⟨λe=>ae.nt a h.ps e,λe=>by rw[e];rfl⟩
theorem ae.Ok.vg {t:ae} (h:ae.Ok t) {top:aG} {i:aG×Int} (d:ae.get t top=R i):∀(n:Nat) (x:aG) (g:aG×Int),ae.get t x=R g->((ae.fq t n x).any λx=>decide (x=top))=i_ (ae.a7 t) n x.idx top.idx
 |0,x,g,a=>rfl
 |n+1,x,g,a=>by
  have k:=(ae.get_some a).1;unfold ae.fq i_;rw[a,z0 (by omega),ae.eh a];dsimp only;rw[List.any_cons];by_cases e:x=top;·subst e;simp
  ·have j:¬x.idx=top.idx:=λb=>e (ae.nt a d b);rw[z0 j,show decide (x=top)=false by simpa using e,Bool.false_or];by_cases c:x=bS;·subst c;rw[show(if bS.idx=0 then(-1:Int) else g.1.idx)=-1 from aj rfl];simp only[if_true];cases n with
    |zero=>rfl
    |succ n=>simp[i_]
   ·rw[z0 c,z0 (λb=>c ((h.nu a).1 b))];cases f:ae.get t g.1 with
    |none=>have:=h.up x g a;rw[f] at this;cases this
    |some y=>exact ae.Ok.vg h d n g.1 y f
theorem ae.Ok.di {t:ae} (h:ae.Ok t) {x top:aG} {g b:aG×Int} (c:ae.get t x=R g) (a:ae.get t top=R b):ae.di t x top=eJ (ae.a7 t) x.idx top.idx:=by unfold ae.di;rw[a];simp only[Option.isSome_some,Bool.true_and];exact h.vg a 10 x g c
section
variable {α:Type}
theorem an.qx {p:an α} {h:aG} {s:bt α}:p.at h=R s↔0<=h.idx∧p.pl[h.idx.toNat]?=R s∧s.used=true∧s.gen=h.gen:=by
 constructor;·exact an.dp
 ·rintro⟨d,a,b,c⟩;unfold an.at;rw[z0 (by omega),a];dsimp only;rw[aj ⟨b,c⟩]
theorem lV {a b:aG} (c:a.idx=b.idx) (d:a.gen=b.gen):a=b:=by obtain⟨_,_⟩:=a;obtain⟨_,_⟩:=b;simp only at c d;rw[c,d]
theorem an.Ok.qy {p:an α} (h:p.Ok) (x:α):0<=(p.put x).2.idx∧(∀k,k.idx=(p.put x).2.idx->p.at k=U)∧(p.put x).1.pl[(p.put x).2.idx.toNat]?=R ⟨x,(p.put x).2.gen,true⟩∧(∀n:Nat,n≠(p.put x).2.idx.toNat->(p.put x).1.pl[n]?=p.pl[n]?)∧(p.put x).1.pl.length<=max p.pl.length (an.many p+1)∧(p.put x).2.idx.toNat<(p.put x).1.pl.length:=by
 cases d:p.ct with
 |nil=>
  have e:p.put x=(⟨p.pl++[⟨x,0,true⟩],[]⟩,⟨p.pl.length,0⟩):=by unfold an.put;rw[d]
  rw[e];dsimp only;refine⟨by omega,?_,?_,?_,?_,?_⟩;·intro k g;cases c:p.at k with
   |none=>rfl
   |some s=>have:=(bE.1 (an.dp c).2.1).1;omega
  ·simp
  ·intro n f;rw[ud];split;·rfl
   ·rw[ho (by simp;omega),ho (by omega)]
  ·unfold an.many;rw[d];simp
  ·simp
 |cons i l=>
  have m:i∈p.ct:=by rw[d];exact ey
  obtain⟨s,c,o⟩:=(h.ct i).1 m;have j:=(bE.1 c).1;have e:p.put x=(⟨p.pl.set i ⟨x,s.gen,true⟩,l⟩,⟨i,s.gen⟩):=by unfold an.put;rw[d];dsimp only;rw[c]
  rw[e];dsimp only;refine⟨by omega,?_,?_,?_,?_,?_⟩;·intro k g;cases q:p.at k with
   |none=>rfl
   |some r=>obtain⟨_,a,b,_⟩:=an.dp q;rw[g] at a;simp only[cd] at a;rw[c] at a;cases a;rw[o] at b;cases b
  ·rw[show((i:Int)).toNat=i by simp,cZ j]
  ·intro n f;rw[show((i:Int)).toNat=i by simp] at f;rw[dK (Ne.symm f)]
  ·simp;omega
  ·simpa using j
theorem an.Ok.yM {p:an α} (h:p.Ok) (x:α) (k:aG):(p.put x).1.at k=if k=(p.put x).2 then R ⟨x,(p.put x).2.gen,true⟩ else p.at k:=by
 obtain⟨g,i,f,j,_,_⟩:=h.qy x;by_cases e:k=(p.put x).2;·rw[aj e,an.qx,e];exact⟨g,f,rfl,rfl⟩
 ·rw[z0 e];by_cases d:k.idx=(p.put x).2.idx;·rw[i k d];cases l:(p.put x).1.at k with
   |none=>rfl
   |some s=>obtain⟨_,a,_,c⟩:=an.dp l;rw[d,f] at a;cases a;exact absurd (lV d c.symm) e
  ·unfold an.at;by_cases b:k.idx<0;·rw[aj b,aj b]
   ·rw[z0 b,z0 b,j _ (by omega)]
theorem an.qs {p:an α} {h:aG} {s:bt α} (c:p.at h=R s) (x:α) (k:aG):(p.set h x).at k=if k=h then R {s with x:=x} else p.at k:=by
 obtain⟨l,d,m,f⟩:=an.dp c;have g:=(bE.1 d).1;unfold an.set;rw[c];dsimp only;by_cases e:k=h;·rw[aj e,an.qx,e];exact⟨l,cZ g,m,f⟩
 ·rw[z0 e];by_cases a:k.idx<0;·unfold an.at;rw[aj a,aj a]
  ·by_cases i:k.idx=h.idx;·have j:k.gen≠s.gen:=λb=>e (lV i (b.trans f));unfold an.at;rw[z0 a,z0 a,i,d];dsimp only;rw[cZ g];dsimp only;rw[z0 (λb=>j b.2.symm),z0 (λb=>j b.2.symm)]
   ·unfold an.at;rw[z0 a,z0 a];dsimp only;rw[dK (by omega)]
theorem an.yN {p:an α} {h:aG} {s:bt α} (z:α) (c:p.at h=R s) (k:aG):(p.free z h).at k=if k.idx=h.idx then U else p.at k:=by
 obtain⟨g,d,i,j⟩:=an.dp c;have e:=(bE.1 d).1;unfold an.free;rw[c];dsimp only;by_cases a:k.idx<0;·unfold an.at;rw[aj a,aj a,z0 (by omega)]
 ·by_cases b:k.idx=h.idx;·rw[aj b];unfold an.at;rw[z0 a,b];dsimp only;rw[cZ e];dsimp only;rw[z0 (λf=>by cases f.1)]
  ·rw[z0 b];unfold an.at;rw[z0 a,z0 a];dsimp only;rw[dK (by omega)]
theorem an.md (p:an α) (h:aG) (x:α):(p.set h x).pl.length=p.pl.length:=by
 unfold an.set;split;·rfl
 ·simp
theorem an.yO (z:α) (p:an α) (h:aG):(p.free z h).pl.length=p.pl.length:=by
 unfold an.free;split;·rfl
 ·simp
end
theorem vh {α:Type}:∀(l:List (bt α)) (i:Nat) (a:aG),a∈gX i l↔∃(j:Nat) (s:bt α),l[j]?=R s∧s.used=true∧a=⟨((i+j:Nat):Int),s.gen⟩
 |[],i,a=>by simp[gX]
 |s::l,i,a=>by
  have f:=vh l (i+1) a;have g:(∃(j:Nat) (r:bt α),(s::l)[j]?=R r∧r.used=true∧a=⟨((i+j:Nat):Int),r.gen⟩)↔(s.used=true∧a=⟨(i:Int),s.gen⟩)∨∃(j:Nat) (r:bt α),l[j]?=R r∧r.used=true∧a=⟨((i+1+j:Nat):Int),r.gen⟩:=by
   constructor;·rintro⟨j,r,b,c,d⟩;cases j with
    |zero=>simp at b;subst b;exact .inl ⟨c,d⟩
    |succ j=>exact .inr ⟨j,r,by simpa using b,c,by rw[d,show i+(j+1)=i+1+j by omega]⟩
   ·rintro(⟨b,c⟩|⟨j,r,b,c,d⟩);·exact⟨0,s,rfl,b,c⟩
    ·exact⟨j+1,r,by simpa using b,c,by rw[d,show i+(j+1)=i+1+j by omega]⟩
  rw[g,<-f,show gX i (s::l)=if s.used then⟨(i:Int),s.gen⟩::gX (i+1) l else gX (i+1) l from rfl];split;·rename_i e;rw[gu];simp[e]
  ·rename_i e;simp[e]
theorem ae.vi {t:ae} {h:aG}:h∈ae.all t↔(ae.get t h).isSome:=by
 unfold ae.all;rw[vh];unfold ae.get;rw[Option.isSome_map];constructor;·rintro⟨j,s,a,b,rfl⟩;rw[(an.qx (s:=s)).2 ⟨by dsimp only;omega,by simpa using a,b,rfl⟩];rfl
 ·intro e;obtain⟨s,c⟩:=gP.1 e;obtain⟨f,a,b,d⟩:=an.dp c;exact⟨h.idx.toNat,s,a,b,lV (by dsimp only;omega) d.symm⟩
theorem yP {α:Type}:∀(l:List (bt α)) (i:Nat),(gX i l).Nodup
 |[],_=>List.nodup_nil
 |s::l,i=>by
  have a:=yP l (i+1);unfold gX;split;·rw[iT];refine⟨λb=>?_,a⟩;obtain⟨j,r,_,_,e⟩:=(vh l (i+1) _).1 b;have:=congrArg aG.idx e;simp only at this;omega
  ·exact a
theorem ae.qz {t:ae} (h:ae.Ok t) {parent:aG} {g:aG×Int} (a:ae.get t parent=R g) (e:ae.fj t parent=0) (k:aG):ae.get (ae.create t parent).1 k=if k=(ae.create t parent).2 then R (parent,g.2+1) else ae.get t k:=by unfold ae.create;rw[aj e,a];dsimp only;unfold ae.get;rw[h.pool.yM];split<;>rfl
theorem ae.vj {t:ae} {parent:aG} (e:ae.fj t parent=0):∃g,ae.get t parent=R g∧g.2≠8∧an.many t≠32:=by
 unfold ae.fj at e;cases a:ae.get t parent with
 |none=>rw[a] at e;cases e
 |some g=>
  rw[a] at e;dsimp only at e;split at e;·cases e
  ·split at e;·cases e
   ·exact⟨g,rfl,by assumption,by assumption⟩
theorem ae.Ok.sr {t:ae} (h:ae.Ok t) {parent:aG} (e:ae.fj t parent=0):1<=(ae.create t parent).2.idx∧(ae.create t parent).2.idx<32∧(∀k:aG,k.idx=(ae.create t parent).2.idx->ae.get t k=U)∧ae.a7 t (ae.create t parent).2.idx=U:=by
 obtain⟨g,c,o,d⟩:=ae.vj e;have f:=h.pool.qy (parent,g.2+1);have i:ae.create t parent=an.put t (parent,g.2+1):=by unfold ae.create;rw[aj e,c]
 rw[i];obtain⟨q,j,r,s,u,v⟩:=f;have a:∀k:aG,k.idx=(an.put t (parent,g.2+1)).2.idx->ae.get t k=U:=λk l=>by unfold ae.get;rw[j k l];rfl
 have w:=h.pool.cA;have x:=h.cA;have z:(an.put t (parent,g.2+1)).2.idx.toNat<32:=by
  have:an.many t+1<=32:=by unfold an.many at d⊢;omega
  omega
 refine⟨?_,by omega,a,?_⟩;·refine Decidable.byContradiction λA=>?_;have:=a bS (by show(0:Int)=_;omega);rw[h.ps] at this;cases this
 ·cases m:ae.a7 t (an.put t (parent,g.2+1)).2.idx with
  |none=>rfl
  |some p=>obtain⟨n,y,b,_⟩:=ae.lU m;rw[a ⟨_,n⟩ rfl] at b;cases b
theorem ae.vk {t t':ae} (f:eW) (h:∀k p,f k=R p↔∃a g,ae.get t' ⟨k,a⟩=R g∧p=(if k=0 then-1 else g.1.idx,g.2)):ae.a7 t'=f:=by
 funext k;cases b:ae.a7 t' k with
 |none=>
  cases c:f k with
  |none=>rfl
  |some p=>obtain⟨a,g,d,_⟩:=(h k p).1 c;have:=ae.eh d;rw[b] at this;cases this
 |some p=>exact((h k p).2 (ae.lU b)).symm
theorem ae.Ok.yQ {t:ae} (h:ae.Ok t) {parent:aG} {g:aG×Int} (d:ae.get t parent=R g) (e:ae.fj t parent=0):ae.a7 (ae.create t parent).1=my (ae.a7 t) (ae.create t parent).2.idx (parent.idx,g.2+1):=by
 obtain⟨l,m,j,n⟩:=h.sr e;refine ae.vk (t:=t) _ λk p=>?_;unfold my;constructor
 ·intro f;split at f;·rename_i b;subst b;cases f;refine⟨(ae.create t parent).2.gen,(parent,g.2+1),?_,by rw[z0 (by omega)]⟩;rw[ae.qz h d e,aj rfl]
  ·rename_i b;obtain⟨i,y,a,c⟩:=ae.lU f;refine⟨i,y,?_,c⟩;rw[ae.qz h d e,z0 (λr=>b (congrArg aG.idx r))];exact a
 ·rintro⟨i,y,a,c⟩;rw[ae.qz h d e] at a;split at a;·rename_i r;have:=congrArg aG.idx r;simp only at this;cases a;rw[aj this,c,z0 (by omega)]
  ·rename_i r;rw[z0 (λb=>by have:=j ⟨k,i⟩ b;rw[a] at this;cases this)];have:=ae.eh a;simp only at this;rw[this,c]
theorem ae.Ok.create {t:ae} (h:ae.Ok t) (parent:aG):ae.Ok (ae.create t parent).1:=by
 by_cases e:ae.fj t parent=0
 ·obtain⟨g,a,s,n⟩:=ae.vj e;obtain⟨f,o,u,p⟩:=h.sr e;have c:ae.create t parent=an.put t (parent,g.2+1):=by unfold ae.create;rw[aj e,a]
  have i:=h.pool.qy (parent,g.2+1);have j:=ae.qz h a e;have v:=h.pool.cA;have w:=h.cA;refine⟨by rw[c];exact h.pool.put _,?_,?_,?_,?_⟩;·rw[c];have:an.many t+1<=32:=(by unfold an.many at n⊢;omega);have:=i.2.2.2.2.1;omega
  ·rw[c] at f⊢;rw[i.2.2.2.1 0 (by omega)];exact h.root
  ·intro k y b;rw[j] at b;have l:∀d:aG,(ae.get t d).isSome->(ae.get (ae.create t parent).1 d).isSome:=by
    intro d q;rw[j];split;·rfl
    ·exact q
   split at b;·cases b;exact l _ (by rw[a];rfl)
   ·exact l _ (h.up k y b)
  ·rw[h.yQ a e];have m:=ae.eh a;have r:=h.a7.deep _ _ m;exact h.a7.add p f o m (by dsimp only at r⊢;omega)
 ·unfold ae.create;rw[z0 e];exact h
theorem ae.ss {t:ae} {h:aG} (e:ae.h8 t h=0):∃g,ae.get t h=R g∧h≠bS∧∀x y,x≠bS->ae.get t x=R y->y.1≠h:=by
 unfold ae.h8 at e;cases a:ae.get t h with
 |none=>rw[a] at e;cases e
 |some g=>
  rw[a] at e;dsimp only at e;split at e;·cases e
  ·rename_i d;split at e;·rename_i f;refine⟨g,rfl,d,λx y i b j=>?_⟩;have c:x∈ae.kids t h:=(by unfold ae.kids;rw[List.mem_filter];refine⟨ae.vi.2 (by rw[b];rfl),?_⟩;unfold ae.lT;rw[b];simp[i,j]);rw[o8.1 f] at c;cases c
   ·cases e
theorem ae.su {t:ae} {h:aG} (e:ae.h8 t h=0) (k:aG):ae.get (ae.gY t h) k=if k.idx=h.idx then U else ae.get t k:=by obtain⟨g,a,_⟩:=ae.ss e;obtain⟨s,b,_⟩:=h1.1 a;unfold ae.gY;rw[aj e];unfold ae.get;rw[an.yN _ b];split<;>rfl
theorem ae.Ok.yR {t:ae} (h:ae.Ok t) {x:aG} (e:ae.h8 t x=0):ae.a7 (ae.gY t x)=mz (ae.a7 t) x.idx:=by
 refine ae.vk (t:=t) _ λk p=>?_;unfold mz;constructor
 ·intro b;split at b;·cases b
  ·rename_i c;obtain⟨f,y,a,d⟩:=ae.lU b;exact⟨f,y,by rw[ae.su e,z0 c];exact a,d⟩
 ·rintro⟨f,y,a,d⟩;rw[ae.su e] at a;split at a;·cases a
  ·rename_i c;rw[z0 c];have:=ae.eh a;simp only at this;rw[this,d]
theorem ae.Ok.gY {t:ae} (h:ae.Ok t) (x:aG):ae.Ok (ae.gY t x):=by
 by_cases e:ae.h8 t x=0
 ·obtain⟨g,c,n,l⟩:=ae.ss e;have m:x.idx≠0:=λa=>n ((h.nu c).1 a);have v:=(ae.get_some c).1;have f:ae.gY t x=an.free (bS,0) t x:=by unfold ae.gY;rw[aj e]
  refine⟨by rw[f];exact h.pool.free _ _,by rw[f,an.yO];exact h.cA,?_,?_,?_⟩;·rw[f];obtain⟨s,o,_⟩:=h1.1 c;unfold an.free;rw[o];dsimp only;rw[dK (by omega)];exact h.root
  ·intro k y b;rw[ae.su e] at b⊢;split at b;·cases b
   ·rename_i a;have i:=h.up k y b;obtain⟨q,j⟩:=gP.1 i;by_cases d:k=bS;·subst d;rw[h.ps] at b;cases b;rw[z0 (λa=>m a.symm)];exact i
    ·rw[z0 (λa=>l k y d b (ae.nt j c a))];exact i
  ·rw[h.yR e];apply h.a7.del m;intro k p u a;obtain⟨w,y,b,rfl⟩:=ae.lU u;dsimp only at a;split at a;·omega
   ·rename_i d;obtain⟨q,j⟩:=gP.1 (h.up _ _ b);exact l _ _ (λr=>d (congrArg aG.idx r)) b (ae.nt j c a)
 ·unfold ae.gY;rw[z0 e];exact h
theorem ae.yS {t:ae} {x:aG} {y:aG×Int} (a:ae.get t x=R y) (z:aG×Int) (k:aG):ae.get (an.set t x z) k=if k=x then R z else ae.get t k:=by obtain⟨s,b,_⟩:=h1.1 a;unfold ae.get;rw[an.qs b];split<;>rfl
theorem ae.vl (h parent:aG) (b:Int):∀(l:List aG) (a:ae),l.Nodup->(∀x∈l,(ae.get a x).isSome)->∀k,ae.get (ae.fs h parent b l a) k=if k∈l then(ae.get a k).map (λy=>(if k=h then parent else y.1,y.2+b)) else ae.get a k
 |[],a,_,_,k=>by rw[z0 (by simp)];rfl
 |x::l,a,d,f,k=>by
  rw[iT] at d;obtain⟨y,c⟩:=gP.1 (f x ey);unfold ae.fs;rw[c];dsimp only;rw[ae.vl h parent b l _ d.2 ?_ k,ae.yS c]
  ·by_cases e:k=x;·subst e;rw[z0 d.1,aj rfl,aj ey,c];rfl
   ·rw[z0 e];by_cases m:k∈l;·rw[aj m,aj (gD _ m)]
    ·rw[z0 m,z0 (by simp[e,m])]
  ·intro g i;rw[ae.yS c];split;·rfl
   ·exact f g (gD _ i)
theorem ae.vm (h parent:aG) (b:Int):∀(l:List aG) (a:ae),an.Ok a->an.Ok (ae.fs h parent b l a)∧(ae.fs h parent b l a).pl.length=a.pl.length
 |[],a,c=>⟨c,rfl⟩
 |x::l,a,c=>by
  unfold ae.fs;split;·exact ae.vm h parent b l a c
  ·rename_i y _;have:=ae.vm h parent b l _ (c.set x (if x=h then parent else y.1,y.2+b));exact⟨this.1,by rw[this.2,an.md]⟩
theorem ae.og {t:ae} {h parent:aG} (e:ae.eg t h parent=0):∃g p,ae.get t h=R g∧ae.get t parent=R p∧h≠bS∧ae.di t parent h=false∧∀x∈ae.below t h,ae.fE t x+(p.2+1-g.2)<=8:=by
 unfold ae.eg at e;cases a:ae.get t h with
 |none=>rw[a] at e;cases e
 |some g=>
  cases hp:ae.get t parent with
  |none=>rw[a,hp] at e;cases e
  |some p=>
   rw[a,hp] at e;dsimp only at e;split at e;·cases e
   ·rename_i b;split at e;·cases e
    ·rename_i c;split at e;·cases e
     ·rename_i d;refine⟨g,p,rfl,rfl,b,by simpa using c,λx f=>?_⟩;have i:(ae.below t h).any (λx=>decide (8<ae.fE t x+(p.2+1-g.2)))=false:=(by simpa using d);have:=List.any_eq_false.1 i x f;simp only[decide_eq_true_eq] at this;omega
theorem ae.jO {t:ae} {h x:aG}:x∈ae.below t h↔(ae.get t x).isSome∧ae.di t x h=true:=by unfold ae.below;rw[List.mem_filter,ae.vi]
theorem ae.oe (t:ae) (h:aG):(ae.below t h).Nodup:=List.Nodup.sublist List.filter_sublist (yP _ _)
theorem ae.sv {t:ae} {h parent:aG} {g p:aG×Int} (a:ae.get t h=R g) (b:ae.get t parent=R p) (e:ae.eg t h parent=0) (k:aG):ae.get (ae.move t h parent) k=if ae.di t k h then(ae.get t k).map (λy=>(if k=h then parent else y.1,y.2+(p.2+1-g.2))) else ae.get t k:=by
 unfold ae.move;rw[aj e,a,b];dsimp only;rw[ae.vl _ _ _ _ _ (ae.oe t h) (λx c=>(ae.jO.1 c).1)];by_cases m:k∈ae.below t h;·rw[aj m,aj (ae.jO.1 m).2]
 ·rw[z0 m];by_cases u:ae.di t k h=true;·rw[aj u];cases hk:ae.get t k with
   |none=>rfl
   |some y=>exact absurd (ae.jO.2 ⟨by rw[hk];rfl,u⟩) m
  ·rw[z0 u]
theorem ae.Ok.qv {t:ae} (hk:ae.Ok t) {h parent:aG} {g p:aG×Int} (d:ae.get t h=R g) (o:ae.get t parent=R p) (e:ae.eg t h parent=0):ae.a7 (ae.move t h parent)=kG (ae.a7 t) h.idx parent.idx (p.2+1-g.2):=by
 obtain⟨_,_,_,_,s,_⟩:=ae.og e;have u:h.idx≠0:=λq=>s ((hk.nu d).1 q);refine ae.vk (t:=t) _ λk q=>?_;unfold kG;constructor;·intro j;cases a:ae.a7 t k with
  |none=>rw[a] at j;cases j
  |some r=>
   rw[a] at j;dsimp only at j;obtain⟨f,y,b,rfl⟩:=ae.lU a;have i:=hk.di b d;simp only at i;have m:=ae.sv d o e ⟨k,f⟩;rw[b,i] at m;split at j
   ·rename_i l;rw[aj l] at m;refine⟨f,_,m,?_⟩;rw[<-Option.some.inj j];by_cases c:k=h.idx;·have:(⟨k,f⟩:aG)=h:=ae.nt b d c;dsimp only;rw[aj c,aj this,z0 (by omega)]
    ·have:(⟨k,f⟩:aG)≠h:=λr=>c (congrArg aG.idx r);dsimp only;rw[z0 c,z0 this]
   ·rename_i l;rw[z0 l] at m;exact⟨f,y,m,(Option.some.inj j).symm⟩
 ·rintro⟨f,y,b,rfl⟩;rw[ae.sv d o e] at b;split at b
  ·rename_i l;obtain⟨v,n,rfl⟩:=h1.1 b;have a:=ae.eh n;simp only at a;rw[a];dsimp only;have i:=hk.di n d;simp only at i;rw[<-i,aj l];by_cases c:k=h.idx;·have:(⟨k,f⟩:aG)=h:=ae.nt n d c;rw[aj c,aj this,z0 (by omega)]
   ·have:(⟨k,f⟩:aG)≠h:=λr=>c (congrArg aG.idx r);rw[z0 c,z0 this]
  ·rename_i l;have a:=ae.eh b;simp only at a;rw[a];dsimp only;have i:=hk.di b d;simp only at i;rw[<-i,z0 l]
theorem ae.Ok.move {t:ae} (hk:ae.Ok t) (h parent:aG):ae.Ok (ae.move t h parent):=by
 by_cases e:ae.eg t h parent=0
 ·obtain⟨g,p,a,c,z,A,B⟩:=ae.og e;have i:=ae.sv a c e;have l:ae.move t h parent=ae.fs h parent (p.2+1-g.2) (ae.below t h) t:=by unfold ae.move;rw[aj e,a,c]
  have C:h.idx≠0:=λq=>z ((hk.nu a).1 q);have m:=ae.vm h parent (p.2+1-g.2) (ae.below t h) t hk.pool;have D:ae.di t bS h=false:=by rw[hk.di hk.ps a];show eJ (ae.a7 t) 0 h.idx=false;rw[hk.a7.sn];simp;omega
  refine⟨by rw[l];exact m.1,by rw[l,m.2];exact hk.cA,?_,?_,?_⟩;·have n:=i bS;rw[D,hk.ps] at n;obtain⟨_,s,o,u,v,w⟩:=ae.get_some n;rw[show(bS.idx).toNat=0 from rfl] at o;rw[o];obtain⟨J,K,L⟩:=s;simp only at u v w;rw[u,v,w];rfl
  ·have j:∀d:aG,(ae.get t d).isSome->(ae.get (ae.move t h parent) d).isSome:=by
    intro d f;rw[i];split;·rw[Option.isSome_map];exact f
    ·exact f
   intro k y b;rw[i] at b;split at b
   ·obtain⟨d,f,rfl⟩:=h1.1 b;dsimp only;split;·exact j _ (by rw[c];rfl)
    ·exact j _ (hk.up k d f)
   ·exact j _ (hk.up k y b)
  ·rw[hk.qv a c e];have E:=ae.eh a;have F:=ae.eh c;refine hk.a7.move (p:=(if h.idx=0 then-1 else g.1.idx,g.2)) (q:=(if parent.idx=0 then-1 else p.1.idx,p.2)) E C F (by rw[<-hk.di c a];exact A) ?_;intro k r G H;obtain⟨I,y,b,rfl⟩:=ae.lU G;have x:=hk.di b a;simp only at x;have:=B ⟨k,I⟩ (ae.jO.2 ⟨by rw[b];rfl,by rw[x];exact H⟩);unfold ae.fE at this;rw[b] at this;exact this
 ·unfold ae.move;rw[z0 e];exact hk
theorem yT:ae.Ok lg:=by
 have f:∀a g,ae.get lg a=R g->a=bS∧g=(bS,0):=by
  intro a g e;obtain⟨h,s,b,j,m,n⟩:=ae.get_some e;have d:a.idx.toNat=0:=by have:=(bE.1 b).1;simp[lg] at this;omega
  rw[d] at b;have c:s=⟨(bS,0),0,true⟩:=(Option.some.inj b).symm;subst c;exact⟨lV (by show a.idx=0;omega) (by show a.gen=0;exact m.symm),n.symm⟩
 have o:ae.get lg bS=R (bS,0):=rfl;have c:∀k p,ae.a7 lg k=R p->k=0∧p=(-1,0):=by intro k p e;obtain⟨u,g,q,rfl⟩:=ae.lU e;obtain⟨r,rfl⟩:=f _ _ q;have:=congrArg aG.idx r;have l:k=0:=this;exact⟨l,by rw[aj l]⟩
 refine⟨⟨List.nodup_nil,λi=>⟨λt=>(by cases t),?_⟩⟩,by decide,rfl,?_,?_⟩
 ·rintro⟨s,b,j⟩;have d:i=0:=by have:=(bE.1 b).1;simp[lg] at this;omega
  subst d;have:s=⟨(bS,0),0,true⟩:=(Option.some.inj b).symm;subst this;cases j
 ·intro a g e;rw[(f a g e).2,o];rfl
 ·refine⟨?_,rfl,?_,?_⟩;·intro g p e;have:=(c g p e).1;omega
  ·intro g p e h;exact absurd (c g p e).1 h
  ·intro g p e;rw[(c g p e).2];exact⟨by decide,by decide⟩
structure aN where
 quota:Int
 slice:Int
 pool:Int
 spent:Int
 loc:List Int deriving DecidableEq
def aN.new (a:Nat):aN:=⟨0,0,0,0,gR a 0⟩
def aN.hP (q s:Int):Int:=if q<0∨1099511627776<q then 1 else if q=0 then 0 else if s<1∨1099511627776<s then 1 else 0
def aN.set (b:aN) (q s:Int):aN:=if aN.hP q s=0 then⟨q,if q=0 then 0 else s,q,0,b.loc.map λ_=>0⟩ else b
def aN.limited (b:aN):Bool:=decide (0<b.quota)
def aN.there (b:aN) (p:Int):Bool:=decide (0<=p)&&decide (p<b.loc.length)
def aN.at (b:aN) (p:Int):Int:=b.loc.getD p.toNat 0
def aN.h9 (b:aN) (p:Int):Int:=min b.pool (cM (b.slice-b.at p))
def aN.cV (b:aN) (p:Int):aN:=if b.there p=false then b else if b.quota=0 then b else if b.at p<=0 then {b with loc:=b.loc.set p.toNat (cM (b.at p+b.h9 p)),pool:=cM (b.pool-b.h9 p)} else b
def aN.hx (b:aN) (p:Int):Bool:=if b.there p=false then false else if b.quota=0 then true else decide (0<(b.cV p).at p)
def aN.e6 (b:aN) (p ns:Int):Int:=if b.there p=false then 1 else if ns<0∨1000000000<ns then 8 else 0
def aN.b3 (b:aN) (p ns:Int):aN:=if b.e6 p ns=0 then aN.cV {b with spent:=kd b.spent ns,loc:=if 0<b.quota then b.loc.set p.toNat (cM (b.at p-ns)) else b.loc} p else b
def aN.ret (b:aN) (p:Int):aN:=if b.there p=true then {b with pool:=cM (b.pool+max (b.at p) 0),loc:=b.loc.set p.toNat (cM (b.at p-max (b.at p) 0))} else b
def aN.fR (b:aN):aN:={b with spent:=0,pool:=b.quota,loc:=b.loc.map λn=>min n 0}
structure cI where
 hC:Nat
 task:Int
 ran:Nat
 busy:Nat
 idle:Nat deriving DecidableEq
def ez (a b:Nat):Nat:=if 18446744073709551616<=a+b then 18446744073709551615 else a+b
def cI.new (a:Nat):cI:=⟨a,-1,0,0,0⟩
def cI.begin (t:cI) (k:Int):cI:=if max k (-1)=t.task then t else {t with task:=max k (-1),ran:=0}
def sw (a w b:Nat):Nat:=if b<=w then a else max (a*w/b) 1
def cI.tick (t:cI) (ns:Nat):cI:=if 1000000000<ns then t else if t.task=-1 then {t with idle:=ez t.idle ns} else {t with ran:=ez t.ran ns,busy:=ez t.busy ns}
def cI.due (t:cI) (ns w a:Nat):Bool:=if 1000000000<ns then false else if t.task=-1 then false else decide (sw t.hC w a<=ez t.ran ns)
structure fF where
 tasks:Int->Int
 groups:Int->Int
 total:Int
def fF.new:fF:=⟨λ_=>0,λ_=>0,0⟩
def kf (l:List Int):Bool:=l.all (λx=>decide (0<=x))&&decide l.Nodup
def fG (f:Int->Int) (k n:Int) (i:Int):Int:=if i=k then cM (f k+n) else f i
def gj (n:Int):List Int->(Int->Int)->Int->Int
 |[],f=>f
 |k::l,f=>gj n l (fG f k n)
def fF.gx (b:fF) (a:List Int) (task ns:Int):Int:=if ns<0∨task<0∨kf a=false then 1 else if cM (9223372036854775807-b.total)<ns then 3 else 0
def fF.b4 (b:fF) (a:List Int) (task ns:Int):fF:=if b.gx a task ns=0 then⟨fG b.tasks task ns,gj ns a b.groups,cM (b.total+ns)⟩ else b
def oh:Nat->List Nat->Nat
 |a,[]=>a
 |a,n::l=>if 18446744073709551616<=a+n then 18446744073709551615 else oh (a+n) l
def oi (shares b a:Nat):Nat:=if a=0 then 2 else min (max (shares*b/a) 2) 262144
def jP (shares:Nat) (a:List Nat):List Nat:=a.map λn=>oi shares n (oh 0 a)
def fX (l:List Int) (p:Int):List Int:=if 0<=p∧l.length≠64∧p∉l then l++[p] else l
def bX (m:Int) (p:Nat):Bool:=bits BinOp.and ah (m/2^p) 1==1
def da (zs:List Int) (m:Int) (p:Nat):Bool:=decide (p<zs.length)&&(decide (p<64)&&bX m p)
theorem mC {m:Int}:da zs m p=true↔p<zs.length∧p<64∧bX m p=true:=by simp[da]
def bj (zs:List Int) (p:Nat):Int:=zs[p]?.getD 0
def jQ (P:Nat->Bool):Nat->Int
 |0=>-1
 |n+1=>if 0<=jQ P n then jQ P n else if P n then(n:Int) else-1
theorem vn (P:Nat->Bool) (n:Nat):(jQ P n=-1∧∀p,p<n->P p=false)∨(∃p:Nat,p<n∧jQ P n=p∧P p=true∧∀a,a<p->P a=false):=by
 induction n with
 |zero=>exact .inl ⟨rfl,λp i=>by omega⟩
 |succ n e=>
  rcases e with⟨d,b⟩|⟨p,d,b,f,g⟩
  ·by_cases c:P n=true;·refine .inr ⟨n,by omega,?_,c,b⟩;unfold jQ;rw[d];simp[c]
   ·refine .inl ⟨?_,λa j=>?_⟩;·unfold jQ;rw[d];simp[c]
    ·by_cases h:a=n;·subst h;simpa using c
     ·exact b a (by omega)
  ·refine .inr ⟨p,by omega,?_,f,g⟩;unfold jQ;rw[b];simp
theorem vo {P:Nat->Bool} {k:Nat} (hk:k<n) (b:P k=true) (f:∀d,d<k->P d=false):jQ P n=k:=by
 rcases vn P n with⟨_,c⟩|⟨p,h,c,e,g⟩;·exact absurd (c k hk) (by simp[b])
 ·rw[c];rcases Nat.lt_trichotomy p k with a|a|a;·rw[f p a] at e;cases e
  ·rw[a]
  ·rw[g k a] at b;cases b
theorem vp {P:Nat->Bool} (c:∀a,a<n->P a=false):jQ P n=-1:=by
 rcases vn P n with⟨d,_⟩|⟨p,e,_,b,_⟩;·exact d
 ·rw[c p e] at b;cases b
def yU (zs:List Int) (b m:Int) (p j:Nat):Bool:=(da zs m p&&(p:Int)!=b)&&(gh j).all λa=>!(da zs m a&&(a:Int)!=b&&decide (bj zs p<bj zs a))
def qA (zs:List Int) (a m:Int) (p:Nat):Bool:=yU zs a m p zs.length
def yV (zs:List Int) (m:Int) (p j:Nat):Bool:=da zs m p&&(gh j).all λq=>!(da zs m q&&decide (bj zs q<bj zs p))
def pt (zs:List Int) (m:Int) (p:Nat):Bool:=yV zs m p zs.length
def lW (zs:List Int) (a m:Int):Int:=jQ (qA zs a m) zs.length
def least (zs:List Int) (m:Int):Int:=jQ (pt zs m) zs.length
def iB (w w':ab):Prop:=∃n,w'=w.drewN n
theorem iB.refl (w:ab):iB w w:=⟨0,rfl⟩
theorem iB.drewN {w w':ab} (h:iB w w') (n:Nat):iB w (w'.drewN n):=by obtain⟨k,rfl⟩:=h;exact⟨k+n,by rw[World.drewN_drewN]⟩
theorem iB.below (h:iB w w') (B:Nat):Below B w w':=by
 obtain⟨a,rfl⟩:=h;induction a with
 |zero=>exact Below.refl _ _
 |succ a b=>exact b.drew
structure Row (k:IntKind) (lo aT:Int) (w:ab) (a:Option Addr) (len:Nat) (zs:List Int):Prop where
 n:zs.length=len
 cells:(a=U∧len=0)∨∃b off,a=R ⟨b,off,U⟩∧b<w.heap.size∧∀i,i<len->w.cell? ⟨b,off+i,U⟩=R (I k (bj zs i))
 bd:∀i:Nat,lo<=bj zs i∧bj zs i<aT
 fits:len*8<=140737488351232
def kH (zs:List Int) (a:Int) (b:Int) (p:Nat):Int:=if(p:Int)≠a∧(b<0∨bj zs b.toNat<bj zs p) then(p:Int) else b
def gy (zs:List Int) (a m:Int) (l:List {p:Nat//da zs m p=true}):Int:=l.foldl (λb c=>kH zs a b c.1) (-1)
theorem vq (zs:List Int) (a m:Int) (l:List {p:Nat//da zs m p=true}) (x:{p:Nat//da zs m p=true}):gy zs a m (l++[x])=kH zs a (gy zs a m l) x.1:=by simp[gy]
def lX (zs:List Int) (b:Int) (p:Nat):Int:=if b<0∨bj zs p<bj zs b.toNat then(p:Int) else b
def gZ (zs:List Int) (m:Int) (l:List {p:Nat//da zs m p=true}):Int:=l.foldl (λb x=>lX zs b x.1) (-1)
theorem vr (zs:List Int) (m:Int) (l:List {p:Nat//da zs m p=true}) (x:{p:Nat//da zs m p=true}):gZ zs m (l++[x])=lX zs (gZ zs m l) x.1:=by simp[gZ]
theorem vs {α:Type} {P:List α->Prop} (h0:P []) (b:∀l a,P l->P (l++[a])) (l:List α):P l:=by
 have:∀l:List α,P l.reverse:=by
  intro l;induction l with
  |nil=>exact h0
  |cons a l c=>rw[List.reverse_cons];exact b _ _ c
 simpa using this l.reverse
theorem Fg (zs:List Int) (a m:Int) (l:List {p:Nat//da zs m p=true}):-1<=gy zs a m l∧gy zs a m l<zs.length∨gy zs a m l=-1:=by refine vs (P:=λl=>-1<=gy zs a m l∧gy zs a m l<zs.length∨gy zs a m l=-1) (.inr rfl) ?_ l;intro l b c;rw[vq];have d:=(mC.1 b.2).1;unfold kH;split<;>omega
theorem Fh (zs:List Int) (m:Int) (l:List {p:Nat//da zs m p=true}):-1<=gZ zs m l∧gZ zs m l<zs.length∨gZ zs m l=-1:=by refine vs (P:=λl=>-1<=gZ zs m l∧gZ zs m l<zs.length∨gZ zs m l=-1) (.inr rfl) ?_ l;intro l a b;rw[vr];have c:=(mC.1 a.2).1;unfold lX;split<;>omega
def e1 (zs:List Int) (m:Int):Nat->List {p:Nat//da zs m p=true}
 |0=>[]
 |k+1=>if h:da zs m k=true then e1 zs m k++[⟨k,h⟩] else e1 zs m k
theorem Fi (zs:List Int) (m:Int) (k:Nat):(e1 zs m k).length<=k:=by
 induction k with
 |zero=>simp[e1]
 |succ k a=>
  unfold e1;split;·simp;omega
  ·omega
theorem vt {m:Int} {k:Nat} (h:da zs m k=true):e1 zs m (k+1)=e1 zs m k++[⟨k,h⟩]:=by show(if h:da zs m k=true then e1 zs m k++[⟨k,h⟩] else e1 zs m k)=_;rw[dif_pos h]
theorem sx {m:Int} {k:Nat} (h:da zs m k=false):e1 zs m (k+1)=e1 zs m k:=by show(if h:da zs m k=true then e1 zs m k++[⟨k,h⟩] else e1 zs m k)=_;rw[dif_neg (by simp[h])]
def vu (zs:List Int) (c m:Int) (k:Nat) (b:Int):Prop:=(b=-1∧∀a:Nat,a<k->da zs m a=true->(a:Int)=c)∨∃p:Nat,b=p∧p<k∧da zs m p=true∧(p:Int)≠c∧∀a:Nat,a<k->da zs m a=true->(a:Int)≠c->bj zs a<=bj zs p∧(a<p->bj zs a<bj zs p)
theorem yW (zs:List Int) (h m:Int) (k:Nat):vu zs h m k (gy zs h m (e1 zs m k)):=by
 induction k with
 |zero=>exact .inl ⟨rfl,λc l=>by omega⟩
 |succ k u=>
  by_cases i:da zs m k=true
  ·rw[vt i,vq];show vu _ _ _ _ (kH zs h (gy zs h m (e1 zs m k)) k);rcases u with⟨g,j⟩|⟨p,g,j,s,t,q⟩
   ·rw[g];by_cases r:(k:Int)=h
    ·refine .inl ⟨by simp[kH,r],λc n d=>?_⟩;by_cases e:c=k;·subst e;exact r
     ·exact j c (by omega) d
    ·refine .inr ⟨k,by simp[kH,r],by omega,i,r,λc n d f=>?_⟩;by_cases e:c=k;·subst e;exact⟨hL _,λl=>by omega⟩
     ·exact absurd (j c (by omega) d) f
   ·rw[g];by_cases o:(k:Int)≠h∧bj zs p<bj zs k
    ·refine .inr ⟨k,?_,by omega,i,o.1,λc n d f=>?_⟩;·unfold kH;rw[aj ⟨o.1,.inr (by simpa using o.2)⟩]
     ·by_cases e:c=k;·subst e;exact⟨hL _,λl=>by omega⟩
      ·have:=q c (by omega) d f;exact⟨by omega,λ_=>by omega⟩
    ·refine .inr ⟨p,?_,by omega,s,t,λc n d f=>?_⟩;·unfold kH;rw[z0 (by
      rintro⟨a,b|b⟩;·omega
      ·exact o ⟨a,by simpa using b⟩)]
     ·by_cases e:c=k;·subst e;have:¬bj zs p<bj zs c:=λl=>o ⟨f,l⟩;exact⟨by omega,λl=>by omega⟩
      ·exact q c (by omega) d f
  ·have v:da zs m k=false:=(by simpa using i);rw[sx v];rcases u with⟨g,j⟩|⟨p,g,j,s,t,q⟩
   ·refine .inl ⟨g,λc n d=>?_⟩;by_cases e:c=k;·subst e;exact absurd d i
    ·exact j c (by omega) d
   ·refine .inr ⟨p,g,by omega,s,t,λc n d f=>?_⟩;by_cases e:c=k;·subst e;exact absurd d i
    ·exact q c (by omega) d f
theorem sy {e m:Int}:qA zs e m p=true↔(da zs m p=true∧(p:Int)≠e)∧∀d:Nat,d<zs.length->da zs m d=true->(d:Int)≠e->bj zs d<=bj zs p:=by
 simp[qA,yU];intro _ _;refine⟨λf d a b c=>(f d a).resolve_left (by simp[b,c]),λf g a=>?_⟩;cases i:da zs m g;·exact .inl (.inl rfl)
 ·by_cases h:(g:Int)=e;·exact .inl (.inr h)
  ·exact .inr (f g a i h)
theorem vv {m:Int}:pt zs m p=true↔da zs m p=true∧∀c:Nat,c<zs.length->da zs m c=true->bj zs p<=bj zs c:=by
 simp[pt,yV];intro _;refine⟨λd c a b=>(d c a).resolve_left (by simp[b]),λd e a=>?_⟩;cases f:da zs m e;·exact .inl rfl
 ·exact .inr (d e a f)
theorem yX (zs:List Int) (d m:Int):vu zs d m zs.length (lW zs d m):=by
 have j:=yW zs d m zs.length;have o:gy zs d m (e1 zs m zs.length)=lW zs d m:=by
  unfold lW;rcases j with⟨i,g⟩|⟨p,i,g,k,l,n⟩
  ·rw[i];symm;refine vp λe f=>?_;cases h:qA zs d m e;·rfl
   ·exact absurd (g e f (sy.1 h).1.1) (sy.1 h).1.2
  ·rw[i];symm;refine vo g (sy.2 ⟨⟨k,l⟩,λe f q r=>(n e f q r).1⟩) λe f=>?_;cases h:qA zs d m e;·rfl
   ·obtain⟨⟨a,b⟩,c⟩:=sy.1 h;have:=(n e (by omega) a b).2 f;have:=c p g k l;omega
 rw[<-o];exact j
theorem Fj (zs:List Int) (c m:Int):gy zs c m (e1 zs m zs.length)=lW zs c m:=by
 have n:=yW zs c m zs.length;have o:=yX zs c m;rcases n with⟨f,d⟩|⟨p,f,d,i,j,q⟩<;>rcases o with⟨g,e⟩|⟨h,g,e,k,l,r⟩;·rw[f,g]
 ·exact absurd (d h e k) l
 ·exact absurd (e p d i) j
 ·rw[f,g];have a:=q h e k l;have b:=r p d i j;have:p=h:=by omega
  rw[this]
def vw (zs:List Int) (m:Int) (k:Nat) (b:Int):Prop:=(b=-1∧∀q:Nat,q<k->da zs m q=false)∨∃p:Nat,b=p∧p<k∧da zs m p=true∧∀q:Nat,q<k->da zs m q=true->bj zs p<=bj zs q∧(q<p->bj zs p<bj zs q)
theorem yY (zs:List Int) (m:Int) (k:Nat):vw zs m k (gZ zs m (e1 zs m k)):=by
 induction k with
 |zero=>exact .inl ⟨rfl,λa j=>by omega⟩
 |succ k n=>
  by_cases f:da zs m k=true
  ·rw[vt f,vr];show vw _ _ _ (lX zs (gZ zs m (e1 zs m k)) k);rcases n with⟨e,g⟩|⟨p,e,g,l,h⟩
   ·rw[e];refine .inr ⟨k,by simp[lX],by omega,f,λa i c=>?_⟩;by_cases d:a=k;·subst d;exact⟨hL _,λj=>by omega⟩
    ·rw[g a (by omega)] at c;cases c
   ·rw[e];by_cases o:bj zs k<bj zs p
    ·refine .inr ⟨k,?_,by omega,f,λa i c=>?_⟩;·unfold lX;rw[aj (.inr (by simpa using o))]
     ·by_cases d:a=k;·subst d;exact⟨hL _,λj=>by omega⟩
      ·have:=h a (by omega) c;exact⟨by omega,λ_=>by omega⟩
    ·refine .inr ⟨p,?_,by omega,l,λa i c=>?_⟩;·unfold lX;rw[z0 (by
      rintro(b|b);·omega
      ·exact o (by simpa using b))]
     ·by_cases d:a=k;·subst d;exact⟨by omega,λj=>by omega⟩
      ·exact h a (by omega) c
  ·have q:da zs m k=false:=(by simpa using f);rw[sx q];rcases n with⟨e,g⟩|⟨p,e,g,l,h⟩
   ·refine .inl ⟨e,λa i=>?_⟩;by_cases d:a=k;·subst d;exact q
    ·exact g a (by omega)
   ·refine .inr ⟨p,e,by omega,l,λa i c=>?_⟩;by_cases d:a=k;·subst d;exact absurd c f
    ·exact h a (by omega) c
theorem yZ (zs:List Int) (m:Int):gZ zs m (e1 zs m zs.length)=least zs m:=by
 have j:=yY zs m zs.length;unfold least;rcases j with⟨f,e⟩|⟨p,f,e,h,i⟩
 ·rw[f];symm;refine vp λb d=>?_;cases g:pt zs m b;·rfl
  ·have:=(vv.1 g).1;rw[e b d] at this;cases this
 ·rw[f];symm;refine vo e (vv.2 ⟨h,λb d k=>(i b d k).1⟩) λb d=>?_;cases g:pt zs m b;·rfl
  ·obtain⟨a,c⟩:=vv.1 g;have:=(i b (by omega) a).2 d;have:=c p e h;omega
theorem Fk (zs:List Int) (m:Int):vw zs m zs.length (least zs m):=by rw[<-yZ];exact yY zs m zs.length
variable {aH:Value} {gap:Int}
structure dd where
 id:Int
 w:Int
 m:Int
 r:Bool
def cat (zs:List dd) (p:Nat):dd:=zs[p]?.getD ⟨0,0,0,false⟩
def gG (c:dd) (gap p:Int):Bool:=decide (0<=p)&&(decide (p<64)&&(bX c.m p.toNat&&(!c.r&&(decide (0<c.w)&&decide (c.w<gap)))))
theorem Fl {c:dd} {p:Int}:gG c gap p=true↔0<=p∧p<64∧bX c.m p.toNat=true∧c.r=false∧0<c.w∧c.w<gap:=by simp[gG]
def lY (c:dd) (gap p:Int):Bool:=gG c gap p&&decide (c.w<=gap/2)
def kI (a b:Nat->Int) (i j:Nat):Bool:=decide (a i<a j)||(decide (a i=a j)&&decide (b i<b j))
theorem lh {a b:Nat->Int}:kI a b i j=true↔a i<a j∨(a i=a j∧b i<b j):=by simp[kI]
def iC (P:Nat->Bool) (a c:Nat->Int) (b:Int) (k:Nat):Int:=if P k=true∧(b<0∨kI a c k b.toNat=true) then(k:Int) else b
def ft (P:Nat->Bool) (a b:Nat->Int):Nat->Int
 |0=>-1
 |n+1=>iC P a b (ft P a b n) n
def y0 (P:Nat->Bool) (c d:Nat->Int) (k:Nat) (b:Int):Prop:=(b=-1∧∀a:Nat,a<k->P a=false)∨∃p:Nat,b=p∧p<k∧P p=true∧∀a:Nat,a<k->P a=true->¬kI c d a p=true∧(a<p->kI c d p a=true)
theorem vx (P:Nat->Bool) (g h:Nat->Int) (k:Nat):y0 P g h k (ft P g h k):=by
 induction k with
 |zero=>exact .inl ⟨rfl,λc d=>by omega⟩
 |succ k r=>
  show y0 _ _ _ _ (iC P g h (ft P g h k) k);by_cases i:P k=true
  ·rcases r with⟨j,l⟩|⟨p,j,l,q,m⟩
   ·rw[j];refine .inr ⟨k,by simp[iC,i],by omega,i,λc n e=>?_⟩;by_cases f:c=k;·subst f;exact⟨λd=>by rw[lh] at d;omega,λd=>by omega⟩
    ·rw[l c (by omega)] at e;cases e
   ·rw[j];by_cases o:kI g h k p=true
    ·refine .inr ⟨k,?_,by omega,i,λc n e=>?_⟩;·unfold iC;rw[aj ⟨i,.inr (by simpa using o)⟩]
     ·by_cases f:c=k;·subst f;exact⟨λd=>by rw[lh] at d;omega,λd=>by omega⟩
      ·have:=(m c (by omega) e).1;rw[lh] at this o;exact⟨λd=>by rw[lh] at d;omega,λ_=>by rw[lh];omega⟩
    ·refine .inr ⟨p,?_,by omega,q,λc n e=>?_⟩;·unfold iC;rw[z0 (by
      rintro⟨_,b|b⟩;·omega
      ·exact o (by simpa using b))]
     ·by_cases f:c=k;·subst f;exact⟨o,λd=>by omega⟩
      ·exact m c (by omega) e
  ·have s:P k=false:=(by simpa using i);have t:iC P g h (ft P g h k) k=ft P g h k:=(by unfold iC;rw[z0 (by rintro⟨a,_⟩;exact i a)]);rw[t];rcases r with⟨j,l⟩|⟨p,j,l,q,m⟩
   ·refine .inl ⟨j,λc n=>?_⟩;by_cases f:c=k;·subst f;exact s
    ·exact l c (by omega)
   ·refine .inr ⟨p,j,by omega,q,λc n e=>?_⟩;by_cases f:c=k;·subst f;exact absurd e i
    ·exact m c (by omega) e
def hy (zs:List dd) (gap p:Int) (k:Nat):Bool:=gG (cat zs k) gap p
def h_ (zs:List dd) (gap p:Int) (k:Nat):Bool:=lY (cat zs k) gap p
def jb (zs:List dd) (k:Nat):Int:=(cat zs k).w
def b8 (zs:List dd) (k:Nat):Int:=-(cat zs k).w
def eQ (zs:List dd) (k:Nat):Int:=(cat zs k).id
def lZ (zs:List dd) (gap p:Int):Int:=ft (h_ zs gap p) (b8 zs) (eQ zs) zs.length
def qB (zs:List dd) (gap p:Int):Int:=ft (hy zs gap p) (jb zs) (eQ zs) zs.length
def lj (zs:List dd) (gap p:Int):Int:=if 0<=lZ zs gap p then lZ zs gap p else qB zs gap p
def oj (c:dd) (gap:Int):Bool:=decide (c.w<=gap-c.w)
def vy (zs:List dd) (gap:Int) (a b:Nat):Bool:=if oj (cat zs a) gap≠oj (cat zs b) gap then oj (cat zs a) gap else if(cat zs a).w≠(cat zs b).w then decide ((cat zs b).w<(cat zs a).w)==oj (cat zs a) gap else if(cat zs a).id≠(cat zs b).id then decide ((cat zs a).id<(cat zs b).id) else decide (a<b)
theorem Fo {c:dd}:oj c gap=true↔c.w<=gap/2:=by simp[oj];omega
theorem Fp (zs:List dd) (gap p:Int):(lj zs gap p=-1∧∀a,a<zs.length->hy zs gap p a=false)∨∃b:Nat,lj zs gap p=b∧b<zs.length∧hy zs gap p b=true∧∀a,a<zs.length->a≠b->hy zs gap p a=true->vy zs gap b a=true:=by
 have t:=vx (h_ zs gap p) (b8 zs) (eQ zs) zs.length;have u:=vx (hy zs gap p) (jb zs) (eQ zs) zs.length;have h:∀a,hy zs gap p a=true->oj (cat zs a) gap=h_ zs gap p a:=λa q=>by unfold hy at q;unfold h_ lY;rw[q,hK,Fo];simp
 unfold lj;rcases t with⟨e,i⟩|⟨b,e,i,j,v⟩
 ·change lZ zs gap p=-1 at e;rw[e,z0 (by omega)];rcases u with⟨k,l⟩|⟨b,k,l,r,x⟩;·exact .inl ⟨k,l⟩
  ·change qB zs gap p=b at k;refine .inr ⟨b,k,l,r,λa m y n=>?_⟩;have d:=h b r;have c:=h a n;rw[i b l] at d;rw[i a m] at c;have:=x a m n;rw[lh,lh] at this;unfold jb eQ at this;unfold vy;rw[d,c,z0 (by simp)];split;·rename_i f;have:¬(cat zs a).w<(cat zs b).w:=(by omega);simp;omega
   ·rename_i f;simp at f;split;·rename_i g;simp;omega
    ·rename_i g;simp at g;simp;omega
 ·change lZ zs gap p=b at e;rw[e,aj (by omega)];have s:hy zs gap p b=true:=by unfold h_ lY at j;unfold hy;simp at j;exact j.1
  refine .inr ⟨b,rfl,i,s,λa m y n=>?_⟩;have d:=h b s;have c:=h a n;rw[j] at d;unfold vy;cases o:h_ zs gap p a;·rw[o] at c;rw[d,c,aj (by simp)]
  ·rw[o] at c;rw[d,c,z0 (by simp)];have:=v a m o;rw[lh,lh] at this;unfold b8 eQ at this;split;·rename_i f;simp;omega
   ·rename_i f;simp at f;split;·rename_i g;simp;omega
    ·rename_i g;simp at g;simp;omega
theorem Fq (zs:List dd) (gap p:Int):lj zs gap p=-1∨∃a:Nat,lj zs gap p=a∧a<zs.length:=by
 rcases Fp zs gap p with⟨b,_⟩|⟨a,b,c,_⟩;·exact .inl b
 ·exact .inr ⟨a,b,c⟩
def jc (a b:Int):Int:=if b<=a then a-b else 0
def iD (n₀:Nat) (W:ab) (aH:Value) (zs:List dd):Prop:=((∃a cap,aH=aA a 0 cap)∧zs=[])∨∃b c cap,aH=aA (R ⟨b,c,U⟩) zs.length cap∧b<n₀∧∀j,j<zs.length->W.cell? ⟨b,c+j*4,U⟩=R (I J (cat zs j).id)∧W.cell? ⟨b,c+j*4+1,U⟩=R (I ah (cat zs j).w)∧W.cell? ⟨b,c+j*4+2,U⟩=R (I ah (cat zs j).m)∧W.cell? ⟨b,c+j*4+3,U⟩=R (aE (cat zs j).r)
theorem iD.below {B:ab} (h:Below n₀ A B) {zs:List dd}:iD n₀ A aH zs->iD n₀ B aH zs
 | .inl e=>.inl e
 | .inr ⟨b,off,cap,e,a,c⟩=>.inr ⟨b,off,cap,e,a,λj d=>by obtain⟨f,g,i,k⟩:=c j d;exact⟨(h.cell (p:=⟨b,off+j*4,U⟩) a).trans f,(h.cell (p:=⟨b,off+j*4+1,U⟩) a).trans g,(h.cell (p:=⟨b,off+j*4+2,U⟩) a).trans i,(h.cell (p:=⟨b,off+j*4+3,U⟩) a).trans k⟩⟩
theorem iD.grow {a:Nat} (d:n₀<=a) {zs:List dd}:iD n₀ A aH zs->iD a A aH zs
 | .inl e=>.inl e
 | .inr ⟨b,off,cap,e,f,c⟩=>.inr ⟨b,off,cap,e,by omega,c⟩
theorem iD.next {B:ab} (h:Below A.heap.size A B) {zs:List dd} (hI:iD A.heap.size A aH zs):iD B.heap.size B aH zs:=(hI.below h).grow h.size
theorem iD.cells {zs:List dd} (h:iD n₀ W (aA a n cap) zs) (f:p<zs.length):∃b d,a=R ⟨b,d,U⟩∧b<n₀∧∀j,j<zs.length->W.cell? ⟨b,d+j*4,U⟩=R (I J (cat zs j).id)∧W.cell? ⟨b,d+j*4+1,U⟩=R (I ah (cat zs j).w)∧W.cell? ⟨b,d+j*4+2,U⟩=R (I ah (cat zs j).m)∧W.cell? ⟨b,d+j*4+3,U⟩=R (aE (cat zs j).r):=by
 rcases h with⟨_,rfl⟩|⟨b,d,c,e,g,i⟩;·simp at f
 ·simp only[Value.slice.injEq] at e;exact⟨b,d,e.1,g,i⟩
def qC (bs:List Bool) (p:Nat):Bool:=bs[p]?.getD false
def hQ (zs:List Int) (bs:List Bool) (m:Int) (p:Nat):Bool:=da zs m p&&(bj zs p==0&&(decide (bs.length<=p)||!qC bs p))
def jR (zs:List Int) (bs:List Bool) (m p:Int):Bool:=decide (0<=p)&&hQ zs bs m p.toNat
def jr (zs:List Int) (m p:Int):Bool:=decide (0<=p)&&da zs m p.toNat
def iE (zs:List Int) (bs:List Bool) (m:Int):Int:=jQ (hQ zs bs m) zs.length
def choose (zs:List Int) (bs:List Bool) (prev m:Int):Int×Int:=if least zs m<0 then(0,9) else if jR zs bs m prev=true then(prev,0) else if 0<=iE zs bs m then(iE zs bs m,0) else if jr zs m prev=true∧bj zs prev.toNat<=bj zs (least zs m).toNat then(prev,0) else(least zs m,0)
theorem vz (zs:List Int) (bs:List Bool) (m:Int) (p:Nat):jR zs bs m p=hQ zs bs m p:=by simp[jR]
theorem Fs (zs:List Int) (m:Int) (p:Nat):jr zs m p=da zs m p:=by simp[jr]
theorem y1 (zs:List Int) (m:Int) (p:Nat):(da zs m p=false∧¬p<zs.length)∨(da zs m p=false∧p<zs.length∧¬p<64)∨(p<zs.length∧p<64∧da zs m p=bX m p):=by
 unfold da;by_cases a:p<zs.length
 ·by_cases b:p<64;·exact .inr (.inr ⟨a,b,by simp[a,b]⟩)
  ·exact .inr (.inl ⟨by simp[b],a,b⟩)
 ·exact .inl ⟨by simp[a],a⟩
section
variable {zs:List Int} {bs:List Bool} {prev m:Int}
theorem Ft (h:least zs m<0):choose zs bs prev m=(0,9):=by unfold choose;rw[aj h]
theorem Fu (h:¬least zs m<0) (a:jR zs bs m prev=true):choose zs bs prev m=(prev,0):=by unfold choose;rw[z0 h,aj a]
theorem Fv (h:¬least zs m<0) (a:jR zs bs m prev=false) (b:0<=iE zs bs m):choose zs bs prev m=(iE zs bs m,0):=by unfold choose;rw[z0 h,z0 (by rw[a];decide),aj b]
theorem Fw (h:¬least zs m<0) (a:jR zs bs m prev=false) (b:¬0<=iE zs bs m) (c:jr zs m prev=true∧bj zs prev.toNat<=bj zs (least zs m).toNat):choose zs bs prev m=(prev,0):=by unfold choose;rw[z0 h,z0 (by rw[a];decide),z0 b,aj c]
theorem Fx (h:¬least zs m<0) (a:jR zs bs m prev=false) (b:¬0<=iE zs bs m) (c:¬(jr zs m prev=true∧bj zs prev.toNat<=bj zs (least zs m).toNat)):choose zs bs prev m=(least zs m,0):=by unfold choose;rw[z0 h,z0 (by rw[a];decide),z0 b,z0 c]
end
theorem Fy (zs:List Int) (m p:Int):(jr zs m p=false∧p<0)∨(∃a:Nat,p=a∧jr zs m p=false∧¬a<zs.length)∨(∃a:Nat,p=a∧jr zs m p=false∧a<zs.length∧¬a<64)∨(∃a:Nat,p=a∧jr zs m p=false∧a<zs.length∧a<64∧bX m a=false)∨(∃a:Nat,p=a∧jr zs m p=true∧da zs m a=true∧a<zs.length∧a<64∧bX m a=true):=by
 by_cases f:0<=p
 ·obtain⟨a,rfl⟩:=dW f;rw[Fs];rcases y1 zs m a with⟨b,c⟩|⟨b,c,e⟩|⟨c,e,b⟩;·exact .inr (.inl ⟨a,rfl,b,c⟩)
  ·exact .inr (.inr (.inl ⟨a,rfl,b,c,e⟩))
  ·cases d:bX m a;·exact .inr (.inr (.inr (.inl ⟨a,rfl,by rw[b,d],c,e,d⟩)))
   ·exact .inr (.inr (.inr (.inr ⟨a,rfl,by rw[b,d],by rw[b,d],c,e,d⟩)))
 ·exact .inl ⟨by unfold jr;rw[decide_eq_false f];rfl,by omega⟩
def ei (n:Int):Nat:=if n< -20∨19<n then 0 else if n<0 then 1024*5^n.natAbs/4^n.natAbs else 1024*4^n.natAbs/5^n.natAbs
def e7 (n:Int):Int:=if n< -20∨19<n then 1 else 0
theorem vA (n:Int) (h:e7 n=0):2<=ei n∧ei n<=262144:=by
 unfold e7 at h;split at h;·omega
 ·rename_i a;have:∀k:Fin 40,2<=ei ((k.val:Int)-20)∧ei ((k.val:Int)-20)<=262144:=by decide
  have:=this ⟨(n+20).toNat,by omega⟩;rwa[show(((⟨(n+20).toNat,by omega⟩:Fin 40).val:Int)-20)=n by simp only[];omega] at this
structure g_ where
 aR:Nat
 tick:Int
 bI:Int
 b4:Int
 hC:Nat deriving DecidableEq
structure ex where
 h:aG
 dead:Bool
 on:Bool
 p:Int
 g:Nat
 nice:Int
 w:Nat
 mask:Int
 e:aI
 mn:Int deriving DecidableEq
structure cc where
 h:aG
 shares:Nat
 quota:Int
 band:Option aN
 line:Option (List Int)
 there:Bool deriving DecidableEq
structure aa where
 c:g_
 tree:ae
 pool:an Int
 tasks:List ex
 groups:List cc
 places:List (Option Nat)
 at_:List Int
 hiers:List ad
 clocks:List cI
 book:fF
def ia:cc:=⟨bS,0,0,U,U,true⟩
def aa.new (c:g_):aa:=⟨c,lg,an.new,[],[ia],R 0::gR 31 U,gR 64 0,gR c.aR (h0 c.b4 c.bI),gR c.aR (cI.new c.hC),fF.new⟩
def aa.group (s:aa) (n:Int):Option cc:=if n<0 then U else match s.groups[n.toNat]? with
 |none=>U
 |some g=>if g.there then R g else U
def aa.task (s:aa) (n:Int):Option ex:=if n<0 then U else match s.tasks[n.toNat]? with
 |none=>U
 |some t=>if t.dead then U else R t
def aa.e8 (s:aa) (p:Int):Bool:=decide (0<=p)&&decide (p<s.c.aR)
def aa.a1 (s:aa) (p:Int):ad:=s.hiers.getD p.toNat (h0 0 0)
def aa.clock (s:aa) (p:Int):cI:=s.clocks.getD p.toNat (cI.new 0)
def aa.ax (s:aa) (n:Nat):cc:=s.groups.getD n ia
def aa.running (s:aa) (p:Int):Int:=if s.e8 p=false then-1 else if(s.a1 p).running<0 then-1 else s.at_.getD (s.a1 p).running.toNat 0
def aa.cF (s:aa) (g:Nat):List (Option Nat):=(ae.path s.tree (s.ax g).h).map λi=>s.places.getD i.toNat U
def om (s:aa) (h:aG) (p:Int) (t:ex):Bool:=t.on&&(decide (t.p=p)&&ae.di s.tree (s.ax t.g).h h)
def ha (s:aa) (h:aG) (p:Int) (l:List ex):Nat:=l.foldl (λa t=>if om s h p t then a+t.w else a) 0
def aa.load (s:aa) (g:Nat) (p:Int):Nat:=ha s (s.ax g).h p s.tasks
def aa.iF (s:aa):List Int:=(gh s.c.aR).map λp:Nat=>(s.load 0 p:Int)
def aa.least (s:aa) (t:ex) (p:Int):Int:=(s.a1 p).minOf (s.ax t.g).h.idx
def aa.bO (s:aa) (p:Int) (h:ad):aa:={s with hiers:=s.hiers.set p.toNat h}
def aa.dM (s:aa) (p:Int) (t:cI):aa:={s with clocks:=s.clocks.set p.toNat t}
def aa.cl (s:aa) (n:Nat) (t:ex):aa:={s with tasks:=s.tasks.set n t}
def aa.b0 (s:aa) (n:Nat) (g:cc):aa:={s with groups:=s.groups.set n g}
def aa.leave (s:aa) (n:Nat):aa:=match s.tasks[n]? with
 |none=>s
 |some t=>(s.bO t.p ((s.a1 t.p).drop (s.ax t.g).h.idx t.h.idx)).cl n {t with mn:=s.least t t.p,e:=(s.a1 t.p).er (s.ax t.g).h.idx t.h.idx,on:=false}
def aa.lk (s:aa) (t:ex) (p:Int):aI:=if p=t.p then t.e else {t.e with v:=(kC t.e.v t.mn (s.least t p)).1}
def aa.gz (s:aa) (t:ex) (p:Int) (a:Bool):aI:=if a then {s.lk t p with v:=h7 (s.lk t p).v (s.least t p) s.c.b4} else s.lk t p
def aa.put (s:aa) (n:Nat) (p:Int) (a:Bool):aa:=match s.tasks[n]? with
 |none=>s
 |some t=>(s.cl n {t with e:=s.gz t p a,p:=p,on:=true}).bO p ((s.a1 p).put (s.ax t.g).h.idx (s.gz t p a))
def cc.limited (g:cc):Bool:=match g.band with|none=>false|some b=>b.limited
def aa.limited (s:aa) (l:List (Option Nat)):List Nat:=l.filterMap λo=>match o with|none=>U|some g=>if(s.ax g).limited then R g else U
def aa.l0 (s:aa) (g:Nat):List (Nat×Nat):=(gh s.c.aR).zip (jP (s.ax g).shares ((gh s.c.aR).map λp:Nat=>s.load g p))
def aa.bV (s:aa) (g:Nat):aa:=(s.l0 g).foldl (λr x=>if 0<s.load g x.1 then r.bO x.1 ((r.a1 x.1).bV (s.ax g).h.idx x.2) else r) s
def aa.bW (s:aa) (g:Nat) (f:aN->aN):aa:=match(s.ax g).band with
 |none=>s
 |some b=>s.b0 g {s.ax g with band:=R (f b)}
def aa.ca (s:aa) (g:Nat) (f:List Int->List Int):aa:=match(s.ax g).line with
 |none=>s
 |some l=>s.b0 g {s.ax g with line:=R (f l)}
def aa.ib (s:aa) (g:Nat):List Int:=(s.ax g).line.getD []
def aa.ic (s:aa) (g:Nat):aN:=(s.ax g).band.getD (aN.new 0)
def aa.stop (s:aa) (g:Nat) (p:Int) (is:Bool):aa:=s.bO p ((s.a1 p).stop (s.ax g).h.idx is)
def aa.returns (s:aa) (g:Nat):aa:=(gh s.c.aR).foldl (λr (p:Nat)=>if r.load g p=0 then r.bW g (λb=>b.ret p) else r) s
def aa.hand:Nat->aa->Nat->aa
 |0,s,_=>s
 |n+1,s,g=>
  if(s.ic g).pool<=0 then s else match s.ib g with
  |[]=>s
  |p::l=>if(s.ic g).hx p then aa.hand n ((((s.ca g λ_=>l).bW g (λb=>b.cV p))).stop g p false) g else aa.hand n (((s.ca g λ_=>l).bW g (λb=>b.cV p)).ca g λl=>fX l p) g
def aa.share (s:aa) (g:Nat):aa:=aa.hand 66 (s.returns g) g
def aa.begin (s:aa) (p n:Int):aa:=s.dM p ((s.clock p).begin n)
def aa.asks (p:Int):List Nat->aa->aa×Option Nat
 |[],s=>(s,U)
 |g::l,s=>if(s.ic g).hx p then aa.asks p l (s.bW g λb=>b.cV p) else(s.bW g λb=>b.cV p,R g)
def aa.fH (s:aa) (p:Int):aa:=s.bO p (s.a1 p).pick
def aa.fI (s:aa) (p:Int):aa×Bool:=
 let s1:=s.fH p;if s1.running p=-1 then(s1.begin p (-1),true) else match s1.tasks[(s1.running p).toNat]? with
 |none=>(s1,true)
 |some t=>
  match aa.asks p (s1.limited (s1.cF t.g)) s1 with
  |(s2,U)=>(s2.begin p (s1.running p),true)
  |(s2,R g)=>((s2.ca g λl=>fX l p).stop g p true,false)
def aa.hb:Nat->aa->Int->aa
 |0,s,_=>s
 |n+1,s,p=>if(s.fI p).2 then(s.fI p).1 else aa.hb n (s.fI p).1 p
def aa.settle (s:aa):aa:=let s1:=(s.places.drop 1).foldl (λr o=>match o with|none=>r|some g=>r.bV g) s;let s2:=(s1.limited (s1.places.drop 1)).foldl (λr g=>r.share g) s1;(gh s2.c.aR).foldl (λr (p:Nat)=>aa.hb 40 r p) s2
abbrev c1:=aa×Int×Int
def kg (n:Int):Bool:=decide (2<=n)&&decide (n<=262144)
def aa.grow (s:aa) (A N:Int):c1:=match s.group A with
 |none=>(s,0,2)
 |some up=>if kg N=false then(s,0,4) else if ae.fj s.tree up.h≠0 then(s,0,ae.fj s.tree up.h) else let c:=ae.create s.tree up.h;({s with tree:=c.1,hiers:=s.hiers.map (λx=>x.link c.2.idx up.h.idx),groups:=s.groups++[⟨c.2,N.toNat,0,R (aN.new s.c.aR),R [],true⟩],places:=s.places.set c.2.idx.toNat (R s.groups.length)},s.groups.length,0)
def aa.drop (s:aa) (A:Int):c1:=match s.group A with
 |none=>(s,0,2)
 |some g=>if s.tasks.any (λt=>!t.dead&&decide ((t.g:Int)=A)) then(s,0,6) else if ae.h8 s.tree g.h≠0 then(s,0,ae.h8 s.tree g.h) else({s with tree:=ae.gY s.tree g.h,hiers:=s.hiers.map (λx=>x.unlink g.h.idx),groups:=s.groups.set A.toNat {g with there:=false},places:=s.places.set g.h.idx.toNat U},0,0)
def aa.move (s:aa) (A B:Int):c1:=match s.group A,s.group B with
 |some g,R up=>if s.tasks.any (λt=>t.on&&ae.di s.tree (s.ax t.g).h g.h) then(s,0,6) else if ae.eg s.tree g.h up.h≠0 then(s,0,ae.eg s.tree g.h up.h) else({s with tree:=ae.move s.tree g.h up.h,hiers:=s.hiers.map (λx=>x.move g.h.idx up.h.idx)},0,0)
 |_,_=>(s,0,2)
def aa.shares (s:aa) (A N:Int):c1:=match s.group A with
 |none=>(s,0,2)
 |some g=>if A=0 then(s,0,1) else if kg N=false then(s,0,4) else(s.b0 A.toNat {g with shares:=N.toNat},0,0)
def aa.et (g:Nat):List Int->aa->aa
 |[],s=>s
 |p::l,s=>aa.et g l (s.stop g p false)
def aa.jS (s:aa) (A N M:Int):c1:=match s.group A with
 |none=>(s,0,2)
 |some g=>if A=0 then(s,0,1) else if aN.hP N M≠0 then(s,0,aN.hP N M) else(aa.et A.toNat (s.ib A.toNat) ((((s.bW A.toNat λb=>b.set N M)).b0 A.toNat {(s.bW A.toNat λb=>b.set N M).ax A.toNat with quota:=N}).ca A.toNat λ_=>[]),0,0)
def aa.fR (s:aa) (A:Int):c1:=match s.group A with
 |none=>(s,0,2)
 |some g=>if g.limited=false then(s,0,7) else(s.bW A.toNat λb=>b.fR,0,0)
def aa.runs (s:aa):List Bool:=(gh s.c.aR).map λp:Nat=>decide (s.running p≠-1)
def aa.free (s:aa) (prev mask:Int):Int×Int:=choose s.iF s.runs prev mask
def kh (n:Int):Bool:=decide (-128<=n)&&decide (n<=127)
def aa.spawn (s:aa) (A N mask:Int):c1:=match s.group A with
 |none=>(s,0,2)
 |some g=>if kh N=false then(s,0,1) else if e7 N≠0 then(s,0,e7 N) else if(s.free (-1) mask).2≠0 then(s,0,9) else if an.many s.pool=64 then(s,0,3) else let c:=an.put s.pool (s.tasks.length:Int);let t:ex:=⟨c.2,false,false,(s.free (-1) mask).1,A.toNat,N,ei N,mask,⟨c.2.idx,ei N,(s.a1 (s.free (-1) mask).1).minOf g.h.idx,0⟩,0⟩;(aa.put {s with pool:=c.1,tasks:=s.tasks++[t],at_:=s.at_.set c.2.idx.toNat (s.tasks.length:Int)} s.tasks.length (s.free (-1) mask).1 false,s.tasks.length,0)
def aa.js (s:aa) (A:Int):c1:=match s.task A with
 |none=>(s,0,2)
 |some t=>if t.on then(s,0,7) else(s.put A.toNat (s.free t.p t.mask).1 true,(s.free t.p t.mask).1,0)
def vB (e:aI) (w:Nat):aI:={e with rem:=e.rem*w/e.wt,wt:=w}
def aa.nice (s:aa) (A N:Int):c1:=match s.task A with
 |none=>(s,0,2)
 |some t=>if kh N=false then(s,0,1) else if e7 N≠0 then(s,0,e7 N) else if t.on then((s.bO t.p ((s.a1 t.p).nice (s.ax t.g).h.idx t.h.idx (ei N))).cl A.toNat {t with nice:=N,w:=ei N},0,0) else(s.cl A.toNat {t with e:=vB t.e (ei N),nice:=N,w:=ei N},0,0)
def aa.mask (s:aa) (A m:Int):c1:=match s.task A with
 |none=>(s,0,2)
 |some t=>if(s.free (-1) m).2≠0 then(s,0,9) else let s1:=s.cl A.toNat {t with mask:=m};if t.on&&!bX m t.p.toNat then let s2:=s1.leave A.toNat;(s2.put A.toNat (s2.free (-1) m).1 false,0,0) else(s1,0,0)
def aa.block (s:aa) (A:Int):c1:=if s.e8 A=false then(s,0,1) else if s.running A=-1 then(s,0,7) else(s.leave (s.running A).toNat,s.running A,0)
def aa.exit (s:aa) (A:Int):c1:=if s.e8 A=false then(s,0,1) else if s.running A=-1 then(s,0,7) else match(s.leave (s.running A).toNat).tasks[(s.running A).toNat]? with
 |none=>(s,0,7)
 |some t=>({(s.leave (s.running A).toNat).cl (s.running A).toNat {t with dead:=true} with pool:=an.free 0 (s.leave (s.running A).toNat).pool t.h},s.running A,0)
def aa.yield (s:aa) (A:Int):c1:=if s.e8 A=false then(s,0,1) else if s.running A=-1 then(s,0,7) else(s.bO A (s.a1 A).yield,s.at_.getD (s.a1 A).yielded.toNat 0,0)
def aa.dU (p ns:Int):List Nat->aa->aa
 |[],s=>s
 |g::l,s=>aa.dU p ns l (s.bW g λb=>b.b3 p ns)
def aa.numbers (s:aa) (g:Nat):List Int:=0::(s.cF g).map λo=>match o with|none=>0|some n=>(n:Int)
def aa.tick (s:aa) (A N:Int):c1:=if s.e8 A=false then(s,0,1) else if N<0∨s.c.tick<N then(s,0,8) else if s.running A=-1 then(s.dM A ((s.clock A).tick N.toNat),-1,0) else match s.tasks[(s.running A).toNat]? with
 |none=>(s,0,7)
 |some t=>if s.book.gx (s.numbers t.g) (s.running A) N≠0 then(s,0,s.book.gx (s.numbers t.g) (s.running A) N) else let s1:={s with book:=s.book.b4 (s.numbers t.g) (s.running A) N};let s2:=s1.bO A ((s1.a1 A).b3 N.toNat);let jd:=aa.dU A N (s2.limited (s2.cF t.g)) s2;let qD:=jd.dM A ((jd.clock A).tick N.toNat);if(jd.clock A).due N.toNat t.w (jd.load 0 A) then((qD.bO A (qD.a1 A).yield).begin A (-1),s.running A,0) else(qD,s.running A,0)
def aa.jt (s:aa) (a:Int):List dd:=(s.tasks.zipIdx.filter λx=>x.1.on&&decide (x.1.p=a)).map λx=>⟨x.2,x.1.w,x.1.mask,decide ((x.2:Int)=s.running a)⟩
def aa.pull (s:aa) (A:Int):c1:=if s.e8 A=false then(s,0,1) else let from_:=lW s.iF A 18446744073709551615;if from_<0 then(s,0,12) else let i:=lj (s.jt from_) (jc (bj s.iF from_.toNat) (bj s.iF A.toNat)) A;if i<0 then(s,0,12) else((s.leave (cat (s.jt from_) i.toNat).id.toNat).put (cat (s.jt from_) i.toNat).id.toNat A false,(cat (s.jt from_) i.toNat).id,0)
structure e9 where
 kind:Int
 a:Int
 b:Int
 n:Int
 m:Int
 mask:Int deriving DecidableEq
def aa.event (s:aa) (e:e9):c1:=if e.kind=1 then s.grow e.a e.n else if e.kind=2 then s.drop e.a else if e.kind=3 then s.move e.a e.b else if e.kind=4 then s.shares e.a e.n else if e.kind=5 then s.jS e.a e.n e.m else if e.kind=6 then s.spawn e.a e.n e.mask else if e.kind=7 then s.js e.a else if e.kind=8 then s.block e.a else if e.kind=9 then s.yield e.a else if e.kind=10 then s.exit e.a else if e.kind=11 then s.tick e.a e.n else if e.kind=12 then s.fR e.a else if e.kind=13 then s.pull e.a else if e.kind=14 then s.nice e.a e.n else if e.kind=15 then s.mask e.a e.mask else(s,0,1)
def aa.cN (s:aa) (e:e9):aa×Int×Int:=if(s.event e).2.2≠0 then(s,0,(s.event e).2.2) else((s.event e).1.settle,(s.event e).2.1,0)
def ad.has (h:ad) (g k:Int):Bool:=match h.at g with|none=>false|some x=>cK k x.q.es
def ad.halted (h:ad) (g:Int):Bool:=match h.at g with|none=>false|some x=>x.stopped
theorem ad.ll {h:ad} {g k:Int} {x:aL} (e:h.at g=R x):h.has g k=cK k x.q.es:=by unfold ad.has;rw[e]
theorem ad.sz {h:ad} {g k:Int} (e:h.at g=U):h.has g k=false:=by unfold ad.has;rw[e]
theorem ad.sA {h:ad} {g:Int} {x:aL} (e:h.at g=R x):h.halted g=x.stopped:=by unfold ad.halted;rw[e]
theorem ad.y2 {h:ad} {g:Int} (e:h.at g=U):h.halted g=false:=by unfold ad.halted;rw[e]
theorem ad.vC {h:ad} {g:Int} {x:aL} (e:h.at g=R x) (y:aL) (j k:Int):(h.set g (R y)).has j k=if j=g then cK k y.q.es else h.has j k:=by
 unfold ad.has;rw[ad.dq e];unfold cP;by_cases q:j=g;·rw[aj q,aj q]
 ·rw[z0 q,z0 q]
theorem ad.y3 {h:ad} {g:Int} {x:aL} (e:h.at g=R x) (y:aL) (j:Int):(h.set g (R y)).halted j=if j=g then y.stopped else h.halted j:=by
 unfold ad.halted;rw[ad.dq e];unfold cP;by_cases q:j=g;·rw[aj q,aj q]
 ·rw[z0 q,z0 q]
theorem ad.mD {h:ad} {g:Int} {x:aL} (e:h.at g=R x) {y:aL} (j:Int) {k:Int} (b:cK k y.q.es=cK k x.q.es):(h.set g (R y)).has j k=h.has j k:=by
 rw[ad.vC e];by_cases a:j=g;·rw[aj a,a,ad.ll e,b]
 ·rw[z0 a]
theorem ad.l1 {h:ad} {g:Int} {x:aL} (e:h.at g=R x) {y:aL} (j:Int) (b:y.stopped=x.stopped):(h.set g (R y)).halted j=h.halted j:=by
 rw[ad.y3 e];by_cases a:j=g;·rw[aj a,a,ad.sA e,b]
 ·rw[z0 a]
theorem aD.y4 (q:aD) (e:aI) (k:Int):cK k (q.put e).es=(cK k q.es||(decide (q.dI e=0)&&decide (k=e.id))):=by
 by_cases a:q.dI e=0
 ·rw[hK];simp only[nW,iy,decide_eq_true_eq,dG,aD.lS a];constructor
  ·rintro⟨b,rfl|c,rfl⟩;·exact .inr ⟨a,rfl⟩
   ·exact .inl ⟨b,c,rfl⟩
  ·rintro(⟨b,c,rfl⟩|⟨_,rfl⟩);·exact⟨b,.inr c,rfl⟩
   ·exact⟨e,.inl rfl,rfl⟩
 ·unfold aD.put;rw[z0 a];simp[a]
theorem aD.y5 (q:aD) (j k:Int):cK k (q.drop j).es=(cK k q.es&&decide (k≠j)):=by
 rw[hK];simp only[iy,decide_eq_true_eq,dG,aD.mx];constructor;·rintro⟨a,⟨b,c⟩,rfl⟩;exact⟨⟨a,b,rfl⟩,c⟩
 ·rintro⟨⟨a,b,rfl⟩,c⟩;exact⟨a,⟨b,c⟩,rfl⟩
theorem ad.Fz (n:Nat):∀(a:ad) (g:Int) (G:aL),a.at g=R G->G.deep<n->c_ a.at g->∀j i,(a.settle n g).has j (2*i)=a.has j (2*i)∧(a.settle n g).halted j=a.halted j:=by
 induction n with
 |zero=>intro a g G b A d;have:=(d.deep g G b).1;omega
 |succ n B=>
  intro a g G b A d j i;unfold ad.settle;rw[b];dsimp only;by_cases h:g=0;·rw[aj ((d.np b).2 h)];exact⟨rfl,rfl⟩
  ·rw[z0 (λe=>h ((d.np b).1 e))];obtain⟨c,o,H⟩:=d.up g G b h;rw[o];dsimp only;have C:=(d.mw b h).1;by_cases l:G.fQ=G.on;·rw[aj l];exact⟨rfl,rfl⟩
   ·rw[z0 l];have t:∀(y:aL) (f:aD),y.q=G.q->y.stopped=G.stopped->(∀i,cK (2*i) f.es=cK (2*i) c.q.es)->c_ (cP (cP a.at g (R y)) G.up (R {c with q:=f})) G.up->(((a.set g (R y)).set G.up (R {c with q:=f})).settle n G.up).has j (2*i)=a.has j (2*i)∧(((a.set g (R y)).set G.up (R {c with q:=f})).settle n G.up).halted j=a.halted j:=(by intro y f D E F m;have u:=ad.dq (x:=R y) b;have p:(a.set g (R y)).at G.up=R c:=(by rw[u];exact(gi _ C).trans o);have r:=ad.dq (x:=R {c with q:=f}) p;rw[u] at r;have:=B ((a.set g (R y)).set G.up (R {c with q:=f})) G.up {c with q:=f} (by rw[r];exact eV _ _ _) (by show c.deep<n;omega) (by rw[r];exact m) j i;exact⟨this.1.trans ((ad.mD p j (F i)).trans (ad.mD b j (by rw[D]))),this.2.trans ((ad.l1 p j (by rfl)).trans (ad.l1 b j E))⟩);by_cases k:G.fQ=true
    ·rw[aj k];have s:G.on=false:=by cases m:G.on with
      |false=>rfl
      |true=>rw[m] at l;exact absurd k l
     have w:=(d.own g G b h).uW (h7 G.own.v c.q.mn a.b4);refine t _ _ rfl rfl (λi=>?_) (d.uU b h o s k w);rw[aD.y4];have:decide ((2:Int)*i=({G.own with v:=h7 G.own.v c.q.mn a.b4}:aI).id)=false:=(by have k:({G.own with v:=h7 G.own.v c.q.mn a.b4}:aI).id=2*g+1:=w.1;rw[k];simp only[decide_eq_false_iff_not];omega);rw[this];simp
    ·have z:G.fQ=false:=(by simpa using k);rw[z0 k];have s:G.on=true:=by cases m:G.on with
      |true=>rfl
      |false=>rw[m,z] at l;exact absurd rfl l
     refine t _ _ rfl rfl (λi=>?_) (d.uV b h o s z);rw[aD.y5];have:decide ((2:Int)*i≠2*g+1)=true:=(by simp only[decide_eq_true_eq];omega);rw[this];simp
theorem ad.vD {h:ad} {g:Int} (a:h.at g=R G) (hk:c_ h.at g) (j i:Int):(h.settle 10 g).has j (2*i)=h.has j (2*i)∧(h.settle 10 g).halted j=h.halted j:=ad.Fz 10 h g G a (by have:=(hk.deep g G a).2;omega) hk j i
theorem ad.Ok.FA {h:ad} (hk:h.Ok) (g:Int) (e:aI) (j i:Int):(h.put g e).has j (2*i)=(h.has j (2*i)||(decide (h.dI g e=0)&&(decide (j=g)&&decide (i=e.id))))∧(h.put g e).halted j=h.halted j:=by
 unfold ad.put;by_cases a:h.dI g e=0;·rw[aj a];have k:=a;unfold ad.dI at a;cases b:h.at g with
  |none=>rw[b] at a;cases a
  |some x=>
   rw[b] at a;dsimp only at a⊢;split at a;·omega
   ·rename_i l;have m:gW e.id=true:=(by simpa using l);have f:=ad.dq (x:=R {x with q:=x.q.put {e with id:=e.id*2}}) b;have n:c_ (h.set g (R {x with q:=x.q.put {e with id:=e.id*2}})).at g:=by
     rw[f];refine hk.g.queue b ((hk.g.q g x b).put _) ?_ ?_ (.inl rfl) (.inl rfl)
     ·intro d c;rcases(aD.lS a).1 c with rfl|c;·exact .inl (uX m)
      ·exact .inr ⟨d,c,rfl⟩
     ·intro d c _;exact dG.2 ⟨d,(aD.lS a).2 (.inr c),rfl⟩
    have:=ad.vD (G:={x with q:=x.q.put {e with id:=e.id*2}}) (by rw[f];exact eV _ _ _) n j i;refine⟨this.1.trans ((ad.vC b _ _ _).trans ?_),this.2.trans (ad.l1 b j rfl)⟩;by_cases q:j=g;·rw[aj q,q,ad.ll b];show cK (2*i) (x.q.put {e with id:=e.id*2}).es=_;rw[aD.y4,decide_eq_true a,decide_eq_true k];have:decide ((2:Int)*i=({e with id:=e.id*2}:aI).id)=decide (i=e.id):=(by rw[hK];simp only[decide_eq_true_eq];constructor<;>intro<;>omega);rw[this];simp
    ·rw[z0 q,decide_eq_false q];simp
 ·rw[z0 a,decide_eq_false a];simp
theorem ad.Ok.FB {h:ad} (hk:h.Ok) (g t:Int) (j i:Int):(h.drop g t).has j (2*i)=(h.has j (2*i)&&!(decide (h.e5 g t=0)&&(decide (j=g)&&decide (i=t))))∧(h.drop g t).halted j=h.halted j:=by
 unfold ad.drop;by_cases a:h.e5 g t=0;·rw[aj a];cases b:h.at g with
  |none=>unfold ad.e5 at a;rw[b] at a;cases a
  |some x=>
   dsimp only;have e:=ad.dq (x:=R {x with q:=x.q.drop (2*t)}) b;have f:c_ (h.set g (R {x with q:=x.q.drop (2*t)})).at g:=by
    rw[e];refine hk.g.queue b ((hk.g.q g x b).drop _) ?_ ?_ (.inl rfl) (.inl rfl);·intro c d;exact .inr ⟨c,(aD.mx.1 d).1,rfl⟩
    ·intro c d k;exact dG.2 ⟨c,aD.mx.2 ⟨d,by omega⟩,rfl⟩
   have:=ad.vD (G:={x with q:=x.q.drop (2*t)}) (by rw[e];exact eV _ _ _) f j i;refine⟨this.1.trans ((ad.vC b _ _ _).trans ?_),this.2.trans (ad.l1 b j rfl)⟩;rw[decide_eq_true a];by_cases q:j=g;·rw[aj q,q,ad.ll b];show cK (2*i) (x.q.drop (2*t)).es=_;rw[aD.y5];have:decide ((2:Int)*i≠2*t)=!decide (i=t):=(by rw[hK];simp only[decide_eq_true_eq,r3,decide_eq_false_iff_not];constructor<;>intro<;>omega);rw[this];simp
   ·rw[z0 q,decide_eq_false q];simp
 ·rw[z0 a,decide_eq_false a];simp
theorem ad.FC (h:ad) (g t:Int) (w:Nat) (j k:Int):(h.nice g t w).has j k=h.has j k∧(h.nice g t w).halted j=h.halted j:=by
 unfold ad.nice;split;·exact⟨rfl,rfl⟩
 ·rename_i x a;split;·exact⟨rfl,rfl⟩
  ·exact⟨ad.mD a j (aD.sk _ _ _ _),ad.l1 a j rfl⟩
theorem ad.y6 (h:ad) (g:Int) (w:Nat) (j k:Int):(h.bV g w).has j k=h.has j k∧(h.bV g w).halted j=h.halted j:=by
 unfold ad.bV;split;·exact⟨rfl,rfl⟩
 ·rename_i x a;obtain⟨c,a⟩:=ke a;split;·exact⟨rfl,rfl⟩
  ·split
   ·split;·exact⟨rfl,rfl⟩
    ·rename_i u b;exact⟨ad.mD b j (aD.sk _ _ _ _),ad.l1 b j rfl⟩
   ·exact⟨ad.mD a j rfl,ad.l1 a j rfl⟩
theorem ad.Ok.y7 {h:ad} (hk:h.Ok) (g:Int) (is:Bool) (j i:Int):(h.stop g is).has j (2*i)=h.has j (2*i)∧(h.stop g is).halted j=if j=g∧(h.linked g).isSome then is else h.halted j:=by
 unfold ad.stop;cases a:h.linked g with
 |none=>simp
 |some x=>
  dsimp only;obtain⟨c,a⟩:=ke a;have d:=ad.dq (x:=R {x with stopped:=is}) a;have e:c_ (h.set g (R {x with stopped:=is})).at g:=by rw[d];exact hk.g.other (own':=x.own) a (λc=>hk.g.own g x a c) (.inl rfl) (.inl rfl)
  have:=ad.vD (G:={x with stopped:=is}) (by rw[d];exact eV _ _ _) e j i;refine⟨this.1.trans (ad.mD a j rfl),this.2.trans ((ad.y3 a _ _).trans ?_)⟩;by_cases b:j=g;·rw[aj b,aj ⟨b,rfl⟩]
  ·rw[z0 b,z0 (λr=>b r.1)]
theorem ad.FD (n:Nat):∀(c:ad) (g j k:Int),(ad.gF n c g).1.has j k=c.has j k∧(ad.gF n c g).1.halted j=c.halted j:=by
 induction n with
 |zero=>intro c g j k;exact⟨rfl,rfl⟩
 |succ n d=>
  intro c g j k;unfold ad.gF;split;·exact⟨rfl,rfl⟩
  ·rename_i x e;have a:(c.set g (R {x with q:=x.q.pick c.bI})).has j k=c.has j k:=ad.mD e j (by rw[aD.od]);have b:(c.set g (R {x with q:=x.q.pick c.bI})).halted j=c.halted j:=ad.l1 e j rfl;split;·exact⟨a,b⟩
   ·exact⟨(d _ _ _ _).1.trans a,(d _ _ j k).2.trans b⟩
theorem ad.pv (h:ad) (j k:Int):h.pick.has j k=h.has j k∧h.pick.halted j=h.halted j:=ad.FD 10 h 0 j k
theorem ad.FE (h:ad) (j k:Int):h.yield.has j k=h.has j k∧h.yield.halted j=h.halted j:=by
 unfold ad.yield;split;·exact h.pv j k
 ·split;·exact h.pv j k
  ·split;·exact h.pv j k
   ·rename_i g _ _ x a;have:=(h.set g (R {x with q:=x.q.yield h.bI})).pv j k;exact⟨this.1.trans (ad.mD a j (by rw[aD.qu])),this.2.trans (ad.l1 a j rfl)⟩
theorem ad.FF (ns:Nat) (l:List Int):∀a:ad,a.Ok->∀j k,(ad.dU ns l a).has j k=a.has j k∧(ad.dU ns l a).halted j=a.halted j:=by
 induction l with
 |nil=>intro a _ j k;exact⟨rfl,rfl⟩
 |cons g l d=>
  intro a c j k;unfold ad.dU;split;·exact d a c j k
  ·rename_i x b;have e:=c.same b ((c.g.q g x b).b3 ns) (aD.sl (c.g.q g x b) ns);have:=d _ e j k;exact⟨this.1.trans (ad.mD b j (aD.sl (c.g.q g x b) ns k)),this.2.trans (ad.l1 b j rfl)⟩
theorem ad.Ok.y8 {h:ad} (hk:h.Ok) (ns:Nat) (j k:Int):(h.b3 ns).has j k=h.has j k∧(h.b3 ns).halted j=h.halted j:=by
 unfold ad.b3;split;·exact ad.FF _ _ _ hk j k
 ·exact⟨rfl,rfl⟩
theorem ad.Ok.FG {h:ad} (hk:h.Ok) (g parent j k:Int):(h.link g parent).has j k=h.has j k∧(h.link g parent).halted j=h.halted j:=by
 by_cases e:h.gw g parent=0
 ·obtain⟨l,b,c,d,f,m⟩:=ad.va e;have i:=hk.vb b c d e;unfold ad.has ad.halted;rw[i];unfold cP;by_cases a:j=g;·rw[aj a,a,f];exact⟨rfl,rfl⟩
  ·rw[z0 a];exact⟨rfl,rfl⟩
 ·unfold ad.link;rw[z0 e];exact⟨rfl,rfl⟩
theorem ad.FH {h:ad} (g j k:Int):(h.unlink g).has j k=h.has j k∧(j≠g->(h.unlink g).halted j=h.halted j):=by
 by_cases e:h.iZ g=0
 ·obtain⟨x,f,b,i,c⟩:=ad.vc e;have d:=ad.vd e;unfold ad.has ad.halted;rw[d];unfold cP;by_cases a:j=g;·rw[aj a,a,b];refine⟨?_,λr=>absurd rfl r⟩;show false=cK k x.q.es;rw[c];rfl
  ·rw[z0 a];exact⟨rfl,λ_=>rfl⟩
 ·unfold ad.unlink;rw[z0 e];exact⟨rfl,λ_=>rfl⟩
theorem ad.Ok.FI {h:ad} (hk:h.Ok) (g parent j k:Int):(h.move g parent).has j k=h.has j k∧(h.move g parent).halted j=h.halted j:=by
 by_cases e:h.eg g parent=0;·obtain⟨x,c,d,f,i,_⟩:=ad.og hk e;have l:=(hk.ve e f d i).1;have a:(h.move g parent).at j=(h.at j).map (ja h g parent x c j):=congrFun l j;cases b:h.at j with
  |none=>rw[b] at a;exact⟨(ad.sz a).trans (ad.sz b).symm,(ad.y2 a).trans (ad.y2 b).symm⟩
  |some K=>rw[b] at a;rw[ad.ll a,ad.sA a,ad.ll b,ad.sA b];unfold ja;split<;>(try split)<;>exact⟨rfl,rfl⟩
 ·unfold ad.move;rw[z0 e];exact⟨rfl,rfl⟩
def ad.free (h:ad) (g:Int):Prop:=∀k,k≠0->eJ h.a7 g k=true->h.halted k=false
theorem ad.Ok.FJ {h:ad} (hk:h.Ok):h.free 0:=λk b a=>by rw[hk.mA.sn] at a;simp only[decide_eq_true_eq] at a;exact absurd a.symm b
theorem ad.Ok.FK {h:ad} (hk:h.Ok) {c g:Int} {ar:aL} (a:h.at c=R ar) (h0:c≠0) (d:ar.up=g) (f:ar.on=true) (i:h.free g):h.free c:=λk j b=>by
 rw[hk.mA.pq (ad.eh a) h0] at b;simp only[nW,decide_eq_true_eq] at b;rcases b with e|e;·rw[<-e,ad.sA a];have:=hk.g.st c ar a h0 h0;rw[f] at this;unfold aL.fQ at this;cases l:ar.stopped with
  |false=>rfl
  |true=>rw[l] at this;simp at this
 ·exact i k j (d▸e)
theorem ad.Ok.cC {h:ad} (hk:h.Ok) {g:Int} (d:h.at g=R G) (l:e∈G.q.es):(∃i:Int,0<=i∧i<64∧e.id=2*i)∨∃c ar,e.id=2*c+1∧h.at c=R ar∧c≠0∧0<=c∧ar.up=g∧ar.on=true∧ar.deep=G.deep+1∧ar.q.es≠[]:=by
 rcases hk.g.ids g G d e l with m|⟨c,ar,n,a,b,f,j⟩;·exact .inl m
 ·refine .inr ⟨c,ar,n,a,b,(hk.g.lo c ar a).1,f,j,?_,?_⟩;·obtain⟨r,k,o⟩:=hk.g.up c ar a b;rw[f,d] at k;cases k;exact o
  ·have:=hk.g.st c ar a b b;rw[j] at this;unfold aL.fQ at this;intro p;rw[p] at this;simp at this
theorem ad.Ok.y9 {h:ad} (hk:h.Ok):∀(n:Nat) (g:Int) (G:aL),h.at g=R G->10<=G.deep+n->h.free g->(h.cF n g).2=-1∨∃i j:Int,0<=i∧i<64∧(h.cF n g).2=2*i∧h.has j (2*i)=true∧h.free j
 |0,g,G,a,o,d=>by have:=(hk.g.deep g G a).2;omega
 |n+1,g,G,a,o,d=>by
  have p:=hk.g.q g G a;have r:(h.cF (n+1) g).2=if G.q.cur<0∨G.q.cur%2=0 then G.q.cur else(h.cF n (G.q.cur/2)).2:=by
   conv=>lhs;unfold ad.cF
   rw[a];dsimp only;split<;>rfl
  rw[r];rcases p.cur with k|⟨e,l,k⟩;·rw[aj (.inl (by omega)),k];exact .inl rfl
  ·rcases hk.cC a l with⟨i,m,b,f⟩|⟨c,ar,m,b,f,u,s,t,v,w⟩;·rw[aj (.inr (by omega))];exact .inr ⟨i,g,m,b,by omega,by rw[ad.ll a];exact dG.2 ⟨e,l,f⟩,d⟩
   ·rw[z0 (by omega),show G.q.cur/2=c by omega];exact ad.Ok.y9 hk n c ar b (by omega) (hk.FK b f s t d)
theorem ad.Ok.runs {h:ad} (hk:h.Ok):h.running=-1∨∃i g:Int,0<=i∧i<64∧h.running=i∧h.has g (2*i)=true∧h.free g:=by
 obtain⟨r,a,_,k⟩:=hk.g.root;rcases hk.y9 10 0 r a (by omega) hk.FJ with e|⟨i,g,b,c,d,f,j⟩;·left;unfold ad.running;rw[e];rfl
 ·right;refine⟨i,g,b,c,?_,f,j⟩;unfold ad.running oc;rw[d,z0 (by omega)];omega
theorem aD.Ok.FL {q:aD} (h:q.Ok) (d:q.es≠[]) (f:Int):∃e∈q.es,e.id=(q.pick f).cur:=by
 unfold aD.pick;split
 ·rename_i a;unfold aD.first at a;split at a;·rename_i e;exact absurd e d
  ·rename_i e l g;split at a;·rename_i b;exact⟨e,by rw[g];exact ey,b⟩
   ·cases a
 ·rename_i o a;split;·exact⟨o,aD.ob a,rfl⟩
  ·rename_i c b;obtain⟨i,j⟩:=ld b;split;·exact⟨c,i,j⟩
   ·exact⟨o,aD.ob a,rfl⟩
theorem ad.Ok.y_:∀(n:Nat) {a:ad},a.Ok->∀(g:Int) (G:aL),a.at g=R G->10<=G.deep+n->G.q.es≠[]->∃i:Int,0<=i∧i<64∧(ad.gF n a g).2=2*i
 |0,a,hk,g,G,b,j,f=>by have:=(hk.g.deep g G b).2;omega
 |n+1,a,hk,g,G,b,j,f=>by
  obtain⟨e,l,t⟩:=(hk.g.q g G b).FL f a.bI;unfold ad.gF;rw[b];dsimp only;rcases hk.cC b l with⟨i,h,d,m⟩|⟨c,ar,h,d,m,u,v,w,x,o⟩;·rw[aj (.inr (by omega))];exact⟨i,h,d,by show(G.q.pick a.bI).cur=_;omega⟩
  ·rw[z0 (by omega),show(G.q.pick a.bI).cur/2=c by omega];have p:=hk.same b ((hk.g.q g G b).pick a.bI) (λk=>by rw[aD.od]);have r:c≠g:=λq=>by rw[q,b] at d;cases d;omega
   have s:(a.set g (R {G with q:=G.q.pick a.bI})).at c=R ar:=(by rw[ad.dq b];exact(gi _ r).trans d);exact ad.Ok.y_ n p c ar s (by omega) o
theorem ad.Ok.vE {h:ad} (hk:h.Ok) (a:h.at 0=R G) (c:G.q.es≠[]):0<=h.lR∧h.lR<64:=by obtain⟨r,b,_,e⟩:=hk.g.root;rw[a] at b;cases b;obtain⟨i,f,j,d⟩:=ad.Ok.y_ 10 hk 0 G a (by omega) c;unfold ad.lR oc;rw[d,z0 (by omega)];omega
theorem ad.Ok.FM {h:ad} (hk:h.Ok) (d:h.running≠-1):∃G,h.at 0=R G∧G.q.es≠[]:=by
 obtain⟨r,a,_,j⟩:=hk.g.root;refine⟨r,a,λf=>d ?_⟩;have i:=hk.g.q 0 r a;have b:r.q.cur=-1:=by
  rcases i.cur with b|⟨e,c,_⟩;·exact b
  ·rw[f] at c;cases c
 unfold ad.running;have:(h.cF 10 0).2=-1:=by unfold ad.cF;rw[a];dsimp only;rw[aj (.inl (by omega)),b]
 rw[this];rfl
theorem ad.Ok.FN {h:ad} (hk:h.Ok) (e:h.running≠-1):0<=h.yielded∧h.yielded<64:=by
 obtain⟨G,b,c⟩:=hk.FM e;unfold ad.yielded;rw[z0 e];split;·exact hk.vE b c
 ·split;·exact hk.vE b c
  ·rename_i g _ _ x a;have f:=hk.same a ((hk.g.q g x a).yield h.bI) (λk=>by rw[aD.qu]);have i:∃d,(h.set g (R {x with q:=x.q.yield h.bI})).at 0=R d∧d.q.es≠[]:=by
    rw[ad.dq a];unfold cP;by_cases q:(0:Int)=g;·rw[aj q];subst q;rw[b] at a;cases a;exact⟨_,rfl,by show(G.q.yield h.bI).es≠[];rw[aD.qu];exact c⟩
    ·rw[z0 q];exact⟨G,b,c⟩
   obtain⟨d,j,l⟩:=i;exact f.vE j l
variable {t:ex}
def aa.e_ (s:aa) (p:Nat) (g i:Int):Bool:=match s.hiers[p]? with|none=>false|some h=>h.has g (2*i)
structure pw (s:aa) (n:Nat) (t:ex):Prop where
 g:t.g<s.groups.length
 p:0<=t.p∧t.p<s.c.aR
 w:2<=t.w∧t.w<=262144
 dead:t.dead=true->t.on=false
 live:t.dead=false->(s.ax t.g).there=true∧(∃pl,an.at s.pool t.h=R pl)∧t.h.idx<64∧s.at_[t.h.idx.toNat]?=R (n:Int)
 e:t.e.id=t.h.idx∧2<=t.e.wt∧t.e.wt<=262144∧t.e.rem<t.e.wt
 mask:0<=t.mask∧t.mask<18446744073709551616
 on:t.on=true->s.e_ t.p.toNat (s.ax t.g).h.idx t.h.idx=true
structure sB (aR:Nat) (G:cc):Prop where
 band:∃b,G.band=R b∧b.loc.length=aR
 line:∃l,G.line=R l∧(∀p∈l,0<=p∧p<(aR:Int))∧l.Nodup
 shares:2<=G.shares∧G.shares<=262144
structure aa.Ok (k:Nat) (s:aa):Prop where
 aR:1<=s.c.aR∧s.c.aR<=64
 tick:1<=s.c.tick∧s.c.tick<=1000000000
 ie:s.c.hC<=1000000000
 eA:s.tasks.length<=k∧s.groups.length<=k+1
 tree:ae.Ok s.tree
 pool:an.Ok s.pool
 cA:s.pool.pl.length<=64
 hlen:s.hiers.length=s.c.aR
 je:s.clocks.length=s.c.aR
 iG:∀(p:Nat) c,s.clocks[p]?=R c->c.hC=s.c.hC
 eB:s.places.length=32
 gH:s.at_.length=64
 a1:∀(p:Nat) h,s.hiers[p]?=R h->h.Ok∧h.a7=ae.a7 s.tree
 root:∃r,s.groups[0]?=R r∧r.there=true∧r.h=bS∧r.band=U∧r.line=U
 ax:∀(g:Nat) G,s.groups[g]?=R G->g≠0->sB s.c.aR G
 there:∀(g:Nat) G,s.groups[g]?=R G->G.there=true->(ae.get s.tree G.h).isSome=true∧s.places[G.h.idx.toNat]?=R (R g)
 place:∀(i g:Nat),s.places[i]?=R (R g)->∃G,s.groups[g]?=R G∧G.there=true∧G.h.idx=i
 get:∀h,(ae.get s.tree h).isSome=true->∃(g:Nat) (G:cc),s.groups[g]?=R G∧G.there=true∧G.h=h
 task:∀(n:Nat) t,s.tasks[n]?=R t->pw s n t
 cC:∀(p:Nat) (g i:Int),s.e_ p g i=true->∃(n:Nat) (t:ex),s.tasks[n]?=R t∧t.on=true∧t.p=p∧t.h.idx=i∧(s.ax t.g).h.idx=g
theorem aa.l2 {s:aa} {G:cc} (e:s.groups[g]?=R G):s.ax g=G:=by unfold aa.ax;rw[dD,e];rfl
theorem aa.za {s:aa} {h:ad} (e:s.hiers[p]?=R h):s.a1 p=h:=by unfold aa.a1;rw[dD,cd,e];rfl
theorem aa.qE {s:aa} {h:ad} (e:s.hiers[p]?=R h) (g i:Int):s.e_ p g i=h.has g (2*i):=by unfold aa.e_;rw[e]
section
variable {k:Nat} {s:aa}
theorem aa.Ok.mono {a:Nat} (h:s.Ok k) (hk:k<=a):s.Ok a:=⟨h.aR,h.tick,h.ie,⟨cJ h.eA.1 hk,by have:=h.eA.2;omega⟩,h.tree,h.pool,h.cA,h.hlen,h.je,h.iG,h.eB,h.gH,h.a1,h.root,h.ax,h.there,h.place,h.get,h.task,h.cC⟩
theorem aa.Ok.eu (h:s.Ok k) {p:Int} (h0:0<=p) (a:p<s.c.aR):s.hiers[p.toNat]?=R (s.a1 p):=by have b:=h.hlen;unfold aa.a1;rw[dD,b6 (by omega)];rfl
theorem aa.Ok.oo (h:s.Ok k) (a:g<s.groups.length):s.groups[g]?=R (s.ax g):=by unfold aa.ax;rw[dD,b6 a];rfl
theorem aa.Ok.jT (h:s.Ok k) (a:s.tasks[n]?=R t):s.groups[t.g]?=R (s.ax t.g):=h.oo (h.task n t a).g
theorem aa.Ok.dp (h:s.Ok k) {x:ad} {G:cc} (a:s.hiers[p]?=R x) (b:s.groups[g]?=R G) (c:G.there=true):∃y,x.at G.h.idx=R y:=by obtain⟨e,d⟩:=gP.1 (h.there g G b c).1;have:=ae.eh d;rw[<-(h.a1 p x a).2] at this;obtain⟨y,f,_⟩:=ad.mB this;exact⟨y,f⟩
theorem aa.Ok.one (h:s.Ok k) {u:ex} (c:s.tasks[n]?=R t) (d:s.tasks[m]?=R u) (f:t.dead=false) (g:u.dead=false) (e:t.h.idx=u.h.idx):n=m:=by have a:=((h.task n t c).live f).2.2.2;have b:=((h.task m u d).live g).2.2.2;rw[e,b] at a;have:=Option.some.inj a;omega
theorem pw.kJ (h:pw s n t) (a:t.on=true):t.dead=false:=by
 cases b:t.dead with
 |false=>rfl
 |true=>rw[h.dead b] at a;cases a
theorem aa.Ok.sC (h:s.Ok k) (a:s.tasks[n]?=R t) (b:t.dead=false):0<=t.h.idx∧t.h.idx<64:=by obtain⟨e,⟨f,c⟩,d,g⟩:=(h.task n t a).live b;exact⟨(an.qx.1 c).1,d⟩
theorem aa.Ok.hiers (h:s.Ok k) (b:List ad) (d:b.length=s.hiers.length) (f:∀(p:Nat) x,b[p]?=R x->x.Ok∧x.a7=ae.a7 s.tree) (c:∀p g i,({s with hiers:=b}:aa).e_ p g i=s.e_ p g i):({s with hiers:=b}:aa).Ok k:=⟨h.aR,h.tick,h.ie,h.eA,h.tree,h.pool,h.cA,d.trans h.hlen,h.je,h.iG,h.eB,h.gH,f,h.root,h.ax,h.there,h.place,h.get,λn t j=>by have a:=h.task n t j;exact⟨a.g,a.p,a.w,a.dead,a.live,a.e,a.mask,λo=>(c _ _ _).trans (a.on o)⟩,λp g i a=>h.cC p g i ((c p g i).symm.trans a)⟩
theorem aa.Ok.bO (h:s.Ok k) {p:Int} {x y:ad} (h0:0<=p) (b:s.hiers[p.toNat]?=R x) (f:y.Ok) (j:y.a7=x.a7) (l:∀g i,y.has g (2*i)=x.has g (2*i)):(s.bO p y).Ok k:=by
 have d:=(bE.1 b).1;refine h.hiers _ (by simp) ?_ ?_
 ·intro c m a;by_cases e:c=p.toNat;·subst e;rw[cZ d] at a;cases a;exact⟨f,j.trans (h.a1 _ _ b).2⟩
  ·rw[dK (Ne.symm e)] at a;exact h.a1 _ _ a
 ·intro c g i;unfold aa.e_;dsimp only;by_cases e:c=p.toNat;·subst e;rw[cZ d,b];exact l g i
  ·rw[dK (Ne.symm e)]
theorem aa.Ok.b0 (h:s.Ok k) {g:Nat} {G G':cc} (q:s.groups[g]?=R G) (u:G'.h=G.h) (v:G'.there=G.there) (I:g≠0->sB s.c.aR G') (J:g=0->G'=G):(s.b0 g G').Ok k:=by
 have K:=(bE.1 q).1;have o:∀j,(s.b0 g G').groups[j]?=if j=g then R G' else s.groups[j]?:=by
  intro j;unfold aa.b0;dsimp only;by_cases e:j=g;·rw[aj e,e,cZ K]
  ·rw[z0 e,dK (Ne.symm e)]
 have y:∀j,((s.b0 g G').ax j).h=(s.ax j).h∧((s.b0 g G').ax j).there=(s.ax j).there:=by
  intro j;unfold aa.ax;rw[dD,dD,o];by_cases e:j=g;·rw[aj e,e,q];exact⟨u,v⟩
  ·rw[z0 e];exact⟨rfl,rfl⟩
 have L:∀(j:Nat) d,(s.b0 g G').groups[j]?=R d->∃l,s.groups[j]?=R l∧d.h=l.h∧d.there=l.there:=by
  intro j d f;rw[o] at f;by_cases e:j=g;·rw[aj e] at f;cases f;exact⟨G,by rw[e];exact q,u,v⟩
  ·rw[z0 e] at f;exact⟨d,f,rfl,rfl⟩
 have E:∀(j:Nat) l,s.groups[j]?=R l->∃d,(s.b0 g G').groups[j]?=R d∧d.h=l.h∧d.there=l.there:=by
  intro j l f;rw[o];by_cases e:j=g;·rw[aj e];rw[e,q] at f;cases f;exact⟨G',rfl,u,v⟩
  ·rw[z0 e];exact⟨l,f,rfl,rfl⟩
 refine⟨h.aR,h.tick,h.ie,⟨h.eA.1,?_⟩,h.tree,h.pool,h.cA,h.hlen,h.je,h.iG,h.eB,h.gH,h.a1,?_,?_,?_,?_,?_,?_,?_⟩;·show(s.groups.set g G').length<=k+1;rw[ef];exact h.eA.2
 ·obtain⟨r,z,F⟩:=h.root;by_cases e:0=g;·subst e;rw[q] at z;cases z;exact⟨G,by rw[o,aj rfl,J rfl],F⟩
  ·exact⟨r,by rw[o,z0 e];exact z,F⟩
 ·intro j d f H;rw[o] at f;by_cases e:j=g;·rw[aj e] at f;cases f;exact I (e▸H)
  ·rw[z0 e] at f;exact h.ax j d f H
 ·intro j d f A;obtain⟨l,a,b,c⟩:=L j d f;rw[b];exact h.there j l a (c▸A)
 ·intro i j M;obtain⟨l,a,b,c⟩:=h.place i j M;obtain⟨d,B,C,D⟩:=E j l a;exact⟨d,B,D.trans b,by rw[C];exact c⟩
 ·intro x N;obtain⟨j,l,a,b,c⟩:=h.get x N;obtain⟨d,B,C,D⟩:=E j l a;exact⟨j,d,B,D.trans b,C.trans c⟩
 ·intro n t A;have m:=h.task n t A;refine⟨by show t.g<(s.groups.set g G').length;rw[ef];exact m.g,m.p,m.w,m.dead,λO=>?_,m.e,m.mask,λP=>?_⟩;·rw[(y t.g).2];exact m.live O
  ·rw[(y t.g).1];exact m.on P
 ·intro p j i Q;obtain⟨n,t,a,b,c,S,e⟩:=h.cC p j i Q;exact⟨n,t,a,b,c,S,by rw[(y t.g).1];exact e⟩
theorem aa.Ok.cl (h:s.Ok k) {n:Nat} {t t':ex} (l:s.tasks[n]?=R t) (o:t'.h=t.h) (j:t'.g=t.g) (v:t'.dead=t.dead) (q:t'.on=t.on) (r:t'.p=t.p) (z:2<=t'.w∧t'.w<=262144) (A:t'.e.id=t'.h.idx∧2<=t'.e.wt∧t'.e.wt<=262144∧t'.e.rem<t'.e.wt) (B:0<=t'.mask∧t'.mask<18446744073709551616):(s.cl n t').Ok k:=by
 have x:=(bE.1 l).1;refine⟨h.aR,h.tick,h.ie,⟨?_,h.eA.2⟩,h.tree,h.pool,h.cA,h.hlen,h.je,h.iG,h.eB,h.gH,h.a1,h.root,h.ax,h.there,h.place,h.get,?_,?_⟩;·show(s.tasks.set n t').length<=k;rw[ef];exact h.eA.1
 ·intro m u f;change(s.tasks.set n t')[m]?=R u at f;by_cases e:m=n;·subst e;rw[cZ x] at f;cases f;have d:=h.task m t l;exact⟨by rw[j];exact d.g,by rw[r];exact d.p,z,by rw[v,q];exact d.dead,by rw[v,o,j];exact d.live,A,B,by rw[q,r,o,j];exact d.on⟩
  ·rw[dK (Ne.symm e)] at f;have d:=h.task m u f;exact⟨d.g,d.p,d.w,d.dead,d.live,d.e,d.mask,d.on⟩
 ·intro p g i C;obtain⟨m,u,a,b,c,y,e⟩:=h.cC p g i C;by_cases d:m=n;·subst d;rw[l] at a;cases a;exact⟨m,t',by show(s.tasks.set m t')[m]?=_;rw[cZ x],q.trans b,r.trans c,by rw[o];exact y,by rw[j];exact e⟩
  ·exact⟨m,u,by show(s.tasks.set n t')[m]?=_;rw[dK (Ne.symm d)];exact a,b,c,y,e⟩
theorem aa.Ok.dM (h:s.Ok k) (p:Int) {c:cI} (f:c.hC=s.c.hC):(s.dM p c).Ok k:=by
 refine⟨h.aR,h.tick,h.ie,h.eA,h.tree,h.pool,h.cA,h.hlen,?_,?_,h.eB,h.gH,h.a1,h.root,h.ax,h.there,h.place,h.get,?_,h.cC⟩;·show(s.clocks.set p.toNat c).length=s.c.aR;rw[ef];exact h.je
 ·intro a d b;change(s.clocks.set p.toNat c)[a]?=R d at b;by_cases e:a=p.toNat;·subst e;rw[cZ (by have:=(bE.1 b).1;simpa using this)] at b;cases b;exact f
  ·rw[dK (Ne.symm e)] at b;exact h.iG a d b
 ·intro n t i;have a:=h.task n t i;exact⟨a.g,a.p,a.w,a.dead,a.live,a.e,a.mask,a.on⟩
theorem aa.Ok.zb (h:s.Ok k) (b:fF):({s with book:=b}:aa).Ok k:=⟨h.aR,h.tick,h.ie,h.eA,h.tree,h.pool,h.cA,h.hlen,h.je,h.iG,h.eB,h.gH,h.a1,h.root,h.ax,h.there,h.place,h.get,λn t c=>by have a:=h.task n t c;exact⟨a.g,a.p,a.w,a.dead,a.live,a.e,a.mask,a.on⟩,h.cC⟩
end
section
variable {k:Nat} {s:aa}
theorem pw.eu {n:Nat} {t:ex} (h:s.Ok k) (q:pw s n t):s.hiers[t.p.toNat]?=R (s.a1 t.p):=h.eu q.p.1 q.p.2
theorem aa.Ok.zc (h:s.Ok k) (d:s.tasks[n]?=R t) (e:t.on=true):(s.a1 t.p).e5 (s.ax t.g).h.idx t.h.idx=0∧cK (2*t.h.idx) (match(s.a1 t.p).at (s.ax t.g).h.idx with|none=>[]|some x=>x.q.es)=true:=by
 have b:=h.task n t d;have f:=b.eu h;have a:=b.on e;rw[aa.qE f] at a;obtain⟨j,l⟩:=h.sC d (b.kJ e);cases c:(s.a1 t.p).at (s.ax t.g).h.idx with
 |none=>rw[ad.sz c] at a;cases a
 |some x=>
  rw[ad.ll c] at a;refine⟨?_,a⟩;unfold ad.e5;rw[c];dsimp only;have i:gW t.h.idx=true:=by unfold gW;simp;omega
  rw[z0 (by rw[i];simp)];unfold aD.e5;rw[aj a]
theorem aa.Ok.FO (h:s.Ok k) (f:s.tasks[n]?=R t) (l:t.on=true):((s.a1 t.p).er (s.ax t.g).h.idx t.h.idx).id=t.h.idx∧2<=((s.a1 t.p).er (s.ax t.g).h.idx t.h.idx).wt∧((s.a1 t.p).er (s.ax t.g).h.idx t.h.idx).wt<=262144∧((s.a1 t.p).er (s.ax t.g).h.idx t.h.idx).rem<((s.a1 t.p).er (s.ax t.g).h.idx t.h.idx).wt:=by
 have m:=h.task n t f;have o:=m.eu h;obtain⟨b,a⟩:=h.zc f l;unfold ad.er;rw[aj b];cases c:(s.a1 t.p).at (s.ax t.g).h.idx with
 |none=>rw[c] at a;simp[cK,gV] at a
 |some x=>
  rw[c] at a;dsimp only at a⊢;obtain⟨i,b,r⟩:=dG.1 a;have j:=(h.a1 _ _ o).1.g.q _ x c;have d:=j.rt i b;have e:x.q.er (2*t.h.idx)=i:=by unfold aD.er;rw[<-r,qn j.ids b];rfl
  rw[e];exact⟨rfl,d.2.1,d.2.2.1,d.2.2.2⟩
theorem aa.sD (a:s.tasks[n]?=R t):s.leave n=(s.bO t.p ((s.a1 t.p).drop (s.ax t.g).h.idx t.h.idx)).cl n {t with mn:=s.least t t.p,e:=(s.a1 t.p).er (s.ax t.g).h.idx t.h.idx,on:=false}:=by unfold aa.leave;rw[a]
theorem aa.Ok.leave (h:s.Ok k) {n:Nat} {t:ex} (d:s.tasks[n]?=R t) (v:t.on=true):(s.leave n).Ok k:=by
 rw[aa.sD d];have f:=h.task n t d;have y:=f.eu h;have z:=h.a1 _ _ y;have E:=(h.zc d v).1;have F:=h.FO d v;have A:=f.kJ v;obtain⟨J,K⟩:=h.sC d A;have G:=(bE.1 d).1;have B:=(bE.1 y).1;have C:∀p g i,((s.bO t.p ((s.a1 t.p).drop (s.ax t.g).h.idx t.h.idx)).cl n {t with mn:=s.least t t.p,e:=(s.a1 t.p).er (s.ax t.g).h.idx t.h.idx,on:=false}).e_ p g i=(s.e_ p g i&&!(decide (p=t.p.toNat)&&(decide (g=(s.ax t.g).h.idx)&&decide (i=t.h.idx)))):=by
  intro p g i;unfold aa.e_;show(match(s.hiers.set t.p.toNat _)[p]? with|none=>false|some h=>h.has g (2*i))=_;by_cases e:p=t.p.toNat;·subst e;rw[cZ B,y];dsimp only;rw[(z.1.FB _ _ g i).1,decide_eq_true E];simp
  ·rw[dK (Ne.symm e),decide_eq_false e];simp;try rfl
 refine⟨h.aR,h.tick,h.ie,⟨?_,h.eA.2⟩,h.tree,h.pool,h.cA,?_,h.je,h.iG,h.eB,h.gH,?_,h.root,h.ax,h.there,h.place,h.get,?_,?_⟩;·show(s.tasks.set n _).length<=k;rw[ef];exact h.eA.1
 ·show(s.hiers.set t.p.toNat _).length=s.c.aR;rw[ef];exact h.hlen
 ·intro p x l;change(s.hiers.set t.p.toNat _)[p]?=R x at l;by_cases e:p=t.p.toNat;·subst e;rw[cZ B] at l;cases l;exact⟨z.1.drop _ _,(ad.E9 _ _ _).trans z.2⟩
  ·rw[dK (Ne.symm e)] at l;exact h.a1 p x l
 ·intro m u j;change(s.tasks.set n _)[m]?=R u at j;by_cases e:m=n;·subst e;rw[cZ G] at j;cases j;exact⟨f.g,f.p,f.w,λ_=>rfl,f.live,F,f.mask,λo=>by cases o⟩
  ·rw[dK (Ne.symm e)] at j;have r:=h.task m u j;refine⟨r.g,r.p,r.w,r.dead,r.live,r.e,r.mask,λo=>?_⟩;refine(C _ _ _).trans ?_;show(s.e_ u.p.toNat (s.ax u.g).h.idx u.h.idx&&!(decide (u.p.toNat=t.p.toNat)&&(decide ((s.ax u.g).h.idx=(s.ax t.g).h.idx)&&decide (u.h.idx=t.h.idx))))=true;have:decide (u.h.idx=t.h.idx)=false:=decide_eq_false λH=>e (h.one j d (r.kJ o) A H);rw[this,r.on o];simp
 ·intro p g i q;rw[C] at q;simp only[iy,r3,Bool.and_eq_false_iff,decide_eq_false_iff_not] at q;obtain⟨m,u,a,b,c,D,e⟩:=h.cC p g i q.1;have I:m≠n:=by
   rintro rfl;rw[d] at a;cases a;rcases q.2 with r|r|r;·exact r (by omega)
   ·exact r e.symm
   ·exact r D.symm
  exact⟨m,u,by show(s.tasks.set n _)[m]?=_;rw[dK (Ne.symm I)];exact a,b,c,D,e⟩
theorem aa.zd (q:pw s n t) (p:Int) (a:Bool):(s.gz t p a).id=t.h.idx∧2<=(s.gz t p a).wt∧(s.gz t p a).wt<=262144∧(s.gz t p a).rem<(s.gz t p a).wt:=by unfold aa.gz aa.lk;split<;>split<;>exact q.e
theorem aa.Ok.ze (h:s.Ok k) (d:s.tasks[n]?=R t) (v:t.on=false) (i:t.dead=false) {p:Int} (h0:0<=p) (w:p<s.c.aR) (f:Bool):(s.a1 p).dI (s.ax t.g).h.idx (s.gz t p f)=0:=by
 have o:=h.task n t d;have j:=h.eu h0 w;obtain⟨y,l⟩:=h.dp j (h.jT d) (o.live i).1;obtain⟨E,F⟩:=h.sC d i;obtain⟨r,G,H,I⟩:=aa.zd o p f;unfold ad.dI;rw[l];dsimp only;have x:gW (s.gz t p f).id=true:=by rw[r];unfold gW;simp;omega
 rw[z0 (by rw[x];simp)];unfold aD.dI;have z:cK ((s.gz t p f).id*2) y.q.es=false:=by
  cases A:cK ((s.gz t p f).id*2) y.q.es with
  |false=>rfl
  |true=>have B:s.e_ p.toNat (s.ax t.g).h.idx t.h.idx=true:=(by rw[aa.qE j,ad.ll l,<-A,r,Int.mul_comm]);obtain⟨m,u,a,b,c,C,e⟩:=h.cC _ _ _ B;have:=h.one a d ((h.task m u a).kJ b) i C;subst this;rw[d] at a;cases a;rw[v] at b;cases b
 have D:=(h.a1 _ _ j).1.g.room l;dsimp only;rw[z0 (by omega),z0 (by rw[qp.2 ⟨by omega,by omega⟩];simp),z0 (by omega),z,z0 (by simp),z0 D]
theorem aa.put_eq (b:s.tasks[n]?=R t) (p:Int) (a:Bool):s.put n p a=(s.cl n {t with e:=s.gz t p a,p:=p,on:=true}).bO p ((s.a1 p).put (s.ax t.g).h.idx (s.gz t p a)):=by unfold aa.put;rw[b]
theorem aa.Ok.put (h:s.Ok k) {n:Nat} {t:ex} (d:s.tasks[n]?=R t) (E:t.on=false) (y:t.dead=false) {p:Int} (h0:0<=p) (z:p<s.c.aR) (f:Bool):(s.put n p f).Ok k:=by
 rw[aa.put_eq d];have j:=h.task n t d;have A:=h.eu h0 z;have B:=h.a1 _ _ A;have I:=h.ze d E y h0 z f;have F:=aa.zd j p f;obtain⟨N,O⟩:=h.sC d y;have G:=(bE.1 d).1;have H:=(bE.1 A).1;have C:∀r g i,((s.cl n {t with e:=s.gz t p f,p:=p,on:=true}).bO p ((s.a1 p).put (s.ax t.g).h.idx (s.gz t p f))).e_ r g i=(s.e_ r g i||(decide (r=p.toNat)&&(decide (g=(s.ax t.g).h.idx)&&decide (i=t.h.idx)))):=by
  intro r g i;unfold aa.e_;show(match(s.hiers.set p.toNat _)[r]? with|none=>false|some h=>h.has g (2*i))=_;by_cases e:r=p.toNat;·subst e;rw[cZ H,A];dsimp only;rw[(B.1.FA _ _ g i).1,decide_eq_true I,F.1];simp
  ·rw[dK (Ne.symm e),decide_eq_false e];simp;try rfl
 refine⟨h.aR,h.tick,h.ie,⟨?_,h.eA.2⟩,h.tree,h.pool,h.cA,?_,h.je,h.iG,h.eB,h.gH,?_,h.root,h.ax,h.there,h.place,h.get,?_,?_⟩;·show(s.tasks.set n _).length<=k;rw[ef];exact h.eA.1
 ·show(s.hiers.set p.toNat _).length=s.c.aR;rw[ef];exact h.hlen
 ·intro r x l;change(s.hiers.set p.toNat _)[r]?=R x at l;by_cases e:r=p.toNat;·subst e;rw[cZ H] at l;cases l;exact⟨B.1.put _ _,(ad.E8 _ _ _).trans B.2⟩
  ·rw[dK (Ne.symm e)] at l;exact h.a1 r x l
 ·intro m u q;change(s.tasks.set n _)[m]?=R u at q;by_cases e:m=n;·subst e;rw[cZ G] at q;cases q;refine⟨j.g,⟨h0,z⟩,j.w,λD=>?_,j.live,F,j.mask,λo=>(C _ _ _).trans (by show(s.e_ p.toNat (s.ax t.g).h.idx t.h.idx||(decide (p.toNat=p.toNat)&&(decide ((s.ax t.g).h.idx=(s.ax t.g).h.idx)&&decide (t.h.idx=t.h.idx))))=true;simp)⟩;change t.dead=true at D;rw[y] at D;cases D
  ·rw[dK (Ne.symm e)] at q;have r:=h.task m u q;exact⟨r.g,r.p,r.w,r.dead,r.live,r.e,r.mask,λo=>(C _ _ _).trans (by show(s.e_ u.p.toNat (s.ax u.g).h.idx u.h.idx||_)=true;rw[r.on o];rfl)⟩
 ·intro r g i v;rw[C] at v;simp only[nW,iy,decide_eq_true_eq] at v;rcases v with v|⟨P,J,K⟩;·obtain⟨m,u,a,b,c,L,e⟩:=h.cC r g i v;have M:m≠n:=(by rintro rfl;rw[d] at a;cases a;rw[E] at b;cases b);exact⟨m,u,by show(s.tasks.set n _)[m]?=_;rw[dK (Ne.symm M)];exact a,b,c,L,e⟩
  ·refine⟨n,{t with e:=s.gz t p f,p:=p,on:=true},by show(s.tasks.set n _)[n]?=_;rw[cZ G],rfl,?_,K.symm,J.symm⟩;show p=(r:Int);omega
end
section
variable {k:Nat} {s:aa}
theorem aa.mE {p:Int}:s.e8 p=true↔0<=p∧p<s.c.aR:=by unfold aa.e8;simp
theorem aa.Ok.runs (h:s.Ok k) (p:Int):s.running p=-1∨∃(n:Nat) (t:ex),s.running p=n∧s.tasks[n]?=R t∧t.on=true∧t.p=p∧s.e8 p=true∧(s.a1 p).free (s.ax t.g).h.idx∧(s.a1 p).running=t.h.idx:=by
 unfold aa.running;cases hp:s.e8 p with
 |false=>left;rw[aj rfl]
 |true=>
  rw[z0 (by simp)];obtain⟨m,o⟩:=aa.mE.1 hp;have f:=h.eu m o;rcases(h.a1 _ _ f).1.runs with e|⟨i,g,a,b,c,q,e⟩;·left;rw[e,aj (by omega)]
  ·right;have r:s.e_ p.toNat g i=true:=(by rw[aa.qE f];exact q);obtain⟨n,t,d,j,w,l,u⟩:=h.cC _ _ _ r;have v:=((h.task n t d).live ((h.task n t d).kJ j)).2.2.2;refine⟨n,t,?_,d,j,by omega,rfl,by rw[u];exact e,by rw[c,l]⟩;rw[c,z0 (by omega),dD,<-l,v];rfl
structure cG (s r:aa):Prop where
 c:r.c=s.c
 tree:r.tree=s.tree
 pool:r.pool=s.pool
 tasks:r.tasks=s.tasks
 places:r.places=s.places
 at_:r.at_=s.at_
 book:r.book=s.book
 len:r.groups.length=s.groups.length
 h:∀g,(r.ax g).h=(s.ax g).h
 there:∀g,(r.ax g).there=(s.ax g).there
 shares:∀g,(r.ax g).shares=(s.ax g).shares
 aP:r.hiers.length=s.hiers.length
 jU:r.clocks.length=s.clocks.length
theorem cG.refl (s:aa):cG s s:=⟨rfl,rfl,rfl,rfl,rfl,rfl,rfl,rfl,λ_=>rfl,λ_=>rfl,λ_=>rfl,rfl,rfl⟩
theorem cG.trans {a b c:aa} (h:cG a b) (k:cG b c):cG a c:=⟨k.c.trans h.c,k.tree.trans h.tree,k.pool.trans h.pool,k.tasks.trans h.tasks,k.places.trans h.places,k.at_.trans h.at_,k.book.trans h.book,k.len.trans h.len,λg=>(k.h g).trans (h.h g),λg=>(k.there g).trans (h.there g),λg=>(k.shares g).trans (h.shares g),k.aP.trans h.aP,k.jU.trans h.jU⟩
theorem cG.bO (s:aa) (p:Int) (x:ad):cG s (s.bO p x):=⟨rfl,rfl,rfl,rfl,rfl,rfl,rfl,rfl,λ_=>rfl,λ_=>rfl,λ_=>rfl,by unfold aa.bO;simp,rfl⟩
theorem cG.dM (s:aa) (p:Int) (x:cI):cG s (s.dM p x):=⟨rfl,rfl,rfl,rfl,rfl,rfl,rfl,rfl,λ_=>rfl,λ_=>rfl,λ_=>rfl,rfl,by unfold aa.dM;simp⟩
theorem aa.l3 (s:aa) (g:Nat) (G:cc) (j:Nat):(s.b0 g G).ax j=if j=g∧g<s.groups.length then G else s.ax j:=by
 unfold aa.ax aa.b0;dsimp only;rw[dD,dD];by_cases e:j=g
 ·subst e;by_cases a:j<s.groups.length;·rw[cZ a,aj ⟨rfl,a⟩];rfl
  ·rw[ho (by simp;omega),ho (by omega),z0 (λb=>a b.2)]
 ·rw[dK (Ne.symm e),z0 (λb=>e b.1)]
theorem cG.b0 (s:aa) (g:Nat) {G:cc} (a:G.h=(s.ax g).h) (b:G.there=(s.ax g).there) (c:G.shares=(s.ax g).shares):cG s (s.b0 g G):=by
 refine⟨rfl,rfl,rfl,rfl,rfl,rfl,rfl,by unfold aa.b0;simp,?_,?_,?_,rfl,rfl⟩
 ·intro j;rw[aa.l3];split;·rename_i e;rw[e.1];exact a
  ·rfl
 ·intro j;rw[aa.l3];split;·rename_i e;rw[e.1];exact b
  ·rfl
 ·intro j;rw[aa.l3];split;·rename_i e;rw[e.1];exact c
  ·rfl
theorem cG.bW (s:aa) (g:Nat) (f:aN->aN):cG s (s.bW g f):=by
 unfold aa.bW;split;·exact cG.refl s
 ·exact cG.b0 s g rfl rfl rfl
theorem cG.ca (s:aa) (g:Nat) (f:List Int->List Int):cG s (s.ca g f):=by
 unfold aa.ca;split;·exact cG.refl s
 ·exact cG.b0 s g rfl rfl rfl
theorem cG.stop (s:aa) (g:Nat) (p:Int) (is:Bool):cG s (s.stop g p is):=cG.bO s p _
theorem aa.qF (s:aa) (a:¬g<s.groups.length):s.ax g=ia:=by unfold aa.ax;rw[dD,ho (by omega)];rfl
theorem aa.Ok.vF (h:s.Ok k) {b:aN} (a:(s.ax g).band=R b):s.groups[g]?=R (s.ax g)∧g≠0∧sB s.c.aR (s.ax g)∧b.loc.length=s.c.aR:=by
 by_cases e:g<s.groups.length
 ·have d:=h.oo e;have f:g≠0:=by rintro rfl;obtain⟨r,i,_,_,j,_⟩:=h.root;rw[d] at i;cases i;rw[a] at j;cases j
  have l:=h.ax g _ d f;obtain⟨o,m,n⟩:=l.band;rw[a] at m;cases m;exact⟨d,f,l,n⟩
 ·rw[s.qF e] at a;cases a
theorem aa.Ok.qG (h:s.Ok k) (a:(s.ax g).line=R l):s.groups[g]?=R (s.ax g)∧g≠0∧sB s.c.aR (s.ax g)∧(∀p∈l,0<=p∧p<(s.c.aR:Int))∧l.Nodup:=by
 by_cases d:g<s.groups.length
 ·have b:=h.oo d;have e:g≠0:=by rintro rfl;obtain⟨r,f,_,_,_,i⟩:=h.root;rw[b] at f;cases f;rw[a] at i;cases i
  have j:=h.ax g _ b e;obtain⟨o,m,n⟩:=j.line;rw[a] at m;cases m;exact⟨b,e,j,n⟩
 ·rw[s.qF d] at a;cases a
theorem aa.Ok.bW (h:s.Ok k) (g:Nat) (f:aN->aN) (c:∀b,(f b).loc.length=b.loc.length):(s.bW g f).Ok k:=by
 unfold aa.bW;cases d:(s.ax g).band with
 |none=>exact h
 |some b=>obtain⟨i,j,a,e⟩:=h.vF d;exact h.b0 i rfl rfl (λ_=>⟨⟨f b,rfl,(c b).trans e⟩,a.line,a.shares⟩) (λe=>absurd e j)
theorem aa.Ok.ca (h:s.Ok k) (g:Nat) (f:List Int->List Int) (d:∀l,(s.ax g).line=R l->(∀p∈l,0<=p∧p<(s.c.aR:Int))->l.Nodup->(∀p∈f l,0<=p∧p<(s.c.aR:Int))∧(f l).Nodup):(s.ca g f).Ok k:=by
 unfold aa.ca;cases a:(s.ax g).line with
 |none=>exact h
 |some l=>obtain⟨i,j,b,e,m⟩:=h.qG a;exact h.b0 i rfl rfl (λ_=>⟨b.band,⟨f l,rfl,d l a e m⟩,b.shares⟩) (λe=>absurd e j)
theorem FP {f:Nat} {p:Int} (h0:0<=p) (j:p<f) (h:∀p∈l,0<=p∧p<(f:Int)) (g:l.Nodup):(∀d∈fX l p,0<=d∧d<(f:Int))∧(fX l p).Nodup:=by
 unfold fX;split
 ·rename_i e;refine⟨λd c=>?_,?_⟩
  ·rcases nc.1 c with c|c;·exact h d c
   ·rw[p8] at c;subst c;exact⟨h0,j⟩
  ·rw[List.nodup_append];exact⟨g,by simp,λa k b i=>by rw[p8] at i;subst i;rintro rfl;exact e.2.2 k⟩
 ·exact⟨h,g⟩
theorem aa.Ok.sE (h:s.Ok k) (g:Nat) {p:Int} (h0:0<=p) (d:p<s.c.aR):(s.ca g λl=>fX l p).Ok k:=h.ca g _ λl _ a b=>FP h0 d a b
theorem aa.Ok.stop (h:s.Ok k) (g:Nat) {p:Int} (h0:0<=p) (d:p<s.c.aR) (is:Bool):(s.stop g p is).Ok k:=by have a:=h.eu h0 d;have b:=h.a1 _ _ a;exact h.bO h0 a (b.1.stop _ _) (ad.u_ _ _ _) (λj i=>(b.1.y7 _ _ j i).1)
theorem aa.Ok.fH (h:s.Ok k) {p:Int} (h0:0<=p) (b:p<s.c.aR):(s.fH p).Ok k:=by have a:=h.eu h0 b;have d:=h.a1 _ _ a;exact h.bO h0 a d.1.pick (ad.pr _) (λj i=>(ad.pv _ j _).1)
theorem cI.FQ (t:cI) (n:Int):(t.begin n).hC=t.hC:=by unfold cI.begin;split<;>rfl
theorem cI.FR (t:cI) (n:Nat):(t.tick n).hC=t.hC:=by unfold cI.tick;split<;>(try split)<;>rfl
theorem aa.Ok.px (h:s.Ok k) {p:Int} (h0:0<=p) (a:p<s.c.aR):s.clocks[p.toNat]?=R (s.clock p):=by have b:=h.je;unfold aa.clock;rw[dD,b6 (by omega)];rfl
theorem aa.Ok.begin (h:s.Ok k) {p:Int} (h0:0<=p) (a:p<s.c.aR) (n:Int):(s.begin p n).Ok k:=h.dM p ((cI.FQ _ _).trans (h.iG _ _ (h.px h0 a)))
theorem aN.qH (b:aN) (p:Int):(b.cV p).loc.length=b.loc.length:=by unfold aN.cV;split<;>(try split)<;>(try split)<;>simp
theorem aN.zf (b:aN) (p n:Int):(b.b3 p n).loc.length=b.loc.length:=by
 unfold aN.b3;split;·rw[aN.qH];dsimp only;split<;>simp
 ·rfl
theorem aN.zg (b:aN) (p:Int):(b.ret p).loc.length=b.loc.length:=by unfold aN.ret;split<;>simp
theorem aN.FT (b:aN):(b.fR).loc.length=b.loc.length:=by unfold aN.fR;simp
theorem aN.md (b:aN) (q n:Int):(b.set q n).loc.length=b.loc.length:=by unfold aN.set;split<;>simp
end
structure cL (k:Nat) (s r:aa):Prop where
 ok:r.Ok k
 dH:cG s r
theorem cL.refl {k:Nat} {s:aa} (h:s.Ok k):cL k s s:=⟨h,cG.refl s⟩
theorem cL.trans {k:Nat} {a b c:aa} (h:cL k a b) (q:cL k b c):cL k a c:=⟨q.ok,h.dH.trans q.dH⟩
theorem lp {α:Type} {k:Nat} (f:aa->α->aa):∀(l:List α) (s:aa),s.Ok k->(∀x∈l,∀r,cL k s r->cL k r (f r x))->cL k s (l.foldl f s)
 |[],s,h,_=>cL.refl h
 |x::l,s,h,b=>by rw[nV];have a:=b x ey s (cL.refl h);exact a.trans (lp f l _ a.ok λy c r d=>b y (gD _ c) r (a.trans d))
section
variable {k:Nat} {s:aa}
theorem aa.Ok.bV (h:s.Ok k) (g:Nat):cL k s (s.bV g):=by
 unfold aa.bV;apply lp _ _ s h;intro x e r d;have o:x.1<s.c.aR:=by unfold aa.l0 at e;have:=(List.of_mem_zip (a:=x.1) (b:=x.2) e).1;simpa using this
 split
 ·have f:(0:Int)<=(x.1:Int):=by omega
  have m:(x.1:Int)<r.c.aR:=by rw[d.dH.c];omega
  have l:=d.ok.eu f m;have n:=d.ok.a1 _ _ l;exact⟨d.ok.bO f l (n.1.bV _ _) (ad.yH _ _ _) (λj i=>(ad.y6 _ _ _ j _).1),cG.bO _ _ _⟩
 ·exact cL.refl d.ok
theorem aa.Ok.returns (h:s.Ok k) (g:Nat):cL k s (s.returns g):=by
 unfold aa.returns;apply lp _ _ s h;intro x c r a;split;·exact⟨a.ok.bW _ _ (λb=>b.zg _),cG.bW _ _ _⟩
 ·exact cL.refl a.ok
theorem aa.vG {p:Int} (e:s.ib g=p::l):(s.ax g).line=R (p::l):=by
 unfold aa.ib at e;cases aP:(s.ax g).line with
 |none=>rw[aP] at e;cases e
 |some m=>rw[aP] at e;simp only[j8] at e;rw[e]
theorem aa.Ok.hand (n:Nat):∀(s:aa),s.Ok k->∀g,cL k s (aa.hand n s g):=by
 induction n with
 |zero=>intro s d g;exact cL.refl d
 |succ n j=>
  intro s d g;unfold aa.hand;split;·exact cL.refl d
  ·split;·exact cL.refl d
   ·rename_i p l v;have o:=aa.vG v;obtain⟨x,y,z,e,A⟩:=d.qG o;have i:=e p ey;have q:cL k s (s.ca g λ_=>l):=⟨d.ca g _ λm t a b=>by rw[o] at t;cases t;exact⟨λr w=>a r (gD _ w),(iT.1 b).2⟩,cG.ca _ _ _⟩;have f:=q.trans ⟨q.ok.bW g (λb=>b.cV p) (λb=>b.qH p),cG.bW _ _ _⟩;have u:p<(((s.ca g λ_=>l).bW g (λb=>b.cV p)).c.aR:Int):=(by rw[f.dH.c];exact i.2);split;·have h:=f.trans ⟨f.ok.stop g i.1 u false,cG.stop _ _ _ _⟩;exact h.trans (j _ h.ok g)
    ·have h:=f.trans ⟨f.ok.sE g i.1 u,cG.ca _ _ _⟩;exact h.trans (j _ h.ok g)
theorem aa.Ok.share (h:s.Ok k) (g:Nat):cL k s (s.share g):=(h.returns g).trans (aa.Ok.hand 66 _ (h.returns g).ok g)
theorem aa.Ok.asks (p:Int):∀(l:List Nat) (s:aa),s.Ok k->cL k s (aa.asks p l s).1∧(aa.asks p l s).1.hiers=s.hiers∧∀g,(aa.asks p l s).2=R g->g∈l
 |[],s,h=>⟨cL.refl h,rfl,λg e=>by cases e⟩
 |a::l,s,h=>by
  unfold aa.asks;have w:=(⟨h.bW a (λb=>b.cV p) (λb=>b.qH p),cG.bW _ _ _⟩:cL k s (s.bW a λb=>b.cV p));have c:(s.bW a λb=>b.cV p).hiers=s.hiers:=by unfold aa.bW;split<;>rfl
  split;·have:=aa.Ok.asks p l _ w.ok;exact⟨w.trans this.1,this.2.1.trans c,λg e=>gD _ (this.2.2 g e)⟩
  ·exact⟨w,c,λg e=>by cases e;exact ey⟩
theorem aa.vH (s:aa) (p:Int):s.fI p=(if(s.fH p).running p=-1 then((s.fH p).begin p (-1),true) else match(s.fH p).tasks[((s.fH p).running p).toNat]? with
 |none=>(s.fH p,true)
 |some t=>
  match aa.asks p ((s.fH p).limited ((s.fH p).cF t.g)) (s.fH p) with
  |(s2,U)=>(s2.begin p ((s.fH p).running p),true)
  |(s2,R g)=>((s2.ca g λl=>fX l p).stop g p true,false)):=rfl
def ad.going (h:ad):Nat:=((gh 32).filter λi:Nat=>(h.at i).isSome&&!h.halted i).length
theorem ad.FU (h:ad):h.going<=32:=by unfold ad.going;exact cJ (o4 _ _) (by simp)
theorem zh {α:Type} (f g:α->Bool):∀(l:List α),(∀x∈l,g x=true->f x=true)->(∃x∈l,f x=true∧g x=false)->(l.filter g).length<(l.filter f).length
 |[],_,⟨x,c,_⟩=>by cases c
 |a::l,d,⟨x,c,ao,az⟩=>by
  have j:∀(m:List α),(∀x∈m,g x=true->f x=true)->(m.filter g).length<=(m.filter f).length:=by
   intro m;induction m with
   |nil=>intro _;exact bM _
   |cons b m k=>
    intro i;have:=k λx c=>i x (gD _ c);simp only[List.filter_cons];cases e:g b with
    |false=>cases n:f b<;>simp<;>omega
    |true=>rw[i b ey e];simp;omega
  rcases gu.1 c with rfl|c;·simp only[List.filter_cons,ao,az];have:=j l λy h=>d y (gD _ h);simp;omega
  ·have:=zh f g l (λy h=>d y (gD _ h)) ⟨x,c,ao,az⟩;simp only[List.filter_cons];cases e:g a with
   |false=>cases n:f a<;>simp<;>omega
   |true=>rw[d a ey e];simp;omega
theorem ae.zi {t:ae}:∀(n:Nat) (b x:aG),x∈ae.fq t n b->(ae.get t x).isSome=true
 |0,b,x,a=>by simp[ae.fq] at a
 |n+1,b,x,a=>by
  unfold ae.fq at a;cases c:ae.get t b with
  |none=>rw[c] at a;simp at a
  |some g=>
   rw[c] at a;dsimp only at a;rcases gu.1 a with rfl|a;·rw[c];rfl
   ·split at a;·simp at a
    ·exact ae.zi n _ x a
theorem zj {α:Type} (f:α->Bool):∀(l:List α) (x:α),x∈l.takeWhile f->f x=true
 |a::l,x,h=>by
  rw[List.takeWhile_cons] at h;split at h
  ·rcases gu.1 h with rfl|h;·assumption
   ·exact zj f l x h
  ·cases h
theorem ae.Ok.zk {t:ae} (h:ae.Ok t) {x:aG} {i:Int} (b:i∈ae.path t x):i≠0∧(∃y,y.idx=i∧(ae.get t y).isSome=true)∧eJ (ae.a7 t) x.idx i=true:=by
 unfold ae.path at b;rw[List.mem_reverse,e0] at b;obtain⟨y,c,rfl⟩:=b;have f:=zj _ _ _ c;have a:=(List.takeWhile_sublist _).subset c;have d:=ae.zi 10 x y a;obtain⟨k,g⟩:=gP.1 d;cases e:ae.get t x with
 |none=>rw[show ae.fq t 10 x=[] by unfold ae.fq;rw[e]] at a;cases a
 |some j=>refine⟨by simpa using f,⟨y,rfl,d⟩,?_⟩;have:=h.vg g 10 x j e;unfold eJ;rw[<-this,nS];exact⟨y,a,by simp⟩
theorem aa.Ok.vI (h:s.Ok k) {o:Option Nat} (e:o∈s.cF g):∃(j:Nat) (d:cc),o=R j∧s.groups[j]?=R d∧d.there=true∧d.h.idx≠0∧eJ (ae.a7 s.tree) (s.ax g).h.idx d.h.idx=true:=by unfold aa.cF at e;obtain⟨i,f,rfl⟩:=e0.1 e;obtain⟨l,⟨y,rfl,m⟩,n⟩:=h.tree.zk f;obtain⟨j,d,a,b,c⟩:=h.get y m;have:=(h.there j d a b).2;rw[c] at this;exact⟨j,d,by rw[dD,this];rfl,a,b,by rw[c];exact l,by rw[c];exact n⟩
theorem aa.sF {l:List (Option Nat)} (a:g∈s.limited l):R g∈l∧(s.ax g).limited=true:=by
 unfold aa.limited at a;rw[List.mem_filterMap] at a;obtain⟨o,b,e⟩:=a;cases o with
 |none=>cases e
 |some j=>
  dsimp only at e;split at e;·cases e;exact⟨b,by assumption⟩
  ·cases e
theorem aa.Ok.fI (h:s.Ok k) {p:Int} (h0:0<=p) (v:p<s.c.aR):cL k s (s.fI p).1∧((s.fI p).2=false->((s.fI p).1.a1 p).going<(s.a1 p).going):=by
 have o:=h.fH h0 v;have r:cL k s (s.fH p):=⟨o,cG.bO _ _ _⟩;have u:p<(s.fH p).c.aR:=by rw[r.dH.c];exact v
 rw[aa.vH];split;·exact⟨r.trans ⟨o.begin h0 u _,cG.dM _ _ _⟩,λe=>by cases e⟩
 ·rename_i M;split;·exact⟨r,λe=>by cases e⟩
  ·rename_i t w;have f:=aa.Ok.asks p ((s.fH p).limited ((s.fH p).cF t.g)) (s.fH p) o;rcases o.runs p with e|⟨n,Y,q,N,Z,ao,ac,G,ay⟩;·exact absurd e M
   ·rw[q] at w;simp only[cd] at w;rw[N] at w;cases w;split;·rename_i d D;rw[D] at f;have E:p<(d.c.aR:Int):=(by rw[f.1.dH.c];exact u);exact⟨(r.trans f.1).trans ⟨f.1.ok.begin h0 E _,cG.dM _ _ _⟩,λe=>by cases e⟩
    ·rename_i d g D;rw[D] at f;dsimp only at f;have E:p<(d.c.aR:Int):=(by rw[f.1.dH.c];exact u);have x:cL k s (d.ca g λl=>fX l p):=(r.trans f.1).trans ⟨f.1.ok.sE g h0 E,cG.ca _ _ _⟩;have H:p<((d.ca g λl=>fX l p).c.aR:Int):=(by rw[x.dH.c];exact v);have O:=x.trans ⟨x.ok.stop g h0 H true,cG.stop _ _ _ _⟩;refine⟨O,λ_=>?_⟩;obtain⟨P,aB⟩:=aa.sF (f.2.2 g rfl);obtain⟨j,m,Q,a,b,c,R⟩:=o.vI P;cases Q;have S:=aa.l2 a;have T:(d.ca g λl=>fX l p).a1 p=(s.fH p).a1 p:=(by have:(d.ca g λl=>fX l p).hiers=d.hiers:=(by unfold aa.ca;split<;>rfl);unfold aa.a1;rw[this,f.2.1]);have z:(s.fH p).a1 p=(s.a1 p).pick:=(by have F:=(bE.1 (h.eu h0 v)).1;unfold aa.fH aa.bO;show((s.hiers.set p.toNat _).getD p.toNat _)=_;rw[dD,cZ F];rfl);have U:((d.ca g λl=>fX l p).ax g).h=m.h:=(by rw[(cG.ca d g _).h,f.1.dH.h,S]);have V:(((d.ca g λl=>fX l p).stop g p true).a1 p)=((s.a1 p).pick).stop m.h.idx true:=(by have F:=(bE.1 (x.ok.eu h0 H)).1;have:((d.ca g λl=>fX l p).stop g p true).a1 p=(((d.ca g λl=>fX l p).a1 p).stop ((d.ca g λl=>fX l p).ax g).h.idx true):=(by unfold aa.stop aa.bO;show((List.set _ p.toNat _).getD p.toNat _)=_;rw[dD,cZ F];rfl);rw[this,T,z,U]);rw[V];have A:=o.a1 _ _ (o.eu h0 u);rw[z] at A;obtain⟨y,B⟩:=o.dp (o.eu h0 u) a b;rw[z] at B;have W:((s.a1 p).pick.linked m.h.idx).isSome=true:=(by unfold ad.linked;rw[z0 c,B];rfl);have X:(s.a1 p).pick.halted m.h.idx=false:=(by rw[z] at G;refine G m.h.idx c ?_;rw[A.2];exact R);have I:=λi:Int=>(A.1.y7 m.h.idx true i 0).2;have J:∀i:Int,(((s.a1 p).pick.stop m.h.idx true).at i).isSome=((s.a1 p).at i).isSome:=(by intro i;have q:=congrFun ((ad.u_ (s.a1 p).pick m.h.idx true).trans (ad.pr (s.a1 p))) i;unfold ad.a7 at q;have:=congrArg Option.isSome q;simpa using this);have K:=λi:Int=>(ad.pv (s.a1 p) i 0).2;unfold ad.going;refine zh _ _ _ ?_ ?_
     ·intro i az C;simp only[iy,r3] at C⊢;rw[J] at C;refine⟨C.1,?_⟩;have:=C.2;rw[I] at this;split at this;·cases this
      ·rw[K] at this;exact this
     ·have L:=(A.1.g.lo _ _ B);refine⟨m.h.idx.toNat,by rw[o9];omega,?_,?_⟩;·rw[Int.toNat_of_nonneg L.1];simp only[iy,r3];refine⟨?_,by rw[<-K];exact X⟩;rw[<-J];have q:=congrFun (ad.u_ (s.a1 p).pick m.h.idx true) m.h.idx;unfold ad.a7 at q;have:=congrArg Option.isSome q;simp only[Option.isSome_map] at this;rw[this,B];rfl
      ·rw[Int.toNat_of_nonneg L.1,I,aj ⟨rfl,W⟩];simp
theorem aa.Ok.hb (n:Nat):∀(s:aa),s.Ok k->∀{p:Int},0<=p->p<s.c.aR->cL k s (aa.hb n s p):=by
 induction n with
 |zero=>intro s b p d e;exact cL.refl b
 |succ n f=>
  intro s b p d e;unfold aa.hb;have a:=(b.fI d e).1;split;·exact a
  ·exact a.trans (f _ a.ok d (by rw[a.dH.c];exact e))
theorem aa.Ok.FV (n:Nat):∀(m:Nat) (s:aa),s.Ok k->∀{p:Int},0<=p->p<s.c.aR->(s.a1 p).going<n->(s.a1 p).going<m->aa.hb n s p=aa.hb m s p:=by
 induction n with
 |zero=>intro m s f p d e a b;omega
 |succ n h=>
  intro m s f p d e a b;cases m with
  |zero=>omega
  |succ m=>
   unfold aa.hb;obtain⟨g,i⟩:=f.fI d e;cases j:(s.fI p).2 with
   |true=>rfl
   |false=>simp only[jD,if_false];have:=i j;exact h m _ g.ok d (by rw[g.dH.c];exact e) (by omega) (by omega)
theorem aa.Ok.FW (h:s.Ok k) {p:Int} (h0:0<=p) (a:p<s.c.aR):aa.hb 40 s p=if(s.fI p).2 then(s.fI p).1 else aa.hb 40 (s.fI p).1 p:=by
 obtain⟨b,d⟩:=h.fI h0 a;have f:=(s.a1 p).FU;conv=>lhs;unfold aa.hb
 cases e:(s.fI p).2 with
 |true=>rfl
 |false=>simp only[jD,if_false];have:=d e;exact aa.Ok.FV 39 40 _ b.ok h0 (by rw[b.dH.c];exact a) (by omega) (by omega)
theorem aa.Ok.settle (h:s.Ok k):cL k s s.settle:=by
 unfold aa.settle;have b:cL k s ((s.places.drop 1).foldl (λr o=>match o with|none=>r|some g=>r.bV g) s):=lp _ _ s h λo _ r a=>by
  cases o with
  |none=>exact cL.refl a.ok
  |some g=>exact a.ok.bV g
 have d:=b.trans (lp (λr g=>r.share g) (((s.places.drop 1).foldl (λr o=>match o with|none=>r|some g=>r.bV g) s).limited (((s.places.drop 1).foldl (λr o=>match o with|none=>r|some g=>r.bV g) s).places.drop 1)) _ b.ok λg _ r a=>a.ok.share g);refine d.trans (lp _ _ _ d.ok ?_);intro p e r a;rw[o9] at e;exact aa.Ok.hb 40 r a.ok (by omega) (by rw[a.dH.c];exact Int.ofNat_lt.2 e)
end
section
variable {k:Nat} {s:aa}
theorem aa.hc {n:Int} {G:cc} (e:s.group n=R G):0<=n∧s.groups[n.toNat]?=R G∧G.there=true:=by
 unfold aa.group at e;split at e;·cases e
 ·split at e;·cases e
  ·rename_i g a;split at e;·cases e;exact⟨by omega,a,by assumption⟩
   ·cases e
theorem aa.mF {n:Int} (e:s.task n=R t):0<=n∧s.tasks[n.toNat]?=R t∧t.dead=false:=by
 unfold aa.task at e;split at e;·cases e
 ·split at e;·cases e
  ·rename_i g a;split at e;·cases e
   ·rename_i b;cases e;exact⟨by omega,a,by simpa using b⟩
theorem qI {n:Int}:kg n=true↔2<=n∧n<=262144:=by unfold kg;simp
theorem zl (P:Nat->Bool) (n:Nat):jQ P n<n∨jQ P n=-1:=by
 rcases vn P n with⟨e,_⟩|⟨p,a,e,_⟩;·exact .inr e
 ·left;omega
theorem FX (zs:List Int) (bs:List Bool) (prev m:Int) (h:1<=zs.length):0<=(choose zs bs prev m).1∧(choose zs bs prev m).1<zs.length:=by
 unfold choose;split;·show(0:Int)<=0∧(0:Int)<_;omega
 ·rename_i c;split;·rename_i a;unfold jR at a;simp only[iy,decide_eq_true_eq] at a;have:=a.2;unfold hQ at this;simp only[iy] at this;have:=(mC.1 this.1).1;show 0<=prev∧prev<_;omega
  ·split
   ·rename_i b;rcases zl (hQ zs bs m) zs.length with e|e;·exact⟨b,e⟩
    ·unfold iE at b;omega
   ·split;·rename_i a;have a:=a.1;unfold jr at a;simp only[iy,decide_eq_true_eq] at a;have:=(mC.1 a.2).1;show 0<=prev∧prev<_;omega
    ·rcases zl (pt zs m) zs.length with e|e;·exact⟨by show 0<=least zs m;omega,e⟩
     ·unfold least at c;omega
theorem aa.zm (s:aa):s.iF.length=s.c.aR:=by unfold aa.iF;simp
theorem aa.Ok.py (h:s.Ok k) (prev m:Int):0<=(s.free prev m).1∧(s.free prev m).1<s.c.aR:=by have:=FX s.iF s.runs prev m (by rw[s.zm];exact h.aR.1);rw[s.zm] at this;exact this
theorem ad.Ok.FY {x:ad} (d:x.Ok) {g parent:Int} {up:aL} (a:x.at parent=R up) (e:1<=g) (f:g<32) (b:x.at g=U) (c:up.deep≠8):x.gw g parent=0:=by unfold ad.gw;rw[a];dsimp only;rw[z0 (by omega),b,z0 (by simp),z0 c]
theorem aa.Ok.grow (h:s.Ok k) (A N:Int):(s.grow A N).1.Ok (k+1):=by
 unfold aa.grow;cases W:s.group A with
 |none=>exact h.mono (by omega)
 |some up=>
  obtain⟨aU,X,Y⟩:=aa.hc W;dsimp only;cases Z:kg N with
  |false=>simp only[if_true];exact h.mono (by omega)
  |true=>
   have aP:=qI.1 Z;rw[z0 (by simp)];by_cases m:ae.fj s.tree up.h=0
   ·rw[z0 (by simp[m])];obtain⟨ao,B,ac,aT⟩:=ae.vj m;obtain⟨I,J,L,M⟩:=h.tree.sr m;have C:=ae.qz h.tree B m;have O:=h.tree.yQ B m;generalize ay:ae.create s.tree up.h=c at I J L M C O⊢;have aB:ae.Ok c.1:=ay▸h.tree.create up.h;have az:∀(p:Nat) x,s.hiers[p]?=R x->(x.link c.2.idx up.h.idx).Ok∧(x.link c.2.idx up.h.idx).a7=ae.a7 c.1:=by
     intro p x j;obtain⟨D,E⟩:=h.a1 p x j;obtain⟨y,q⟩:=h.dp j X Y;have P:=ad.eh q;rw[E,ae.eh B] at P;have Q:y.deep=ao.2:=(by have:=Option.some.inj P;exact(Prod.mk.inj this).2.symm);have F:x.at c.2.idx=U:=by
      cases aC:x.at c.2.idx with
      |none=>rfl
      |some K=>have:=ad.eh aC;rw[E,M] at this;cases this
     have ab:=D.FY q I J F (by rw[Q];exact ac);exact⟨D.link _ _,by rw[D.yJ q ab,E,O,Q]⟩
    have aF:∀(g:Nat) G,s.groups[g]?=R G->G.there=true->G.h.idx≠c.2.idx:=(by intro g G d o e;have:=(h.there g G d o).1;rw[L _ e] at this;cases this);have v:∀g,g<s.groups.length->(s.groups++[(⟨c.2,N.toNat,0,R (aN.new s.c.aR),R [],true⟩:cc)])[g]?=s.groups[g]?:=λg d=>iR d;have H:∀g,g<s.groups.length->(s.groups++[(⟨c.2,N.toNat,0,R (aN.new s.c.aR),R [],true⟩:cc)]).getD g ia=s.ax g:=(by intro g d;unfold aa.ax;rw[dD,dD,v g d]);have S:∀p g i,(match(s.hiers.map (λx=>x.link c.2.idx up.h.idx))[p]? with|none=>false|some h=>h.has g (2*i))=s.e_ p g i:=by
     intro p g i;unfold aa.e_;rw[dP];cases j:s.hiers[p]? with
     |none=>rfl
     |some x=>exact((h.a1 p x j).1.FG _ _ g _).1
    have af:=h.eB;refine⟨h.aR,h.tick,h.ie,⟨by have:=h.eA.1;show s.tasks.length<=_;omega,?_⟩,aB,h.pool,h.cA,by show(List.map _ _).length=_;rw[ep];exact h.hlen,h.je,h.iG,?_,h.gH,?_,?_,?_,?_,?_,?_,?_,?_⟩;·show(s.groups++[_]).length<=_;rw[eZ];have:=h.eA.2;simp;omega
    ·show(s.places.set _ _).length=32;rw[ef];exact af
    ·intro p x j;change(s.hiers.map _)[p]?=R x at j;rw[dP] at j;obtain⟨y,q,rfl⟩:=h1.1 j;exact az p y q
    ·obtain⟨r,T,am⟩:=h.root;refine⟨r,?_,am⟩;show(s.groups++[_])[0]?=_;rw[v 0 (bE.1 T).1];exact T
    ·intro g G d aM;change(s.groups++[_])[g]?=R G at d;rw[ud] at d;split at d;·exact h.ax g G d aM
     ·rename_i ap;rw[p6] at d;split at d;·cases d;exact⟨⟨_,rfl,by unfold aN.new;simp⟩,⟨[],rfl,(λp j=>absurd j (by simp)),List.nodup_nil⟩,by show 2<=N.toNat∧N.toNat<=262144;omega⟩
      ·cases d
    ·intro g G d o;change(s.groups++[_])[g]?=R G at d;show(ae.get c.1 G.h).isSome=true∧(s.places.set _ _)[G.h.idx.toNat]?=_;rw[C];rw[ud] at d;split at d;·have F:=aF g G d o;obtain⟨V,aO⟩:=h.there g G d o;have aV:=(ae.get_some (gP.1 V).choose_spec).1;rw[z0 (λe=>F (by rw[e])),dK (by omega)];exact⟨V,aO⟩
     ·rename_i ap;rw[p6] at d;split at d;·cases d;rw[aj rfl,cZ (by omega)];exact⟨rfl,by congr 2;omega⟩
      ·cases d
    ·intro i g j;change(s.places.set _ _)[i]?=_ at j;show∃G,(s.groups++[_])[g]?=R G∧_;by_cases e:i=c.2.idx.toNat;·subst e;rw[cZ (by omega)] at j;cases j;exact⟨_,by rw[gC zK9,k5];rfl,rfl,by show c.2.idx=_;omega⟩
     ·rw[dK (Ne.symm e)] at j;obtain⟨G,a,b,u⟩:=h.place i g j;exact⟨G,by rw[v g (bE.1 a).1];exact a,b,u⟩
    ·intro x z;change(ae.get c.1 x).isSome=true at z;show∃(g:Nat) (G:cc),(s.groups++[_])[g]?=R G∧_;rw[C] at z;split at z;·rename_i e;exact⟨s.groups.length,_,by rw[gC zK9,k5];rfl,rfl,e.symm⟩
     ·obtain⟨g,G,a,b,u⟩:=h.get x z;exact⟨g,G,by rw[v g (bE.1 a).1];exact a,b,u⟩
    ·intro n t o;have l:=h.task n t o;refine⟨by show t.g<(s.groups++[_]).length;rw[eZ];have:=l.g;omega,l.p,l.w,l.dead,λah=>?_,l.e,l.mask,λaQ=>?_⟩;·show((s.groups++[_]).getD t.g ia).there=true∧_;rw[H t.g l.g];exact l.live ah
     ·refine(S _ _ _).trans ?_;show s.e_ t.p.toNat ((s.groups++[_]).getD t.g ia).h.idx t.h.idx=true;rw[H t.g l.g];exact l.on aQ
    ·intro p g i aS;obtain⟨n,t,a,b,u,e,f⟩:=h.cC p g i ((S p g i).symm.trans aS);refine⟨n,t,a,b,u,e,?_⟩;show((s.groups++[_]).getD t.g ia).h.idx=g;rw[H t.g (h.task n t a).g];exact f
   ·rw[aj m];exact h.mono (by omega)
theorem ad.Ok.zn {x:ad} (a:x.Ok) {top:Int}:∀(n:Nat) (g:Int) (G:aL),x.at g=R G->10<=G.deep+n->G.q.es≠[]->eJ x.a7 g top=true->∃j i:Int,x.has j (2*i)=true∧eJ x.a7 j top=true
 |0,g,G,b,m,k,d=>by have:=(a.g.deep g G b).2;omega
 |n+1,g,G,b,m,k,d=>by
  obtain⟨e,l⟩:=List.exists_mem_of_ne_nil _ k;rcases a.cC b l with⟨i,o,f,h⟩|⟨c,ar,o,f,h,s,p,t,u,r⟩;·exact⟨g,i,by rw[ad.ll b];exact dG.2 ⟨e,l,h⟩,d⟩
  ·refine ad.Ok.zn a n c ar f (by omega) r ?_;rw[a.mA.pq (ad.eh f) h,p,d];simp
theorem aa.any_false {f:ex->Bool} (e:¬s.tasks.any f=true) (a:s.tasks[n]?=R t):f t=false:=by
 cases b:f t with
 |false=>rfl
 |true=>exact absurd (nS.2 ⟨t,ea a,b⟩) e
theorem aa.Ok.FZ (h:s.Ok k) {A:Nat} {G:cc} (v:s.groups[A]?=R G) (w:G.there=true) (I:∀(n:Nat) (t:ex),s.tasks[n]?=R t->t.dead=false->t.g≠A) (J:ae.h8 s.tree G.h=0) {x:ad} (m:s.hiers[p]?=R x):x.iZ G.h.idx=0:=by
 obtain⟨K,L⟩:=h.a1 p x m;obtain⟨y,q⟩:=h.dp m v w;obtain⟨ac,r,M,N⟩:=ae.ss J;have O:G.h.idx≠0:=λe=>M ((h.tree.nu r).1 e);have z:∀c ar,x.at c=R ar->ar.up≠G.h.idx:=by
  intro c ar P e;have d:=ad.eh P;rw[L] at d;obtain⟨Q,S,B,T⟩:=ae.lU d;have C:=(Prod.mk.inj T).1;by_cases u:c=0;·rw[aj u] at C;have:=(ae.get_some r).1;omega
  ·rw[z0 u] at C;refine N ⟨c,Q⟩ S (λj=>u (by have:=congrArg aG.idx j;exact this)) B ?_;obtain⟨ay,U⟩:=gP.1 (h.tree.up _ _ B);exact ae.nt U r (by omega)
 unfold ad.iZ ad.linked;rw[z0 O,q];dsimp only;rw[z0,aj]
 ·rw[o8];refine Decidable.byContradiction λV=>?_;obtain⟨e,D⟩:=List.exists_mem_of_ne_nil _ V;rcases K.cC q D with⟨i,W,E,F⟩|⟨c,ar,W,E,F,aB,l,_⟩;·have d:s.e_ p G.h.idx i=true:=(by rw[aa.qE m,ad.ll q];exact dG.2 ⟨e,D,F⟩);obtain⟨n,t,a,b,c,az,f⟩:=h.cC _ _ _ d;have j:=h.task n t a;have H:=j.kJ b;have l:=(h.there t.g _ (h.jT a) (j.live H).1).2;have X:=(h.there A G v w).2;rw[f,X] at l;exact I n t a H (by have:=Option.some.inj (Option.some.inj l);exact this.symm)
  ·exact z c ar E l
 ·rw[nS];rintro⟨o,Y,e⟩;cases o with
  |none=>cases e
  |some ar=>simp only[decide_eq_true_eq] at e;obtain⟨i,Z,ao⟩:=uc.1 Y;refine z (i:Int) ar ?_ e;unfold ad.at;rw[z0 (by omega),dD,cd,b6 Z,ao];rfl
theorem aa.Ok.drop (h:s.Ok k) (A:Int):(s.drop A).1.Ok (k+1):=by
 unfold aa.drop;cases P:s.group A with
 |none=>exact h.mono (by omega)
 |some G=>
  obtain⟨aO,m,E⟩:=aa.hc P;dsimp only;split;·exact h.mono (by omega)
  ·rename_i Q;split;·exact h.mono (by omega)
   ·rename_i S;have z:ae.h8 s.tree G.h=0:=(by simpa using S);have F:∀(n:Nat) (t:ex),s.tasks[n]?=R t->t.dead=false->t.g≠A.toNat:=(by intro n t o B e;have:=aa.any_false Q o;rw[B] at this;simp at this;omega);obtain⟨ah,H,T,aQ⟩:=ae.ss z;have U:G.h.idx≠0:=λe=>T ((h.tree.nu H).1 e);have aS:=(ae.get_some H).1;have V:=(bE.1 m).1;have I:=ae.su z;have J:A.toNat≠0:=λe=>by obtain⟨r,C,_,W,_⟩:=h.root;rw[e,C] at m;cases m;exact U (by rw[W];rfl)
    have q:∀j,(s.groups.set A.toNat {G with there:=false})[j]?=if j=A.toNat then R {G with there:=false} else s.groups[j]?:=by
     intro j;by_cases e:j=A.toNat;·rw[aj e,e,cZ V]
     ·rw[z0 e,dK (Ne.symm e)]
    have K:∀j,((s.groups.set A.toNat {G with there:=false}).getD j ia).h=(s.ax j).h:=by
     intro j;unfold aa.ax;rw[dD,dD,q];by_cases e:j=A.toNat;·rw[aj e,e,m];rfl
     ·rw[z0 e]
    have X:∀j,j≠A.toNat->((s.groups.set A.toNat {G with there:=false}).getD j ia)=s.ax j:=(by intro j e;unfold aa.ax;rw[dD,dD,q,z0 e]);have L:∀p g i,(match(s.hiers.map (λx=>x.unlink G.h.idx))[p]? with|none=>false|some h=>h.has g (2*i))=s.e_ p g i:=by
     intro p g i;unfold aa.e_;rw[dP];cases hp:s.hiers[p]? with
     |none=>rfl
     |some x=>exact(ad.FH _ g _).1
    have Y:∀j c,s.groups[j]?=R c->c.there=true->c.h.idx=G.h.idx->j=A.toNat:=(by intro j c Z ao e;have M:=(h.there j c Z ao).2;have ac:=(h.there _ G m E).2;rw[e,ac] at M;exact(Option.some.inj (Option.some.inj M)).symm);have ay:=h.eB;refine⟨h.aR,h.tick,h.ie,⟨by have:=h.eA.1;show s.tasks.length<=_;omega,?_⟩,h.tree.gY G.h,h.pool,h.cA,by show(List.map _ _).length=_;rw[ep];exact h.hlen,h.je,h.iG,?_,h.gH,?_,?_,?_,?_,?_,?_,?_,?_⟩;·show(s.groups.set _ _).length<=_;rw[ef];have:=h.eA.2;omega
    ·show(s.places.set _ _).length=32;rw[ef];exact ay
    ·intro p x hp;change(s.hiers.map _)[p]?=R x at hp;rw[dP] at hp;obtain⟨y,N,rfl⟩:=h1.1 hp;have aB:=h.FZ m E F z N;obtain⟨az,aC⟩:=h.a1 p y N;exact⟨az.unlink _,by rw[ad.Fe aB,aC,h.tree.yR z]⟩
    ·obtain⟨r,C,ab⟩:=h.root;refine⟨r,?_,ab⟩;show(s.groups.set _ _)[0]?=_;rw[q,z0 (Ne.symm J)];exact C
    ·intro g c d aF;change(s.groups.set _ _)[g]?=R c at d;rw[q] at d;split at d;·cases d;have l:=h.ax _ G m J;exact⟨l.band,l.line,l.shares⟩
     ·exact h.ax g c d aF
    ·intro g c d o;change(s.groups.set _ _)[g]?=R c at d;show(ae.get (ae.gY s.tree G.h) c.h).isSome=true∧(s.places.set _ _)[c.h.idx.toNat]?=_;rw[q] at d;split at d;·cases d;cases o
     ·rename_i D;obtain⟨O,af⟩:=h.there g c d o;have am:c.h.idx≠G.h.idx:=λe=>D (Y g c d o e);have aU:=(ae.get_some (gP.1 O).choose_spec).1;rw[I,z0 am,dK (by omega)];exact⟨O,af⟩
    ·intro i g hp;change(s.places.set _ _)[i]?=_ at hp;show∃c,(s.groups.set _ _)[g]?=R c∧_;by_cases e:i=G.h.idx.toNat;·subst e;rw[mo] at hp;simp at hp
     ·rw[dK (Ne.symm e)] at hp;obtain⟨c,a,b,u⟩:=h.place i g hp;refine⟨c,?_,b,u⟩;rw[q,z0];·exact a
      ·rintro rfl;rw[m] at a;cases a;omega
    ·intro x v;change(ae.get (ae.gY s.tree G.h) x).isSome=true at v;show∃(g:Nat) (c:cc),(s.groups.set _ _)[g]?=R c∧_;rw[I] at v;split at v;·cases v
     ·rename_i D;obtain⟨g,c,a,b,u⟩:=h.get x v;refine⟨g,c,?_,b,u⟩;rw[q,z0];·exact a
      ·rintro rfl;rw[m] at a;cases a;exact D (by rw[u])
    ·intro n t o;have l:=h.task n t o;refine⟨by show t.g<(s.groups.set _ _).length;rw[ef];exact l.g,l.p,l.w,l.dead,λB=>?_,l.e,l.mask,λaM=>?_⟩;·show((s.groups.set _ _).getD t.g ia).there=true∧_;rw[X t.g (F n t o B)];exact l.live B
     ·refine(L _ _ _).trans ?_;show s.e_ t.p.toNat ((s.groups.set _ _).getD t.g ia).h.idx t.h.idx=true;rw[K t.g];exact l.on aM
    ·intro p g i ap;obtain⟨n,t,a,b,u,e,f⟩:=h.cC p g i ((L p g i).symm.trans ap);refine⟨n,t,a,b,u,e,?_⟩;show((s.groups.set _ _).getD t.g ia).h.idx=g;rw[K t.g];exact f
end
section
variable {k:Nat} {s:aa}
theorem aa.Ok.F0 (h:s.Ok k) {A:Nat} {G d:cc} (Y:s.groups[A]?=R G) (Z:G.there=true) (ao:s.groups[B]?=R d) (ac:d.there=true) (ay:∀(n:Nat) (t:ex),s.tasks[n]?=R t->t.on=true->ae.di s.tree (s.ax t.g).h G.h=false) (aB:ae.eg s.tree G.h d.h=0) {x:ad} (E:s.hiers[p]?=R x):x.eg G.h.idx d.h.idx=0∧∃y u g c,G.h.idx≠0∧x.at G.h.idx=R y∧x.at d.h.idx=R u∧ae.get s.tree G.h=R g∧ae.get s.tree d.h=R c∧y.deep=g.2∧u.deep=c.2:=by
 obtain⟨f,o⟩:=h.a1 p x E;obtain⟨y,F⟩:=h.dp E Y Z;obtain⟨u,H⟩:=h.dp E ao ac;obtain⟨g,c,r,K,az,aC,ab⟩:=ae.og aB;have L:G.h.idx≠0:=λe=>az ((h.tree.nu r).1 e);have S:y.deep=g.2:=by have e:=ad.eh F;rw[o,ae.eh r] at e;exact(Prod.mk.inj (Option.some.inj e)).2.symm
 have T:u.deep=c.2:=by have e:=ad.eh H;rw[o,ae.eh K] at e;exact(Prod.mk.inj (Option.some.inj e)).2.symm
 refine⟨?_,y,u,g,c,L,F,H,r,K,S,T⟩;unfold ad.eg ad.linked;rw[z0 L,F,H];dsimp only;have aF:x.di d.h.idx G.h.idx=false:=by rw[ad.uY,o,<-h.tree.di K r];exact aC
 rw[aF,z0 (by simp)];have U:∀i∈x.below G.h.idx,(∃v,x.at i=R v)∧eJ x.a7 i G.h.idx=true:=λi C=>(ad.jO f.len).1 C;have M:(x.below G.h.idx).any x.busy=false:=by
  cases af:(x.below G.h.idx).any x.busy with
  |false=>rfl
  |true=>
   obtain⟨i,C,D⟩:=nS.1 af;obtain⟨⟨v,w⟩,N⟩:=U i C;unfold ad.busy at D;rw[w] at D;have am:v.q.es≠[]:=λI=>by dsimp only at D;rw[I] at D;simp at D
   have aZ:=(f.g.deep _ _ w).1;obtain⟨j,m,O,aM⟩:=f.zn 10 i v w (by omega) am N;have aj:s.e_ p j m=true:=(by rw[aa.qE E];exact O);obtain⟨n,t,P,W,ak,a6,ap⟩:=h.cC _ _ _ aj;have I:=h.task n t P;have J:=I.kJ W;obtain⟨a8,aO⟩:=gP.1 (h.there t.g _ (h.jT P) (I.live J).1).1;have:=ay n t P W;rw[h.tree.di aO r,ap,<-o,aM] at this;cases this
 rw[M,z0 (by simp),z0];have ah:∀i∈x.below G.h.idx,x.fE i+(c.2+1-g.2)<=8:=by
  intro i C;obtain⟨⟨v,w⟩,N⟩:=U i C;have e:=ad.eh w;rw[o] at e;obtain⟨aQ,au,Q,aS⟩:=ae.lU e;have aU:(⟨i,aQ⟩:aG)∈ae.below s.tree G.h:=by rw[ae.jO];refine⟨by rw[Q];rfl,?_⟩;rw[h.tree.di Q r,<-o];exact N
  have:=ab _ aU;unfold ae.fE at this;rw[Q] at this;dsimp only at this;have M:=(Prod.mk.inj aS).2;rw[show x.fE i=v.deep by unfold ad.fE;rw[w],M];exact this
 have a_:c.2+1-g.2<=8:=by have a:=(f.g.deep _ _ H).2;obtain⟨V,aP,av⟩:=f.g.up _ _ F L;have b:=(f.g.deep _ _ aP).1;omega
 rw[S,T];have aT:∀(l:List Int) (z:Int),z+(c.2+1-g.2)<=8->(∀i∈l,x.fE i+(c.2+1-g.2)<=8)->l.foldl (λz i=>max z (x.fE i)) z+(c.2+1-g.2)<=8:=by
  intro l;induction l with
  |nil=>intro z X _;exact X
  |cons i l aV=>intro z X J;rw[nV];refine aV _ ?_ λj O=>J j (gD _ O);have:=J i ey;omega
 have:=aT (x.below G.h.idx) 0 (by omega) ah;unfold ad.kF;omega
theorem aa.Ok.move (h:s.Ok k) (A B:Int):(s.move A B).1.Ok (k+1):=by
 unfold aa.move;cases C:s.group A with
 |none=>exact h.mono (by omega)
 |some G=>
  cases D:s.group B with
  |none=>exact h.mono (by omega)
  |some b5=>
   obtain⟨ac,E,F⟩:=aa.hc C;obtain⟨ay,H,I⟩:=aa.hc D;dsimp only;split;·exact h.mono (by omega)
   ·rename_i J;split;·exact h.mono (by omega)
    ·rename_i K;have c:ae.eg s.tree G.h b5.h=0:=(by simpa using K);have L:∀(n:Nat) (t:ex),s.tasks[n]?=R t->t.on=true->ae.di s.tree (s.ax t.g).h G.h=false:=(by intro n t b d;have:=aa.any_false J b;rw[d] at this;simpa using this);obtain⟨g,ad,f,j,aB,_⟩:=ae.og c;have M:=ae.sv f j c;have l:∀x,(ae.get (ae.move s.tree G.h b5.h) x).isSome=(ae.get s.tree x).isSome:=(by intro x;rw[M];split<;>simp);have m:∀p g i,(match(s.hiers.map (λx=>x.move G.h.idx b5.h.idx))[p]? with|none=>false|some h=>h.has g (2*i))=s.e_ p g i:=by
      intro p g i;unfold aa.e_;rw[dP];cases hp:s.hiers[p]? with
      |none=>rfl
      |some x=>exact((h.a1 p x hp).1.FI _ _ g _).1
     refine⟨h.aR,h.tick,h.ie,⟨by have:=h.eA.1;show s.tasks.length<=_;omega,by have:=h.eA.2;show s.groups.length<=_;omega⟩,h.tree.move _ _,h.pool,h.cA,by show(List.map _ _).length=_;rw[ep];exact h.hlen,h.je,h.iG,h.eB,h.gH,?_,h.root,h.ax,?_,h.place,?_,?_,?_⟩;·intro p x hp;change(s.hiers.map _)[p]?=R x at hp;rw[dP] at hp;obtain⟨y,o,rfl⟩:=h1.1 hp;obtain⟨N,az,u,q,aC,O,P,Q,r,v,S,T⟩:=h.F0 E F H I L c o;obtain⟨z,U⟩:=h.a1 p y o;rw[f] at r;rw[j] at v;cases r;cases v;refine⟨z.move _ _,?_⟩;rw[z.qv N P O Q,U];show kG (ae.a7 s.tree) G.h.idx b5.h.idx _=ae.a7 (ae.move s.tree G.h b5.h);rw[h.tree.qv f j c,S,T]
     ·intro q V W b;obtain⟨X,Y⟩:=h.there q V W b;exact⟨(l _).trans X,Y⟩
     ·intro x Z;exact h.get x ((l x).symm.trans Z)
     ·intro n t b;have a:=h.task n t b;exact⟨a.g,a.p,a.w,a.dead,a.live,a.e,a.mask,λd=>(m _ _ _).trans (a.on d)⟩
     ·intro p g i ao;exact h.cC p g i ((m p g i).symm.trans ao)
theorem aa.Ok.shares (h:s.Ok k) (A N:Int):(s.shares A N).1.Ok k:=by
 unfold aa.shares;cases c:s.group A with
 |none=>exact h
 |some G=>
  obtain⟨f,a,g⟩:=aa.hc c;dsimp only;split;·exact h
  ·rename_i i;split;·exact h
   ·rename_i d;have j:=qI.1 (by simpa using d);have b:=λe=>h.ax _ G a e;exact h.b0 a rfl rfl (λe=>⟨(b e).band,(b e).line,by show 2<=N.toNat∧N.toNat<=262144;omega⟩) (λe=>absurd e (by omega))
theorem aa.Ok.et (g:Nat):∀(l:List Int) (s:aa),s.Ok k->(∀p∈l,0<=p∧p<(s.c.aR:Int))->cL k s (aa.et g l s)
 |[],s,h,_=>cL.refl h
 |p::l,s,h,aP=>by have b:=aP p ey;have a:cL k s (s.stop g p false):=⟨h.stop g b.1 b.2 false,cG.stop _ _ _ _⟩;exact a.trans (aa.Ok.et g l _ a.ok λd e=>by rw[a.dH.c];exact aP d (gD _ e))
def aa.oq (s:aa) (A:Nat) (N M:Int):aa:=(((s.bW A λb=>b.set N M)).b0 A {(s.bW A λb=>b.set N M).ax A with quota:=N}).ca A λ_=>[]
theorem aa.Ok.oq (h:s.Ok k) {A:Nat} (l:A<s.groups.length) (h0:A≠0) (N d:Int):cL k s (s.oq A N d):=by unfold aa.oq;have a:cL k s (s.bW A λb=>b.set N d):=⟨h.bW A _ (λb=>b.md N d),cG.bW _ _ _⟩;obtain⟨c,m⟩:∃c,s.bW A (λb=>b.set N d)=c:=⟨_,rfl⟩;rw[m] at a⊢;have i:=a.ok.oo (g:=A) (by rw[a.dH.len];exact l);have f:=a.ok.ax A _ i h0;have n:cL k c (c.b0 A {c.ax A with quota:=N}):=⟨a.ok.b0 i rfl rfl (λ_=>⟨f.band,f.line,f.shares⟩) (λe=>absurd e h0),cG.b0 c A rfl rfl rfl⟩;have j:=a.trans n;exact j.trans ⟨j.ok.ca A _ λ_ _ _ _=>⟨(λp o=>absurd o (by simp)),List.nodup_nil⟩,cG.ca _ _ _⟩
theorem aa.zo (s:aa) (A N M:Int):s.jS A N M=match s.group A with
 |none=>(s,0,2)
 |some g=>if A=0 then(s,0,1) else if aN.hP N M≠0 then(s,0,aN.hP N M) else(aa.et A.toNat (s.ib A.toNat) (s.oq A.toNat N M),0,0):=rfl
theorem aa.Ok.F1 (h:s.Ok k) (g:Nat):∀p∈s.ib g,0<=p∧p<(s.c.aR:Int):=by
 intro p a;unfold aa.ib at a;cases aP:(s.ax g).line with
 |none=>rw[aP] at a;cases a
 |some l=>rw[aP] at a;exact(h.qG aP).2.2.2.1 p a
theorem aa.Ok.jS (h:s.Ok k) (A N a:Int):(s.jS A N a).1.Ok k:=by
 rw[aa.zo];cases d:s.group A with
 |none=>exact h
 |some G=>
  obtain⟨i,e,j⟩:=aa.hc d;dsimp only;split;·exact h
  ·split;·exact h
   ·have f:=(bE.1 e).1;have b:=h.oq f (by omega) N a;exact(aa.Ok.et A.toNat _ _ b.ok λp g=>by rw[b.dH.c];exact h.F1 _ p g).ok
theorem aa.Ok.fR (h:s.Ok k) (A:Int):(s.fR A).1.Ok k:=by
 unfold aa.fR;cases a:s.group A with
 |none=>exact h
 |some G=>
  dsimp only;split;·exact h
  ·exact h.bW _ _ (λb=>b.FT)
theorem aa.Ok.js (h:s.Ok k) (A:Int):(s.js A).1.Ok k:=by
 unfold aa.js;cases a:s.task A with
 |none=>exact h
 |some t=>
  obtain⟨e,b,c⟩:=aa.mF a;dsimp only;split;·exact h
  ·rename_i d;have:=h.py t.p t.mask;exact h.put b (by simpa using d) c this.1 this.2 true
theorem aa.Ok.nice (h:s.Ok k) (A N:Int):(s.nice A N).1.Ok k:=by
 unfold aa.nice;cases f:s.task A with
 |none=>exact h
 |some t=>
  obtain⟨o,c,q⟩:=aa.mF f;have a:=h.task _ t c;dsimp only;split;·exact h
  ·split;·exact h
   ·rename_i l;have b:=vA N (by simpa using l);split;·rename_i r;have d:=a.eu h;have m:=h.a1 _ _ d;have n:=h.bO a.p.1 d (m.1.nice (s.ax t.g).h.idx t.h.idx (ei N)) (ad.E_ _ _ _ _) (λj i=>(ad.FC _ _ _ _ j _).1);exact n.cl (t:=t) (t':={t with nice:=N,w:=ei N}) c rfl rfl rfl rfl rfl b a.e a.mask
    ·refine h.cl (t':={t with e:=vB t.e (ei N),nice:=N,w:=ei N}) c rfl rfl rfl rfl rfl b ⟨a.e.1,b.1,b.2,?_⟩ a.mask;show t.e.rem*ei N/t.e.wt<ei N;have:=a.e.2.1;rw[Nat.div_lt_iff_lt_mul (by omega),Nat.mul_comm (ei N)];exact Nat.mul_lt_mul_of_pos_right a.e.2.2.2 (by omega)
theorem aa.pz (a:s.tasks[n]?=R t):(s.leave n).tasks[n]?=R {t with mn:=s.least t t.p,e:=(s.a1 t.p).er (s.ax t.g).h.idx t.h.idx,on:=false}:=by rw[aa.sD a];show(s.tasks.set n _)[n]?=_;rw[cZ (bE.1 a).1]
theorem aa.sG (a:s.tasks[n]?=R t):(s.leave n).c=s.c:=by rw[aa.sD a];rfl
theorem aa.Ok.fs (h:s.Ok k) (a:s.tasks[n]?=R t) (b:t.on=true) {p:Int} (h0:0<=p) (e:p<s.c.aR) (d:Bool):((s.leave n).put n p d).Ok k:=(h.leave a b).put (aa.pz a) rfl ((h.task n t a).kJ b) h0 (by rw[aa.sG a];exact e) d
theorem aa.Ok.mask (h:s.Ok k) (A m:Int) (i:0<=m∧m<18446744073709551616):(s.mask A m).1.Ok k:=by
 unfold aa.mask;cases j:s.task A with
 |none=>exact h
 |some t=>
  obtain⟨n,a,o⟩:=aa.mF j;have f:=h.task _ t a;dsimp only;split;·exact h
  ·have b:(s.cl A.toNat {t with mask:=m}).Ok k:=h.cl (t':={t with mask:=m}) a rfl rfl rfl rfl rfl f.w f.e i;have c:(s.cl A.toNat {t with mask:=m}).tasks[A.toNat]?=R {t with mask:=m}:=(by show(s.tasks.set _ _)[_]?=_;rw[cZ (bE.1 a).1]);split;·rename_i d;simp only[iy] at d;have l:=b.leave c d.1;have g:=l.py (-1) m;exact b.fs c d.1 g.1 (by have:=g.2;rw[aa.sG c] at this;exact this) false
   ·exact b
theorem aa.Ok.block (h:s.Ok k) (A:Int):(s.block A).1.Ok k:=by
 unfold aa.block;split;·exact h
 ·split;·exact h
  ·rename_i a;rcases h.runs A with e|⟨n,t,b,c,d,_⟩;·exact absurd e a
   ·rw[b,cd];exact h.leave c d
theorem aa.Ok.die {r:aa} (d:r.Ok k) {u:ex} (l:r.tasks[n]?=R u) (q:u.on=false) (s:u.dead=false):({r.cl n {u with dead:=true} with pool:=an.free 0 r.pool u.h}:aa).Ok k:=by
 have f:=d.task n u l;have y:=(bE.1 l).1;obtain⟨I,⟨t,z⟩,J,K⟩:=f.live s;refine⟨d.aR,d.tick,d.ie,⟨by show(r.tasks.set _ _).length<=k;rw[ef];exact d.eA.1,d.eA.2⟩,d.tree,d.pool.free _ _,?_,d.hlen,d.je,d.iG,d.eB,d.gH,d.a1,d.root,d.ax,d.there,d.place,d.get,?_,?_⟩;·show(an.free 0 r.pool _).pl.length<=64;rw[an.yO];exact d.cA
 ·intro m v j;change(r.tasks.set n _)[m]?=R v at j;by_cases e:m=n;·subst e;rw[cZ y] at j;cases j;exact⟨f.g,f.p,f.w,λ_=>q,(λo=>absurd o (by simp)),f.e,f.mask,f.on⟩
  ·rw[dK (Ne.symm e)] at j;have w:=d.task m v j;refine⟨w.g,w.p,w.w,w.dead,λx=>?_,w.e,w.mask,w.on⟩;obtain⟨A,⟨B,C⟩,D,E⟩:=w.live x;refine⟨A,?_,D,E⟩;show∃t,an.at (an.free 0 r.pool u.h) v.h=R t;rw[an.yN 0 z,z0];·exact⟨B,C⟩
   ·intro F;exact e (d.one j l x s F)
 ·intro p g i G;obtain⟨m,v,a,b,c,o,e⟩:=d.cC p g i G;have H:m≠n:=by rintro rfl;rw[l] at a;cases a;rw[q] at b;cases b
  exact⟨m,v,by show(r.tasks.set n _)[m]?=_;rw[dK (Ne.symm H)];exact a,b,c,o,e⟩
theorem aa.Ok.exit (h:s.Ok k) (A:Int):(s.exit A).1.Ok k:=by
 unfold aa.exit;split;·exact h
 ·split;·exact h
  ·rename_i c;rcases h.runs A with e|⟨n,t,d,a,b,_⟩;·exact absurd e c
   ·rw[d,cd,aa.pz a];exact(h.leave a b).die (aa.pz a) rfl ((h.task n t a).kJ b)
theorem aa.Ok.zp (h:s.Ok k) {A:Int} (h0:0<=A) (b:A<s.c.aR):(s.bO A (s.a1 A).yield).Ok k:=by have a:=h.eu h0 b;have d:=h.a1 _ _ a;exact h.bO h0 a d.1.yield (ad.Fb _) (λj i=>(ad.FE _ j _).1)
theorem aa.Ok.yield (h:s.Ok k) (A:Int):(s.yield A).1.Ok k:=by
 unfold aa.yield;split;·exact h
 ·rename_i a;obtain⟨b,c⟩:=aa.mE.1 (by simpa using a);split;·exact h
  ·exact h.zp b c
theorem aa.Ok.dU (p ns:Int):∀(l:List Nat) (s:aa),s.Ok k->cL k s (aa.dU p ns l s)
 |[],s,h=>cL.refl h
 |g::l,s,h=>by have a:cL k s (s.bW g λb=>b.b3 p ns):=⟨h.bW g _ (λb=>b.zf p ns),cG.bW _ _ _⟩;exact a.trans (aa.Ok.dU p ns l _ a.ok)
theorem aa.Ok.zq (h:s.Ok k) {A:Int} (h0:0<=A) (a:A<s.c.aR) (n:Nat):(s.dM A ((s.clock A).tick n)).Ok k:=h.dM A ((cI.FR _ _).trans (h.iG _ _ (h.px h0 a)))
theorem aa.Ok.F2 (h:s.Ok k) (A N:Int):(s.tick A N).1.Ok k:=by
 unfold aa.tick;split;·exact h
 ·rename_i w;obtain⟨b,d⟩:=aa.mE.1 (by simpa using w);split;·exact h
  ·split;·exact h.zq b d _
   ·split;·exact h
    ·rename_i t y;split;·exact h
     ·have e:({s with book:=s.book.b4 (s.numbers t.g) (s.running A) N}:aa).Ok k:=h.zb _;obtain⟨a,m⟩:=aX ({s with book:=s.book.b4 (s.numbers t.g) (s.running A) N}:aa);have n:a.c=s.c:=(by rw[<-m]);rw[m] at e⊢;dsimp only;have o:=e.eu (p:=A) b (by rw[n];exact d);have q:=e.a1 _ _ o;have r:(a.bO A ((a.a1 A).b3 N.toNat)).Ok k:=e.bO b o (q.1.b3 _) (ad.yI _ _) (λj i=>(q.1.y8 _ j _).1);have u:(a.bO A ((a.a1 A).b3 N.toNat)).c=s.c:=n;generalize z:a.bO A ((a.a1 A).b3 N.toNat)=s2 at r u⊢;have f:=aa.Ok.dU A N (s2.limited (s2.cF t.g)) s2 r;generalize B:aa.dU A N (s2.limited (s2.cF t.g)) s2=jd at f⊢;have l:jd.c=s.c:=f.dH.c.trans u;have v:=f.ok.zq (A:=A) b (by rw[l];exact d) N.toNat;split;·have x:=v.zp (A:=A) b (by show A<(jd.c.aR:Int);rw[l];exact d);exact x.begin b (by show A<(jd.c.aR:Int);rw[l];exact d) _
      ·exact v
theorem F3 {α:Type} {l:List α} {x:α×Nat} (h:x∈l.zipIdx):l[x.2]?=R x.1:=by
 obtain⟨i,b⟩:=mm.1 h;rw[nR] at b;cases aP:l[i]? with
 |none=>rw[aP] at b;cases b
 |some a=>rw[aP] at b;simp at b;rw[<-b];exact aP
theorem aa.vJ {f:Int} (e:i<(s.jt f).length):∃(n:Nat) (t:ex),cat (s.jt f) i=⟨n,t.w,t.mask,decide ((n:Int)=s.running f)⟩∧s.tasks[n]?=R t∧t.on=true∧t.p=f:=by unfold cat;obtain⟨c,b⟩:∃c,(s.jt f)[i]?=R c:=⟨_,b6 e⟩;rw[b];have d:=ea b;unfold aa.jt at d;obtain⟨x,a,rfl⟩:=e0.1 d;rw[List.mem_filter] at a;simp only[iy,decide_eq_true_eq] at a;exact⟨x.2,x.1,rfl,F3 a.1,a.2.1,a.2.2⟩
theorem aa.Ok.pull (h:s.Ok k) (A:Int):(s.pull A).1.Ok k:=by
 unfold aa.pull;split;·exact h
 ·rename_i a;obtain⟨b,c⟩:=aa.mE.1 (by simpa using a);dsimp only;split;·exact h
  ·split;·exact h
   ·rename_i l;rcases Fq (s.jt (lW s.iF A 18446744073709551615)) (jc (bj s.iF (lW s.iF A 18446744073709551615).toNat) (bj s.iF A.toNat)) A with e|⟨i,e,d⟩;·omega
    ·rw[e,cd];obtain⟨n,t,f,g,j,m⟩:=aa.vJ d;rw[f];dsimp only;rw[cd];exact h.fs g j b c false
end
section
variable {k:Nat} {s:aa}
def aa.born (s:aa) (g:Nat) (N mask p:Int):aa:={s with pool:=(an.put s.pool (s.tasks.length:Int)).1,tasks:=s.tasks++[⟨(an.put s.pool (s.tasks.length:Int)).2,false,false,p,g,N,ei N,mask,⟨(an.put s.pool (s.tasks.length:Int)).2.idx,ei N,(s.a1 p).minOf (s.ax g).h.idx,0⟩,0⟩],at_:=s.at_.set (an.put s.pool (s.tasks.length:Int)).2.idx.toNat (s.tasks.length:Int)}
theorem aa.Ok.born (h:s.Ok k) {g:Nat} {G:cc} (y:s.groups[g]?=R G) (F:G.there=true) {N mask p:Int} (H:e7 N=0) (q:0<=mask∧mask<18446744073709551616) (h0:0<=p) (I:p<s.c.aR) (J:an.many s.pool≠64):(s.born g N mask p).Ok (k+1):=by
 obtain⟨K,z,L,M,O,P⟩:=h.pool.qy (s.tasks.length:Int);have A:=h.pool.put (s.tasks.length:Int);have r:=h.pool.yM (s.tasks.length:Int);have v:=vA N H;have ad:=h.cA;have aB:=h.pool.cA;have B:(an.put s.pool (s.tasks.length:Int)).1.pl.length<=64:=by
  have:an.many s.pool+1<=64:=by unfold an.many at J⊢;omega
  omega
 unfold aa.born;generalize az:an.put s.pool (s.tasks.length:Int)=c at K z L M O P A r B⊢;have Q:=h.gH;have S:=(bE.1 y).1;have T:=aa.l2 y;have C:∀(m:Nat) (u:ex),s.tasks[m]?=R u->u.dead=false->u.h.idx≠c.2.idx:=by intro m u d l e;obtain⟨x,D⟩:=((h.task m u d).live l).2.1;rw[z _ e] at D;cases D
 have U:∀m,m<s.tasks.length->∀t:ex,(s.tasks++[t])[m]?=s.tasks[m]?:=λm q t=>iR q;refine⟨h.aR,h.tick,h.ie,⟨?_,by have:=h.eA.2;show s.groups.length<=_;omega⟩,h.tree,A,B,h.hlen,h.je,h.iG,h.eB,by show(List.set _ _ _).length=64;rw[ef];exact Q,h.a1,h.root,h.ax,h.there,h.place,h.get,?_,?_⟩;·show(s.tasks++[_]).length<=_;rw[eZ];have:=h.eA.1;simp;omega
 ·intro m u d;change(s.tasks++[_])[m]?=R u at d;rw[ud] at d;split at d
  ·rename_i V;have j:=h.task m u d;refine⟨j.g,j.p,j.w,j.dead,λl=>?_,j.e,j.mask,j.on⟩;obtain⟨W,⟨x,E⟩,X,Y⟩:=j.live l;refine⟨W,⟨x,?_⟩,X,?_⟩;·show an.at c.1 u.h=R x;rw[r,z0 (λe=>C m u d l (by rw[e]))];exact E
   ·show(List.set _ _ _)[_]?=_;have:=C m u d l;have:=(an.qx.1 E).1;rw[dK (by omega)];exact Y
  ·rename_i V;rw[p6] at d;split at d
   ·cases d;have Z:m=s.tasks.length:=(by omega);refine⟨S,⟨h0,I⟩,v,λ_=>rfl,λ_=>⟨?_,⟨⟨(s.tasks.length:Int),c.2.gen,true⟩,?_⟩,?_,?_⟩,⟨rfl,v.1,v.2,?_⟩,q,λo=>by cases o⟩;·show(s.ax g).there=true;rw[T];exact F
    ·show an.at c.1 c.2=_;rw[r,aj rfl]
    ·show c.2.idx<64;omega
    ·show(List.set _ c.2.idx.toNat _)[c.2.idx.toNat]?=_;rw[cZ (by omega),Z]
    ·show(0:Nat)<ei N;omega
   ·cases d
 ·intro j ao i ac;obtain⟨n,t,a,b,ay,e,f⟩:=h.cC j ao i ac;exact⟨n,t,by show(s.tasks++[_])[n]?=_;rw[U n (bE.1 a).1];exact a,b,ay,e,f⟩
theorem aa.zr (s:aa) (g:Nat) (N mask p:Int):(s.born g N mask p).tasks[s.tasks.length]?=R ⟨(an.put s.pool (s.tasks.length:Int)).2,false,false,p,g,N,ei N,mask,⟨(an.put s.pool (s.tasks.length:Int)).2.idx,ei N,(s.a1 p).minOf (s.ax g).h.idx,0⟩,0⟩:=by show(s.tasks++[_])[s.tasks.length]?=_;rw[gC zK9,k5];rfl
theorem aa.zt (s:aa) (A N mask:Int):s.spawn A N mask=match s.group A with
 |none=>(s,0,2)
 |some g=>if kh N=false then(s,0,1) else if e7 N≠0 then(s,0,e7 N) else if(s.free (-1) mask).2≠0 then(s,0,9) else if an.many s.pool=64 then(s,0,3) else((s.born A.toNat N mask (s.free (-1) mask).1).put s.tasks.length (s.free (-1) mask).1 false,s.tasks.length,0):=by
 unfold aa.spawn
 cases a:s.group A with
 |none=>rfl
 |some G=>obtain⟨c,b,d⟩:=aa.hc a;have:=aa.l2 b;unfold aa.born;dsimp only;rw[this]
theorem aa.Ok.spawn (h:s.Ok k) (A N mask:Int) (b:0<=mask∧mask<18446744073709551616):(s.spawn A N mask).1.Ok (k+1):=by
 rw[aa.zt];cases c:s.group A with
 |none=>exact h.mono (by omega)
 |some G=>
  obtain⟨j,d,e⟩:=aa.hc c;dsimp only;split;·exact h.mono (by omega)
  ·split;·exact h.mono (by omega)
   ·rename_i f;split;·exact h.mono (by omega)
    ·split;·exact h.mono (by omega)
     ·rename_i g;have a:=h.py (-1) mask;have i:=h.born d e (N:=N) (by simpa using f) b a.1 a.2 g;exact i.put (s.zr _ _ _ _) rfl rfl a.1 a.2 false
theorem aa.Ok.event (h:s.Ok k) (e:e9) (g:0<=e.mask∧e.mask<18446744073709551616):(s.event e).1.Ok (k+1):=by
 have d:∀{r:aa},r.Ok k->r.Ok (k+1):=λf=>f.mono (by omega);have c:∀{p:Prop} [Decidable p] {a b:c1},a.1.Ok (k+1)->b.1.Ok (k+1)->(if p then a else b).1.Ok (k+1):=by
  intro p _ a b i j;by_cases f:p;·rw[aj f];exact i
  ·rw[z0 f];exact j
 unfold aa.event;exact c (h.grow _ _) (c (h.drop _) (c (h.move _ _) (c (d (h.shares _ _)) (c (d (h.jS _ _ _)) (c (h.spawn _ _ _ g) (c (d (h.js _)) (c (d (h.block _)) (c (d (h.yield _)) (c (d (h.exit _)) (c (d (h.F2 _ _)) (c (d (h.fR _)) (c (d (h.pull _)) (c (d (h.nice _ _)) (c (d (h.mask _ _ g)) (d h)))))))))))))))
theorem aa.Ok.cN (h:s.Ok k) (e:e9) (a:0<=e.mask∧e.mask<18446744073709551616):(s.cN e).1.Ok (k+1):=by
 unfold aa.cN;split;·exact h.mono (by omega)
 ·exact(h.event e a).settle.ok
end
theorem qJ {α:Type} (n p:Nat) (x y:α) (e:(gR n x)[p]?=R y):y=x:=by
 rw[xN] at e;split at e;·exact(Option.some.inj e).symm
 ·cases e
theorem aa.qw {c:g_} (s:1<=c.aR∧c.aR<=64) (u:1<=c.tick∧c.tick<=1000000000) (v:c.hC<=1000000000):(aa.new c).Ok 0:=by
 have w:∀p g i,(aa.new c).e_ p g i=false:=by
  intro p g i;unfold aa.e_ aa.new;dsimp only;have y:∀j,(h0 c.b4 c.bI).has j (2*i)=false:=by
   intro j;cases k:(h0 c.b4 c.bI).at j with
   |none=>exact ad.sz k
   |some x=>
    rw[ad.ll k];obtain⟨a,b,h⟩:=ad.dp k;unfold h0 at h;dsimp only at h;cases d:j.toNat with
    |zero=>rw[d] at h;simp at h;rw[<-h];rfl
    |succ m=>rw[d,nN] at h;have:=qJ _ _ _ _ h;cases this
  cases hp:(gR c.aR (h0 c.b4 c.bI))[p]? with
  |none=>rfl
  |some z=>rw[qJ _ _ _ _ hp];exact y g
 refine⟨s,u,v,⟨by simp[aa.new],by simp[aa.new]⟩,yT,an.qw,by simp[aa.new,an.new],by simp[aa.new],by simp[aa.new],?_,by simp[aa.new],by simp[aa.new],?_,⟨ia,rfl,rfl,rfl,rfl,rfl⟩,?_,?_,?_,?_,?_,?_⟩;·intro p h A;have:=qJ _ _ _ _ A;rw[this];rfl
 ·intro p x k;have:=qJ _ _ _ _ k;rw[this];refine⟨Ff _ _,?_⟩;funext j;show((h0 c.b4 c.bI).at j).map lf=ae.a7 lg j;unfold ad.at ae.a7 h0 lg;dsimp only;by_cases o:j<0;·rw[aj o,aj o];rfl
  ·rw[z0 o,z0 o];cases d:j.toNat with
   |zero=>have:j=0:=(by omega);subst this;rfl
   |succ m=>rw[dD,nN,nN,List.getElem?_nil,xN];split<;>rfl
 ·intro g G d h0;have l:=(bE.1 d).1;simp[aa.new] at l;omega
 ·intro g G d q;have l:=(bE.1 d).1;simp[aa.new] at l;subst l;cases d;exact⟨rfl,rfl⟩
 ·intro i g hp;cases i with
  |zero=>have:g=0:=(by have:=Option.some.inj (Option.some.inj hp);exact this.symm);subst this;exact⟨ia,rfl,rfl,rfl⟩
  |succ i=>change(gR 31 U)[i]?=_ at hp;have:=qJ _ _ _ _ hp;cases this
 ·intro x k;obtain⟨g,d⟩:=gP.1 k;obtain⟨a,p,b,h,e,f⟩:=ae.get_some d;have l:=(bE.1 b).1;change x.idx.toNat<1 at l;have B:x.idx=0:=by omega
  have:x=bS:=ae.nt d yT.ps B;exact⟨0,ia,rfl,rfl,this.symm⟩
 ·intro n t q;simp[aa.new] at q
 ·intro p g i r;rw[w] at r;cases r
structure Same (s r:aa):Prop where
 len:r.tasks.length=s.tasks.length
 l4:r.groups.length=s.groups.length
 dead:∀(n:Nat) t,s.tasks[n]?=R t->t.dead=true->∃t',r.tasks[n]?=R t'∧t'.dead=true
 book:r.book=s.book
section
variable {k:Nat} {s r:aa}
theorem Same.refl (s:aa):Same s s:=⟨rfl,rfl,λn t h d=>⟨t,h,d⟩,rfl⟩
theorem Same.trans {a b c:aa} (h:Same a b) (q:Same b c):Same a c:=⟨q.len.trans h.len,q.l4.trans h.l4,λn t e d=>by obtain⟨f,g,i⟩:=h.dead n t e d;exact q.dead n f g i,q.book.trans h.book⟩
theorem cG.same (h:cG s r):Same s r:=⟨by rw[h.tasks],h.len,λn t e d=>⟨t,by rw[h.tasks];exact e,d⟩,h.book⟩
theorem Same.cl (s:aa) {n:Nat} {t t':ex} (b:s.tasks[n]?=R t) (d:t.dead=true->t'.dead=true):Same s (s.cl n t'):=by
 have f:=(bE.1 b).1;refine⟨by unfold aa.cl;simp,rfl,λm u a c=>?_,rfl⟩;unfold aa.cl;dsimp only;by_cases e:m=n;·subst e;rw[b] at a;cases a;exact⟨t',cZ f,d c⟩
 ·exact⟨u,by rw[dK (Ne.symm e)];exact a,c⟩
theorem Same.bO (s:aa) (p:Int) (x:ad):Same s (s.bO p x):=(cG.bO s p x).same
theorem Same.zu (s:aa) (p:Int) (x:ad) {t':ex} (a:s.tasks[n]?=R t) (b:t.dead=true->t'.dead=true):Same s ((s.bO p x).cl n t'):=(Same.bO s p x).trans (Same.cl (s.bO p x) (t:=t) (t':=t') a b)
theorem Same.F4 (s:aa) (p:Int) (x:ad) {t':ex} (a:s.tasks[n]?=R t) (b:t.dead=true->t'.dead=true):Same s ((s.cl n t').bO p x):=(Same.cl s a b).trans (Same.bO _ p x)
theorem Same.leave (s:aa) (n:Nat):Same s (s.leave n):=by
 unfold aa.leave;split;·exact Same.refl s
 ·rename_i t a;exact Same.zu s _ _ a (λb=>b)
theorem Same.put (s:aa) (n:Nat) (p:Int) (a:Bool):Same s (s.put n p a):=by
 unfold aa.put;split;·exact Same.refl s
 ·rename_i t b;exact Same.F4 s _ _ b (λc=>c)
theorem Same.b0 (s:aa) (g:Nat) (G:cc):Same s (s.b0 g G):=⟨rfl,by unfold aa.b0;simp,λn t e d=>⟨t,e,d⟩,rfl⟩
theorem Same.et (g:Nat):∀(l:List Int) (s:aa),Same s (aa.et g l s)
 |[],s=>Same.refl s
 |p::l,s=>(Same.bO s _ _).trans (Same.et g l _)
theorem Same.dU (p ns:Int):∀(l:List Nat) (s:aa),Same s (aa.dU p ns l s)
 |[],s=>Same.refl s
 |g::l,s=>(cG.bW s _ _).same.trans (Same.dU p ns l _)
theorem Same.drop (s:aa) (A:Int):Same s (s.drop A).1:=by
 unfold aa.drop;split;·exact Same.refl s
 ·split;·exact Same.refl s
  ·split;·exact Same.refl s
   ·exact⟨rfl,by simp,λn t e d=>⟨t,e,d⟩,rfl⟩
theorem Same.move (s:aa) (A B:Int):Same s (s.move A B).1:=by
 unfold aa.move;split
 ·split;·exact Same.refl s
  ·split;·exact Same.refl s
   ·exact⟨rfl,rfl,λn t e d=>⟨t,e,d⟩,rfl⟩
 ·exact Same.refl s
theorem Same.shares (s:aa) (A N:Int):Same s (s.shares A N).1:=by
 unfold aa.shares;split;·exact Same.refl s
 ·split;·exact Same.refl s
  ·split;·exact Same.refl s
   ·exact Same.b0 _ _ _
theorem Same.jS (s:aa) (A N M:Int):Same s (s.jS A N M).1:=by
 unfold aa.jS;split;·exact Same.refl s
 ·split;·exact Same.refl s
  ·split;·exact Same.refl s
   ·exact((((cG.bW s _ _).same).trans (Same.b0 _ _ _)).trans (cG.ca _ _ _).same).trans (Same.et _ _ _)
theorem Same.fR (s:aa) (A:Int):Same s (s.fR A).1:=by
 unfold aa.fR;split;·exact Same.refl s
 ·split;·exact Same.refl s
  ·exact(cG.bW _ _ _).same
theorem Same.js (s:aa) (A:Int):Same s (s.js A).1:=by
 unfold aa.js;split;·exact Same.refl s
 ·split;·exact Same.refl s
  ·exact Same.put _ _ _ _
theorem Same.nice (s:aa) (A N:Int):Same s (s.nice A N).1:=by
 unfold aa.nice;split;·exact Same.refl s
 ·rename_i t c;have b:=(aa.mF c).2;split;·exact Same.refl s
  ·split;·exact Same.refl s
   ·split;·exact Same.zu s _ _ b.1 (λa=>a)
    ·exact Same.cl s b.1 (λa=>a)
theorem Same.mask (s:aa) (A m:Int):Same s (s.mask A m).1:=by
 unfold aa.mask;split;·exact Same.refl s
 ·rename_i t b;have c:=(aa.mF b).2;have a:Same s (s.cl A.toNat {t with mask:=m}):=Same.cl s c.1 (λd=>d);split;·exact Same.refl s
  ·dsimp only;split;·exact(a.trans (Same.leave _ _)).trans (Same.put _ _ _ _)
   ·exact a
theorem Same.block (s:aa) (A:Int):Same s (s.block A).1:=by
 unfold aa.block;split;·exact Same.refl s
 ·split;·exact Same.refl s
  ·exact Same.leave _ _
theorem Same.exit (s:aa) (A:Int):Same s (s.exit A).1:=by
 unfold aa.exit;split;·exact Same.refl s
 ·split;·exact Same.refl s
  ·split;·exact Same.refl s
   ·rename_i t b;have a:=(Same.leave s (s.running A).toNat).trans (Same.cl _ (t':={t with dead:=true}) b (λ_=>rfl));exact⟨a.len,a.l4,a.dead,a.book⟩
theorem Same.yield (s:aa) (A:Int):Same s (s.yield A).1:=by
 unfold aa.yield;split;·exact Same.refl s
 ·split;·exact Same.refl s
  ·exact Same.bO _ _ _
theorem Same.pull (s:aa) (A:Int):Same s (s.pull A).1:=by
 unfold aa.pull;split;·exact Same.refl s
 ·dsimp only;split;·exact Same.refl s
  ·split;·exact Same.refl s
   ·exact(Same.leave _ _).trans (Same.put _ _ _ _)
theorem aa.zv (s:aa) (A N:Int):(s.tick A N).1.tasks.length=s.tasks.length∧(s.tick A N).1.groups.length=s.groups.length∧(∀(n:Nat) t,s.tasks[n]?=R t->t.dead=true->∃a,(s.tick A N).1.tasks[n]?=R a∧a.dead=true)∧((((s.tick A N).2.2≠0∨(s.tick A N).2.1=-1)∧(s.tick A N).1.book=s.book)∨∃t,(s.tick A N).2.2=0∧(s.tick A N).2.1=s.running A∧s.running A≠-1∧0<=N∧N<=s.c.tick∧s.tasks[(s.running A).toNat]?=R t∧s.book.gx (s.numbers t.g) (s.running A) N=0∧(s.tick A N).1.book=s.book.b4 (s.numbers t.g) (s.running A) N):=by
 have d:∀n e:Int,e≠0->((s,n,e):c1).1.tasks.length=s.tasks.length∧((s,n,e):c1).1.groups.length=s.groups.length∧(∀(m:Nat) t,s.tasks[m]?=R t->t.dead=true->∃a,((s,n,e):c1).1.tasks[m]?=R a∧a.dead=true)∧((((s,n,e):c1).2.2≠0∨((s,n,e):c1).2.1=-1)∧((s,n,e):c1).1.book=s.book):=λn e b=>⟨rfl,rfl,λm t f h=>⟨t,f,h⟩,.inl b,rfl⟩;unfold aa.tick;split;·have:=d 0 1 (by decide);exact⟨this.1,this.2.1,this.2.2.1,.inl this.2.2.2⟩
 ·split;·have:=d 0 8 (by decide);exact⟨this.1,this.2.1,this.2.2.1,.inl this.2.2.2⟩
  ·rename_i q;split;·exact⟨rfl,rfl,λm t f h=>⟨t,f,h⟩,.inl ⟨.inr rfl,rfl⟩⟩
   ·rename_i l;split;·have:=d 0 7 (by decide);exact⟨this.1,this.2.1,this.2.2.1,.inl this.2.2.2⟩
    ·rename_i t o;split;·rename_i i;have:=d 0 _ i;exact⟨this.1,this.2.1,this.2.2.1,.inl this.2.2.2⟩
     ·rename_i i;have p:s.book.gx (s.numbers t.g) (s.running A) N=0:=Decidable.byContradiction i;have j:Same {s with book:=s.book.b4 (s.numbers t.g) (s.running A) N} (aa.dU A N (({s with book:=s.book.b4 (s.numbers t.g) (s.running A) N}:aa).bO A ((({s with book:=s.book.b4 (s.numbers t.g) (s.running A) N}:aa).a1 A).b3 N.toNat)|>.limited ((({s with book:=s.book.b4 (s.numbers t.g) (s.running A) N}:aa).bO A ((({s with book:=s.book.b4 (s.numbers t.g) (s.running A) N}:aa).a1 A).b3 N.toNat)).cF t.g)) (({s with book:=s.book.b4 (s.numbers t.g) (s.running A) N}:aa).bO A ((({s with book:=s.book.b4 (s.numbers t.g) (s.running A) N}:aa).a1 A).b3 N.toNat))):=(Same.bO _ _ _).trans (Same.dU _ _ _ _);dsimp only;have k:∀r:aa,Same {s with book:=s.book.b4 (s.numbers t.g) (s.running A) N} r->((r,s.running A,0):c1).1.tasks.length=s.tasks.length∧((r,s.running A,0):c1).1.groups.length=s.groups.length∧(∀(n:Nat) t,s.tasks[n]?=R t->t.dead=true->∃a,((r,s.running A,0):c1).1.tasks[n]?=R a∧a.dead=true)∧(((((r,s.running A,0):c1).2.2≠0∨((r,s.running A,0):c1).2.1=-1)∧((r,s.running A,0):c1).1.book=s.book)∨∃t,((r,s.running A,0):c1).2.2=0∧((r,s.running A,0):c1).2.1=s.running A∧s.running A≠-1∧0<=N∧N<=s.c.tick∧s.tasks[(s.running A).toNat]?=R t∧s.book.gx (s.numbers t.g) (s.running A) N=0∧((r,s.running A,0):c1).1.book=s.book.b4 (s.numbers t.g) (s.running A) N):=λr b=>⟨b.len,b.l4,b.dead,.inr ⟨t,rfl,rfl,l,by omega,by omega,o,p,b.book⟩⟩;split;·refine k _ ?_;exact(j.trans (cG.dM _ _ _).same).trans ((Same.bO _ _ _).trans (cG.dM _ _ _).same)
      ·refine k _ ?_;exact j.trans (cG.dM _ _ _).same
theorem aa.zw (s:aa) (A N:Int):(s.grow A N).1.tasks=s.tasks∧(s.grow A N).1.book=s.book∧(((s.grow A N).2.2≠0∧(s.grow A N).1=s)∨((s.grow A N).2.2=0∧(s.grow A N).2.1=s.groups.length∧(s.grow A N).1.groups.length=s.groups.length+1)):=by
 unfold aa.grow;split;·exact⟨rfl,rfl,.inl ⟨by show(2:Int)≠0;decide,rfl⟩⟩
 ·split;·exact⟨rfl,rfl,.inl ⟨by show(4:Int)≠0;decide,rfl⟩⟩
  ·split;·rename_i h;exact⟨rfl,rfl,.inl ⟨h,rfl⟩⟩
   ·exact⟨rfl,rfl,.inr ⟨rfl,rfl,by simp⟩⟩
theorem aa.vK (s:aa) (A N mask:Int):(s.spawn A N mask).1.groups=s.groups∧(s.spawn A N mask).1.book=s.book∧(((s.spawn A N mask).2.2≠0∧(s.spawn A N mask).1=s)∨((s.spawn A N mask).2.2=0∧(s.spawn A N mask).2.1=s.tasks.length∧(s.spawn A N mask).1.tasks.length=s.tasks.length+1∧∀(n:Nat) t,s.tasks[n]?=R t->(s.spawn A N mask).1.tasks[n]?=R t)):=by
 have a:∀e:Int,e≠0->((s,0,e):c1).1.groups=s.groups∧((s,0,e):c1).1.book=s.book∧((((s,0,e):c1).2.2≠0∧((s,0,e):c1).1=s)∨(((s,0,e):c1).2.2=0∧((s,0,e):c1).2.1=s.tasks.length∧((s,0,e):c1).1.tasks.length=s.tasks.length+1∧∀(n:Nat) t,s.tasks[n]?=R t->((s,0,e):c1).1.tasks[n]?=R t)):=λe c=>⟨rfl,rfl,.inl ⟨c,rfl⟩⟩;unfold aa.spawn;split;·exact a 2 (by decide)
 ·split;·exact a 1 (by decide)
  ·split;·rename_i c;exact a _ c
   ·split;·exact a 9 (by decide)
    ·split;·exact a 3 (by decide)
     ·dsimp only;have f:∀(r:aa) (n:Nat) (p:Int) (b:Bool),(r.put n p b).groups=r.groups∧(r.put n p b).book=r.book∧(r.put n p b).tasks.length=r.tasks.length∧∀m,m≠n->(r.put n p b).tasks[m]?=r.tasks[m]?:=by
       intro r n p b;unfold aa.put;split;·exact⟨rfl,rfl,rfl,λ_ _=>rfl⟩
       ·exact⟨rfl,rfl,by unfold aa.bO aa.cl;simp,λm g=>by unfold aa.bO aa.cl;dsimp only;rw[dK (Ne.symm g)]⟩
      obtain⟨i,j,k,l⟩:=f {s with pool:=(an.put s.pool (s.tasks.length:Int)).1,tasks:=s.tasks++[⟨(an.put s.pool (s.tasks.length:Int)).2,false,false,(s.free (-1) mask).1,A.toNat,N,ei N,mask,⟨(an.put s.pool (s.tasks.length:Int)).2.idx,ei N,(s.a1 (s.free (-1) mask).1).minOf (by assumption:cc).h.idx,0⟩,0⟩],at_:=s.at_.set (an.put s.pool (s.tasks.length:Int)).2.idx.toNat (s.tasks.length:Int)} s.tasks.length (s.free (-1) mask).1 false;refine⟨i,j,.inr ⟨rfl,rfl,k.trans (by simp),λn t d=>?_⟩⟩;have o:=(bE.1 d).1;rw[l n (by omega)];show(s.tasks++[_])[n]?=_;rw[iR o];exact d
theorem aa.zx (s:aa) (e:e9) (d:e.kind≠1) (f:e.kind≠6) (g:e.kind≠11):Same s (s.event e).1:=by
 have c:∀{p:Prop} [Decidable p] {a b:c1},Same s a.1->Same s b.1->Same s (if p then a else b).1:=by
  intro p _ a b h i;split;·exact h
  ·exact i
 unfold aa.event;rw[z0 d];refine c (Same.drop _ _) (c (Same.move _ _ _) (c (Same.shares _ _ _) (c (Same.jS _ _ _ _) ?_)));rw[z0 f];refine c (Same.js _ _) (c (Same.block _ _) (c (Same.yield _ _) (c (Same.exit _ _) ?_)));rw[z0 g];exact c (Same.fR _ _) (c (Same.pull _ _) (c (Same.nice _ _ _) (c (Same.mask _ _ _) (Same.refl s))))
end
section
variable {k:Nat} {s r:aa}
theorem aa.F5 {e:e9} (h:(s.cN e).2.2≠0):(s.cN e).1=s:=by
 unfold aa.cN at h⊢;by_cases q:(s.event e).2.2≠0;·rw[aj q]
 ·rw[z0 q] at h;exact absurd rfl h
theorem aa.F6 {e:e9} (h:(s.cN e).2.2=0):(s.event e).2.2=0∧s.cN e=((s.event e).1.settle,(s.event e).2.1,0):=by
 unfold aa.cN at h⊢;by_cases q:(s.event e).2.2≠0;·rw[aj q] at h;exact absurd h q
 ·rw[z0 q];exact⟨Decidable.byContradiction q,rfl⟩
theorem aa.zy {e:e9} (h:e.kind=1):s.event e=s.grow e.a e.n:=by unfold aa.event;rw[aj h]
theorem aa.zz {e:e9} (h:e.kind=6):s.event e=s.spawn e.a e.n e.mask:=by unfold aa.event;rw[z0 (by omega),z0 (by omega),z0 (by omega),z0 (by omega),z0 (by omega),aj h]
theorem aa.zA {e:e9} (h:e.kind=11):s.event e=s.tick e.a e.n:=by unfold aa.event;rw[z0 (by omega),z0 (by omega),z0 (by omega),z0 (by omega),z0 (by omega),z0 (by omega),z0 (by omega),z0 (by omega),z0 (by omega),z0 (by omega),aj h]
structure vL (s:aa) (e:e9) (d:c1):Prop where
 fresh:d.2.2=0->e.kind=6->d.2.1=s.tasks.length∧d.1.tasks.length=s.tasks.length+1
 stay:¬(d.2.2=0∧e.kind=6)->d.1.tasks.length=s.tasks.length
 more:d.2.2=0->e.kind=1->d.2.1=s.groups.length∧d.1.groups.length=s.groups.length+1
 NM:¬(d.2.2=0∧e.kind=1)->d.1.groups.length=s.groups.length
 dead:∀(n:Nat) t,s.tasks[n]?=R t->t.dead=true->∃t',d.1.tasks[n]?=R t'∧t'.dead=true
theorem vL.event (s:aa) (e:e9):vL s e (s.event e):=by
 by_cases g:e.kind=1
 ·rw[aa.zy g];obtain⟨a,b,c⟩:=s.zw e.a e.n;refine⟨λ_ d=>by omega,λ_=>by rw[a],λf _=>?_,λf=>?_,λn t h i=>⟨t,by rw[a];exact h,i⟩⟩
  ·rcases c with c|c;·exact absurd f c.1
   ·exact c.2
  ·rcases c with c|c;·rw[c.2]
   ·exact absurd ⟨c.1,g⟩ f
 by_cases j:e.kind=6
 ·rw[aa.zz j];obtain⟨a,b,c⟩:=s.vK e.a e.n e.mask;refine⟨λf _=>?_,λf=>?_,λ_ d=>by omega,λ_=>by rw[a],λn t h i=>?_⟩
  ·rcases c with c|c;·exact absurd f c.1
   ·exact⟨c.2.1,c.2.2.1⟩
  ·rcases c with c|c;·rw[c.2]
   ·exact absurd ⟨c.1,j⟩ f
  ·rcases c with c|c;·rw[c.2];exact⟨t,h,i⟩
   ·exact⟨t,c.2.2.2 n t h,i⟩
 by_cases k:e.kind=11;·rw[aa.zA k];obtain⟨a,b,c,_⟩:=s.zv e.a e.n;exact⟨λ_ d=>by omega,λ_=>a,λ_ d=>by omega,λ_=>b,c⟩
 ·have d:=s.zx e g j k;exact⟨λ_ d=>absurd d j,λ_=>d.len,λ_ d=>absurd d g,λ_=>d.l4,d.dead⟩
def fv (f:Int->Int):Nat->Int
 |0=>0
 |n+1=>fv f n+f n
theorem zB {f g:Int->Int}:∀n:Nat,(∀i:Nat,i<n->f i=g i)->fv f n=fv g n
 |0,_=>rfl
 |n+1,h=>by unfold fv;rw[zB n (λi a=>h i (by omega)),h n (by omega)]
theorem zC {f g:Int->Int} {j:Nat} {x:Int} (b:g j=f j+x) (a:∀i:Nat,i≠j->g i=f i):∀n:Nat,j<n->fv g n=fv f n+x
 |0,h=>by omega
 |n+1,h=>by
  unfold fv;by_cases e:j=n;·subst e;rw[zB j (λi c=>a i (by omega)),b];omega
  ·rw[zC b a n (by omega),a n (by omega)];omega
structure iH (s:aa) (sum:Int):Prop where
 total:s.book.total=sum
 all:fv s.book.tasks s.tasks.length=sum
 none_:∀n:Nat,s.tasks.length<=n->s.book.tasks n=0
 task:∀n:Nat,0<=s.book.tasks n∧s.book.tasks n<=sum
 root:s.book.groups 0=sum
 ax:∀g:Int,0<=s.book.groups g∧s.book.groups g<=sum
theorem iH.new (c:g_):iH (aa.new c) 0:=⟨rfl,rfl,λ_ _=>rfl,λ_=>⟨by show(0:Int)<=0;omega,by show(0:Int)<=0;omega⟩,rfl,λ_=>⟨by show(0:Int)<=0;omega,by show(0:Int)<=0;omega⟩⟩
theorem F7 (f:Int->Int) (n m:Nat) (h:∀i:Nat,n<=i->f i=0):n<=m->fv f m=fv f n:=by
 induction m with
 |zero=>intro a;rw[show n=0 by omega]
 |succ m b=>
  intro a;by_cases e:n=m+1;·rw[e]
  ·show fv f m+f m=_;rw[b (by omega),h m (by omega)];omega
theorem iH.same {b:Int} (h:iH s b) (a:r.book=s.book) (c:s.tasks.length<=r.tasks.length):iH r b:=⟨by rw[a];exact h.total,by rw[a,F7 _ _ _ h.none_ c];exact h.all,λn d=>by rw[a];exact h.none_ n (by omega),by rw[a];exact h.task,by rw[a];exact h.root,by rw[a];exact h.ax⟩
theorem qK {n:Int} (h0:-9223372036854775808<=n) (a:n<=9223372036854775807):cM n=n:=by unfold cM Go.RowKit.wrap64;omega
theorem F8 {N:Int} (x:0<=N):∀(l:List Int) (f:Int->Int),l.Nodup->(∀g,0<=f g∧f g+N<=9223372036854775807)->∀i,gj N l f i=if i∈l then f i+N else f i
 |[],f,_,_,i=>by unfold gj;simp
 |a::l,f,o,r,i=>by
  have k:=iT.1 o;have y:=r a;have t:∀j,fG f a N j=if j=a then f j+N else f j:=λj=>by
   unfold fG;by_cases e:j=a;·rw[aj e,aj e,e,qK (by omega) (by omega)]
   ·rw[z0 e,z0 e]
  unfold gj;by_cases p:i=a
  ·subst p;have q:∀(l:List Int) (f:Int->Int),i∉l->gj N l f i=f i:=by
    intro l;induction l with
    |nil=>intro f _;rfl
    |cons b l m=>intro f n;unfold gj;rw[m _ (λc=>n (gD _ c))];unfold fG;rw[z0 (λc=>n (by rw[c];exact ey))]
   rw[q l _ k.1,t,aj rfl,aj ey]
  ·have s:=r i;have u:∀(l:List Int),l.Nodup->∀f:Int->Int,0<=f i->f i+N<=9223372036854775807->gj N l f i=if i∈l then f i+N else f i:=by
    intro l;induction l with
    |nil=>intro _ f _ _;unfold gj;simp
    |cons b l m=>
     intro o f v w;have k:=iT.1 o;unfold gj;by_cases e:i=b
     ·subst e;have q:∀(l:List Int) (f:Int->Int),i∉l->gj N l f i=f i:=by
       intro l;induction l with
       |nil=>intro f _;rfl
       |cons b l m=>intro f n;unfold gj;rw[m _ (λc=>n (gD _ c))];unfold fG;rw[z0 (λc=>n (by rw[c];exact ey))]
      rw[q l _ k.1,aj ey];unfold fG;rw[aj rfl,qK (by omega) (by omega)]
     ·have h:fG f b N i=f i:=(by unfold fG;rw[z0 e]);rw[m k.2 _ (by rw[h];exact v) (by rw[h];exact w),h];by_cases c:i∈l;·rw[aj c,aj (gD _ c)]
      ·rw[z0 c,z0 (λd=>by rcases gu.1 d with d|d;exact e d;exact c d)]
   have h:fG f a N i=f i:=(by unfold fG;rw[z0 p]);rw[u l k.2 _ (by rw[h];exact s.1) (by rw[h];exact s.2),h];by_cases c:i∈l;·rw[aj c,aj (gD _ c)]
   ·rw[z0 c,z0 (λd=>by rcases gu.1 d with d|d;exact p d;exact c d)]
def hz (e:e9) (d:c1):Int:=if e.kind=11∧d.2.2=0∧0<=d.2.1 then e.n else 0
theorem iH.b4 {b N:Int} {n:Nat} {l:List Int} (h:iH s b) (p:n<s.tasks.length) (q:0<=N) (w:b+N<=9223372036854775807) (k:s.book.gx (0::l) n N=0) (a:r.book=s.book.b4 (0::l) n N) (m:r.tasks.length=s.tasks.length):iH r (b+N):=by
 have t:s.book.b4 (0::l) n N=⟨fG s.book.tasks n N,gj N (0::l) s.book.groups,cM (s.book.total+N)⟩:=by unfold fF.b4;rw[aj k]
 have u:(0::l:List Int).Nodup:=by
  unfold fF.gx at k;split at k;·omega
  ·rename_i v;have:kf (0::l)=true:=by
    cases h:kf (0::l) with
    |true=>rfl
    |false=>exact absurd (Or.inr (Or.inr h)) v
   unfold kf at this;simp only[iy,decide_eq_true_eq] at this;exact this.2
 rw[t] at a;have y:0<=b:=by have:=h.ax 0;omega
 have c:∀i:Nat,fG s.book.tasks n N i=if i=n then s.book.tasks i+N else s.book.tasks i:=λi=>by
  unfold fG;have:=h.task n;by_cases e:i=n;·subst e;rw[aj rfl,aj rfl,qK (by omega) (by omega)]
  ·rw[z0 (by omega),z0 e]
 have o:∀g,gj N (0::l) s.book.groups g=if g∈(0::l:List Int) then s.book.groups g+N else s.book.groups g:=F8 q _ _ u (λg=>by have:=h.ax g;omega);refine⟨by rw[a];show cM (s.book.total+N)=_;rw[h.total,qK (by omega) (by omega)],?_,?_,?_,?_,?_⟩;·rw[a,m];show fv (fG s.book.tasks n N) s.tasks.length=_;rw[zC (f:=s.book.tasks) (j:=n) (x:=N) (by rw[c,aj rfl]) (λi d=>by rw[c,z0 d]) _ p,h.all]
 ·intro i d;rw[m] at d;rw[a];show fG s.book.tasks n N i=0;rw[c,z0 (by omega),h.none_ i d]
 ·intro i;rw[a];show 0<=fG s.book.tasks n N i∧fG s.book.tasks n N i<=_;rw[c];have:=h.task i;split<;>omega
 ·rw[a];show gj N (0::l) s.book.groups 0=_;rw[o,aj ey,h.root]
 ·intro g;rw[a];show 0<=gj N (0::l) s.book.groups g∧gj N (0::l) s.book.groups g<=_;rw[o];have:=h.ax g;split<;>omega
theorem aa.Ok.zD (h:s.Ok k) (e:e9) (B:0<=e.mask∧e.mask<18446744073709551616) {m:Int} (i:iH s m) (J:m+1000000000<=9223372036854775807):iH (s.cN e).1 (m+hz e (s.cN e))∧0<=hz e (s.cN e)∧hz e (s.cN e)<=s.c.tick:=by
 have K:=h.tick;by_cases o:(s.cN e).2.2=0
 ·obtain⟨p,C⟩:=aa.F6 o;have g:=(aa.Ok.settle (h.event e B)).dH.same;rw[C];have u:=vL.event s e;have L:s.tasks.length<=(s.event e).1.tasks.length:=by
   by_cases d:e.kind=6;·rw[(u.fresh p d).2];omega
   ·rw[u.stay (λD=>d D.2)];omega
  by_cases j:e.kind=11
  ·rw[aa.zA j] at p g⊢;obtain⟨a,b,c,E⟩:=s.zv e.a e.n;rcases E with⟨f,q⟩|⟨t,M,f,q,v,F,N,w,x⟩
   ·have O:(s.tick e.a e.n).2.1=-1:=by
     rcases f with f|f;·exact absurd p f
     ·exact f
    have:hz e ((s.tick e.a e.n).1.settle,(s.tick e.a e.n).2.1,0)=0:=(by unfold hz;rw[z0 (λd=>by have:=d.2.2;dsimp only at this;omega)]);rw[this,pa];exact⟨i.same (g.book.trans q) (by have:=g.len;show _<=(s.tick e.a e.n).1.settle.tasks.length;omega),by omega,by omega⟩
   ·rcases h.runs e.a with r|⟨n,P,y,G,_⟩;·exact absurd r q
    ·have:hz e ((s.tick e.a e.n).1.settle,(s.tick e.a e.n).2.1,0)=e.n:=(by unfold hz;rw[aj ⟨j,rfl,by dsimp only;rw[f,y];omega⟩]);rw[this];rw[y] at w x;have H:=(bE.1 G).1;exact⟨iH.b4 (l:=_) i H v (by omega) w (g.book.trans x) (g.len.trans a),v,F⟩
  ·have:hz e ((s.event e).1.settle,(s.event e).2.1,0)=0:=(by unfold hz;rw[z0 (λd=>j d.1)]);rw[this,pa];have I:(s.event e).1.book=s.book:=by
    by_cases z:e.kind=1;·rw[aa.zy z];exact(s.zw _ _).2.1
    ·by_cases A:e.kind=6;·rw[aa.zz A];exact(s.vK _ _ _).2.1
     ·exact(s.zx e z A j).book
   exact⟨i.same (g.book.trans I) (by have:=g.len;show _<=(s.event e).1.settle.tasks.length;omega),by omega,by omega⟩
 ·have:hz e (s.cN e)=0:=by unfold hz;rw[z0 (λd=>o d.2.1)]
  rw[this,aa.F5 o,pa];exact⟨i,by omega,by omega⟩
end
section
variable {k:Nat} {s r:aa}
structure NN (s r:aa) (n:Nat) (f A:Nat):Prop where
 NO:A<s.c.aR
 from_:f<s.c.aR
 ne:f≠A
 task:∃t t',s.tasks[n]?=R t∧t.dead=false∧t.p=f∧r.tasks[n]?=R t'∧t'.dead=false∧t'.p=A∧bX t'.mask A=true
 c:r.c=s.c
 less:∃w,0<w∧r.load 0 f+w=s.load 0 f∧r.load 0 A=s.load 0 A+w∧s.load 0 A+w<s.load 0 f
 other:∀p:Nat,p≠f->p≠A->r.load 0 p=s.load 0 p
end
structure Mod (S:Nat->Prop) (w w':ab):Prop where
 os:w'.os=w.os
 tape:w'.tape=w.tape
 output:w'.output=w.output
 size:w.heap.size<=w'.heap.size
 block:∀k,k<w.heap.size->¬S k->w'.heap[k]?=w.heap[k]?
def c6 (S:Nat->Prop) (w:ab) (k:Nat):Prop:=S k∨w.heap.size<=k
namespace Mod
theorem refl (S:Nat->Prop) (w:ab):Mod S w w:=⟨rfl,rfl,rfl,bM _,λ_ _ _=>rfl⟩
theorem mono {T:Nat->Prop} (h:Mod S w w') (c:∀a,a<w.heap.size->S a->T a):Mod T w w':=⟨h.os,h.tape,h.output,h.size,λa b d=>h.block a b λg=>d (c a b g)⟩
theorem trans {S T:Nat->Prop} {x y z:ab} (h:Mod S x y) (k:Mod T y z) (c:∀i,i<x.heap.size->T i->S i):Mod S x z:=⟨k.os.trans h.os,k.tape.trans h.tape,k.output.trans h.output,cJ h.size k.size,λi a b=>(k.block i (dm a h.size) λg=>b (c i a g)).trans (h.block i a b)⟩
theorem below {x:ab} (h:Below x.heap.size x y):Mod S x y:=⟨h.os,h.tape,h.output,h.size,λa b _=>h.block a b⟩
theorem ju {x z:ab} (h:Mod S x y) (k:Below y.heap.size y z):Mod S x z:=h.trans (T:=S) (below k) λ_ _ g=>g
theorem toBelow {x:ab} (h:Mod (λ_=>False) x y):Below x.heap.size x y:=⟨h.os,h.tape,h.output,h.size,λa b=>h.block a b id⟩
theorem setCell {S:Nat->Prop} {x y:ab} {b i:Nat} (h:Mod S x y) (d:S b) (v:Value):Mod S x (y.setCell ⟨b,i,U⟩ v):=⟨h.os,h.tape,h.output,by simpa using h.size,λa e c=>(heap_setCell_other y ⟨b,i,U⟩ a v (λf=>c (f▸d))).trans (h.block a e c)⟩
theorem fw {x:ab} (h:Mod S x y) (e:x.heap.size<=b) (v:Value):Mod S x (y.setCell ⟨b,i,U⟩ v):=⟨h.os,h.tape,h.output,by simpa using h.size,λa c d=>(heap_setCell_other y ⟨b,i,U⟩ a v (by simp only;omega)).trans (h.block a c d)⟩
theorem alloc {S:Nat->Prop} {x y:ab} (h:Mod S x y) (O:Obj):Mod S x (y.alloc O):=h.trans (T:=S) (below ((Below.refl _ _).alloc zK9 O)) λ_ _ g=>g
theorem drew {S:Nat->Prop} {x y:ab} (h:Mod S x y):Mod S x y.drew:=⟨h.os,h.tape,h.output,h.size,h.block⟩
theorem drewN {S:Nat->Prop} {x y:ab} (h:Mod S x y) (n:Nat):Mod S x (y.drewN n):=⟨h.os,h.tape,h.output,h.size,h.block⟩
theorem one (w:ab) (b i:Nat) (v:Value):Mod (λy=>y=b) w (w.setCell ⟨b,i,U⟩ v):=(refl (λy=>y=b) w).setCell (rfl:b=b) v
theorem mH {x:ab} (h:Mod S (x.drewN n) y):Mod S x y:=⟨h.os,h.tape,h.output,h.size,h.block⟩
theorem jf {x:ab} (h:Mod S x.drew y):Mod S x y:=⟨h.os,h.tape,h.output,h.size,h.block⟩
theorem keep {x:ab} (h:Mod S x y) {O:Obj} (a:x.heap[b]?=R O) (c:¬S b):y.heap[b]?=R O:=(h.block b (iV a) c).trans a
theorem cell {x:ab} (h:Mod S x y) (c:x.cell? ⟨b,o,U⟩=R v) (d:b<x.heap.size) (e:¬S b):y.cell? ⟨b,o,U⟩=R v:=(lH (a:=⟨b,o,U⟩) (h.block b d e)).trans c
end Mod
def ak (w:ab) (b:Nat) (ar:Array Value) (T:TypeId):Prop:=w.heap[b]?=R (av ar T (0,0))
theorem ak.cell {T:Nat} (h:ak w b ar T) (i:Nat) (hv:ar[i]?=R v):w.cell? ⟨b,i,U⟩=R v:=bN h hv
theorem ak.free {T:Nat} (h:ak w b ar T) (i:Nat):w.frozen? ⟨b,i,U⟩=false:=lK h
theorem ak.lt {T:Nat} (h:ak w b ar T):b<w.heap.size:=iV h
theorem ak.set {T:Nat} (h:ak w b ar T) (i:Nat) (v:Value):ak (w.setCell ⟨b,i,U⟩ v) b (ar.setIfInBounds i v) T:=eN v h
theorem ak.other {T:Nat} (h:ak w b ar T) (a:b≠c) (v:Value):ak (w.setCell ⟨c,i,U⟩ v) b ar T:=(heap_setCell_other w ⟨c,i,U⟩ b v a).trans h
theorem ak.alloc {w:ab} {b T:Nat} {ar:Array Value} (h:ak w b ar T) (O:Obj):ak (w.alloc O) b ar T:=nf h
theorem ak.new (w:ab) (ar:Array Value) (T:TypeId):ak (w.alloc (av ar T)) w.heap.size ar T:=lL w _
theorem ak.mod {T:Nat} (h:ak w b ar T) (a:Mod S w w') (c:¬S b):ak w' b ar T:=a.keep h c
theorem ak.next {T:Nat} (h:ak w b ar T) (a:Below w.heap.size w w'):ak w' b ar T:=(a.block b h.lt).trans h
theorem jV {x:Value} (h:b≠c) (d:w.cell? ⟨b,o,U⟩=R v):(w.setCell ⟨c,i,U⟩ x).cell? ⟨b,o,U⟩=R v:=(lH (a:=⟨b,o,U⟩) (heap_setCell_other w ⟨c,i,U⟩ b x h)).trans d
theorem zF9 {w w':World} (h:Below w.heap.size w w'):Mod (λ_=>False) w w':=Mod.below h
def hW:List Int->Int
 |[]=>0
 |x::l=>max x 0+hW l
theorem tu:∀l:List Int,0<=hW l
 |[]=>hL _
 |x::l=>by have:=tu l;unfold hW;omega
theorem Bt:∀(l:List Int) (i:Nat) (x y:Int),l[i]?=R x->hW (l.set i y)+max x 0=hW l+max y 0
 |[],i,x,y,e=>by cases e
 |a::l,0,x,y,e=>by simp only[List.getElem?_cons_zero,Option.some.injEq] at e;subst e;rw[List.set_cons_zero,hW,hW];omega
 |a::l,i+1,x,y,e=>by rw[nN] at e;have:=Bt l i x y e;rw[List.set_cons_succ,hW,hW];omega
theorem wR:∀(l:List Int) (x:Int),x∈l->max x 0<=hW l
 |a::l,x,h=>by
  have:=tu l;rcases gu.1 h with rfl|h;·rw[hW];omega
  ·have:=wR l x h;rw[hW];omega
theorem tw:∀l:List Int,(∀x∈l,x<=0)->hW l=0
 |[],_=>rfl
 |a::l,h=>by have:=h a ey;rw[hW,tw l (λx b=>h x (gD _ b))];omega
structure fe (c:Int) (b:aN):Prop where
 quota:0<=b.quota∧b.quota<=1099511627776
 slice:0<b.quota->1<=b.slice∧b.slice<=1099511627776
 pool:0<=b.pool
 sum:b.pool+hW b.loc<=1099511627776
 lo:∀x∈b.loc,-c<=x
theorem fe.mono {c c':Int} {b:aN} (h:fe c b) (d:c<=c'):fe c' b:=⟨h.quota,h.slice,h.pool,h.sum,λx a=>by have:=h.lo x a;omega⟩
theorem fe.new {c:Int} (f:0<=c) (b:Nat):fe c (aN.new b):=by
 have d:∀x∈(aN.new b).loc,x=0:=λx a=>(List.mem_replicate.1 a).2;refine⟨⟨by show(0:Int)<=0;omega,by show(0:Int)<=_;omega⟩,λe=>?_,by show(0:Int)<=0;omega,?_,λx a=>by rw[d x a];omega⟩;·change(0:Int)<0 at e;omega
 ·rw[tw _ (λx a=>by rw[d x a];omega)];show(0:Int)+0<=_;omega
theorem aN.tx {b:aN} {p:Int} (h:b.there p=true):b.loc[p.toNat]?=R (b.at p):=by unfold aN.there at h;simp only[iy,decide_eq_true_eq] at h;unfold aN.at;rw[dD,b6 (by omega)];rfl
theorem mT {n:Int} (h0:-9223372036854775808<=n) (a:n<=9223372036854775807):cM n=n:=qK h0 a
theorem fe.ry {c:Int} {b:aN} (h:fe c b) {x y q:Int} (d:b.loc[i]?=R x) (f:-c<=y) (g:0<=q) (k:q+max y 0<=b.pool+max x 0):fe c {b with loc:=b.loc.set i y,pool:=q}:=by
 have e:=Bt b.loc i x y d;have:=h.sum;refine⟨h.quota,h.slice,g,?_,λj a=>?_⟩;·show q+hW (b.loc.set i y)<=_;omega
 ·rcases List.mem_or_eq_of_mem_set a with a|rfl;·exact h.lo j a
  ·exact f
theorem fe.cV {c:Int} {b:aN} (h:fe c b) (g:c<=1000000000000000) (p:Int):fe c (b.cV p):=by
 unfold aN.cV;split;·exact h
 ·rename_i e;split;·exact h
  ·rename_i i;split;·rename_i j;have f:b.there p=true:=(by simpa using e);have a:=aN.tx f;have k:=h.lo _ (ea a);have l:=h.quota;have m:=h.slice (by omega);have n:=h.pool;have o:=h.sum;have q:=tu b.loc;have d:b.h9 p=min b.pool (b.slice-b.at p):=(by unfold aN.h9;rw[mT (by omega) (by omega)]);have r:0<=b.h9 p:=(by rw[d];omega);have s:b.h9 p<=b.pool:=(by rw[d];omega);rw[mT (by omega) (by omega),mT (by omega) (by omega)];exact h.ry a (by omega) (by omega) (by omega)
   ·exact h
theorem fe.ret {c:Int} {b:aN} (h:fe c b) (e:0<=c) (f:c<=1000000000000000) (p:Int):fe c (b.ret p):=by
 unfold aN.ret;split;·rename_i d;have a:=aN.tx d;have g:=h.lo _ (ea a);have i:=h.pool;have j:=h.sum;have k:=wR _ _ (ea a);rw[mT (by omega) (by omega),mT (by omega) (by omega)];exact h.ry a (by omega) (by omega) (by omega)
 ·exact h
theorem fe.fR {c:Int} {b:aN} (h:fe c b) (e:0<=c):fe c b.fR:=by
 unfold aN.fR;refine⟨h.quota,h.slice,h.quota.1,?_,λx a=>?_⟩;·show b.quota+hW (b.loc.map λn=>min n 0)<=_;rw[tw _ (λx a=>by obtain⟨y,_,rfl⟩:=e0.1 a;omega)];have:=h.quota;omega
 ·obtain⟨y,d,rfl⟩:=e0.1 a;have:=h.lo y d;omega
theorem fe.set {c:Int} {b:aN} (h:fe c b) (g:0<=c) (q n:Int):fe c (b.set q n):=by
 unfold aN.set;split
 ·rename_i a;unfold aN.hP at a;split at a;·omega
  ·rename_i i;have e:hW (b.loc.map λ_=>(0:Int))=0:=tw _ (λx d=>by obtain⟨y,_,rfl⟩:=e0.1 d;omega);refine⟨⟨by show 0<=q;omega,by show q<=_;omega⟩,λf=>?_,by show 0<=q;omega,?_,λx d=>?_⟩
   ·change 0<q at f;show 1<=(if q=0 then 0 else n)∧(if q=0 then 0 else n)<=_;split at a;·omega
    ·split at a;·omega
     ·rw[z0 (by omega)];omega
   ·show q+hW (b.loc.map λ_=>(0:Int))<=_;rw[e];omega
   ·obtain⟨y,_,rfl⟩:=e0.1 d;omega
 ·exact h
theorem fe.b3 {c:Int} {b:aN} (h:fe c b) (g:c+1000000000<=1000000000000000) (p ns:Int):fe (c+1000000000) (b.b3 p ns):=by
 unfold aN.b3;split
 ·rename_i d;unfold aN.e6 at d;split at d;·omega
  ·rename_i i;split at d;·omega
   ·rename_i l;have j:b.there p=true:=(by simpa using i);have e:=aN.tx j;have m:=h.lo _ (ea e);have n:=h.sum;have k:=h.pool;have o:=wR _ _ (ea e);have a:=h.mono (c':=c+1000000000) (by omega);refine fe.cV (b:={b with spent:=kd b.spent ns,loc:=if 0<b.quota then b.loc.set p.toNat (cM (b.at p-ns)) else b.loc}) ?_ g p;by_cases f:0<b.quota;·have:=a.ry e (y:=b.at p-ns) (q:=b.pool) (by omega) k (by omega);rw[aj f,mT (by omega) (by omega)];exact⟨this.quota,this.slice,this.pool,this.sum,this.lo⟩
    ·rw[z0 f];exact⟨a.quota,a.slice,a.pool,a.sum,a.lo⟩
 ·exact h.mono (by omega)
def bA (c:Int) (l:List cc):Prop:=∀G∈l,∀b,G.band=R b->fe c b
section
variable {k:Nat} {s r:aa} {c c':Int}
theorem bA.mono {l:List cc} (h:bA c l) (a:c<=c'):bA c' l:=λG d b e=>(h G d b e).mono a
theorem aa.J8 {b:aN} (h:(s.ax g).band=R b):s.ax g∈s.groups:=by
 by_cases a:g<s.groups.length;·unfold aa.ax;rw[dD,b6 a];exact List.getElem_mem a
 ·rw[s.qF a] at h;cases h
theorem bA.at_ (h:bA c s.groups) {b:aN} (a:(s.ax g).band=R b):fe c b:=h _ (aa.J8 a) b a
theorem bA.b0 (h:bA c s.groups) (e:c<=c') {g:Nat} {G:cc} (f:∀b,G.band=R b->fe c' b):bA c' (s.b0 g G).groups:=by
 intro i a b d;rcases List.mem_or_eq_of_mem_set a with a|rfl;·exact(h i a b d).mono e
 ·exact f b d
theorem bA.bW (h:bA c s.groups) (a:c<=c') (g:Nat) {f:aN->aN} (d:∀b,fe c b->fe c' (f b)):bA c' (s.bW g f).groups:=by
 unfold aa.bW;cases i:(s.ax g).band with
 |none=>exact h.mono a
 |some b=>exact h.b0 a λj e=>by cases e;exact d b (h.at_ i)
theorem bA.ca (h:bA c s.groups) (g:Nat) (f:List Int->List Int):bA c (s.ca g f).groups:=by
 unfold aa.ca;cases a:(s.ax g).line with
 |none=>exact h
 |some l=>exact h.b0 (hL _) λb e=>h.at_ e
theorem nD {α:Type} (f:aa->α->aa) (a:∀(r:aa) x,bA c r.groups->bA c (f r x).groups):∀(l:List α) (s:aa),bA c s.groups->bA c (l.foldl f s).groups
 |[],s,h=>h
 |x::l,s,h=>by rw[nV];exact nD f a l _ (a s x h)
theorem bA.bV (h:bA c s.groups) (g:Nat):bA c (s.bV g).groups:=by
 unfold aa.bV;refine nD _ (λr x a=>?_) _ s h;split;·exact a
 ·exact a
theorem bA.returns (h:bA c s.groups) (h0:0<=c) (d:c<=1000000000000000) (g:Nat):bA c (s.returns g).groups:=by
 unfold aa.returns;refine nD _ (λr x a=>?_) _ s h;split;·exact a.bW (hL _) g λb e=>e.ret h0 d _
 ·exact a
theorem bA.hand (a:c<=1000000000000000) (g:Nat):∀(n:Nat) (s:aa),bA c s.groups->bA c (aa.hand n s g).groups
 |0,s,h=>h
 |n+1,s,h=>by
  unfold aa.hand;split;·exact h
  ·split;·exact h
   ·rename_i p l f;have d:bA c ((s.ca g λ_=>l).bW g (λb=>b.cV p)).groups:=(h.ca g _).bW (hL _) g λb e=>e.cV a p;split;·exact bA.hand a g n _ d
    ·exact bA.hand a g n _ (d.ca g _)
theorem bA.share (h:bA c s.groups) (h0:0<=c) (a:c<=1000000000000000) (g:Nat):bA c (s.share g).groups:=bA.hand a g 66 _ (h.returns h0 a g)
theorem bA.asks (a:c<=1000000000000000) (p:Int):∀(l:List Nat) (s:aa),bA c s.groups->bA c (aa.asks p l s).1.groups
 |[],s,h=>h
 |g::l,s,h=>by
  unfold aa.asks;have d:bA c (s.bW g λb=>b.cV p).groups:=h.bW (hL _) g λb e=>e.cV a p;split;·exact bA.asks a p l _ d
  ·exact d
theorem bA.fI (h:bA c s.groups) (f:c<=1000000000000000) (p:Int):bA c (s.fI p).1.groups:=by
 rw[aa.vH];have b:bA c (s.fH p).groups:=h;split;·exact b
 ·split;·exact b
  ·rename_i t i;have a:=bA.asks f p ((s.fH p).limited ((s.fH p).cF t.g)) (s.fH p) b;split;·rename_i e d;rw[d] at a;exact a
   ·rename_i e g d;rw[d] at a;exact bA.ca (s:=e) a g _
theorem bA.hb (a:c<=1000000000000000) (p:Int):∀(n:Nat) (s:aa),bA c s.groups->bA c (aa.hb n s p).groups
 |0,s,h=>h
 |n+1,s,h=>by
  unfold aa.hb;split;·exact h.fI a p
  ·exact bA.hb a p n _ (h.fI a p)
theorem bA.settle (h:bA c s.groups) (h0:0<=c) (b:c<=1000000000000000):bA c s.settle.groups:=by
 unfold aa.settle
 have d:bA c ((s.places.drop 1).foldl (λr o=>match o with|none=>r|some g=>r.bV g) s).groups:=nD _ (λr o a=>by
  cases o with
  |none=>exact a
  |some g=>exact a.bV g) _ s h
 have e:=nD (λr g=>r.share g) (λr g a=>a.share h0 b g) (((s.places.drop 1).foldl (λr o=>match o with|none=>r|some g=>r.bV g) s).limited (((s.places.drop 1).foldl (λr o=>match o with|none=>r|some g=>r.bV g) s).places.drop 1)) _ d;exact nD _ (λr (p:Nat) a=>bA.hb b (p:Int) 40 r a) _ _ e
theorem bA.dU (p ns:Int):∀(l:List Nat) (s:aa) (c:Int),bA c s.groups->c+l.length*1000000000<=1000000000000000->bA (c+l.length*1000000000) (aa.dU p ns l s).groups
 |[],s,c,h,_=>by unfold aa.dU;exact h.mono (by simp)
 |g::l,s,c,h,a=>by
  unfold aa.dU;rw[dY] at a⊢;have d:((l.length+1:Nat):Int)*1000000000=1000000000+(l.length:Int)*1000000000:=by rw[Int.natCast_add,Int.add_mul];omega
  rw[d] at a⊢;have:=bA.dU p ns l (s.bW g λb=>b.b3 p ns) (c+1000000000) (h.bW (by omega) g λb e=>e.b3 (by omega) p ns) (by omega);rw[show c+(1000000000+(l.length:Int)*1000000000)=c+1000000000+(l.length:Int)*1000000000 by omega];exact this
theorem bA.et (g:Nat):∀(l:List Int) (s:aa),bA c s.groups->bA c (aa.et g l s).groups
 |[],s,h=>h
 |p::l,s,h=>bA.et g l (s.stop g p false) h
theorem ae.Bu (t:ae):∀(n:Nat) (h:aG),(ae.fq t n h).length<=n
 |0,h=>by simp[ae.fq]
 |n+1,h=>by
  unfold ae.fq;split;·simp
  ·split;·simp
   ·have:=ae.Bu t n (by assumption:aG×Int).1;rw[dY];omega
theorem aa.tz (s:aa) (g:Nat):(s.cF g).length<=10:=by unfold aa.cF ae.path;rw[ep,ug,ep];exact cJ (List.takeWhile_sublist _).length_le (ae.Bu _ 10 _)
theorem aa.rz (s:aa) (l:List (Option Nat)):(s.limited l).length<=l.length:=by unfold aa.limited;exact List.length_filterMap_le _ _
theorem aa.tA (s:aa) (n:Nat):(s.leave n).groups=s.groups:=by unfold aa.leave;split<;>rfl
theorem aa.wS (s:aa) (n:Nat) (p:Int) (b:Bool):(s.put n p b).groups=s.groups:=by unfold aa.put;split<;>rfl
theorem bA.event (h:bA c s.groups) (h0:0<=c) (N:c+10000000000<=1000000000000000) (e:e9):bA (c+10000000000) (s.event e).1.groups:=by
 have d:bA (c+10000000000) s.groups:=h.mono (by omega);have f:∀{p:Prop} [Decidable p] {a b:c1},bA (c+10000000000) a.1.groups->bA (c+10000000000) b.1.groups->bA (c+10000000000) (if p then a else b).1.groups:=by
  intro p _ a b u i;split;·exact u
  ·exact i
 have v:bA (c+10000000000) (s.grow e.a e.n).1.groups:=by
  unfold aa.grow;split;·exact d
  ·refine f d (f d ?_);intro G j b i;rcases nc.1 j with j|j;·exact d G j b i
   ·rw[p8] at j;subst j;cases i;exact fe.new (by omega) _
 have w:bA (c+10000000000) (s.drop e.a).1.groups:=by
  unfold aa.drop;split;·exact d
  ·rename_i g k;refine f d (f d ?_);intro G j b i;rcases List.mem_or_eq_of_mem_set j with j|rfl;·exact d G j b i
   ·exact d g (ea (aa.hc k).2.1) b i
 have x:bA (c+10000000000) (s.move e.a e.b).1.groups:=by
  unfold aa.move;split;·exact f d (f d d)
  ·exact d
 have y:bA (c+10000000000) (s.shares e.a e.n).1.groups:=by
  unfold aa.shares;split;·exact d
  ·rename_i g k;refine f d (f d ?_);exact h.b0 (by omega) λb i=>d g (ea (aa.hc k).2.1) b i
 have z:bA (c+10000000000) (s.jS e.a e.n e.m).1.groups:=by
  unfold aa.jS;split;·exact d
  ·refine f d (f d ?_);have q:bA c (s.bW e.a.toNat λb=>b.set e.n e.m).groups:=h.bW (hL _) _ λb i=>i.set h0 _ _;have A:bA c ((s.bW e.a.toNat λb=>b.set e.n e.m).b0 e.a.toNat {(s.bW e.a.toNat λb=>b.set e.n e.m).ax e.a.toNat with quota:=e.n}).groups:=q.b0 (hL _) λb i=>q.at_ i;exact(bA.et _ _ _ (A.ca _ _)).mono (by omega)
 have B:bA (c+10000000000) (s.spawn e.a e.n e.mask).1.groups:=by rw[(s.vK _ _ _).1];exact d
 have C:bA (c+10000000000) (s.js e.a).1.groups:=by
  unfold aa.js;split;·exact d
  ·refine f d ?_;rw[aa.wS];exact d
 have D:bA (c+10000000000) (s.block e.a).1.groups:=by unfold aa.block;refine f d (f d ?_);rw[aa.tA];exact d
 have E:bA (c+10000000000) (s.yield e.a).1.groups:=by unfold aa.yield;exact f d (f d d)
 have F:bA (c+10000000000) (s.exit e.a).1.groups:=by
  unfold aa.exit;refine f d (f d ?_);split;·exact d
  ·show bA _ (s.leave _).groups;rw[aa.tA];exact d
 have H:bA (c+10000000000) (s.tick e.a e.n).1.groups:=by
  unfold aa.tick;refine f d (f d (f d ?_));split;·exact d
  ·rename_i t O;apply f d;dsimp only;have o:∀(l:List Nat) (r:aa),r.groups=s.groups->l.length<=10->bA (c+10000000000) (aa.dU e.a e.n l r).groups:=λl r I o=>(bA.dU e.a e.n l r c (by rw[I];exact h) (by omega)).mono (by omega);refine f ?_ ?_;·exact o _ _ rfl (cJ (aa.rz _ _) (aa.tz _ _))
   ·exact o _ _ rfl (cJ (aa.rz _ _) (aa.tz _ _))
 have J:bA (c+10000000000) (s.fR e.a).1.groups:=by
  unfold aa.fR;split;·exact d
  ·exact f d ((h.bW (hL _) _ λb i=>i.fR h0).mono (by omega))
 have K:bA (c+10000000000) (s.pull e.a).1.groups:=by unfold aa.pull;refine f d ?_;dsimp only;refine f d (f d ?_);rw[aa.wS,aa.tA];exact d
 have L:bA (c+10000000000) (s.nice e.a e.n).1.groups:=by
  unfold aa.nice;split;·exact d
  ·exact f d (f d (f d d))
 have M:bA (c+10000000000) (s.mask e.a e.mask).1.groups:=by
  unfold aa.mask;split;·exact d
  ·split;·exact d
   ·dsimp only;split;·show bA _ (aa.put _ _ _ _).groups;rw[aa.wS,aa.tA];exact d
    ·exact d
 unfold aa.event;exact f v (f w (f x (f y (f z (f B (f C (f D (f E (f F (f H (f J (f K (f L (f M d))))))))))))))
theorem bA.cN (h:bA c s.groups) (h0:0<=c) (a:c+10000000000<=1000000000000000) (e:e9):bA (c+10000000000) (s.cN e).1.groups:=by
 unfold aa.cN;split;·exact h.mono (by omega)
 ·exact(h.event h0 a e).settle (by omega) (by omega)
theorem bA.new (a:g_):bA 0 (aa.new a).groups:=by
 intro G c b d;have:G=ia:=by simpa[aa.new] using c
 subst this;cases d
def iK (s:aa) (g:Nat):Nat:=if(s.ic g).pool<=0 then 0 else 1+(s.ib g).length
def eM (s:aa) (g:Nat) (p:Int) (l:List Int):aa:=if(s.ic g).hx p then(((s.ca g λ_=>l).bW g (λb=>b.cV p))).stop g p false else(((s.ca g λ_=>l).bW g (λb=>b.cV p)).ca g λl=>fX l p)
theorem aa.pR (n:Nat) (s:aa) (g:Nat):aa.hand (n+1) s g=if(s.ic g).pool<=0 then s else match s.ib g with|[]=>s|p::l=>aa.hand n (eM s g p l) g:=by
 rw[aa.hand];split;·rfl
 ·split;·rename_i h;first|rfl|rw[h]
  ·rename_i p l h;unfold eM;(try rw[h]);(try dsimp only);split<;>rfl
theorem aa.rA {b:aN} (a:(s.ax g).band=R b) (f:aN->aN):(s.bW g f).ax g={s.ax g with band:=R (f b)}:=by
 have c:g<s.groups.length:=by refine Decidable.byContradiction λd=>?_;rw[s.qF d] at a;cases a
 unfold aa.bW;rw[a];dsimp only;rw[aa.l3,aj ⟨rfl,c⟩]
theorem aa.tB (a:(s.ax g).line=R l) (f:List Int->List Int):(s.ca g f).ax g={s.ax g with line:=R (f l)}:=by
 have b:g<s.groups.length:=by refine Decidable.byContradiction λc=>?_;rw[s.qF c] at a;cases a
 unfold aa.ca;rw[a];dsimp only;rw[aa.l3,aj ⟨rfl,b⟩]
theorem Bv (h:s.Ok k) (u:bA c s.groups) (E:c<=1000000000000000) {p:Int} {b:aN} (f:(s.ax g).band=R b) (v:0<b.quota) (m:s.ib g=p::l) (w:¬(s.ic g).pool<=0):iK (eM s g p l) g<iK s g:=by
 have n:=aa.vG m;have x:s.ic g=b:=by unfold aa.ic;rw[f];rfl
 obtain⟨F,G,H,e,I⟩:=h.qG n;have J:=e p ey;obtain⟨_,_,_,K⟩:=h.vF f;have o:(s.ca g λ_=>l).ax g={s.ax g with line:=R l}:=aa.tB n _;have y:((s.ca g λ_=>l).ax g).band=R b:=by rw[o];exact f
 have i:=aa.rA y (λb=>b.cV p);rw[o] at i;have d:=u.at_ f;have z:iK s g=1+(l.length+1):=by unfold iK;rw[z0 w,m,dY]
 rw[z];unfold eM;rw[x];cases a:b.hx p with
 |true=>
  rw[aj rfl];have A:((((s.ca g λ_=>l).bW g (λb=>b.cV p))).stop g p false).ax g={s.ax g with line:=R l,band:=R (b.cV p)}:=i;unfold iK aa.ic aa.ib;rw[A];split;·omega
  ·show 1+l.length<_;omega
 |false=>
  rw[z0 (by simp)];have B:(((s.ca g λ_=>l).bW g (λb=>b.cV p)).ax g).line=R l:=by rw[i]
  have q:=aa.tB B (λl=>fX l p);rw[i] at q;have j:b.there p=true:=by unfold aN.there;simp;omega
  have r:=aN.tx j;have L:=d.lo _ (ea r);have M:=d.quota;have N:=d.slice v;have O:=d.pool;have P:=d.sum;have Q:=tu b.loc;have C:(b.cV p).pool<=0:=by
   unfold aN.hx at a;rw[z0 (by rw[j];simp),z0 (by omega)] at a;unfold aN.cV at a⊢;rw[z0 (by rw[j];simp),z0 (by omega)] at a⊢;by_cases t:b.at p<=0;·rw[aj t] at a⊢;have S:b.h9 p=min b.pool (b.slice-b.at p):=(by unfold aN.h9;rw[mT (by omega) (by omega)]);have D:({b with loc:=b.loc.set p.toNat (cM (b.at p+b.h9 p)),pool:=cM (b.pool-b.h9 p)}:aN).at p=cM (b.at p+b.h9 p):=(by unfold aN.at;show(b.loc.set p.toNat _).getD p.toNat 0=_;rw[dD,cZ (bE.1 r).1];rfl);rw[D] at a;simp only[decide_eq_false_iff_not] at a;show cM (b.pool-b.h9 p)<=0;rw[mT (by omega) (by omega)] at a;rw[mT (by omega) (by omega)];omega
   ·rw[z0 t] at a;simp only[decide_eq_false_iff_not] at a;omega
  unfold iK aa.ic;rw[q];rw[aj (by show(b.cV p).pool<=0;exact C)];omega
end
end Go.Proofs.YtddbkdjcjoofpaaGreatDoor
