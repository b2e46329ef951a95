/- Joined by a program out of the session's own texts. -/
import Derived.Test.YtddbkdjcjoofpaaGreatDoorLA
import Derived.Test.YtddbkdjcjoofpaaGreatDoorLD
import Derived.Test.YtddbkdjcjoofpaaGreatDoorLC
import Derived.Test.YtddbkdjcjoofpaaGreatDoorLE
import Derived.Test.YtddbkdjcjoofpaaGreatDoorLF
import Derived.Test.YtddbkdjcjoofpaaGreatDoorLG
import Derived.Test.YtddbkdjcjoofpaaGreatDoorLL
import Derived.Test.YtddbkdjcjoofpaaGreatDoorLP
import Derived.WalkKit
import Derived.Lib.Strings
import Derived.Lib.IndexBytes
import Derived.Lib.Hide
import Derived.Test.YtddbkdjcjoofpaaGreatDoorProg
import Derived.Deep.QuietTactic
import Derived.Below
import Derived.Maps.AppendAt
import Derived.Laws.AppendOwnNone
import Derived.IntWalk
import Derived.Lib.SlicesCompact
import Derived.Deep.CutRange
import Derived.Deep.RegionHeld3
import Derived.Deep.Cut
import Derived.Laws.StructEq
import Derived.WalkSmall
import Derived.Outline
import Derived.RegionTactic
import Derived.ChangeAlike
import Derived.BigQuiet
import Derived.Laws.Rows
import Derived.Laws.AppendOwn
import Derived.Deep.LoopGhost
import Derived.StillTailTactics
import Derived.StillTactics
import Derived.OwnWalk
import Derived.Laws.Pointers
import Derived.Deep.AppendLies
import Derived.Laws.ResultCell
import Derived.Shelf.Sort.Plain
import Derived.Shelf.Bits.Mul64
import Derived.Shelf.Slices.Turned
import Derived.Shelf.Slices.Reverse
import Derived.Ground.Names2Prog
import Derived.Shelf.Slices.CompactI
import Derived.Shelf.Slices.Cells
import Derived.Shelf.Slices.In.SortNone
import Derived.Ground.SlgnProg
import Derived.Shelf.SlicesG.Turned
import Derived.Lib.SlKeysI
import Derived.RangeFuncNested
import Derived.RangeFuncBound
import Derived.RangeFuncCalls
import Derived.RangeFuncLeaves
import Derived.RangeFuncBox
import Derived.Shelf.Abstract
import Derived.Shelf.RegionOpen
import Derived.OwnWalkIn
import Derived.TacticsInMore
import Derived.LoopNIn
import Derived.LoopIn
import Derived.Shelf.SlIterI.Sorted
import Derived.Ground.GgzProg
import Derived.MapKept
import Derived.Maps.OwnSet
import Derived.Defers
import Derived.Laws.OwnMore
import Derived.Lib.SliceRun
import Derived.ChangeKeysEq
import Derived.Deep.MidRow
import Derived.LaidEqlPtr
import Derived.OpenShut
import Derived.OneCell
import Derived.Laws.BitsAllLaws
import Derived.Test.YtddbkdjcjoofpaaGreatDoorChecked
import Derived.Laws.EntriesVeiled
import Derived.Deep.RegionWith
import Derived.Lib.SlicesS
import Derived.Lib.SplitLaws
import Derived.Laws.RangeAny
import Derived.Stop.LaidErr
import Derived.Lib.LaidTab
import Derived.ShapedOpen
import Derived.Shelf.Spec.TrailingZeros
import Derived.Shelf.Small.Wraps
import Derived.Shelf.LaysM
import Derived.Shelf.Strconv.Itoa4
import Derived.Shelf.LaysC
import Derived.Shelf.Strconv.ParseIntPublic10
import Derived.Shelf.Strconv.ErrVarParseInt
import Derived.Shelf.Strings.SplitShaped
import Derived.Test.YtddbkdjcjoofpaaGreatDoorRows
import Derived.Lib.ItoaNum
import Derived.Lib.ItoaLen
import Derived.Lib.ParseIntB
import Derived.Lib.TrailingZeros
import Derived.Lib.OthersKept
import Derived.Lib.ConvBytes
import Derived.Lib.CountLaws
import Derived.Laws.BytesArg
import Derived.Lib.AppendStr
import Derived.Lib.Slices
import Derived.Lib.Walk
import Derived.Lib.Builder
import Derived.Lib.UnsafeStr
import Derived.Lib.MakeNoZero
import Derived.Laws.Externs
import Derived.Laws.IdiomCopy
import Derived.Laws.BitsLemmas
import Derived.ProofKit
import Derived.DataReads
import Derived.ChangeSame
import Derived.Lib.SmallJoins
import Derived.LaidMore
import Derived.LaidLaws
import Derived.Shelf.Vars
import Derived.Lay
import Derived.Deep.DeepHandedRow
import Derived.Stop.Joined
import Derived.SizedLaws
namespace Go.Proofs.YtddbkdjcjoofpaaGreatDoor
set_option linter.unusedVariables false
set_option linter.unusedSimpArgs false
set_option maxRecDepth 100000
set_option maxHeartbeats 20000000
open _root_.Go.Proofs.Tryz Go.RowKit
open Go renaming World→ab
open _root_.Go.Proofs.Tryz renaming prog→au
open Option renaming none→U,some→R
open _root_.Go.Value renaming int→I,pointer→af,slice→ay,bool→aD,agg→bk,tuple→bC
open _root_.Go.IntKind renaming i64→J,u64→ah
open _root_.Go.Obj renaming cells→av
open _root_.Go.Ending renaming returned→aK
open _root_.Nat renaming le_refl→bK,le_trans→cA,lt_of_lt_of_le→dd,zero_add→lZ,zero_le→gN,add_assoc→qy
open _root_.Array renaming getElem?_eq_some_iff→iZ
open _root_.Go renaming World→ab
open _root_.List renaming getElem?_eq_getElem→b5,getElem?_map→dD,getElem?_eq_some_iff→bD,getElem?_append_right→gJ,getElem?_append_left→ja,mem_map→eY,mem_cons→gZ,getElem?_toArray→fg,mem_of_getElem?→ea,length_map→dY,map_append→iI,nodup_cons→jL,mem_cons_self→e5,mem_cons_of_mem→hK,getElem?_set_self→cV,getElem?_set_ne→dN,mem_append→nj,mem_singleton→qt,take_add_one→gL,take_length→hL,length_take→iG
open _root_.Bool renaming and_eq_true→jb
open _root_.And renaming intro→br
open _root_.Int renaming le_refl→jw
open _root_.Option renaming isSome_iff_exists→gK,map_eq_some_iff→h9,toList_some→lY
open _root_.Go.World renaming block_lt_of_cell?→jv
variable {b:Nat} {v:Value} {a:Option Addr}
instance:DecidableEq Key:=λa b=>decidable_of_iff (a.v=b.v∧a.id=b.id) (Key.eq_iff a b).symm
instance (a b:Key):Decidable (a.lt b):=inferInstanceAs (Decidable (_∨_))
variable {n g i p j c B m o:Nat} {A:ab} {u:Value} {t:ex} {G:aJ} {k x:Key} {f:Int->Option aJ} {l:List Int} {e:aI} {s:bp (aF×Int)} {r:T}
section
variable {k:Nat} {s r:aa}
theorem Same.refl (s:aa):Same s s:=⟨rfl,rfl,λn t h d=>⟨t,h,d⟩,rfl⟩
theorem Same.trans {a b c:aa} (h:Same a b) (q:Same b c):Same a c:=⟨q.len.trans h.len,q.q7.trans h.q7,λn t e d=>by obtain⟨f,g,i⟩:=h.dead n t e d;exact q.dead n f g i,q.book.trans h.book⟩
theorem cN.same (h:cN s r):Same s r:=⟨by rw[h.tasks],h.len,λn t e d=>⟨t,by rw[h.tasks];exact e,d⟩,h.book⟩
theorem Same.cE (s:aa) {n:Nat} {t t':ex} (b:s.tasks[n]?=R t) (d:t.dead=true->t'.dead=true):Same s (s.cE n t'):=by
 have f:=(bD.1 b).1;refine⟨by unfold aa.cE;simp,rfl,λm u a c=>?_,rfl⟩;unfold aa.cE;dsimp only;by_cases e:m=n;·subst e;rw[b] at a;cases a;exact⟨t',cV f,d c⟩
 ·exact⟨u,by rw[dN (Ne.symm e)];exact a,c⟩
theorem Same.bU (s:aa) (p:Int) (x:ad):Same s (s.bU p x):=(cN.bU s p x).same
theorem Same.Pl (s:aa) (p:Int) (x:ad) {t':ex} (a:s.tasks[n]?=R t) (b:t.dead=true->t'.dead=true):Same s ((s.bU p x).cE n t'):=(Same.bU s p x).trans (Same.cE (s.bU p x) (t:=t) (t':=t') a b)
theorem Same.PG (s:aa) (p:Int) (x:ad) {t':ex} (a:s.tasks[n]?=R t) (b:t.dead=true->t'.dead=true):Same s ((s.cE n t').bU p x):=(Same.cE s a b).trans (Same.bU _ p x)
theorem Same.leave (s:aa) (n:Nat):Same s (s.leave n):=by
 unfold aa.leave;split;·exact Same.refl s
 ·rename_i t a;exact Same.Pl s _ _ a (λb=>b)
theorem Same.put (s:aa) (n:Nat) (p:Int) (a:Bool):Same s (s.put n p a):=by
 unfold aa.put;split;·exact Same.refl s
 ·rename_i t b;exact Same.PG s _ _ b (λc=>c)
theorem Same.b0 (s:aa) (g:Nat) (G:cb):Same s (s.b0 g G):=⟨rfl,by unfold aa.b0;simp,λn t e d=>⟨t,e,d⟩,rfl⟩
theorem Same.eQ (g:Nat):∀(l:List Int) (s:aa),Same s (aa.eQ g l s)
 |[],s=>Same.refl s
 |p::l,s=>(Same.bU s _ _).trans (Same.eQ g l _)
theorem Same.ee (p ns:Int):∀(l:List Nat) (s:aa),Same s (aa.ee p ns l s)
 |[],s=>Same.refl s
 |g::l,s=>(cN.bP s _ _).same.trans (Same.ee p ns l _)
theorem Same.drop (s:aa) (A:Int):Same s (s.drop A).1:=by
 unfold aa.drop;split;·exact Same.refl s
 ·split;·exact Same.refl s
  ·split;·exact Same.refl s
   ·exact⟨rfl,by simp,λn t e d=>⟨t,e,d⟩,rfl⟩
theorem Same.move (s:aa) (A B:Int):Same s (s.move A B).1:=by
 unfold aa.move;split
 ·split;·exact Same.refl s
  ·split;·exact Same.refl s
   ·exact⟨rfl,rfl,λn t e d=>⟨t,e,d⟩,rfl⟩
 ·exact Same.refl s
theorem Same.shares (s:aa) (A N:Int):Same s (s.shares A N).1:=by
 unfold aa.shares;split;·exact Same.refl s
 ·split;·exact Same.refl s
  ·split;·exact Same.refl s
   ·exact Same.b0 _ _ _
theorem Same.lJ (s:aa) (A N M:Int):Same s (s.lJ A N M).1:=by
 unfold aa.lJ;split;·exact Same.refl s
 ·split;·exact Same.refl s
  ·split;·exact Same.refl s
   ·exact((((cN.bP s _ _).same).trans (Same.b0 _ _ _)).trans (cN.b7 _ _ _).same).trans (Same.eQ _ _ _)
theorem Same.gy (s:aa) (A:Int):Same s (s.gy A).1:=by
 unfold aa.gy;split;·exact Same.refl s
 ·split;·exact Same.refl s
  ·exact(cN.bP _ _ _).same
theorem Same.k0 (s:aa) (A:Int):Same s (s.k0 A).1:=by
 unfold aa.k0;split;·exact Same.refl s
 ·split;·exact Same.refl s
  ·exact Same.put _ _ _ _
theorem Same.nice (s:aa) (A N:Int):Same s (s.nice A N).1:=by
 unfold aa.nice;split;·exact Same.refl s
 ·rename_i t c;have b:=(aa.oE c).2;split;·exact Same.refl s
  ·split;·exact Same.refl s
   ·split;·exact Same.Pl s _ _ b.1 (λa=>a)
    ·exact Same.cE s b.1 (λa=>a)
theorem Same.mask (s:aa) (A m:Int):Same s (s.mask A m).1:=by
 unfold aa.mask;split;·exact Same.refl s
 ·rename_i t b;have c:=(aa.oE b).2;have a:Same s (s.cE A.toNat {t with mask:=m}):=Same.cE s c.1 (λd=>d);split;·exact Same.refl s
  ·dsimp only;split;·exact(a.trans (Same.leave _ _)).trans (Same.put _ _ _ _)
   ·exact a
theorem Same.block (s:aa) (A:Int):Same s (s.block A).1:=by
 unfold aa.block;split;·exact Same.refl s
 ·split;·exact Same.refl s
  ·exact Same.leave _ _
theorem Same.exit (s:aa) (A:Int):Same s (s.exit A).1:=by
 unfold aa.exit;split;·exact Same.refl s
 ·split;·exact Same.refl s
  ·split;·exact Same.refl s
   ·rename_i t b;have a:=(Same.leave s (s.running A).toNat).trans (Same.cE _ (t':={t with dead:=true}) b (λ_=>rfl));exact⟨a.len,a.q7,a.dead,a.book⟩
theorem Same.yield (s:aa) (A:Int):Same s (s.yield A).1:=by
 unfold aa.yield;split;·exact Same.refl s
 ·split;·exact Same.refl s
  ·exact Same.bU _ _ _
theorem Same.pull (s:aa) (A:Int):Same s (s.pull A).1:=by
 unfold aa.pull;split;·exact Same.refl s
 ·dsimp only;split;·exact Same.refl s
  ·split;·exact Same.refl s
   ·exact(Same.leave _ _).trans (Same.put _ _ _ _)
theorem aa.Pm (s:aa) (A N:Int):(s.tick A N).1.tasks.length=s.tasks.length∧(s.tick A N).1.groups.length=s.groups.length∧(∀(n:Nat) t,s.tasks[n]?=R t->t.dead=true->∃a,(s.tick A N).1.tasks[n]?=R a∧a.dead=true)∧((((s.tick A N).2.2≠0∨(s.tick A N).2.1=-1)∧(s.tick A N).1.book=s.book)∨∃t,(s.tick A N).2.2=0∧(s.tick A N).2.1=s.running A∧s.running A≠-1∧0<=N∧N<=s.c.tick∧s.tasks[(s.running A).toNat]?=R t∧s.book.ih (s.numbers t.g) (s.running A) N=0∧(s.tick A N).1.book=s.book.ch (s.numbers t.g) (s.running A) N):=by
 have d:∀n e:Int,e≠0->((s,n,e):dO).1.tasks.length=s.tasks.length∧((s,n,e):dO).1.groups.length=s.groups.length∧(∀(m:Nat) t,s.tasks[m]?=R t->t.dead=true->∃a,((s,n,e):dO).1.tasks[m]?=R a∧a.dead=true)∧((((s,n,e):dO).2.2≠0∨((s,n,e):dO).2.1=-1)∧((s,n,e):dO).1.book=s.book):=λn e b=>⟨rfl,rfl,λm t f h=>⟨t,f,h⟩,.inl b,rfl⟩;unfold aa.tick;split;·have:=d 0 1 (by decide);exact⟨this.1,this.2.1,this.2.2.1,.inl this.2.2.2⟩
 ·split;·have:=d 0 8 (by decide);exact⟨this.1,this.2.1,this.2.2.1,.inl this.2.2.2⟩
  ·rename_i q;split;·exact⟨rfl,rfl,λm t f h=>⟨t,f,h⟩,.inl ⟨.inr rfl,rfl⟩⟩
   ·rename_i l;split;·have:=d 0 7 (by decide);exact⟨this.1,this.2.1,this.2.2.1,.inl this.2.2.2⟩
    ·rename_i t o;split;·rename_i i;have:=d 0 _ i;exact⟨this.1,this.2.1,this.2.2.1,.inl this.2.2.2⟩
     ·rename_i i;have p:s.book.ih (s.numbers t.g) (s.running A) N=0:=Decidable.byContradiction i;have j:Same {s with book:=s.book.ch (s.numbers t.g) (s.running A) N} (aa.ee A N (({s with book:=s.book.ch (s.numbers t.g) (s.running A) N}:aa).bU A ((({s with book:=s.book.ch (s.numbers t.g) (s.running A) N}:aa).aY A).b4 N.toNat)|>.limited ((({s with book:=s.book.ch (s.numbers t.g) (s.running A) N}:aa).bU A ((({s with book:=s.book.ch (s.numbers t.g) (s.running A) N}:aa).aY A).b4 N.toNat)).cC t.g)) (({s with book:=s.book.ch (s.numbers t.g) (s.running A) N}:aa).bU A ((({s with book:=s.book.ch (s.numbers t.g) (s.running A) N}:aa).aY A).b4 N.toNat))):=(Same.bU _ _ _).trans (Same.ee _ _ _ _);dsimp only;have k:∀r:aa,Same {s with book:=s.book.ch (s.numbers t.g) (s.running A) N} r->((r,s.running A,0):dO).1.tasks.length=s.tasks.length∧((r,s.running A,0):dO).1.groups.length=s.groups.length∧(∀(n:Nat) t,s.tasks[n]?=R t->t.dead=true->∃a,((r,s.running A,0):dO).1.tasks[n]?=R a∧a.dead=true)∧(((((r,s.running A,0):dO).2.2≠0∨((r,s.running A,0):dO).2.1=-1)∧((r,s.running A,0):dO).1.book=s.book)∨∃t,((r,s.running A,0):dO).2.2=0∧((r,s.running A,0):dO).2.1=s.running A∧s.running A≠-1∧0<=N∧N<=s.c.tick∧s.tasks[(s.running A).toNat]?=R t∧s.book.ih (s.numbers t.g) (s.running A) N=0∧((r,s.running A,0):dO).1.book=s.book.ch (s.numbers t.g) (s.running A) N):=λr b=>⟨b.len,b.q7,b.dead,.inr ⟨t,rfl,rfl,l,by omega,by omega,o,p,b.book⟩⟩;split;·refine k _ ?_;exact(j.trans (cN.dJ _ _ _).same).trans ((Same.bU _ _ _).trans (cN.dJ _ _ _).same)
      ·refine k _ ?_;exact j.trans (cN.dJ _ _ _).same
theorem aa.Pn (s:aa) (A N:Int):(s.grow A N).1.tasks=s.tasks∧(s.grow A N).1.book=s.book∧(((s.grow A N).2.2≠0∧(s.grow A N).1=s)∨((s.grow A N).2.2=0∧(s.grow A N).2.1=s.groups.length∧(s.grow A N).1.groups.length=s.groups.length+1)):=by
 unfold aa.grow;split;·exact⟨rfl,rfl,.inl ⟨by show(2:Int)≠0;decide,rfl⟩⟩
 ·split;·exact⟨rfl,rfl,.inl ⟨by show(4:Int)≠0;decide,rfl⟩⟩
  ·split;·rename_i h;exact⟨rfl,rfl,.inl ⟨h,rfl⟩⟩
   ·exact⟨rfl,rfl,.inr ⟨rfl,rfl,by simp⟩⟩
theorem aa.Po (s:aa) (e:gm) (d:e.kind≠1) (f:e.kind≠6) (g:e.kind≠11):Same s (s.event e).1:=by
 have c:∀{p:Prop} [Decidable p] {a b:dO},Same s a.1->Same s b.1->Same s (if p then a else b).1:=by
  intro p _ a b h i;split;·exact h
  ·exact i
 unfold aa.event;rw[z0 d];refine c (Same.drop _ _) (c (Same.move _ _ _) (c (Same.shares _ _ _) (c (Same.lJ _ _ _ _) ?_)));rw[z0 f];refine c (Same.k0 _ _) (c (Same.block _ _) (c (Same.yield _ _) (c (Same.exit _ _) ?_)));rw[z0 g];exact c (Same.gy _ _) (c (Same.pull _ _) (c (Same.nice _ _ _) (c (Same.mask _ _ _) (Same.refl s))))
end
variable {w y:ab} {P:List (List Nat)} {L:List ByteArray}
section
variable {k:Nat} {s r:aa}
theorem aa.Pp {e:gm} (h:e.kind=1):s.event e=s.grow e.a e.n:=by unfold aa.event;rw[aj h]
theorem aa.Pq {e:gm} (h:e.kind=6):s.event e=s.spawn e.a e.n e.mask:=by unfold aa.event;rw[z0 (by omega),z0 (by omega),z0 (by omega),z0 (by omega),z0 (by omega),aj h]
theorem aa.Pr {e:gm} (h:e.kind=11):s.event e=s.tick e.a e.n:=by unfold aa.event;rw[z0 (by omega),z0 (by omega),z0 (by omega),z0 (by omega),z0 (by omega),z0 (by omega),z0 (by omega),z0 (by omega),z0 (by omega),z0 (by omega),aj h]
theorem OE.event (s:aa) (e:gm):OE s e (s.event e):=by
 by_cases g:e.kind=1
 ·rw[aa.Pp g];obtain⟨a,b,c⟩:=s.Pn e.a e.n;refine⟨λ_ d=>by omega,λ_=>by rw[a],λf _=>?_,λf=>?_,λn t h i=>⟨t,by rw[a];exact h,i⟩⟩
  ·rcases c with c|c;·exact absurd f c.1
   ·exact c.2
  ·rcases c with c|c;·rw[c.2]
   ·exact absurd ⟨c.1,g⟩ f
 by_cases j:e.kind=6
 ·rw[aa.Pq j];obtain⟨a,b,c⟩:=s.GH e.a e.n e.mask;refine⟨λf _=>?_,λf=>?_,λ_ d=>by omega,λ_=>by rw[a],λn t h i=>?_⟩
  ·rcases c with c|c;·exact absurd f c.1
   ·exact⟨c.2.1,c.2.2.1⟩
  ·rcases c with c|c;·rw[c.2]
   ·exact absurd ⟨c.1,j⟩ f
  ·rcases c with c|c;·rw[c.2];exact⟨t,h,i⟩
   ·exact⟨t,c.2.2.2 n t h,i⟩
 by_cases k:e.kind=11;·rw[aa.Pr k];obtain⟨a,b,c,_⟩:=s.Pm e.a e.n;exact⟨λ_ d=>by omega,λ_=>a,λ_ d=>by omega,λ_=>b,c⟩
 ·have d:=s.Po e g j k;exact⟨λ_ d=>absurd d j,λ_=>d.len,λ_ d=>absurd d g,λ_=>d.q7,d.dead⟩
theorem Ps {f g:Int->Int}:∀n:Nat,(∀i:Nat,i<n->f i=g i)->nD f n=nD g n
 |0,_=>rfl
 |n+1,h=>by unfold nD;rw[Ps n (λi a=>h i (by omega)),h n (by omega)]
theorem Pt {f g:Int->Int} {j:Nat} {x:Int} (b:g j=f j+x) (a:∀i:Nat,i≠j->g i=f i):∀n:Nat,j<n->nD g n=nD f n+x
 |0,h=>by omega
 |n+1,h=>by
  unfold nD;by_cases e:j=n;·subst e;rw[Ps j (λi c=>a i (by omega)),b];omega
  ·rw[Pt b a n (by omega),a n (by omega)];omega
theorem OG.new (c:hT):OG (aa.new c) 0:=⟨rfl,rfl,λ_ _=>rfl,λ_=>⟨by show(0:Int)<=0;omega,by show(0:Int)<=0;omega⟩,rfl,λ_=>⟨by show(0:Int)<=0;omega,by show(0:Int)<=0;omega⟩⟩
theorem PQ (f:Int->Int) (n m:Nat) (h:∀i:Nat,n<=i->f i=0):n<=m->nD f m=nD f n:=by
 induction m with
 |zero=>intro a;rw[show n=0 by omega]
 |succ m b=>
  intro a;by_cases e:n=m+1;·rw[e]
  ·show nD f m+f m=_;rw[b (by omega),h m (by omega)];omega
theorem OG.same {b:Int} (h:OG s b) (a:r.book=s.book) (c:s.tasks.length<=r.tasks.length):OG r b:=⟨by rw[a];exact h.total,by rw[a,PQ _ _ _ h.none_ c];exact h.all,λn d=>by rw[a];exact h.none_ n (by omega),by rw[a];exact h.task,by rw[a];exact h.root,by rw[a];exact h.aw⟩
theorem PR {N:Int} (x:0<=N):∀(l:List Int) (f:Int->Int),l.Nodup->(∀g,0<=f g∧f g+N<=9223372036854775807)->∀i,mH N l f i=if i∈l then f i+N else f i
 |[],f,_,_,i=>by unfold mH;simp
 |a::l,f,o,r,i=>by
  have k:=jL.1 o;have y:=r a;have t:∀j,lF f a N j=if j=a then f j+N else f j:=λj=>by
   unfold lF;by_cases e:j=a;·rw[aj e,aj e,e,GJ (by omega) (by omega)]
   ·rw[z0 e,z0 e]
  unfold mH;by_cases p:i=a
  ·subst p;have q:∀(l:List Int) (f:Int->Int),i∉l->mH N l f i=f i:=by
    intro l;induction l with
    |nil=>intro f _;rfl
    |cons b l m=>intro f n;unfold mH;rw[m _ (λc=>n (hK _ c))];unfold lF;rw[z0 (λc=>n (by rw[c];exact e5))]
   rw[q l _ k.1,t,aj rfl,aj e5]
  ·have s:=r i;have u:∀(l:List Int),l.Nodup->∀f:Int->Int,0<=f i->f i+N<=9223372036854775807->mH N l f i=if i∈l then f i+N else f i:=by
    intro l;induction l with
    |nil=>intro _ f _ _;unfold mH;simp
    |cons b l m=>
     intro o f v w;have k:=jL.1 o;unfold mH;by_cases e:i=b
     ·subst e;have q:∀(l:List Int) (f:Int->Int),i∉l->mH N l f i=f i:=by
       intro l;induction l with
       |nil=>intro f _;rfl
       |cons b l m=>intro f n;unfold mH;rw[m _ (λc=>n (hK _ c))];unfold lF;rw[z0 (λc=>n (by rw[c];exact e5))]
      rw[q l _ k.1,aj e5];unfold lF;rw[aj rfl,GJ (by omega) (by omega)]
     ·have h:lF f b N i=f i:=(by unfold lF;rw[z0 e]);rw[m k.2 _ (by rw[h];exact v) (by rw[h];exact w),h];by_cases c:i∈l;·rw[aj c,aj (hK _ c)]
      ·rw[z0 c,z0 (λd=>by rcases gZ.1 d with d|d;exact e d;exact c d)]
   have h:lF f a N i=f i:=(by unfold lF;rw[z0 p]);rw[u l k.2 _ (by rw[h];exact s.1) (by rw[h];exact s.2),h];by_cases c:i∈l;·rw[aj c,aj (hK _ c)]
   ·rw[z0 c,z0 (λd=>by rcases gZ.1 d with d|d;exact p d;exact c d)]
def Qa (e:gm) (d:dO):Int:=if e.kind=11∧d.2.2=0∧0<=d.2.1 then e.n else 0
theorem OG.ch {b N:Int} {n:Nat} {l:List Int} (h:OG s b) (p:n<s.tasks.length) (q:0<=N) (w:b+N<=9223372036854775807) (k:s.book.ih (0::l) n N=0) (a:r.book=s.book.ch (0::l) n N) (m:r.tasks.length=s.tasks.length):OG r (b+N):=by
 have t:s.book.ch (0::l) n N=⟨lF s.book.tasks n N,mH N (0::l) s.book.groups,cK (s.book.total+N)⟩:=by unfold fS.ch;rw[aj k]
 have u:(0::l:List Int).Nodup:=by
  unfold fS.ih at k;split at k;·omega
  ·rename_i v;have:mc (0::l)=true:=by
    cases h:mc (0::l) with
    |true=>rfl
    |false=>exact absurd (Or.inr (Or.inr h)) v
   unfold mc at this;simp only[jb,decide_eq_true_eq] at this;exact this.2
 rw[t] at a;have y:0<=b:=by have:=h.aw 0;omega
 have c:∀i:Nat,lF s.book.tasks n N i=if i=n then s.book.tasks i+N else s.book.tasks i:=λi=>by
  unfold lF;have:=h.task n;by_cases e:i=n;·subst e;rw[aj rfl,aj rfl,GJ (by omega) (by omega)]
  ·rw[z0 (by omega),z0 e]
 have o:∀g,mH N (0::l) s.book.groups g=if g∈(0::l:List Int) then s.book.groups g+N else s.book.groups g:=PR q _ _ u (λg=>by have:=h.aw g;omega);refine⟨by rw[a];show cK (s.book.total+N)=_;rw[h.total,GJ (by omega) (by omega)],?_,?_,?_,?_,?_⟩;·rw[a,m];show nD (lF s.book.tasks n N) s.tasks.length=_;rw[Pt (f:=s.book.tasks) (j:=n) (x:=N) (by rw[c,aj rfl]) (λi d=>by rw[c,z0 d]) _ p,h.all]
 ·intro i d;rw[m] at d;rw[a];show lF s.book.tasks n N i=0;rw[c,z0 (by omega),h.none_ i d]
 ·intro i;rw[a];show 0<=lF s.book.tasks n N i∧lF s.book.tasks n N i<=_;rw[c];have:=h.task i;split<;>omega
 ·rw[a];show mH N (0::l) s.book.groups 0=_;rw[o,aj e5,h.root]
 ·intro g;rw[a];show 0<=mH N (0::l) s.book.groups g∧mH N (0::l) s.book.groups g<=_;rw[o];have:=h.aw g;split<;>omega
theorem aa.Ok.Pv (h:s.Ok k) (e:gm) (B:0<=e.mask∧e.mask<18446744073709551616) {m:Int} (i:OG s m) (J:m+1000000000<=9223372036854775807):OG (s.dP e).1 (m+Qa e (s.dP e))∧0<=Qa e (s.dP e)∧Qa e (s.dP e)<=s.c.tick:=by
 have K:=h.tick;by_cases o:(s.dP e).2.2=0
 ·obtain⟨p,C⟩:=aa.Ak o;have g:=(aa.Ok.settle (h.event e B)).du.same;rw[C];have u:=OE.event s e;have L:s.tasks.length<=(s.event e).1.tasks.length:=by
   by_cases d:e.kind=6;·rw[(u.fresh p d).2];omega
   ·rw[u.stay (λD=>d D.2)];omega
  by_cases j:e.kind=11
  ·rw[aa.Pr j] at p g⊢;obtain⟨a,b,c,E⟩:=s.Pm e.a e.n;rcases E with⟨f,q⟩|⟨t,M,f,q,v,F,N,w,x⟩
   ·have O:(s.tick e.a e.n).2.1=-1:=by
     rcases f with f|f;·exact absurd p f
     ·exact f
    have:Qa e ((s.tick e.a e.n).1.settle,(s.tick e.a e.n).2.1,0)=0:=(by unfold Qa;rw[z0 (λd=>by have:=d.2.2;dsimp only at this;omega)]);rw[this,Int.add_zero];exact⟨i.same (g.book.trans q) (by have:=g.len;show _<=(s.tick e.a e.n).1.settle.tasks.length;omega),by omega,by omega⟩
   ·rcases h.runs e.a with r|⟨n,P,y,G,_⟩;·exact absurd r q
    ·have:Qa e ((s.tick e.a e.n).1.settle,(s.tick e.a e.n).2.1,0)=e.n:=(by unfold Qa;rw[aj ⟨j,rfl,by dsimp only;rw[f,y];omega⟩]);rw[this];rw[y] at w x;have H:=(bD.1 G).1;exact⟨OG.ch (l:=_) i H v (by omega) w (g.book.trans x) (g.len.trans a),v,F⟩
  ·have:Qa e ((s.event e).1.settle,(s.event e).2.1,0)=0:=(by unfold Qa;rw[z0 (λd=>j d.1)]);rw[this,Int.add_zero];have I:(s.event e).1.book=s.book:=by
    by_cases z:e.kind=1;·rw[aa.Pp z];exact(s.Pn _ _).2.1
    ·by_cases A:e.kind=6;·rw[aa.Pq A];exact(s.GH _ _ _).2.1
     ·exact(s.Po e z A j).book
   exact⟨i.same (g.book.trans I) (by have:=g.len;show _<=(s.event e).1.settle.tasks.length;omega),by omega,by omega⟩
 ·have:Qa e (s.dP e)=0:=by unfold Qa;rw[z0 (λd=>o d.2.1)]
  rw[this,aa.GI o,Int.add_zero];exact⟨i,by omega,by omega⟩
end
variable {cap:Nat} {S:Nat->Prop} {w':ab}
section
variable {ao w:ab} {S:Nat->Prop} {L:bu} {s:aa} {k:Nat}
theorem Ph (H:ax ao S L s w):Calls au 11 #[aX L.b] w λe w'=>e=aK (I J s.groups.length)∧w'=w:=by have c:=H.top.cell 8 p5;obtain⟨T,g⟩:=H.fy .e1;obtain⟨a,cap,h⟩:=dM.form g;rw[h,show(fV L s).length=s.groups.length by simp[fV]] at c;unfold aX;obtain⟨b,d⟩:∃b,L.b=b:=⟨_,rfl⟩;obtain⟨n,f⟩:∃n,s.groups.length=n:=⟨_,rfl⟩;rw[d,f] at c;rw[d,f];clear H d f g h;go_enter func11,ntmps11;go_wp2;go_ret;exact⟨rfl,rfl⟩
end
variable {Z al:Nat->Prop} {W:ab} {ai:Int->Nat} {ag:List (Int×Int)} {V:List (Int×Int)->ab->Prop}
def Dw (f:Nat):Value:=.func (.func f) #[] #[]
def nU (k:Int):Option Nat:=if k=1 then R 45 else if k=2 then R 46 else if k=3 then R 47 else if k=4 then R 48 else if k=5 then R 49 else if k=6 then R 51 else if k=7 then R 52 else if k=8 then R 55 else if k=9 then R 57 else if k=10 then R 56 else if k=11 then R 58 else if k=12 then R 50 else if k=13 then R 59 else if k=14 then R 53 else if k=15 then R 54 else U
def ps (k:Int):Option Value:=(nU k).map Dw
theorem Dx (w:ab):Calls au 19 #[] w λe w'=>∃m n,e=aK (.map (R m))∧ej w' m ps n∧Below w.heap.size w w':=by
 have a9:=@run_makeMap au;have aP:=ej.new w;have aV:Mod (λ_=>False) w (w.alloc (.map #[] 0)):=(Mod.refl _ _).alloc _;have a:∀{c:ab} (b:Obj),Mod (λ_=>False) w c->Mod (λ_=>False) w (ef c w.heap.size b):=λb aZ=>aZ.trans (ru _ _ b) (λi a6 ak=>by subst ak;exact absurd a6 (by omega));obtain⟨d,a7,f⟩:=aP.put underlying58 underlying3 1 (.func (.func 45) #[] #[]);have h:=a d aV;generalize aC:ef (w.alloc (.map #[] 0)) w.heap.size d=a8 at a7 f h;obtain⟨j,ba,k⟩:=f.put underlying58 underlying3 2 (.func (.func 46) #[] #[]);have l:=a j h;generalize bI:ef a8 w.heap.size j=av at ba k l;obtain⟨o,ao,p⟩:=k.put underlying58 underlying3 3 (.func (.func 47) #[] #[]);have q:=a o l;generalize bL:ef av w.heap.size o=bb at ao p q;obtain⟨r,ag,s⟩:=p.put underlying58 underlying3 4 (.func (.func 48) #[] #[]);have t:=a r q;generalize bd:ef bb w.heap.size r=bf at ag s t;obtain⟨u,ax,v⟩:=s.put underlying58 underlying3 5 (.func (.func 49) #[] #[]);have y:=a u t;generalize be:ef bf w.heap.size u=bc at ax v y;obtain⟨z,bg,A⟩:=v.put underlying58 underlying3 12 (.func (.func 50) #[] #[]);have B:=a z y;generalize bN:ef bc w.heap.size z=bj at bg A B;obtain⟨D,an,E⟩:=A.put underlying58 underlying3 6 (.func (.func 51) #[] #[]);have F:=a D B;generalize bS:ef bj w.heap.size D=aw at an E F;obtain⟨G,bl,H⟩:=E.put underlying58 underlying3 7 (.func (.func 52) #[] #[]);have I:=a G F;generalize aM:ef aw w.heap.size G=bo at bl H I;obtain⟨J,bm,K⟩:=H.put underlying58 underlying3 14 (.func (.func 53) #[] #[]);have L:=a J I;generalize bi:ef bo w.heap.size J=ay at bm K L;obtain⟨M,bq,N⟩:=K.put underlying58 underlying3 15 (.func (.func 54) #[] #[]);have O:=a M L;generalize bT:ef ay w.heap.size M=bt at bq N O;obtain⟨P,ai,Q⟩:=N.put underlying58 underlying3 8 (.func (.func 55) #[] #[]);have S:=a P O;generalize aX:ef bt w.heap.size P=bw at ai Q S;obtain⟨T,aD,U⟩:=Q.put underlying58 underlying3 10 (.func (.func 56) #[] #[]);have V:=a T S;generalize bX:ef bw w.heap.size T=a0 at aD U V;obtain⟨W,bz,X⟩:=U.put underlying58 underlying3 9 (.func (.func 57) #[] #[]);have Y:=a W V;generalize bV:ef a0 w.heap.size W=a2 at bz X Y;obtain⟨Z,a3,aa⟩:=X.put underlying58 underlying3 11 (.func (.func 58) #[] #[]);have aq:=a Z Y;generalize b1:ef a2 w.heap.size Z=a4 at a3 aa aq;obtain⟨ac,a5,az⟩:=aa.put underlying58 underlying3 13 (.func (.func 59) #[] #[]);have ad:=a ac aq;generalize al:ef a4 w.heap.size ac=b3 at a5 az ad
 have bF:=C (az.congr (g:=ps) (λx=>by
  unfold ps nU Dw;simp only[nG];by_cases aB:x=1;·subst aB;rfl
  by_cases aA:x=2;·subst aA;rfl
  by_cases aG:x=3;·subst aG;rfl
  by_cases aL:x=4;·subst aL;rfl
  by_cases af:x=5;·subst af;rfl
  by_cases ae:x=6;·subst ae;rfl
  by_cases am:x=7;·subst am;rfl
  by_cases aN:x=8;·subst aN;rfl
  by_cases aj:x=9;·subst aj;rfl
  by_cases ap:x=10;·subst ap;rfl
  by_cases aQ:x=11;·subst aQ;rfl
  by_cases ah:x=12;·subst ah;rfl
  by_cases aR:x=13;·subst aR;rfl
  by_cases aS:x=14;·subst aS;rfl
  by_cases aU:x=15;·subst aU;rfl
  simp only[z0 aB,z0 aA,z0 aG,z0 aL,z0 af,z0 ae,z0 am,z0 aN,z0 aj,z0 ap,z0 aQ,z0 ah,z0 aR,z0 aS,z0 aU,if_false];rfl) rfl)
 have aO:=C ad.toBelow;go_enter func19,ntmps19;go_wp2;go_ret;exact⟨w.heap.size,rfl,⟨_,bF⟩,aO⟩
variable {W':ab} {v1:Value} {tmps:Array Value} {fn:Func}
theorem M4:(prog.info? 29).map (·.size)=R 2:=by kernel_rfl
theorem yb {p:Tmp} {w:ab} {T:Nat} {v0:Value} (h:fn.results=#[.cell p 29]) (a:tmps.getD p undef=af (R ⟨g,0,U⟩)) (b:w.heap[g]?=R (av #[v0,v1] T (0,0))):(results fn tmps).run au w= .ok (bk #[v0,v1]) w:=results_cell_row h tmps w g T _ _ _ a b underlying29 rfl M4
section
variable {ao w w':ab} {S:Nat->Prop} {L:bu} {s:aa} {k:Nat}
def sa (ao:ab) (S:Nat->Prop) (L:bu) (d:dO) (e:Ending) (w':ab):Prop:=e=aK (bk #[I J d.2.1,I J d.2.2])∧∃a,a.b=L.b∧ax ao S a d.1 w'
theorem M5 (d a b n m h:Int) (c:Int) (H:ax ao S L s w) (hk:s.Ok k) (bL:k<100000) (an:bA c s.groups) (h0:0<=c) (F:c+10000000000<=1000000000000000) (aw:0<=h∧h<18446744073709551616) (ae:∀f,nU d=R f->nb f∧∀(am W:ab) (p:Nat->Prop),ax am p L s W->Calls au f #[aX L.b,bk (cx d a b n m h)] W (mo am p L (s.event ⟨d,a,b,n,m,h⟩))) (aN:nU d=U->s.event ⟨d,a,b,n,m,h⟩=(s,0,1)) (ap:(s.event ⟨d,a,b,n,m,h⟩).2.2≠0->(s.event ⟨d,a,b,n,m,h⟩).1=s):Calls au 8 #[aX L.b,bk (cx d a b n m h)] w (sa ao S L (s.dP ⟨d,a,b,n,m,h⟩)):=by
 obtain⟨V,G⟩:=aW ((w.alloc (av (cx d a b n m h) 33)).alloc (av #[I J 0,I J 0] 29));have bl:Below w.heap.size w V:=G▸(bx _ _).alloc (by simp) _;have aQ:ak V w.heap.size (cx d a b n m h) 33:=G▸(ak.new w _ _).alloc _;have aR:ak V (w.heap.size+1) #[I J 0,I J 0] 29:=G▸(by have:=ak.new (w.alloc (av (cx d a b n m h) 33)) #[I J 0,I J 0] 29;simpa using this);obtain⟨p,aS,aU,bo⟩:=H.nS bl;have P:=C (λ(j:bu) (aP:aa) (w':ab) (y:ax V (λk=>p k∨k=w.heap.size+1) j aP w')=>bo j aP w' (y.lX (λk e=>e.elim .inl (λe=>.inr (by omega)))));have K:=C (show¬p (w.heap.size+1) fromλy=>by have:=(aS _ y).1;omega);have Q:=C aR.lt;have bm:∀k,p k->k<w.heap.size:=λk y=>(aS k y).1;have X:=C G;have t:=C (λ(W:ab) (j:bu) (r:aa) (o:Nat) (v:Value) (Y:ax V p j r W) (F:(cx d a b n m h)[o]?=R v)=>Y.kept bm (aQ.cell o F) zK9);have Z:=C (λ(W:ab) (j:bu) (r:aa) (Y:ax V p j r W)=>show ak W (w.heap.size+1) #[I J 0,I J 0] 29 from aR.mod Y.1 K.out);obtain⟨⟨M,ay,aq⟩,N⟩:∃bq,s.event ⟨d,a,b,n,m,h⟩=bq:=⟨_,rfl⟩;generalize l:s.dP ⟨d,a,b,n,m,h⟩=D;unfold aa.dP at l;have aV:=hk.event ⟨d,a,b,n,m,h⟩ aw;have aZ:=an.event h0 F ⟨d,a,b,n,m,h⟩;rw[N] at l ae aN ap aV aZ;have ac:=C l;have az:=C ae;have bt:=C aN;have ai:=C ap;have bw:=C (λ(W:ab) (j:bu) (aD:ax V p j M W)=>K2 aZ (by omega) F aD aV (by omega));have bd:=aQ.cell 0 (v:=I J d) rfl;unfold aX at*;obtain⟨be,a6⟩:=aW L.b;have a0:=C a6;rw[a6] at az⊢;unfold cx at X t az⊢;cases O:nU d with
 |none=>have ad:=C (show ps d=U by unfold ps;rw[O];rfl);have l:=ac.out;have N:=bt.out O;simp only[Prod.mk.injEq] at N;obtain⟨rfl,rfl,rfl⟩:=N;rw[aj (show(1:Int)≠0 by decide)] at l;have A:=C l;go_enter func8,ntmps8;go_upto_region 1 with fail;rw[X.out];go_region_held3 (λW'=>W'.cell? ⟨w.heap.size,0,U⟩=R (I J d)) (with_reducible repeat(first|assumption|refine b2 ?_)) (first|(go_at_call 19;refine(Dx _).mono ?_;rintro e q ⟨bz,a2,rfl,aB,aA⟩;have x:=aU.drew.next aA;have a3:=t.out q L M 0 (I J d) x rfl;have aG:=aB.A8 underlying58 underlying3 (z:=.nilFunc) (by kernel_rfl) d;rw[ad.out] at aG;have u:=C x;have i:=Z.out q L M x;have a7:=i.cell 0 (v:=I J 0) rfl;have a8:=i.cell 1 (v:=I J 0) rfl;have ba:=i.free 0;have bb:=i.free 1;have B:=C i));all_goals go_wp2_with fail;refine bodyPost_ret (yb (g:=w.heap.size+1) (T:=29) rfl rfl ((B.set 0 (I J 0)).set 1 (I J 1))) rfl ?_;rw[<-A.out];exact⟨rfl,L,rfl,P.out _ _ _ (u.out.out (nT _ _ _ _ _ _) K.out Q.out)⟩
 |some f=>have ad:=C (show ps d=R (.func (.func f) #[] #[]) by unfold ps;rw[O];rfl);obtain⟨a4,a5⟩:=az.out f O;have aK:=C a5;unfold nb at a4;go_enter func8,ntmps8;go_upto_region 1 with fail;rw[X.out];go_region_held3 (λW'=>W'.cell? ⟨w.heap.size,0,U⟩=R (I J d)) (with_reducible repeat(first|assumption|refine b2 ?_)) (first|(go_at_call 19;refine(Dx _).mono ?_;rintro e q ⟨bz,a2,rfl,aB,aA⟩;have x:=aU.drew.next aA;have a3:=t.out q L s 0 (I J d) x rfl;have aG:=aB.A8 underlying58 underlying3 (z:=.nilFunc) (by kernel_rfl) d;rw[ad.out] at aG;have u:=C x));all_goals
  have bN:=t.out q L s 1 (I J a) u.out rfl;have bS:=t.out q L s 2 (I J b) u.out rfl;have aM:=t.out q L s 3 (I J n) u.out rfl;have bi:=t.out q L s 4 (I J m) u.out rfl;have bT:=t.out q L s 5 (I ah h) u.out rfl;have bF:=C (aK.out V q p u.out);go_wp2_with fail;refine bF.mono ?_;rintro e ag ⟨rfl,j,aL,af⟩;have bf:=C aL;rw[a0.out] at aL;by_cases E:aq=0;·have l:=ac.out;rw[E,z0 (by decide)] at l;have A:=C l;have bc:=C (bw.out ag j af);rw[aL] at bc;subst E;go_wp2_with fail;refine bc.mono ?_;rintro e aO ⟨rfl,bg⟩;have i:=Z.out aO j _ bg;have a7:=i.cell 0 (v:=I J 0) rfl;have a8:=i.cell 1 (v:=I J 0) rfl;have ba:=i.free 0;have bb:=i.free 1;have B:=C i;have a9:=C bg;go_wp2_with fail;refine bodyPost_ret (yb (g:=w.heap.size+1) (T:=29) rfl rfl ((B.set 0 (I J ay)).set 1 (I J 0))) rfl ?_;rw[<-A.out];exact⟨rfl,j,bf.out,P.out _ _ _ (a9.out.out (nT _ _ _ _ _ _) K.out Q.out)⟩
  ·have l:=ac.out;rw[aj (E)] at l;have A:=C l;have bX:(aq !=0)=true:=(by simp[E]);have aC:=ai.out (E);have i:=Z.out ag j _ af;have a7:=i.cell 0 (v:=I J 0) rfl;have a8:=i.cell 1 (v:=I J 0) rfl;have ba:=i.free 0;have bb:=i.free 1;have B:=C i;have bI:=C (show M=s from aC);go_wp2_with fail;refine bodyPost_ret (yb (g:=w.heap.size+1) (T:=29) rfl rfl ((B.set 0 (I J 0)).set 1 (I J aq))) rfl ?_;rw[<-A.out];refine⟨rfl,j,bf.out,?_⟩;have bj:=af;rw[bI.out] at bj;exact P.out _ _ _ (bj.out (nT _ _ _ _ _ _) K.out Q.out)
end
section
variable {ao w w':ab} {S:Nat->Prop} {L:bu} {s:aa} {k:Nat}
theorem aa.Nc {e:gm} (h:nU e.kind=U) (s:aa):s.event e=(s,0,1):=by
 by_cases a:e.kind=1;·rw[a] at h;cases h
 by_cases b:e.kind=2;·rw[b] at h;cases h
 by_cases c:e.kind=3;·rw[c] at h;cases h
 by_cases d:e.kind=4;·rw[d] at h;cases h
 by_cases f:e.kind=5;·rw[f] at h;cases h
 by_cases g:e.kind=6;·rw[g] at h;cases h
 by_cases i:e.kind=7;·rw[i] at h;cases h
 by_cases j:e.kind=8;·rw[j] at h;cases h
 by_cases k:e.kind=9;·rw[k] at h;cases h
 by_cases l:e.kind=10;·rw[l] at h;cases h
 by_cases m:e.kind=11;·rw[m] at h;cases h
 by_cases n:e.kind=12;·rw[n] at h;cases h
 by_cases o:e.kind=13;·rw[o] at h;cases h
 by_cases p:e.kind=14;·rw[p] at h;cases h
 by_cases q:e.kind=15;·rw[q] at h;cases h
 unfold aa.event;rw[z0 a,z0 b,z0 c,z0 d,z0 f,z0 g,z0 i,z0 j,z0 k,z0 l,z0 m,z0 n,z0 o,z0 p,z0 q]
theorem aa.Nd (s:aa) (e:gm) (h:(s.event e).2.2≠0):(s.event e).1=s:=by
 revert h;have c:∀{p:Prop} [Decidable p] {a b:dO},(a.2.2≠0->a.1=s)->(b.2.2≠0->b.1=s)->((if p then a else b).2.2≠0->(if p then a else b).1=s):=by
  intro p _ a b i j;split;·exact i
  ·exact j
 have g:∀{r:aa} {n:Int},((r,n,(0:Int)):dO).2.2≠0->((r,n,(0:Int)):dO).1=s:=λh=>absurd rfl h;have d:∀{n f:Int},((s,n,f):dO).2.2≠0->((s,n,f):dO).1=s:=λ_=>rfl;unfold aa.event;refine c ?_ (c ?_ (c ?_ (c ?_ (c ?_ (c ?_ (c ?_ (c ?_ (c ?_ (c ?_ (c ?_ (c ?_ (c ?_ (c ?_ (c ?_ ?_))))))))))))))
 ·unfold aa.grow;split;·exact d
  ·exact c d (c d g)
 ·unfold aa.drop;split;·exact d
  ·exact c d (c d g)
 ·unfold aa.move;split;·exact c d (c d g)
  ·exact d
 ·unfold aa.shares;split;·exact d
  ·exact c d (c d g)
 ·unfold aa.lJ;split;·exact d
  ·exact c d (c d g)
 ·unfold aa.spawn;split;·exact d
  ·exact c d (c d (c d (c d g)))
 ·unfold aa.k0;split;·exact d
  ·exact c d g
 ·unfold aa.block;exact c d (c d g)
 ·unfold aa.yield;exact c d (c d g)
 ·unfold aa.exit;refine c d (c d ?_);split;·exact d
  ·exact g
 ·unfold aa.tick;refine c d (c d (c g ?_));split;·exact d
  ·exact c d (c g g)
 ·unfold aa.gy;split;·exact d
  ·exact c d g
 ·unfold aa.pull;exact c d (c d (c d g))
 ·unfold aa.nice;split;·exact d
  ·exact c d (c d (c g g))
 ·unfold aa.mask;split;·exact d
  ·exact c d (c g g)
 ·exact d
theorem Nf (h a b n m g:Int) (p:0<=g∧g<18446744073709551616) (hk:s.Ok k) (q:k<100000) {f:Nat} (i:nU h=R f):nb f∧∀(j W:ab) (l:Nat->Prop),ax j l L s W->Calls au f #[aX L.b,bk (cx h a b n m g)] W (mo j l L (s.event ⟨h,a,b,n,m,g⟩)):=by
 have o:k<=100000:=by omega
 by_cases r:h=1;·subst r;cases i;refine⟨enters_of func45 (by kernel_rfl) rfl,λj W l c=>?_⟩;exact(Nb _ a b n m g c hk q)
 by_cases t:h=2;·subst t;cases i;refine⟨enters_of func46 (by kernel_rfl) rfl,λj W l c=>?_⟩;exact(MA _ a b n m g c hk o).mono (λe w' d=>d.kM)
 by_cases u:h=3;·subst u;cases i;refine⟨enters_of func47 (by kernel_rfl) rfl,λj W l c=>?_⟩;exact(Mq _ a b n m g c hk o).mono (λe w' d=>d.kM)
 by_cases v:h=4;·subst v;cases i;refine⟨enters_of func48 (by kernel_rfl) rfl,λj W l c=>?_⟩;exact(K3 _ a b n m g c hk)
 by_cases w:h=5;·subst w;cases i;refine⟨enters_of func49 (by kernel_rfl) rfl,λj W l c=>?_⟩;exact(Lx _ a b n m g c hk).mono (λe w' d=>d.kM)
 by_cases x:h=6;·subst x;cases i;refine⟨enters_of func51 (by kernel_rfl) rfl,λj W l c=>?_⟩;exact(M7 _ a b n m g p c hk q)
 by_cases y:h=7;·subst y;cases i;refine⟨enters_of func52 (by kernel_rfl) rfl,λj W l c=>?_⟩;exact(Ls _ a b n m g c hk o).mono (λe w' d=>d.kM)
 by_cases z:h=8;·subst z;cases i;refine⟨enters_of func55 (by kernel_rfl) rfl,λj W l c=>?_⟩;exact(Cv _ a b n m g c hk).mono (λe w' d=>d.kM)
 by_cases A:h=9;·subst A;cases i;refine⟨enters_of func57 (by kernel_rfl) rfl,λj W l c=>?_⟩;exact(K9 _ a b n m g c hk).mono (λe w' d=>d.kM)
 by_cases B:h=10;·subst B;cases i;refine⟨enters_of func56 (by kernel_rfl) rfl,λj W l c=>?_⟩;exact(K8 _ a b n m g c hk).mono (λe w' d=>d.kM)
 by_cases C:h=11;·subst C;cases i;refine⟨enters_of func58 (by kernel_rfl) rfl,λj W l c=>?_⟩;exact(Ma _ a b n m g c hk o).mono (λe w' d=>d.kM)
 by_cases D:h=12;·subst D;cases i;refine⟨enters_of func50 (by kernel_rfl) rfl,λj W l c=>?_⟩;exact(K4 _ a b n m g c hk)
 by_cases E:h=13;·subst E;cases i;refine⟨enters_of func59 (by kernel_rfl) rfl,λj W l c=>?_⟩;exact(MP _ a b n m g c hk o).mono (λe w' d=>d.kM)
 by_cases F:h=14;·subst F;cases i;refine⟨enters_of func53 (by kernel_rfl) rfl,λj W l c=>?_⟩;exact(Lu _ a b n m g c hk).mono (λe w' d=>d.kM)
 by_cases G:h=15;·subst G;cases i;refine⟨enters_of func54 (by kernel_rfl) rfl,λj W l c=>?_⟩;exact(Lt _ a b n m g p c hk o).mono (λe w' d=>d.kM)
 unfold nU at i;rw[z0 r,z0 t,z0 u,z0 v,z0 w,z0 x,z0 y,z0 z,z0 A,z0 B,z0 C,z0 D,z0 E,z0 F,z0 G] at i;cases i
theorem Ng (g a b n m d:Int) (c:Int) (H:ax ao S L s w) (hk:s.Ok k) (i:k<100000) (l:bA c s.groups) (h0:0<=c) (o:c+10000000000<=1000000000000000) (j:0<=d∧d<18446744073709551616):Calls au 8 #[aX L.b,bk (cx g a b n m d)] w (sa ao S L (s.dP ⟨g,a,b,n,m,d⟩)):=M5 g a b n m d c H hk i l h0 o j (λf p=>Nf g a b n m d j hk i p) (λh=>aa.Nc (e:=⟨g,a,b,n,m,d⟩) h s) (λh=>s.Nd _ h)
end
structure aa.In (k:Nat) (s:aa):Prop where
 ok:s.Ok k
 DA:bA (10000000000*(k:Int)) s.groups
def nf (e:gm):Prop:=0<=e.mask∧e.mask<18446744073709551616
def Nh (e:gm):Value:=bk #[I J e.kind,I J e.a,I J e.b,I J e.n,I J e.m,I ah e.mask]
section
variable {ao w w':ab} {S:Nat->Prop} {L:bu} {s:aa} {k:Nat}
theorem aa.In.dP (h:s.In k) (hk:k<90000) (e:gm) (a:nf e):(s.dP e).1.In (k+1):=by refine⟨h.ok.dP e a,?_⟩;have b:=h.DA.dP (by omega) (by omega) e;rw[show 10000000000*((k+1:Nat):Int)=10000000000*(k:Int)+10000000000 by push_cast;omega];exact b
theorem DB (e:gm) (c:nf e) (H:ax ao S L s w) (h:s.In k) (hk:k<90000):Calls au 8 #[aX L.b,Nh e] w (sa ao S L (s.dP e)):=Ng e.kind e.a e.b e.n e.m e.mask _ H h.ok (by omega) h.DA (by omega) (by omega) c
end
section
variable {ao w w':ab} {S:Nat->Prop} {L:bu} {s:aa} {k:Nat}
theorem ax.DC {n0:Nat} (H:ax ao S L s w) (d:Mod Z w w') (n:∀k,Z k->¬S k∧k<ao.heap.size∧n0<=k):∃h:Nat->Prop,(∀k,h k->k<w.heap.size∧¬Z k)∧ax w' h L s w'∧∀(j:bu) (l:aa) (m:ab),ax w' (λk=>h k∨n0<=k) j l m->ax ao (λk=>S k∨n0<=k) j l m:=by
 obtain⟨o,tag,H⟩:=H;have y:=o.size;have z:=d.size;have p:∀b,Z b->tag b= .no:=λb t=>by
  by_cases e:tag b= .no;·exact e
  ·have:=n b t;rcases H.own b (by omega) e with a|a;·exact absurd a this.1
   ·omega
 refine⟨λk=>tag k≠ .no∧k<w.heap.size,λk a=>⟨a.2,λe=>a.1 (p k e)⟩,hZ.start (tag:=fQ w tag .no) ⟨λa=>?_,λk c e=>?_⟩,?_⟩
 ·by_cases q:a= .no;·subst q;trivial
  ·refine(H.part a).frame d (λk e f=>q (by rw[<-e,p k f])) (λk c e=>by unfold fQ;rw[aj c];exact e)
 ·unfold fQ at e;split at e;·rename_i a;exact⟨e,a⟩
  ·exact absurd rfl e
 ·rintro j l m ⟨u,v,r⟩;refine⟨((o.mono (λk _ a=>.inl a)).trans d (λi _ a=>.inr (n i a).2.2)).trans u (λi x a=>?_),v,r.part,λk c e=>?_⟩
  ·rcases a with a|a
   ·rcases H.own i a.2 a.1 with g|g;·exact .inl g
    ·exact absurd x (by omega)
   ·exact .inr a
  ·rcases r.own k c e with a|a
   ·rcases a with a|a
    ·rcases H.own k a.2 a.1 with g|g;·exact .inl (.inl g)
     ·exact .inr g
    ·exact .inl (.inr a)
   ·exact .inr (by omega)
end
def qk:cd (Int×Int):=⟨2,λp=>[I J p.1,I J p.2],λ_=>rfl,λe u h=>by simp at h;rcases h with rfl|rfl<;>rfl,by decide⟩
theorem Ni:iv qk 95 29 16:=⟨underlying95,⟨.agg #[.int .i64 0,.int .i64 0],by kernel_rfl,rfl⟩,by decide⟩
theorem DD:∀(l m:List gm) (s:aa),fm (l++m) s=((fm l s).1++(fm m (fm l s).2).1,(fm m (fm l s).2).2)
 |[],m,s=>by simp[fm]
 |e::l,m,s=>by show((s.dP e).2::(fm (l++m) (s.dP e).1).1,(fm (l++m) (s.dP e).1).2)=_;rw[DD l m];rfl
theorem uN:∀(l:List gm) (s:aa) (k:Nat),s.In k->k+l.length<90000->(∀e∈l,nf e)->(fm l s).2.In (k+l.length)
 |[],s,k,h,_,_=>h
 |e::l,s,k,h,hk,he=>by have a:=h.dP (by simp at hk;omega) e (he e e5);have:=uN l _ (k+1) a (by simp at hk;omega) (λx b=>he x (hK _ b));rw[show k+(e::l).length=k+1+l.length by simp;omega];exact this
theorem ax.Nj {ao w:ab} {L:bu} {s:aa} (H:ax ao (λk=>False∨ao.heap.size<=k) L s w):ax ao (λ_=>False) L s w:=by obtain⟨b,c,d⟩:=H;exact⟨b.mono (λk e a=>a.elim id (λa=>by omega)),c,d.mono (λk a=>a.elim (λa=>a.elim .inl .inr) .inr)⟩
theorem DE {l:List bQ} {x:bQ} (h:l[j]?=R x) (s:aa):fm ((l.take (j+1)).map er) s=((fm ((l.take j).map er) s).1++[((fm ((l.take j).map er) s).2.dP (er x)).2],((fm ((l.take j).map er) s).2.dP (er x)).1):=by rw[gL,h,lY,iI,DD];rfl
theorem Nk {ao w:ab} {L:bu} {s:aa} {k:Nat} (l:List bQ) (v:Value) (B:Nat) (ba:∀e∈l,nf (er e)) (bb:l.length<=1000) (az:Own jf ao B 33 v l.length l) (H:ax ao (λ_=>False) L s w) (ag:s.In k) (hk:k+1000<90000):Calls au 30 #[aX L.b,v] w λe w'=>∃ad,e=aK ad∧Own qk w' 0 29 ad l.length (fm (l.map er) s).1∧∃f,f.b=L.b∧ax ao (λ_=>False) f (fm (l.map er) s).2 w':=by
 obtain⟨a,cap,rfl⟩:=az.mV;have M:=C az;have bf:=C ag;have aB:=C ba;obtain⟨n,aA⟩:=aW l.length;have N:=C aA;unfold aX;obtain⟨aG,aL⟩:=aW L.b;have bc:=C aL;rw[aA] at bb M⊢;rw[aL];go_enter func30,ntmps30;go_wp2_with fail;go_loopw [5,10] (λu5 u W=>∃j:Nat,j<=n∧u=I J (j:Int)∧∃(i:ab) (q:Nat->Prop) (r:bu),Own qk i 0 29 u5 j (fm ((l.take j).map er) s).1∧r.b=aG∧ax i q r (fm ((l.take j).map er) s).2 W∧(∀g,u5.ownBlock=R g->¬q g∧g<i.heap.size∧ao.heap.size<=g)∧∀(f:bu) (D:aa) (w':ab),ax i (λk=>q k∨ao.heap.size<=k) f D w'->ax ao (λ_=>False) f D w') (λ_ u _=>n-(intOf u).toNat);case atStart=>exact⟨0,by omega,rfl,ao,λ_=>False,L,Own.nil _ _ _,bc.out,H,λg e=>(by cases e),λf D w' c=>c.Nj⟩
 case round=>
  obtain⟨j,b9,rfl,i,q,r,E,bg,t,bj,ae⟩:=hrel;have O:=C E;have P:=C bg;have F:=C bj;have Q:=C ae;have an:Mod (λ_=>False) ao wr:=(ae _ _ _ (t.lX (λk c=>.inl c))).1;by_cases aw:j<n
  ·obtain⟨x,am⟩:∃x,l[j]?=R x:=⟨_,b5 (by rw[N.out];exact aw)⟩;have aN:=C am;obtain⟨g,aY,aj,bl⟩:=M.form (by omega);simp only[Value.slice.injEq] at aj;obtain⟨rfl,_,rfl⟩:=aj;have o:∀(c:Nat) (u:Value),(jf.e x)[c]?=R u->wr.cell? ⟨g,j*6+c,U⟩=R u:=λc u z=>an.cell (M.at_ am z) bl id;have bv:wr.cell? ⟨g,j*6,U⟩=R (I J x.k):=o 0 (I J x.k) rfl;have a1:=o 1 (I J x.a) rfl;have cc:=o 2 (I J x.b) rfl;have cf:=o 3 (I J x.n) rfl;have cg:=o 4 (I J x.m) rfl;have cj:=o 5 (I ah (x.s:Int)) rfl;have cm:(j:Int)<(n:Int):=(by omega);have cn:(0:Int)<=(j:Int):=(by omega);have b8:(j:Int).toNat=j:=(by omega);go_upto_region 5 with fail;obtain⟨A,S⟩:∃A,wr.alloc (av #[I J x.k,I J x.a,I J x.b,I J x.n,I J x.m,I ah (x.s:Int)] 33)=A:=⟨_,rfl⟩;rw[S];have bo:Below wr.heap.size wr A:=S▸bx _ _;have p:ak A wr.heap.size #[I J x.k,I J x.a,I J x.b,I J x.n,I J x.m,I ah (x.s:Int)] 33:=S▸ak.new _ _ _;have bm:=p.cell 0 (v:=I J x.k) rfl;have bq:=p.cell 1 (v:=I J x.a) rfl;have bt:=p.cell 2 (v:=I J x.b) rfl;have ai:=p.cell 3 (v:=I J x.n) rfl;have bw:=p.cell 4 (v:=I J x.m) rfl;have aD:=p.cell 5 (v:=I ah (x.s:Int)) rfl;have ap:(l.take j).length=j:=(by rw[iG,N.out];omega);have a0:=uN ((l.take j).map er) s k bf.out (by rw[dY,ap];have:=hk;omega) (λe bz=>by obtain⟨y,a2,rfl⟩:=eY.1 bz;exact aB.out y (List.mem_of_mem_take a2));have a3:Calls au 8 #[af (R ⟨aG,0,U⟩),bk #[I J x.k,I J x.a,I J x.b,I J x.n,I J x.m,I ah (x.s:Int)]] A (sa i q r ((fm ((l.take j).map er) s).2.dP (er x))):=(by have T:=DB (er x) (aB.out x (ea aN.out)) (t.next bo) a0 (by rw[dY,ap];have:=hk;omega);unfold aX at T;rw[P.out] at T;exact T);have V:=C a3;have G:=C (DE aN.out s);obtain⟨aQ,a4⟩:∃x,fm ((l.take j).map er) s=x:=⟨_,rfl⟩;rw[a4] at t V O G;obtain⟨d,a5⟩:∃d,aQ.2.dP (er x)=d:=⟨_,rfl⟩;rw[a5] at G V;obtain⟨cr,aR⟩:∃x,wr.heap.size=x:=⟨_,rfl⟩;rw[aR] at bm bq bt ai bw aD;simp only[aR];go_wp2_with fail;refine V.mono ?_;rintro e h ⟨rfl,aS,bF,X⟩;have aO:=C bF;have aU:=O.mod X.1 (λg e=>(F.out g e).1);have a9:=C (aU.alloc (av #[I J d.2.1,I J d.2.2] 29));have aC:=C (show∀c u,(qk.e d.2)[c]?=R u->(h.alloc (av #[I J d.2.1,I J d.2.2] 29)).cell? ⟨h.heap.size,c,U⟩=R u fromλc u z=>dz.trans (by rw[<-z];show([I J d.2.1,I J d.2.2]:List Value).toArray[c]?=_;rw[fg];rfl));have bI:0<=(h.alloc (av #[I J d.2.1,I J d.2.2] 29)).heap.size:=gN _;have bL:j<=10000000:=(by omega);have bd:=C (aU.mV);obtain⟨Y,Z,rfl⟩:=bd.out;go_upto_region 6 with((at_builtin;refine jB Ni rfl _ _ rfl 0 _ j aQ.1 rfl a9.out h.heap.size _ d.2 rfl aC.out bL bI ?_;intro aq u9 be bN bS;have aM:=C (show Grow _ u9 (ay Y j Z) aq from Grow.gR bN bS);have aP:=C be));have aV:=aM.out;have bi:Mod (λk=>(ay Y j Z).ownBlock=R k) h u9:=((Mod.refl _ h).alloc _).grow aV (λg e=>e);obtain⟨ac,aZ,bT,bX⟩:=X.DC (n0:=ao.heap.size) bi (λg e=>F.out g e);have bV:=Q.out _ _ _ (X.lX (λk c=>.inl c));have bB:=bV.1.size;have b1:∀c,aq.ownBlock=R c->¬ac c∧c<u9.heap.size∧ao.heap.size<=c:=λc e=>by
    have a6:=(aP.lt c e).2;rcases aV.loc with K|⟨bW,K,z⟩;·have a7:(ay Y j Z).ownBlock=R c:=(by rw[<-K];exact e);exact⟨λy=>(aZ c y).2 a7,a6,(F.out c a7).2.2⟩
    ·rw[e] at K;cases K;have cu:h.heap.size<c:=dd (by simp) z;exact⟨λy=>by have:=(aZ c y).1;omega,a6,by omega⟩
   have al:=C (show Own qk u9 0 29 aq (j+1) (fm ((l.take (j+1)).map er) s).1 from by rw[G.out];exact aP.out);have b3:=C (show ax u9 ac aS (fm ((l.take (j+1)).map er) s).2 u9 from by rw[G.out];exact bT);have b6:=C b1;have bR:=C bX;go_wp2_with fail;go_roundw;case rel=>exact⟨j+1,by omega,by go_num,u9,ac,aS,al.out,aO.trans P.out,b3.out,b6.out,λf D w' c=>Q.out _ _ _ (bR.out _ _ _ c)⟩
   case measure=>simp[intOf];omega
  ·obtain rfl:j=n:=by omega
   have bs:=C (show l.take j=l by rw[<-N.out,hL]);have E:=O.mod t.1 (λg e=>(F.out g e).1);have a8:=Q.out _ _ _ (t.lX (λk c=>.inl c));rw[bs.out] at E a8;go_wp2_with fail;go_ret;exact⟨_,rfl,E,r,P.out,a8⟩
theorem Py (v0 v1 v2 v3 v4 v5 a b:Value) (w:ab):(Instr.field 39 (bk #[v0,v1,v2,v3,v4,v5,a,b]) 3).run au w= .ok v3 w:=by kernel_rfl
def nV (z:List Int):hT:=⟨1+(a_ z 0%8).toNat,1+a_ z 1,a_ z 2,a_ z 3,1+(a_ z 4).toNat⟩
structure sb (z:List Int):Prop where
 len:z.length=5
 at_:∀i,0<=a_ z i∧a_ z i<65536
theorem sb.rt {z:List Int} (h:sb z):(nV z).Good:=by have a:=h.at_ 0;have b:=h.at_ 1;have c:=h.at_ 2;have d:=h.at_ 3;have e:=h.at_ 4;constructor<;>(unfold nV;dsimp only;omega)
def sc (z:List Int):Value:=bk #[I .u16 (a_ z 0),I .u16 (a_ z 1),I .u16 (a_ z 2),I .u16 (a_ z 3),I .u16 (a_ z 4)]
theorem ym {c:hT} (h:c.Good):(aa.new c).In 0:=⟨aa.qR h.aO h.tick h.iq.2,bA.new c⟩
theorem NM (z:List Int) (h:sb z) (w:ab):Calls au 7 #[sc z] w λe w'=>∃L:bu,e=aK (aX L.b)∧ax w (λ_=>False) L (aa.new (nV z)) w':=by
 obtain⟨V,p⟩:=aW (w.alloc (av #[I .u16 (a_ z 0),I .u16 (a_ z 1),I .u16 (a_ z 2),I .u16 (a_ z 3),I .u16 (a_ z 4)] 23));have a:ak V w.heap.size #[I .u16 (a_ z 0),I .u16 (a_ z 1),I .u16 (a_ z 2),I .u16 (a_ z 3),I .u16 (a_ z 4)] 23:=p▸ak.new _ _ _;have q:=C (show Below w.heap.size w V from p▸bx _ _);have r:=C p;have x:=h.at_ 0;have y:=h.at_ 1;have A:=h.at_ 2;have B:=h.at_ 3;have D:=h.at_ 4;have l:=C (DK (nV z) h.rt V);unfold qm nV at l;dsimp only at l;obtain⟨n,c⟩:=aW (a_ z 0);obtain⟨s,d⟩:=aW (a_ z 1);obtain⟨t,f⟩:=aW (a_ z 2);obtain⟨u,g⟩:=aW (a_ z 3);obtain⟨o,j⟩:=aW (a_ z 4);have E:=C (br c (br d (br f (br g j))));unfold sc;rw[c,d,f,g,j] at l r a;rw[c,d,f,g,j];rw[c] at x;rw[d] at y;rw[f] at A;rw[g] at B;rw[j] at D;rw[show(((1+(n%8).toNat:Nat)):Int)=1+n%8 by omega,show(((1+o.toNat:Nat)):Int)=1+o by omega] at l;have N:=a.cell 0 (v:=I .u16 n) rfl;have O:=a.cell 1 (v:=I .u16 s) rfl;have P:=a.cell 2 (v:=I .u16 t) rfl;have Q:=a.cell 3 (v:=I .u16 u) rfl;have R:=a.cell 4 (v:=I .u16 o) rfl;go_enter func7,ntmps7;go_upto_region 1 with fail;rw[r.out];go_wp2_with fail;refine l.mono ?_;rintro e S ⟨L,rfl,F⟩;generalize G:aX L.b=T;have H:=C G;go_wp2_with fail;go_ret;refine⟨L,by rw[H.out];rfl,?_⟩;obtain⟨J,K,h⟩:=F;obtain⟨c,d,f,g,j⟩:=E;have M:nV z=⟨1+(n%8).toNat,1+s,t,u,1+o.toNat⟩:=by unfold nV;rw[c,d,f,g,j]
 rw[M];exact⟨(zF9 q).trans J (λi _ m=>m),K,h.mono (λk m=>m.elim .inl (λm=>.inr (cA q.size m)))⟩
def uU:aa:=(fm q_ (aa.new mK)).2
def pv:List (Int×Int):=(fm q_ (aa.new mK)).1
theorem NN:uQ uU 1=10:=by decide+kernel
theorem NO:uU.book.tasks 1=10:=GN
theorem uV {x:Int} (h:(pv.map (·.1))[j]?=R x):∃y,pv[j]?=R (x,y):=by rw[dD] at h;obtain⟨⟨a,b⟩,c,rfl⟩:=h9.1 h;exact⟨b,c⟩
theorem yn:mK.Good:=⟨by decide,by decide,by decide,by decide,by decide⟩
theorem DL:∀e∈oI,nf (er e):=by intro e a;unfold oI at a;simp only[gZ,List.not_mem_nil,or_false] at a;rcases a with rfl|rfl|rfl|rfl|rfl|rfl|rfl<;>(unfold nf er;dsimp only;omega)
theorem NP:bh (str oH)=oH:=by kernel_rfl
theorem NQ (w:ab) (c:fh w):Calls au 29 #[.string (str oH)] w λe w'=>∃a cap,e=aK (bC #[ay a 7 cap,I J 0,I J 0])∧Own jf w' w.heap.size 33 (ay a 7 cap) 7 oI∧Below w.heap.size w w':=by
 have d:(str oH).size<=100000000:=by
  have:(str oH).size=84:=by kernel_rfl
  omega
 refine(FC (str oH) w c d).mono ?_;rintro e w' ⟨v,rfl,b,f⟩;rw[NP,GO] at*;obtain⟨a,cap,rfl⟩:=b.mV;exact⟨a,cap,rfl,b,f⟩
theorem DM (w:ab) (z:fh w):Calls au 13 #[] w λe w'=>e=aK (aD true)∧Below w.heap.size w w':=by
 have A:=C (NQ w z);have l:=C (λ(W:ab)=>DK mK yn W);unfold qm mK at l;dsimp only at l;go_enter func13,ntmps13;go_wp2_with fail;refine A.mono ?_;rintro e m ⟨B,D,rfl,E,F⟩;go_wp2_with fail;refine(l m).mono ?_;rintro e G ⟨L,rfl,H⟩;have K:=C (show ax m (λ_=>False) L (aa.new mK) G from H);have n:=Nk oI (ay B 7 D) w.heap.size DL (by decide) E K (ym yn) (by omega);unfold aX at n;obtain⟨aG,s⟩:=aW L.b;unfold aX;rw[s] at n;simp only[s];have M:=C n;go_wp2_with fail;refine M.mono ?_;rintro e a ⟨N,rfl,t,O,P,u⟩;rw[Av] at t u;have c:Own qk a 0 29 N 7 pv:=t;obtain⟨f,aL,rfl,af⟩:=c.form (by omega);have o:uU.Ok 7:=by have v:=uN (oI.map er) (aa.new mK) 0 (ym yn) (by decide) (λe Q=>by obtain⟨y,S,rfl⟩:=eY.1 Q;exact DL y S);rw[Av] at v;exact v.ok
 have g:ax m (λ_=>False) O uU a:=u;have h:=GM;obtain⟨ae,T⟩:=uV (j:=3) (x:=0) (by unfold pv;rw[h];rfl);obtain⟨am,V⟩:=uV (j:=4) (x:=1) (by unfold pv;rw[h];rfl);obtain⟨aN,X⟩:=uV (j:=5) (x:=0) (by unfold pv;rw[h];rfl);obtain⟨aj,Y⟩:=uV (j:=6) (x:=1) (by unfold pv;rw[h];rfl);have ap:a.cell? ⟨f,6,U⟩=R (I J 0):=c.at_ T (q:=0) rfl;have aQ:a.cell? ⟨f,8,U⟩=R (I J 1):=c.at_ V (q:=0) rfl;have ah:a.cell? ⟨f,10,U⟩=R (I J 0):=c.at_ X (q:=0) rfl;have aR:a.cell? ⟨f,12,U⟩=R (I J 1):=c.at_ Y (q:=0) rfl;have d:=Nw 1 g o;unfold uR at d;rw[NN] at d;have k:=λ(Z:ab) (aq:Below a.heap.size a Z)=>uP 1 (g.next aq) o;obtain⟨aS,aU,aP,aV,aZ,a6,ac⟩:=Nx 1 g o;rw[ac,NO] at k;unfold aX at d k;rw[P] at d k;have az:=C d;have ad:=C k;have p:=C (show Below w.heap.size w a from((zF9 F).trans g.1 (λi _ q=>q)).toBelow);have ak:=Nu;have a7:=Nv;go_wp2_with fail;refine az.mono ?_;rintro e aB ⟨rfl,r⟩;go_wp2_with fail;refine(ad aB r).mono ?_;rintro e a8 ⟨rfl,aA⟩;go_wp2_with fail;go_ret;exact⟨rfl,(p.trans (r.mono p.size)).trans (aA.mono (cA p.size r.size))⟩
variable {zs:List Int}
def Qw:List gm->aa->Int
 |[],_=>0
 |e::l,s=>Qa e (s.dP e)+Qw l (s.dP e).1
theorem PD:∀(l m:List gm) (s:aa),Qw (l++m) s=Qw l s+Qw m (fm l s).2
 |[],m,s=>by simp[Qw,fm]
 |e::l,m,s=>by show Qa e (s.dP e)+Qw (l++m) (s.dP e).1=Qa e (s.dP e)+Qw l (s.dP e).1+Qw m (fm l (s.dP e).1).2;rw[PD l m];omega
theorem PE:∀(l:List gm) (s:aa) (k:Nat) (a:Int),s.In k->k+l.length<90000->(∀e∈l,nf e)->OG s a->a+(l.length:Int)*1000000000<=9000000000000000000->OG (fm l s).2 (a+Qw l s)∧0<=Qw l s∧Qw l s<=(l.length:Int)*1000000000
 |[],s,k,a,_,_,_,b,_=>⟨by show OG s (a+0);rw[Int.add_zero];exact b,jw _,by simp[Qw]⟩
 |e::l,s,k,a,aV,hk,he,b,d=>by
  have c:(((e::l).length:Nat):Int)=(l.length:Int)+1:=by simp
  rw[c] at d;obtain⟨f,i,j⟩:=aV.ok.Pv e (he e e5) b (by omega);have m:=aV.ok.tick;have g:=PE l (s.dP e).1 (k+1) (a+Qa e (s.dP e)) (aV.dP (by simp at hk;omega) e (he e e5)) (by simp at hk;omega) (λx h=>he x (hK _ h)) f (by omega);rw[c];show OG (fm l (s.dP e).1).2 (a+(Qa e (s.dP e)+Qw l (s.dP e).1))∧0<=Qa e (s.dP e)+Qw l (s.dP e).1∧Qa e (s.dP e)+Qw l (s.dP e).1<=_;rw[<-Int.add_assoc];exact⟨g.1,by omega,by omega⟩
theorem Pf {f:Int->Int} (h:∀n:Nat,0<=f n):∀(m n:Nat),n<=m->0<=nD f n∧nD f n<=nD f m
 |0,n,a=>by
  obtain rfl:n=0:=by omega
  exact⟨jw _,jw _⟩
 |m+1,n,a=>by
  by_cases e:n=m+1;·subst e;have:=Pf h m m zK9;have b:=h m;exact⟨by show 0<=nD f m+f m;omega,jw _⟩
  ·have:=Pf h m n (by omega);have b:=h m;exact⟨this.1,by show nD f n<=nD f m+f m;omega⟩
def pw (zs:List bQ) (c:hT) (i:Nat):aa:=(fm ((zs.take i).map er) (aa.new c)).2
def Qx (zs:List bQ) (c:hT) (i:Nat):Int:=Qw ((zs.take i).map er) (aa.new c)
section
variable {zs:List bQ} {c:hT} {i:Nat} {x:bQ}
theorem NR (h:∀e∈zs,e.Ok):∀e∈(zs.take i).map er,nf e:=λe a=>by obtain⟨y,b,rfl⟩:=eY.1 a;have:=(h y (List.mem_of_mem_take b)).s;exact⟨by show(0:Int)<=(y.s:Int);omega,by show(y.s:Int)<_;omega⟩
theorem NS (h:∀e∈zs,e.Ok) (a:zs[i]?=R x):nf (er x):=by have:=(h x (ea a)).s;exact⟨by show(0:Int)<=(x.s:Int);omega,by show(x.s:Int)<_;omega⟩
theorem NT (a:c.Good) (h:∀e∈zs,e.Ok) (b:i<=1000):(pw zs c i).In ((zs.take i).map er).length:=by have:=uN ((zs.take i).map er) (aa.new c) 0 (ym a) (by rw[dY,iG];omega) (NR h);rw[lZ] at this;exact this
theorem NU:((zs.take i).map er).length<=i:=by rw[dY,iG];omega
theorem NV (a:zs[i]?=R x):pw zs c (i+1)=((pw zs c i).dP (er x)).1:=by unfold pw;rw[DE a]
theorem PU (a:zs[i]?=R x):Qx zs c (i+1)=Qx zs c i+Qa (er x) ((pw zs c i).dP (er x)):=by unfold Qx pw;rw[gL,a,lY,iI,PD];simp[Qw]
theorem Pk (a:c.Good) (h:∀e∈zs,e.Ok) (b:i<=1000):OG (pw zs c i) (Qx zs c i)∧0<=Qx zs c i∧Qx zs c i<=1000000000000:=by have d:=NU (zs:=zs) (i:=i);have:=PE ((zs.take i).map er) (aa.new c) 0 0 (ym a) (by omega) (NR h) (OG.new c) (by omega);rw[Int.zero_add] at this;exact⟨this.1,this.2.1,by unfold Qx;have:=this.2.2;omega⟩
theorem DN {len:Nat} (h:yo w a len cap zs) (l:Mod (λ_=>False) w W) (g:zs[i]?=R x):∃c d,a=R ⟨c,d,U⟩∧W.cell? ⟨c,d+i*6,U⟩=R (I J x.k)∧W.cell? ⟨c,d+i*6+1,U⟩=R (I J x.a)∧W.cell? ⟨c,d+i*6+2,U⟩=R (I J x.b)∧W.cell? ⟨c,d+i*6+3,U⟩=R (I J x.n)∧W.cell? ⟨c,d+i*6+4,U⟩=R (I J x.m)∧W.cell? ⟨c,d+i*6+5,U⟩=R (I ah (x.s:Int)):=by obtain⟨_,_,j,_⟩:=h;have r:=(bD.1 g).1;have t:=j.1;obtain⟨c,d,rfl,o,p⟩:=j.cells (by omega);have k:∀(f:Nat) (u:Value),(jf.e x)[f]?=R u->W.cell? ⟨c,d+(i*6+f),U⟩=R u:=λf u q=>l.cell (p i x g f u q) o id;exact⟨c,d,rfl,k 0 _ rfl,k 1 _ rfl,k 2 _ rfl,k 3 _ rfl,k 4 _ rfl,k 5 _ rfl⟩
end
variable {ar:Array Value}
theorem topLedger_any (z:List Int) (bX:sb z) (a:Option Addr) (len cap:Nat) (zs:List bQ) (w:ab) (bV:yo w a len cap zs) (b1:fh w):Calls au 3 #[sc z,ay a len cap] w λe w'=>e=aK (aD true)∧Below w.heap.size w w':=by
 obtain⟨V,a3⟩:∃V,w.alloc (av #[I .u16 (a_ z 0),I .u16 (a_ z 1),I .u16 (a_ z 2),I .u16 (a_ z 3),I .u16 (a_ z 4)] 23)=V:=⟨_,rfl⟩;have aj:ak V w.heap.size #[I .u16 (a_ z 0),I .u16 (a_ z 1),I .u16 (a_ z 2),I .u16 (a_ z 3),I .u16 (a_ z 4)] 23:=a3▸ak.new _ _ _;have bm:=C (show Below w.heap.size w V from a3▸bx _ _);have al:=C a3;have a4:=C (NM z bX V);have P:=C bX.rt;unfold sc at*;obtain⟨cc,cf⟩:∃x,a_ z 0=x:=⟨_,rfl⟩;obtain⟨cg,cj⟩:∃x,a_ z 1=x:=⟨_,rfl⟩;obtain⟨cm,a5⟩:∃x,a_ z 2=x:=⟨_,rfl⟩;obtain⟨cn,b8⟩:∃x,a_ z 3=x:=⟨_,rfl⟩;obtain⟨cr,bB⟩:∃x,a_ z 4=x:=⟨_,rfl⟩;rw[cf,cj,a5,b8,bB] at a4 al aj⊢;obtain⟨c,bW⟩:∃c,nV z=c:=⟨_,rfl⟩;rw[bW] at a4 P;have ey:=aj.cell 0 (v:=I .u16 cc) rfl;have co:=aj.cell 1 (v:=I .u16 cg) rfl;have eG:=aj.cell 2 (v:=I .u16 cm) rfl;have eH:=aj.cell 3 (v:=I .u16 cn) rfl;have eI:=aj.cell 4 (v:=I .u16 cr) rfl;have H:=C bV;have cu:=C (bV.2.2.1.1);go_enter func3,ntmps3;go_upto_region 1 with fail;rw[al.out];go_wp2_with fail;refine a4.out.mono ?_;rintro e cB ⟨L,rfl,cG⟩;have Q:=C (show ax V (λ_=>False) L (pw zs c 0) cB from cG);obtain⟨b3,b6⟩:∃x,L.b=x:=⟨_,rfl⟩;unfold aX;simp only[b6];have cJ:=C b6;go_wp2_with fail;go_loopw [6,7] (λu6 u7 W=>∃i:Nat,i<=len∧i<=80∧u7=I J (i:Int)∧u6=I J (Qx zs c i)∧∃j:bu,j.b=b3∧ax V (λ_=>False) j (pw zs c i) W) (λ_ u7 _=>80-(intOf u7).toNat);case atStart=>exact⟨0,by omega,by omega,rfl,rfl,L,cJ.out,Q.out⟩
 case round=>
  obtain⟨i,cs,eT,rfl,rfl,j,b_,ap⟩:=hrel;have bq:=C b_;by_cases bF:i<len∧i<80
  ·obtain⟨cq,eU⟩:=bF;obtain⟨x,aQ⟩:∃x,zs[i]?=R x:=⟨_,b5 (by rw[cu.out];exact cq)⟩;have cM:Mod (λ_=>False) w wr:=(Mod.below (S:=λ_=>False) bm.out).trans ap.1 (λi _ X=>X);obtain⟨cv,eW,rfl,bA,e2,e3,fe,bH,bC⟩:=DN H.out cM aQ;have A:=NT (i:=i) P.out H.out.2.2.2 (by omega);have bt:=DB (er x) (NS H.out.2.2.2 aQ) ap A (by have:=NU (zs:=zs) (i:=i);omega);obtain⟨aS,aU,aP⟩:=Pk (i:=i) P.out H.out.2.2.2 (by omega);have Y:=(A.ok.Pv (er x) (NS H.out.2.2.2 aQ) aS (by omega)).2;have ar:=A.ok.tick;obtain⟨fG,cW⟩:∃y,(pw zs c i).c.tick=y:=⟨_,rfl⟩;rw[cW] at Y ar;have B:=C (PU (c:=c) aQ);have aV:=C (NV (c:=c) aQ);obtain⟨l,c8⟩:∃l,(pw zs c i).dP (er x)=l:=⟨_,rfl⟩;rw[c8] at bt Y B aV;obtain⟨aR,O⟩:∃y,Qx zs c i=y:=⟨_,rfl⟩;rw[O] at aU aP B;simp only[O];have ai:(i:Int)<(len:Int):=(by omega);have fH:(i:Int)<80:=(by omega);have fI:(0:Int)<=(i:Int):=(by omega);have fJ:(i:Int).toNat=i:=(by omega);have c_:Calls au 8 #[af (R ⟨b3,0,U⟩),bk #[I J x.k,I J x.a,I J x.b,I J x.n,I J x.m,I ah (x.s:Int)]] wr (sa V (λ_=>False) j l):=(by unfold aX at bt;rw[bq.out] at bt;exact bt);have da:=C c_;have Z:Qa (er x) l=if x.k=11∧l.2.2=0∧0<=l.2.1 then x.n else 0:=rfl;rw[Z] at Y B;have aI:=C aQ;go_wp2_with fail;refine da.out.mono ?_;rintro e aZ ⟨rfl,bw,cZ,de⟩;have a0:=C (cZ.trans bq.out);go_upto_region 9 with fail;obtain⟨a6,aO⟩:∃a6,aZ.alloc (av #[I J l.2.1,I J l.2.2] 29)=a6:=⟨_,rfl⟩;rw[aO];have bR:ak a6 aZ.heap.size #[I J l.2.1,I J l.2.2] 29:=aO▸ak.new _ _ _;have a7:=de.next (show Below aZ.heap.size aZ a6 from aO▸bx _ _);have bh:Mod (λ_=>False) w a6:=(Mod.below (S:=λ_=>False) bm.out).trans a7.1 (λi _ X=>X);obtain⟨cF,fK,a5,bG,fR,bE,aJ,fX,fY⟩:=DN H.out bh aI.out;cases a5;have df:=bR.cell 0 (v:=I J l.2.1) rfl;have bs:=bR.cell 1 (v:=I J l.2.2) rfl;obtain⟨dv,b9⟩:∃y,aZ.heap.size=y:=⟨_,rfl⟩;rw[b9] at df bs;simp only[b9];by_cases bz:x.k=11
   ·rw[bz] at bG;by_cases a2:l.2.2=0
    ·rw[a2] at bs;by_cases aY:0<=l.2.1
     ·rw[if_pos ⟨bz,a2,aY⟩] at B Y;have bv:aR+x.n<=9223372036854775807:=(by omega);have a1:-9223372036854775808<=aR+x.n:=(by omega);have aa:=C B.out;go_wp2_with fail;go_roundw;case rel=>exact⟨i+1,by omega,by omega,by go_num,by rw[aa.out],bw,a0.out,by rw[aV.out];exact a7⟩
      case measure=>simp[intOf];omega
     ·rw[if_neg (λa8=>aY a8.2.2)] at B Y;have aa:=C B.out;go_wp2_with fail;go_roundw;case rel=>exact⟨i+1,by omega,by omega,by go_num,by rw[aa.out,Int.add_zero],bw,a0.out,by rw[aV.out];exact a7⟩
      case measure=>simp[intOf];omega
    ·rw[if_neg (λa8=>a2 a8.2.1)] at B Y;have di:(l.2.2==0)=false:=(by simp[a2]);have aa:=C B.out;go_wp2_with fail;go_roundw;case rel=>exact⟨i+1,by omega,by omega,by go_num,by rw[aa.out,Int.add_zero],bw,a0.out,by rw[aV.out];exact a7⟩
     case measure=>simp[intOf];omega
   ·rw[if_neg (λa8=>bz a8.1)] at B Y;have di:(x.k==11)=false:=(by simp[bz]);have aa:=C B.out;go_wp2_with fail;go_roundw;case rel=>exact⟨i+1,by omega,by omega,by go_num,by rw[aa.out,Int.add_zero],bw,a0.out,by rw[aV.out];exact a7⟩
    case measure=>simp[intOf];omega
  ·rcases(by omega:(¬i<len∨(i<len∧i=80))) with ca|⟨ca,fZ⟩
   ·have dA:¬(i:Int)<(len:Int):=(by omega);have A:=NT (i:=i) P.out H.out.2.2.2 (by omega);have K:=C A;obtain⟨aS,aU,aP⟩:=Pk (i:=i) P.out H.out.2.2.2 (by omega);have h:=C aS;obtain⟨d,ba⟩:=aW (pw zs c i);obtain⟨aR,O⟩:=aW (Qx zs c i);rw[ba] at ap K h;rw[O] at h aU aP;simp only[O];have aq:=C (Pf (f:=d.book.tasks) (λn=>(h.task n).1) d.tasks.length);have ac:=C h.all;have ao:=A.ok.eJ.1;have bb:=A.ok.eJ.2;have dF:=NU (zs:=zs) (i:=i);rw[ba] at ao bb;generalize a9:d.groups.length=t at bb;have bn:t<=1000:=(by omega);generalize ag:d.tasks.length=T at aq ac ao;have dG:=C ag;have dH:T<=1000:=(by omega);have dI:=C (Pf (f:=d.book.tasks) (λn=>(h.task n).1) T T zK9);have az:=C (λ(W:ab) (o:ax V (λ_=>False) j d W) (n:Int)=>uP n o K.ok);have D:=C (λ(W:ab) (o:ax V (λ_=>False) j d W) (n:Int)=>Nw n o K.ok);have M:=C (λ(W:ab) (o:ax V (λ_=>False) j d W)=>BJ o);have N:=C (λ(W:ab) (o:ax V (λ_=>False) j d W)=>Ph o);unfold aX at az D M N;rw[bq.out] at az D M N;rw[ag] at M;rw[a9] at N;have dB:=Nv;have dT:=Py;go_wp2_with fail;go_loopw [9,10] (λu9 u10 W=>∃n:Nat,n<=T∧u10=I J (n:Int)∧u9=I J (nD d.book.tasks n)∧ax V (λ_=>False) j d W) (λ_ u10 _=>T-(intOf u10).toNat);case atStart=>exact⟨0,by omega,rfl,rfl,ap⟩
    case round=>
     obtain⟨n,dU,rfl,rfl,E⟩:=hrel;have bf:=C (M.out wr E);by_cases bF:n<T
     ·obtain⟨ce,dV,eo,ci,eu,ck,aC⟩:=Nx (n:Int) E K.ok;have Z:=az.out wr E (n:Int);rw[aC] at Z;have bc:=C Z;have bg:=(aq.out n (by omega));have ad:=(aq.out (n+1) (by omega));have bj:nD d.book.tasks (n+1)=nD d.book.tasks n+d.book.tasks (n:Int):=rfl;have bI:=(h.task n).1;rw[ac.out] at bg ad;rw[bj] at ad;have Q:=C bj;obtain⟨aB,aA⟩:=aW (d.book.tasks (n:Int));obtain⟨an,F⟩:=aW (nD d.book.tasks n);rw[aA,F] at ad Q;rw[aA] at bc bI;rw[F] at bg;simp only[F];have bv:an+aB<=9223372036854775807:=(by omega);have a1:-9223372036854775808<=an+aB:=(by omega);have ai:(n:Int)<(T:Int):=(by omega);go_wp2_with fail;apply bf.mono;rintro e aG ⟨rfl,p⟩;obtain rfl:=p.symm;go_wp2_with fail;apply bc.mono;rintro e G ⟨rfl,q⟩;have bL:=C (E.next q);go_wp2_with fail;go_roundw;case rel=>exact⟨n+1,by omega,by go_num,by rw[Q.out],bL.out⟩
      case measure=>simp[intOf];omega
     ·obtain rfl:n=T:=by omega
      have ai:¬(n:Int)<(n:Int):=(by omega);have F:nD d.book.tasks n=aR:=ac.out;simp only[F];go_wp2_with fail;apply bf.mono;rintro e aG ⟨rfl,p⟩;obtain rfl:=p.symm;go_wp2_with fail;go_loopw [11] (λu11 W=>∃g:Nat,g<=t∧u11=I J (g:Int)∧ax V (λ_=>False) j d W) (λu11 _=>t-(intOf u11).toNat);case atStart=>exact⟨0,by omega,rfl,E⟩
      case round=>
       obtain⟨g,ev,rfl,u⟩:=hrel;have bl:=C (N.out wr u);by_cases ew:g<t
       ·have bd:=h.aw (g:Int);have r:=D.out wr u (g:Int);have aL:=λ(bo:ab) (be:Below wr.heap.size wr bo)=>D.out bo (u.next be) (g:Int);unfold uR at r aL;generalize aA:d.book.groups (g:Int)=aB at r aL bd;have ae:=C r;have bN:=C aL;have bS:(g:Int)<(t:Int):=(by omega);go_wp2_with fail;apply bl.mono;rintro e aG ⟨rfl,p⟩;obtain rfl:=p.symm;go_wp2_with fail;apply ae.mono;rintro e G ⟨rfl,q⟩;go_wp2_with fail;apply(bN.out G q).mono;rintro e aM ⟨rfl,am⟩;have bi:=C (u.next (q.trans (am.mono q.size)));go_wp2_with fail;go_roundw;case rel=>exact⟨g+1,by omega,by go_num,bi.out⟩
        case measure=>simp[intOf];omega
       ·obtain rfl:g=t:=by omega
        have bS:¬(g:Int)<(g:Int):=(by omega);have r:=D.out wr u 0;unfold uR at r;rw[h.out.root] at r;have ae:=C r;go_wp2_with fail;apply bl.mono;rintro e aG ⟨rfl,p⟩;obtain rfl:=p.symm;go_wp2_with fail;apply ae.mono;rintro e G ⟨rfl,q⟩;have aN:Below w.heap.size w G:=((zF9 bm.out).trans (u.next q).1 (λi _ X=>X)).toBelow;have bT:=C (DM G (b1.next aN));go_wp2_with fail;apply bT.mono;rintro e aM ⟨rfl,am⟩;go_wp2_with fail;go_ret;exact⟨rfl,aN.trans (am.mono aN.size)⟩
   ·have dA:(i:Int)<(len:Int):=(by omega);have A:=NT (i:=i) P.out H.out.2.2.2 (by omega);have K:=C A;obtain⟨aS,aU,aP⟩:=Pk (i:=i) P.out H.out.2.2.2 (by omega);have h:=C aS;obtain⟨d,ba⟩:=aW (pw zs c i);obtain⟨aR,O⟩:=aW (Qx zs c i);rw[ba] at ap K h;rw[O] at h aU aP;simp only[O];have aq:=C (Pf (f:=d.book.tasks) (λn=>(h.task n).1) d.tasks.length);have ac:=C h.all;have ao:=A.ok.eJ.1;have bb:=A.ok.eJ.2;have dF:=NU (zs:=zs) (i:=i);rw[ba] at ao bb;generalize a9:d.groups.length=t at bb;have bn:t<=1000:=(by omega);generalize ag:d.tasks.length=T at aq ac ao;have dG:=C ag;have dH:T<=1000:=(by omega);have dI:=C (Pf (f:=d.book.tasks) (λn=>(h.task n).1) T T zK9);have az:=C (λ(W:ab) (o:ax V (λ_=>False) j d W) (n:Int)=>uP n o K.ok);have D:=C (λ(W:ab) (o:ax V (λ_=>False) j d W) (n:Int)=>Nw n o K.ok);have M:=C (λ(W:ab) (o:ax V (λ_=>False) j d W)=>BJ o);have N:=C (λ(W:ab) (o:ax V (λ_=>False) j d W)=>Ph o);unfold aX at az D M N;rw[bq.out] at az D M N;rw[ag] at M;rw[a9] at N;have dB:=Nv;have dT:=Py;go_wp2_with fail;go_loopw [9,10] (λu9 u10 W=>∃n:Nat,n<=T∧u10=I J (n:Int)∧u9=I J (nD d.book.tasks n)∧ax V (λ_=>False) j d W) (λ_ u10 _=>T-(intOf u10).toNat);case atStart=>exact⟨0,by omega,rfl,rfl,ap⟩
    case round=>
     obtain⟨n,dU,rfl,rfl,E⟩:=hrel;have bf:=C (M.out wr E);by_cases bF:n<T
     ·obtain⟨ce,dV,eo,ci,eu,ck,aC⟩:=Nx (n:Int) E K.ok;have Z:=az.out wr E (n:Int);rw[aC] at Z;have bc:=C Z;have bg:=(aq.out n (by omega));have ad:=(aq.out (n+1) (by omega));have bj:nD d.book.tasks (n+1)=nD d.book.tasks n+d.book.tasks (n:Int):=rfl;have bI:=(h.task n).1;rw[ac.out] at bg ad;rw[bj] at ad;have Q:=C bj;obtain⟨aB,aA⟩:=aW (d.book.tasks (n:Int));obtain⟨an,F⟩:=aW (nD d.book.tasks n);rw[aA,F] at ad Q;rw[aA] at bc bI;rw[F] at bg;simp only[F];have bv:an+aB<=9223372036854775807:=(by omega);have a1:-9223372036854775808<=an+aB:=(by omega);have ai:(n:Int)<(T:Int):=(by omega);go_wp2_with fail;apply bf.mono;rintro e aG ⟨rfl,p⟩;obtain rfl:=p.symm;go_wp2_with fail;apply bc.mono;rintro e G ⟨rfl,q⟩;have bL:=C (E.next q);go_wp2_with fail;go_roundw;case rel=>exact⟨n+1,by omega,by go_num,by rw[Q.out],bL.out⟩
      case measure=>simp[intOf];omega
     ·obtain rfl:n=T:=by omega
      have ai:¬(n:Int)<(n:Int):=(by omega);have F:nD d.book.tasks n=aR:=ac.out;simp only[F];go_wp2_with fail;apply bf.mono;rintro e aG ⟨rfl,p⟩;obtain rfl:=p.symm;go_wp2_with fail;go_loopw [11] (λu11 W=>∃g:Nat,g<=t∧u11=I J (g:Int)∧ax V (λ_=>False) j d W) (λu11 _=>t-(intOf u11).toNat);case atStart=>exact⟨0,by omega,rfl,E⟩
      case round=>
       obtain⟨g,ev,rfl,u⟩:=hrel;have bl:=C (N.out wr u);by_cases ew:g<t
       ·have bd:=h.aw (g:Int);have r:=D.out wr u (g:Int);have aL:=λ(bo:ab) (be:Below wr.heap.size wr bo)=>D.out bo (u.next be) (g:Int);unfold uR at r aL;generalize aA:d.book.groups (g:Int)=aB at r aL bd;have ae:=C r;have bN:=C aL;have bS:(g:Int)<(t:Int):=(by omega);go_wp2_with fail;apply bl.mono;rintro e aG ⟨rfl,p⟩;obtain rfl:=p.symm;go_wp2_with fail;apply ae.mono;rintro e G ⟨rfl,q⟩;go_wp2_with fail;apply(bN.out G q).mono;rintro e aM ⟨rfl,am⟩;have bi:=C (u.next (q.trans (am.mono q.size)));go_wp2_with fail;go_roundw;case rel=>exact⟨g+1,by omega,by go_num,bi.out⟩
        case measure=>simp[intOf];omega
       ·obtain rfl:g=t:=by omega
        have bS:¬(g:Int)<(g:Int):=(by omega);have r:=D.out wr u 0;unfold uR at r;rw[h.out.root] at r;have ae:=C r;go_wp2_with fail;apply bl.mono;rintro e aG ⟨rfl,p⟩;obtain rfl:=p.symm;go_wp2_with fail;apply ae.mono;rintro e G ⟨rfl,q⟩;have aN:Below w.heap.size w G:=((zF9 bm.out).trans (u.next q).1 (λi _ X=>X)).toBelow;have bT:=C (DM G (b1.next aN));go_wp2_with fail;apply bT.mono;rintro e aM ⟨rfl,am⟩;go_wp2_with fail;go_ret;exact⟨rfl,aN.trans (am.mono aN.size)⟩
variable {H:Type} {enc:TypeId×Value->H} {base fuel:Nat} {spare:Nat->Bool} {held:Bool}
section
open Go.ChangeAt Go.ChangeShapes Go.WideShapes
theorem ev_dec {w:ab} {cs:List Value} {y:DataW H×List MemPlace} (h:DataW.trod enc au w base spare held fuel 33 cs=some y) (aP:cs.length=6):∃z:bQ,cs=jf.e z∧z.Ok:=by
 match cs,aP with
 |[u0,u1,u2,u3,u4,u5],_=>
  obtain⟨ag,m,_,rfl,_,yr,bc⟩:=DataW.trod_struct underlying33 h;match ag,yr with
  |[r5,qi,CJ,Oi,Oj,Pa],_=>obtain⟨n0,iL,_,f0⟩:=DataW.trod_int underlying3 (bc 0 _ rfl);obtain⟨ys,g1,_,f1⟩:=DataW.trod_int underlying3 (bc 1 _ rfl);obtain⟨yt,dB,_,f2⟩:=DataW.trod_int underlying3 (bc 2 _ rfl);obtain⟨yu,g3,_,f3⟩:=DataW.trod_int underlying2 (bc 3 _ rfl);obtain⟨yv,g4,_,f4⟩:=DataW.trod_int underlying2 (bc 4 _ rfl);obtain⟨DU,Ol,_,f5⟩:=DataW.trod_int underlying31 (bc 5 _ rfl);cases iL;cases g1;cases dB;cases g3;cases g4;cases Ol;have pb:=bounds_i64 f0;have hH:=bounds_i64 f1;have qh:=bounds_i64 f2;have Om:=bounds_i64 f3;have On:=bounds_i64 f4;have Pb:=bounds_u64 f5;obtain⟨s,rfl⟩:∃s:Nat,DU=(s:Int):=⟨DU.toNat,by omega⟩;exact⟨⟨n0,ys,yt,yu,yv,s⟩,rfl,by constructor<;>(simp only;omega)⟩
theorem open_evs {w:ab} {a:Option Addr} {len cap:Nat} {x:DataW H×List MemPlace} (h:DataW.trod enc au w base spare held fuel 24 [.slice a len cap]=some x):∃zs,yo w a len cap zs:=by
 rcases DataW.trod_slice underlying24 h with⟨mu,_⟩|⟨az,l,c',elems,rest,n,_,mu,_,_,aP,hm,hlen,hel,_⟩;·cases mu;exact⟨[],bK _,gN _,⟨rfl,λh=>by omega⟩,nofun⟩
 ·cases mu;have each:∀k,k<=len->∃zs:List bQ,zs.length=k∧(∀e∈zs,e.Ok)∧∀i z,zs[i]?=some z->∀q,q<6->w.cell? ((az.add (i*6)).add q)=(jf.e z)[q]?:=by
   intro k;induction k with
   |zero=>exactλ_=>⟨[],rfl,nofun,nofun⟩
   |succ i bv=>
    intro aV;obtain⟨zs,bm,bl,aR⟩:=bv (by omega);have aq:=hel i aV;rw[b5 (by omega),show au.cellsOf 33=6 by kernel_rfl,Option.bind_eq_some_iff] at aq;obtain⟨cs,mu,bj⟩:=aq;obtain⟨_,ki,Oo⟩:=World.cells?_some mu;obtain⟨z,rfl,aB⟩:=ev_dec bj ki;refine⟨zs++[z],by simp[bm],λe he=>?_,λj y bg=>?_⟩
    ·rcases nj.1 he with he|he;·exact bl e he
     ·cases qt.1 he;exact aB
    ·by_cases e:j<i;·rw[ja (by omega)] at bg;exact aR j y bg
     ·rw[gJ (by omega),bm] at bg;obtain rfl:i=j:=by have:=(bD.1 bg).1;simp at this;omega
      simp at bg;exact bg▸Oo
  obtain⟨zs,bm,bl,aR⟩:=each len (bK _);refine⟨zs,aP,hm,⟨bm,λh0=>?_⟩,bl⟩;have aq:=aR 0 zs[0] (b5 _) 0 (by omega);obtain⟨b,off,Oq⟩:=az;have aS:=World.cell?_spot aq;have az:=jv w _ aq;cases(show Oq=none from aS);refine⟨b,off,rfl,az,λj z bg q v a8=>?_⟩;have:=aR j z bg q (bD.1 a8).1;rw[addr_add,addr_add] at this;rw[←qy];exact this.trans a8
theorem iface_head {n oQ:String} {d:DataW Unit} {r:List (String×DataW Unit)} {W:ab} {g:Nat} {uY:TypeId} {ms:Array (String×TypeId)} (h:laidMet au ((n,.iface oQ d)::r) W) (aB:au.globalNamed n=some g) (aU:(au.globals[g]?).map (·.type)=some uY) (aV:au.underlying uY=some (.interface ms)):∃mx p,W.var? au n=some #[.iface mx p]:=by obtain⟨_,⟨iL,t0,cs0,f0,Pc,ks,g8,Ot,Ou,bM,_⟩,_⟩:=h;cases aB.symm.trans g8;cases aU.symm.trans Ot;obtain⟨_,u,v,e,_⟩:=iface_of_trod aV bM;obtain⟨Ov⟩:=cs0;cases(show Ov=_ from e);exact⟨u,v,Ou⟩
theorem known_of {W:ab} (h:laidMetH au Rows.topLedgerRow.laid W) (aS:W.ShapedOpen au):fh W:=by
 rw[MakeChecks.laidMetH_plain _ _ _ (by kernel_rfl)] at h;have aq:=laidMet.tail (show laidMet au (_::_) W from h);have aA:=laidMet.tail (show laidMet au (_::_) W from aq);have bV:=laidMet.tail (show laidMet au (_::_) W from laidMet.tail (show laidMet au (_::_) W from aA));have cZ:=laidMet.tail (show laidMet au (_::_) W from bV);have r5:au.globalNamed (Rows.topLedgerRow.laid.getD 1 ("",.nil)).1=some 9:=by kernel_rfl
 have aU:=Lib.tabIs_of_head (zs:=Lib.deBruijn64tab.map Int.ofNat) (k:=.u8) r5 (t:=398) (by kernel_rfl) underlying398 underlying5 (by kernel_rfl) (by kernel_rfl) aq;refine⟨?_,λj bg=>?_,vh.s1_3 W aS,Lib.tabIs_of_head yB (t:=383) (by kernel_rfl) underlying383 underlying31 (by kernel_rfl) (by kernel_rfl) aA,iface_head cZ yC (uY:=301) (by kernel_rfl) underlying301,iface_head bV yD (uY:=301) (by kernel_rfl) underlying301⟩;·obtain⟨⟨z,t⟩,aG⟩:=gK.1 (show(((begin au (λ_ _=>0) default).world.heap[9]?).bind Obj.row?).isSome=true by kernel_rfl);obtain⟨cs,aR,_⟩:=aS.1 9 z t (of_decide_eq_true (by kernel_rfl)) aG;have:=(iZ.1 aR).1;omega
 ·rw[aU.cell r5 j (by simpa using bg),List.getD,List.getD,dD];cases Lib.deBruijn64tab[j]?<;>rfl
def IsTerms (w:ab) (v:Value) (z:List Int):Prop:=v=sc z∧sb z
theorem open_terms {W:ab} {base pb:Nat} {v:Value} {d:DataW H} {p:List MemPlace} (gU:Value.okWide au W .any base 23 v) (h:DataW.Trod enc au W pb spare held 23 v d p):∃z,IsTerms W v z:=by
 simp only[Value.okWide,underlying23] at gU;obtain⟨⟨l⟩,rfl,aA,_⟩:=gU;obtain⟨fuel,bc⟩:=h;match l,aA.trans (show _=5 by kernel_rfl) with
 |[u0,u1,u2,u3,u4],_=>
  obtain⟨ag,m,_,_,_,yr,aB⟩:=DataW.trod_array underlying23 bc;match ag,yr with
  |[r5,qi,CJ,Oi,Oj],_=>rw[show au.cellsOf 22=1 by kernel_rfl] at aB;obtain⟨n0,iL,_,f0⟩:=DataW.trod_int underlying22 (aB 0 (by omega));obtain⟨ys,g1,_,f1⟩:=DataW.trod_int underlying22 (aB 1 (by omega));obtain⟨yt,dB,_,f2⟩:=DataW.trod_int underlying22 (aB 2 (by omega));obtain⟨yu,g3,_,f3⟩:=DataW.trod_int underlying22 (aB 3 (by omega));obtain⟨yv,g4,_,f4⟩:=DataW.trod_int underlying22 (aB 4 (by omega));cases iL;cases g1;cases dB;cases g3;cases g4;have pb:=bounds_u16 f0;have hH:=bounds_u16 f1;have qh:=bounds_u16 f2;have Om:=bounds_u16 f3;have On:=bounds_u16 f4;exact⟨[n0,ys,yt,yu,yv],rfl,rfl,λi=>by rcases i with _|_|_|_|_|i<;>(simp[a_];try omega)⟩
theorem witness_lay {ar:Checked} {os:Os} {f:FuncId} {fn:Func} {s:OpenSpec} {conds:List PathCond} {apart:Bool} {laid:List (String×DataW Unit)} (ao:ab) (args:Array Value) (hos:ao.os=os) (Ow:(ao.forCall (λ_ _=>0) ⟨#[],args,[]⟩).Shaped ar.prog) (gU:Input.okWideB ar.prog (ao.forCall (λ_ _=>0) ⟨#[],args,[]⟩) f ⟨#[],args,[]⟩=true) (Ox:s.preRow enc ar.prog fn conds apart laid (ao.forCall (λ_ _=>0) ⟨#[],args,[]⟩).memory args):∃(w:ab) (tape:Tape) (i:Input),w.os=os∧(w.forCall tape i).Shaped ar.prog∧i.vars=[]∧Input.okWide ar.prog (w.forCall tape i) .any w.heap.size f i∧s.preRow enc ar.prog fn conds apart laid (w.forCall tape i).memory i.args∧({}:Assume).holds ar.prog (lone (Frame.enter ar.prog f i.args .normal) [] (w.forCall tape i)):=⟨ao,λ_ _=>0,⟨#[],args,[]⟩,hos,Ow,(Input.okWide_of_okWideB (base:=0) gU).1,(Input.okWide_of_okWideB gU).2,Ox,by simp only[Assume.holds];exact⟨by simp,by simp,λh=>by simp at h,by simp,by simp⟩⟩
end
end Go.Proofs.YtddbkdjcjoofpaaGreatDoor
