import Derived.Test.YtigeofkllldilaaGreatDoorJM01
import Derived.Shelf.Spec.SlicesInsertGrow
import Derived.BigQuiet
set_option maxHeartbeats 32000000
set_option maxRecDepth 100000
set_option linter.unusedSectionVars false
open Go.Proofs.Tryz
namespace Go.Proofs.YtigeofkllldilaaGreatDoor
section
open Go.RowKit Go.Maps
def ro (B:Nat) (tys:List TypeId) (u:World) (k:Nat):Prop:=B<=k/\∃t∈tys,aR u t k
theorem aR.same {u:World} {t t':TypeId} {b:Nat} (h:aR u t b) (h':aR u t' b):t=t':=Decidable.byContradiction fun e=>h.ne h' e rfl
structure eL (B:Nat) (tys:List TypeId) (u u':World):Prop where
 fr:Fr (ro B tys u) u u'
section
variable {B:Nat} {tys tys':List TypeId} {u u' u'':World}
theorem eL.refl (tys:List TypeId) (u:World):eL B tys u u:=⟨Fr.refl _ _⟩
theorem eL.size (h:eL B tys u u'):u.heap.size<=u'.heap.size:=h.fr.size
theorem eL.back (h:eL B tys u u') {k:Nat} (hk:k<u.heap.size) (ht:ro B tys u' k):ro B tys u k:=by
 refine Classical.byContradiction fun e=>e ?_
 obtain⟨h0,t,h1,cs,h2⟩:=ht
 exact⟨h0,t,h1,cs,(h.fr.block k hk e).symm.trans h2⟩
theorem eL.trans (h:eL B tys u u') (h':eL B tys u' u''):eL B tys u u'':=
 ⟨⟨h'.fr.os.trans h.fr.os,h'.fr.tape.trans h.fr.tape,h'.fr.output.trans h.fr.output,Nat.le_trans h.size h'.size,fun k hk hn=>(h'.fr.block k (Nat.lt_of_lt_of_le hk h.size) fun e=>hn (h.back hk e)).trans (h.fr.block k hk hn)⟩⟩
theorem eL.mono (h:eL B tys u u') (hs:∀t∈tys,t∈tys'):eL B tys' u u':=⟨h.fr.mono fun _ _ ⟨h0,t,h1,h2⟩=>⟨h0,t,hs t h1,h2⟩⟩
theorem eL.of_below (tys:List TypeId) (h:aE u u'):eL B tys u u':=⟨Fr.of_below _ h⟩
theorem eL.later (h:eL B tys u u') (hb:aE u' u''):eL B tys u u'':=h.trans (.of_below tys hb)
theorem eL.alloc (h:eL B tys u u') (o:Obj):eL B tys u (u'.alloc o):=⟨h.fr.alloc o⟩
theorem eL.drew (h:eL B tys u u'):eL B tys u u'.drew:=⟨h.fr.drew⟩
theorem eL.set (h:eL B tys u u') {p:Addr} {t:TypeId} (hp:aR u' t p.block) (ht:t∈tys) (hB:B<=p.block) (v:Value):eL B tys u (u'.setCell p v):=by
 refine⟨h.fr.setCell ?_ v⟩
 by_cases hl:u.heap.size<=p.block
 ·exact .inr hl
 ·exact .inl (h.back (by omega) ⟨hB,t,ht,hp⟩)
theorem eL.grown {row:Option Nat} (h:eL B tys u u') (hg:u'.grownBy u'' row) (hr:∀g,row=some g->ro B tys u' g\/u.heap.size<=g):eL B tys u u'':=
 ⟨h.fr.grown hg fun g e=>by
  rcases hr g e with h1|h1
  ·by_cases hl:u.heap.size<=g
   ·exact .inr hl
   ·exact .inl (h.back (by omega) h1)
  ·exact .inr h1⟩
theorem eL.block (h:eL B tys u u') {t:TypeId} {b:Nat} (hb:aR u t b) (ht:t∉tys):u'.heap[b]?=u.heap[b]?:=
 h.fr.block b hb.lt fun⟨_,_,h1,h2⟩=>ht (hb.same h2▸h1)
theorem eL.ty (h:eL B tys u u') {t:TypeId} {b:Nat} (hb:aR u t b) (ht:t∉tys):aR u' t b:=hb.keep (h.block hb ht)
theorem eL.low (h:eL B tys u u') {B':Nat} (hB:B'<=u.heap.size) (hn:B'<=B):Below B' u u':=h.fr.below hB fun k hk e=>by have:=e.1;omega
theorem eL.map {κ ν:Type} {b:Nat} {ek:κ->Value} {ev:ν->Value} {l:List (κ×ν)} (h:eL B tys u u') (hm:aW u b ek ev l):aW u' b ek ev l:=
 hm.keep (h.fr.block b hm.lt fun⟨_,_,_,h2⟩=>hm.ne h2 rfl)
theorem eL.row {α:Type} {C sz:Nat} {e:TypeId} {enc:α->List Value} {v:Value} {l:List α} (h:eL B tys u u') (hr:aS u C e sz enc v l) (he:e∉tys):aS u' C e sz enc v l:=
 hr.keep fun _ hk=>h.block (hr.ty hk) he
theorem eL.term {x:TV} {t:Tm} {S S':Nat->Prop} (h:eL B tys u u') (hx:aI u S x t) (hS:∀b,S b->aR u 27 b) (hS':∀b,S b->aR u' 27 b->S' b) (ht:27∉tys):aI u' S' x t:=
 hx.keep (fun b hb=>hS' b hb (h.ty (hS b hb) ht)) fun b hb=>h.block (hS b hb) ht
end
class Base where
 b:Nat
abbrev fc [Base] (tys:List TypeId) (u:World) (k:Nat):Prop:=ro Base.b tys u k
abbrev TF [Base] (tys:List TypeId) (u u':World):Prop:=eL Base.b tys u u'
theorem TF.refl [Base] (tys:List TypeId) (u:World):TF tys u u:=eL.refl tys u
theorem TF.of_below [Base] {u u':World} (tys:List TypeId) (h:aE u u'):TF tys u u':=eL.of_below tys h
end
section
structure Sc where
 k:Int
 n:Int
 s:List UInt8
 args:List Nat
 to:Option Nat
inductive bP (cs:List Sc):Nat->Nat->Prop
 |here {i:Nat} {c:Sc} (h:cs[i]?=some c) (ht:c.to=none):bP cs i i
 |step {i j r:Nat} {c:Sc} (h:cs[i]?=some c) (ht:c.to=some j) (hr:bP cs j r):bP cs i r
theorem bP.fn {cs:List Sc} {i j j':Nat} (h:bP cs i j) (h':bP cs i j'):j=j':=by
 induction h with
 |here h ht=>
  cases h' with
  |here=>rfl
  |step h2 ht2 hr2=>
   rw[h]at h2
   injection h2 with h2
   subst h2
   rw[ht]at ht2
   cases ht2
 |step h ht hr ih=>
  cases h' with
  |here h2 ht2=>
   rw[h]at h2
   injection h2 with h2
   subst h2
   rw[ht]at ht2
   cases ht2
  |step h2 ht2 hr2=>
   rw[h]at h2
   injection h2 with h2
   subst h2
   rw[ht]at ht2
   injection ht2 with ht2
   subst ht2
   exact ih hr2
theorem bP.free {cs:List Sc} {i j:Nat} (h:bP cs i j):∃c,cs[j]?=some c/\c.to=none:=by
 induction h with
 |here h ht=>exact⟨_,h,ht⟩
 |step h ht hr ih=>exact ih
theorem bP.lt {cs:List Sc} {i j:Nat} (h:bP cs i j):i<cs.length:=by
 cases h with
 |here h ht=>exact(aq h).1
 |step h ht hr=>exact(aq h).1
def cP (cs:List Sc) (v:Nat) (c:Sc) (t:Option Nat):List Sc:=cs.set v {c with to:=t}
theorem eF {cs:List Sc} {v:Nat} {c:Sc} (h:cs[v]?=some c) (t:Option Nat):(cP cs v c t)[v]?=some {c with to:=t} :=by
 unfold cP
 rw[List.getElem?_set_self (aq h).1]
theorem dg {cs:List Sc} {v i:Nat} (c:Sc) (t:Option Nat) (h:i≠v):(cP cs v c t)[i]?=cs[i]?:=by
 unfold cP
 rw[List.getElem?_set_ne (Ne.symm h)]
theorem dE (cs:List Sc) (v:Nat) (c:Sc) (t:Option Nat):(cP cs v c t).length=cs.length:=List.length_set ..
theorem bP.bind {cs:List Sc} {v t:Nat} {c:Sc} (hv:cs[v]?=some c) (h0:c.to=none) (ht:bP cs t t) (hne:v≠t) {i j:Nat} (h:bP cs i j):bP (cP cs v c (some t)) i (if j=v then t else j):=by
 have ht':bP (cP cs v c (some t)) t t:=by
  obtain⟨d,h1,h2⟩:=ht.free
  exact .here ((dg c (some t) (Ne.symm hne)).trans h1) h2
 induction h with
 |here h h1=>
  rename_i i d
  by_cases e:i=v
  ·subst e
   rw[if_pos rfl]
   exact .step (eF hv _) rfl ht'
  ·rw[if_neg e]
   exact .here ((dg c (some t) e).trans h) h1
 |step h h1 hr ih=>
  rename_i i k r d
  have e:i≠v:=fun e=>by
   subst e
   rw[hv]at h
   injection h with h
   subst h
   rw[h0]at h1
   cases h1
  exact .step ((dg c (some t) e).trans h) h1 ih
theorem bP.loose {cs:List Sc} {v:Nat} {c:Sc} (hv:cs[v]?=some c) {i j:Nat} (h:bP cs i j):∃k,bP (cP cs v c none) i k:=by
 induction h with
 |here h h1=>
  rename_i i d
  by_cases e:i=v
  ·subst e
   exact⟨_,.here (eF hv _) rfl⟩
  ·exact⟨_,.here ((dg c none e).trans h) h1⟩
 |step h h1 hr ih=>
  rename_i i k r d
  by_cases e:i=v
  ·subst e
   exact⟨_,.here (eF hv _) rfl⟩
  ·obtain⟨k,hk⟩:=ih
   exact⟨k,.step ((dg c none e).trans h) h1 hk⟩
inductive l6 (safe:Bool):List Sc->List Nat->List (Nat×Nat)->Nat->Bool×Int->List Sc->List Nat->Prop
 |done {cs:List Sc} {bs:List Nat} {w:Nat} :l6 safe cs bs [] w (true,0) cs bs
 |tired {cs:List Sc} {bs:List Nat} {p:Nat×Nat} {r:List (Nat×Nat)} {w:Nat} (hw:20000<=w):l6 safe cs bs (p::r) w (false,16) cs bs
 |same {cs cs':List Sc} {bs bs':List Nat} {a b j:Nat} {r:List (Nat×Nat)} {w:Nat} {R:Bool×Int} (ha:bP cs a j) (hb:bP cs b j) (hr:l6 safe cs bs r (w+1) R cs' bs'):l6 safe cs bs ((a,b)::r) w R cs' bs'
 |bind {cs cs':List Sc} {bs bs':List Nat} {a b i j v t:Nat} {x:Sc} {r:List (Nat×Nat)} {w w':Nat} {R:Bool×Int} (ha:bP cs a i) (hb:bP cs b j) (hij:i≠j) (hv:(v=i/\t=j)\/(v=j/\t=i)) (hx:cs[v]?=some x) (hk:x.k=1) (hw:safe=false->w'=w+1) (hr:l6 safe (cP cs v x (some t)) (bs++[v]) r w' R cs' bs'):l6 safe cs bs ((a,b)::r) w R cs' bs'
 |occurs {cs:List Sc} {bs:List Nat} {p:Nat×Nat} {r:List (Nat×Nat)} {w:Nat} {e:Int} (hs:safe=true):l6 safe cs bs (p::r) w (false,e) cs bs
 |clash {cs:List Sc} {bs:List Nat} {a b i j:Nat} {x y:Sc} {r:List (Nat×Nat)} {w:Nat} (ha:bP cs a i) (hb:bP cs b j) (hx:cs[i]?=some x) (hy:cs[j]?=some y) (hk:x.k≠1) (hk':y.k≠1) (hn:¬(x.k=y.k/\x.n=y.n/\x.s=y.s/\x.args.length=y.args.length)):l6 safe cs bs ((a,b)::r) w (false,0) cs bs
 |args {cs cs':List Sc} {bs bs':List Nat} {a b i j:Nat} {x y:Sc} {r:List (Nat×Nat)} {w:Nat} {R:Bool×Int} (ha:bP cs a i) (hb:bP cs b j) (hx:cs[i]?=some x) (hy:cs[j]?=some y) (hk:x.k≠1) (hk':y.k≠1) (hn:x.k=y.k/\x.n=y.n/\x.s=y.s/\x.args.length=y.args.length) (hr:l6 safe cs bs (x.args.zip y.args++r) (w+1) R cs' bs'):l6 safe cs bs ((a,b)::r) w R cs' bs'
structure Fv (E:Tm->Tm->Prop):Prop where
 refl:∀a,E a a
 symm:∀ {a b},E a b->E b a
 trans:∀ {a b c},E a b->E b c->E a c
 head:∀ {a b},E a b->a.k≠1->b.k≠1->a.k=b.k/\a.n=b.n/\a.s=b.s/\a.args.length=b.args.length/\∀(i:Nat) x y,a.args[i]?=some x->b.args[i]?=some y->E x y
def Ea (x y:Tm):Prop:=∃E,Fv E/\E x y
structure Dq (cs:List Sc) (T:Nat->Tm):Prop where
 var:∀(i:Nat) c,cs[i]?=some c->c.k=1->(T i).k=1
 one:∀(i j:Nat) c d,cs[i]?=some c->cs[j]?=some d->c.k=1->d.k=1->T i=T j->i=j
 comp:∀(i:Nat) c,cs[i]?=some c->c.k≠1->T i=.mk c.k c.n c.s (c.args.map T)
 bound:∀(i:Nat) c,cs[i]?=some c->c.to≠none->c.k=1
theorem qe {α β:Type} :∀ {l:List α} {m:List β} {p:α×β},p∈l.zip m->∃i:Nat,l[i]?=some p.1/\m[i]?=some p.2
 |[],_,_,h=>by simp at h
 |_::_,[],_,h=>by simp at h
 |a::l,b::m,p,h=>by
  rw[List.zip_cons_cons]at h
  rcases List.mem_cons.1 h with rfl|h
  ·exact⟨0,rfl,rfl⟩
  ·obtain⟨i,h1,h2⟩:=qe h
   exact⟨i+1,h1,h2⟩
def zU (cs:List Sc):Prop:=∀i,i<cs.length->∃j,bP cs i j
theorem bP.self {cs:List Sc} {i j:Nat} (h:bP cs i j):bP cs j j:=by
 obtain⟨c,h1,h2⟩:=h.free
 exact .here h1 h2
theorem zU.bind {cs:List Sc} (h:zU cs) {v t:Nat} {c:Sc} (hv:cs[v]?=some c) (h0:c.to=none) (ht:bP cs t t) (hne:v≠t):zU (cP cs v c (some t)):=fun i hi=>by
 rw[dE]at hi
 obtain⟨j,hj⟩:=h i hi
 exact⟨_,bP.bind hv h0 ht hne hj⟩
theorem zU.loose {cs:List Sc} (h:zU cs) {v:Nat} {c:Sc} (hv:cs[v]?=some c):zU (cP cs v c none):=fun i hi=>by
 rw[dE]at hi
 obtain⟨j,hj⟩:=h i hi
 exact hj.loose hv
open Go.RowKit Go.Maps
structure bn (u:World) (A:Option Addr) (l:List Nat):Prop where
 nil:l=[]->A=none
 at':∀(i:Nat) a,l[i]?=some a->∃b off,A=some (ak b off)/\aR u 3 b/\u.cell? (ak b (off+i))=some (ae (a:Nat))
theorem bn.keep {u u':World} {A:Option Addr} {l:List Nat} (h:bn u A l) (hb:∀b,aR u 3 b->u'.heap[b]?=u.heap[b]?):bn u' A l:=⟨h.nil,fun i a ha=>by
 obtain⟨b,off,e1,e2,e3⟩:=h.at' i a ha
 exact⟨b,off,e1,e2.keep (hb b e2),(World.cell?_of_block (a:=⟨b,off+i,none⟩) (hb b e2)).trans e3⟩⟩
theorem bn.keep' {u u':World} {A:Option Addr} {l:List Nat} (h:bn u A l) (hb:∀b off,A=some (ak b off)->aR u 3 b->u'.heap[b]?=u.heap[b]?):bn u' A l:=⟨h.nil,fun i a ha=>by
 obtain⟨b,off,e1,e2,e3⟩:=h.at' i a ha
 exact⟨b,off,e1,e2.keep (hb b off e1 e2),(World.cell?_of_block (a:=⟨b,off+i,none⟩) (hb b off e1 e2)).trans e3⟩⟩
theorem bn.later {u u':World} {A:Option Addr} {l:List Nat} (h:bn u A l) (hb:aE u u'):bn u' A l:=h.keep fun b ht=>hb.block b ht.lt
def fq (a:Nat):List Value:=[ae (a:Nat)]
theorem dw (x:Nat):(fq x).length=1:=rfl
theorem qJ (x:Nat):∀u∈fq x,u.oneCell'=true:=by
 intro u hu
 simp[fq]at hu
 subst hu
 rfl
theorem bn.row {u:World} {B n c:Nat} {A:Option Addr} {l:List Nat} (h:aS u B 3 1 fq (.slice A n c) l) (hl:l≠[]):bn u A l:=⟨fun e=>absurd e hl,fun i a ha=>by
 obtain⟨g,cap,e1,e2,e3,e4,e5⟩:=h.cells dw hl
 injection e1 with q1 q2 q3
 have h1:=(e5 i a ha 0 _ rfl).1
 rw[Nat.mul_one,Nat.add_zero]at h1
 exact⟨g,0,q1,h.ty (by rw[q1];rfl),by rw[Nat.zero_add];exact h1⟩⟩
structure ec where
 k:Int
 n:Int
 s:List UInt8
 A:Option Addr
 m:Nat
 c:Nat
 to:Int
 top:Int
def iD (x:ec):List Value:=[ae x.k,ae x.n,af x.s,.slice x.A x.m x.c,ae x.to,ae x.top]
theorem fI (x:ec):(iD x).length=6:=rfl
theorem AZ (x:ec):∀u∈iD x,u.oneCell'=true:=by
 intro u hu
 simp[iD]at hu
 rcases hu with rfl|rfl|rfl|rfl|rfl|rfl<;>rfl
def Ey:Option Nat->Int
 |none=> -1
 |some j=>(j:Int)
structure FJ (u:World) (x:ec) (c:Sc):Prop where
 k:x.k=c.k
 n:x.n=c.n
 s:x.s=c.s
 to:x.to=Ey c.to
 m:x.m=c.args.length
 args:bn u x.A c.args
 short:x.s.length<=maxLen
 top:-1<=x.top/\x.top<=100000000
def rt (y:Nat×Int):List Value:=[ae (y.1:Nat),ae y.2]
theorem gu (x:Nat×Int):(rt x).length=2:=rfl
theorem sc (x:Nat×Int):∀u∈rt x,u.oneCell'=true:=by
 intro u hu
 simp[rt]at hu
 rcases hu with rfl|rfl<;>rfl
variable[Base]
structure aL (sb:Nat) (room:Nat) (u:World) (cv bv:Value) (xs:List ec) (cs:List Sc) (ys:List (Nat×Int)):Prop where
 blk:u.heap[sb]?=some (.cells #[ae (room:Nat),cv,bv] 189 (0,0))
 row:aS u (sb+1) 378 6 iD cv xs
 bonds:aS u (sb+1) 473 2 rt bv ys
 len:xs.length=cs.length
 ok:∀(i:Nat) x c,xs[i]?=some x->cs[i]?=some c->FJ u x c
 few:cs.length<=room
 room:room<=16777216/\Base.b<=sb
 flw:zU cs
 args:∀(i:Nat) c,cs[i]?=some c->∀a∈c.args,a<cs.length
 ar:∀(i:Nat) c,cs[i]?=some c->c.args.length<=255
 bnd:∀y∈ys,y.1<cs.length/\ -1<=y.2/\y.2<=100000000
 many:ys.length<=100000000
def sJ (xs:List ec) (b:Nat):Prop:=∃x∈xs,∃off,x.A=some (ak b off)
def lr:List TypeId:=[189,378,473]
section
variable {sb room:Nat} {u u':World} {cv bv:Value} {xs:List ec} {cs:List Sc} {ys:List (Nat×Int)} {bs:List Nat}
theorem aL.ge (h:aL sb room u cv bv xs cs ys):Base.b<=sb:=h.room.2
theorem aL.rowge (h:aL sb room u cv bv xs cs ys) {g:Nat} (hg:cv.ownBlock=some g):Base.b<=g:=by
 have:=(h.row.lt g hg).1
 have:=h.ge
 omega
theorem aL.bdge (h:aL sb room u cv bv xs cs ys) {g:Nat} (hg:bv.ownBlock=some g):Base.b<=g:=by
 have:=(h.bonds.lt g hg).1
 have:=h.ge
 omega
theorem aL.lt (h:aL sb room u cv bv xs cs ys):sb<u.heap.size:=(ap h.blk).1
theorem aL.cells (h:aL sb room u cv bv xs cs ys):u.cell? (ak sb 0)=some (ae (room:Nat))/\u.cell? (ak sb 1)=some cv/\u.cell? (ak sb 2)=some bv/\∀o,u.frozen? ⟨sb,o,none⟩=false:=
 ⟨by rw[cell_of_row u sb 0 _ _ (0,0) h.blk];rfl,by rw[cell_of_row u sb 1 _ _ (0,0) h.blk];rfl,by rw[cell_of_row u sb 2 _ _ (0,0) h.blk];rfl,fun o=>by simp[World.frozen?,h.blk]⟩
theorem aL.keep (h:aL sb room u cv bv xs cs ys) (hb:∀t b,t∈3::lr->aR u t b->u'.heap[b]?=u.heap[b]?):aL sb room u' cv bv xs cs ys:=
 ⟨(hb 189 sb (by decide) ⟨_,h.blk⟩).trans h.blk,h.row.keep fun k hk=>hb 378 k (by decide) (h.row.ty hk),h.bonds.keep fun k hk=>hb 473 k (by decide) (h.bonds.ty hk),h.len,
  fun i x c hx hc=>⟨(h.ok i x c hx hc).k,(h.ok i x c hx hc).n,(h.ok i x c hx hc).s,(h.ok i x c hx hc).to,(h.ok i x c hx hc).m,(h.ok i x c hx hc).args.keep fun b=>hb 3 b (by decide),(h.ok i x c hx hc).short,(h.ok i x c hx hc).top⟩,h.few,h.room,h.flw,h.args,h.ar,h.bnd,h.many⟩
theorem aL.keepA (h:aL sb room u cv bv xs cs ys) (hb:∀t b,t∈lr->aR u t b->u'.heap[b]?=u.heap[b]?) (ha:∀b,sJ xs b->aR u 3 b->u'.heap[b]?=u.heap[b]?):aL sb room u' cv bv xs cs ys:=
 ⟨(hb 189 sb (by decide) ⟨_,h.blk⟩).trans h.blk,h.row.keep fun k hk=>hb 378 k (by decide) (h.row.ty hk),h.bonds.keep fun k hk=>hb 473 k (by decide) (h.bonds.ty hk),h.len,
  fun i x c hx hc=>⟨(h.ok i x c hx hc).k,(h.ok i x c hx hc).n,(h.ok i x c hx hc).s,(h.ok i x c hx hc).to,(h.ok i x c hx hc).m,(h.ok i x c hx hc).args.keep' fun b off e ht=>ha b ⟨x,List.mem_of_getElem? hx,off,e⟩ ht,(h.ok i x c hx hc).short,(h.ok i x c hx hc).top⟩,h.few,h.room,h.flw,h.args,h.ar,h.bnd,h.many⟩
theorem aL.later (h:aL sb room u cv bv xs cs ys) (hb:aE u u'):aL sb room u' cv bv xs cs ys:=h.keep fun _ b _ ht=>hb.block b ht.lt
theorem aL.tf {B:Nat} {tys:List TypeId} (h:aL sb room u cv bv xs cs ys) (hf:eL B tys u u') (hn:∀t∈3::lr,t∉tys):aL sb room u' cv bv xs cs ys:=h.keep fun t _ ht hb=>hf.block hb (hn t ht)
theorem aL.at (h:aL sb room u cv bv xs cs ys) {i:Nat} {c:Sc} (hc:cs[i]?=some c):∃g cap x,cv=al g cs.length cap/\sb<g/\g<u.heap.size/\xs[i]?=some x/\FJ u x c/\(∀o,u.frozen? ⟨g,o,none⟩=false)∧
 u.cell? (ak g (i*6))=some (ae c.k)/\u.cell? (ak g (i*6+1))=some (ae c.n)/\u.cell? (ak g (i*6+2))=some (af c.s)/\u.cell? (ak g (i*6+3))=some (.slice x.A c.args.length x.c)/\u.cell? (ak g (i*6+4))=some (ae (Ey c.to))/\u.cell? (ak g (i*6+5))=some (ae x.top):=by
 have hi:i<xs.length:=by rw[h.len];exact(aq hc).1
 have hx:=au hi
 generalize xs[i]=x at hx
 obtain⟨g,cap,e1,e2,e3,e4,e5⟩:=h.row.cells fI (by rintro rfl;simp at hi)
 have ho:=h.ok i x c hx hc
 have hfz:∀o,u.frozen? ⟨g,o,none⟩=false:=fun o=>by
  obtain⟨iy,h0⟩:=h.row.ty (g:=g) (by rw[e1];rfl)
  simp[World.frozen?,h0]
 refine⟨g,cap,x,by rw[e1,h.len],by omega,e3,hx,ho,hfz,?_,?_,?_,?_,?_,?_⟩
 ·rw[<-ho.k];exact(e5 i x hx 0 _ rfl).1
 ·rw[<-ho.n];exact(e5 i x hx 1 _ rfl).1
 ·rw[<-ho.s];exact(e5 i x hx 2 _ rfl).1
 ·rw[<-ho.m];exact(e5 i x hx 3 _ rfl).1
 ·rw[<-ho.to];exact(e5 i x hx 4 _ rfl).1
 ·exact(e5 i x hx 5 _ rfl).1
end
end
end Go.Proofs.YtigeofkllldilaaGreatDoor
namespace Go.Proofs
open Go.Shelf
def Tryz.insInt_ren:Go.Shelf.Ren:=⟨fun|21=>77|27=>150|28=>151|35=>239|39=>309|n=>n,fun|22=>178|3=>3|4=>4|0=>0|n=>n,fun|n=>n⟩
theorem Tryz.insInt:Go.Proofs.Lays2.n21 prog Tryz.insInt_ren:= {
 mixed:=by kernel_rfl
 f21:=func77.trans (congrArg some (by kernel_rfl))
 f27:=func150.trans (congrArg some (by kernel_rfl))
 f28:=func151.trans (congrArg some (by kernel_rfl))
 f35:=func239.trans (congrArg some (by kernel_rfl))
 f39:=func309.trans (congrArg some (by kernel_rfl))
 t0:=underlying0
 a0:=Tryz.isAgg0
 z0:=Tryz.sizeOf0
 v0:=Tryz.zeroValue0
 t3:=underlying3
 a3:=Tryz.isAgg3
 z3:=Tryz.sizeOf3
 v3:=Tryz.zeroValue3
 t4:=underlying4
 a4:=Tryz.isAgg4
 z4:=Tryz.sizeOf4
 v4:=Tryz.zeroValue4
 t22:=underlying178
 a22:=Tryz.isAgg178
 z22:=Tryz.sizeOf178
 v22:=Tryz.zeroValue178
 i3:=by kernel_rfl}
end Go.Proofs
namespace Go.Proofs.YtigeofkllldilaaGreatDoor
section
open Go.RowKit
def eB (x:Int):List Value:=[ae x]
theorem iK (x:Int):(eB x).length=1:=rfl
theorem kC (x:Int):∀u∈eB x,u.oneCell'=true:=by
 intro u hu
 simp[eB]at hu
 subst hu
 rfl
theorem nC:∃i z,prog.info? 3=some i/\i.zero=some z/\i.size=1/\i.bytes=8/\z.cells.size=1:=by
 refine⟨_,_,rfl,rfl,?_,?_,?_⟩<;>kernel_rfl
def eG:Array Value->Nat->List Value->Array Value
 |cs,_,[]=>cs
 |cs,o,v::r=>eG (cs.setIfInBounds o v) (o+1) r
theorem bO {b:Nat} {t:TypeId} :∀(vs:List Value) (w:World) (o:Nat) (cs:Array Value),w.heap[b]?=some (.cells cs t (0,0))->(w.setCells b o vs).heap[b]?=some (.cells (eG cs o vs) t (0,0))
 |[],_,_,_,h=>h
 |v::r,w,o,cs,h=>bO r _ (o+1) _ (by simp[World.setCell,Array.getElem?_modify,h])
theorem bX {b:Nat} {S:Nat->Prop} {w:World} (hb:S b\/w.heap.size<=b):∀(vs:List Value) (u:World) (o:Nat),Fr S w u->Fr S w (u.setCells b o vs)
 |[],_,_,h=>h
 |v::r,_,o,h=>bX hb r _ (o+1) (h.setCell (p:=(ak b o)) hb v)
theorem dm:∀(vs:List Value) (cs:Array Value) (o:Nat),(eG cs o vs).size=cs.size
 |[],_,_=>rfl
 |v::r,cs,o=>by rw[eG,dm r,Array.size_setIfInBounds]
theorem eQ:∀(vs:List Value) (cs:Array Value) (o j:Nat),o+vs.length<=cs.size->(eG cs o vs)[j]?=if o<=j/\j<o+vs.length then vs[j-o]? else cs[j]?
 |[],cs,o,j,_=>by
  rw[eG,if_neg (by simp only[List.length_nil];omega)]
 |v::r,cs,o,j,h=>by
  simp only[List.length_cons]at h⊢
  rw[eG,eQ r _ (o+1) j (by rw[Array.size_setIfInBounds];omega)]
  by_cases h1:o+1<=j/\j<o+1+r.length
  ·rw[if_pos h1,if_pos (by omega),show j-o=(j-(o+1))+1 by omega,List.getElem?_cons_succ]
  ·rw[if_neg h1]
   by_cases h2:j=o
   ·subst h2
    rw[if_pos (by omega),Nat.sub_self,List.getElem?_cons_zero,Array.getElem?_setIfInBounds_self_of_lt (by omega)]
   ·rw[if_neg (by omega),Array.getElem?_setIfInBounds_ne (by omega)]
theorem lO (l:List Int):l.flatMap eB=l.map (Value.int .i64):=by
 induction l with
 |nil=>rfl
 |cons x r ih=>rw[List.flatMap_cons,ih];rfl
theorem pC {w:World} {B g cap:Nat} {cur:Array Value} {l:List Int} (hB:B<=g) (hg:w.heap[g]?=some (.cells cur 3 (0,0))) (h1:l.length<=cap) (h2:cap<=maxLen) (h3:cur.size=cap) (h4:∀j,j<l.length->cur[j]?=(l.map (Value.int .i64))[j]?):
 aS w B 3 1 eB (al g l.length cap) l:=by
 refine⟨by rw[bH iK],.inr ⟨g,cap,cur,rfl,hB,hg,h1,h2,by omega,?_⟩⟩
 rw[lO,Nat.mul_one]
 apply List.ext_getElem?
 intro j
 rw[List.getElem?_take]
 by_cases hj:j<l.length
 ·rw[if_pos hj,<-h4 j hj]
  simp
 ·rw[if_neg hj,List.getElem?_eq_none (by rw[List.length_map];omega)]
theorem eh (n:Nat):(Builtin.zeroCells (ae 0).cells n).size=n:=by simp[Builtin.zeroCells,Value.cells]
theorem oj (w:World) (B:Nat) (x:Int) (c:Nat) (hB:B<=w.heap.size):
 aS (w.drew.alloc (.cells ((([]++[ae x]:List Value)).toArray++Builtin.zeroCells (ae 0).cells (grownCap w (0+1) c 3-(0+1))) 3)) B 3 1 eB (al w.heap.size (0+1) (grownCap w (0+1) c 3)) [x]:=by
 have h1:=grownCap_ge w (0+1) c 3
 have h2:=grownCap_le_maxLen w (0+1) c 3 (by unfold maxLen;omega)
 generalize grownCap w (0+1) c 3=gc at*
 refine pC (l:=[x]) hB (heap_alloc_new w.drew _) h1 h2 (by rw[Array.size_append,eh];simp;omega) (fun j hj=>?_)
 have hj0:j=0:=by simpa using hj
 subst hj0
 rw[List.nil_append,Array.getElem?_append_left (by simp)]
 rfl
theorem pR (w:World) (B:Nat) (ov:Value) (l:List Int) (h:aS w B 3 1 eB ov l) (vb:Nat) (x:Int) (hv:w.heap[vb]?=some (.cells #[ae x] 3 (0,0))) (hvb:ov.ownBlock≠some vb) (hl:l.length<=100000) (hB:B<=w.heap.size):
 Calls prog 77 #[ov,ae 0,al vb 1 1] w fun e w'=>∃v',e=.returned v'/\aS w' B 3 1 eB v' (x::l)/\Fr (fun k=>ov.ownBlock=some k) w w'/\(v'.ownBlock=ov.ownBlock\/v'.ownBlock=some w.heap.size):=by
 have hvc:∀(j:Nat) v,[ae x][j]?=some v->w.cell? (ak vb (0+j))=some v:=fun j v hj=>by
  rw[Nat.zero_add,cell_of_row w vb j _ _ (0,0) hv]
  simpa using hj
 have hv1:∀v∈[ae x],v.oneCell'=true:=kC x
 rcases h.own.2 with⟨rfl,h0⟩|⟨g,cap,cur,rfl,hg,hgg,hn,hcap,hcur,htk⟩
 ·obtain rfl:l=[]:=List.eq_nil_of_length_eq_zero h0
  refine(Any2.slices_Insert_int_end_grow Tryz.insInt none 0 0 vb 0 1 1 [] [ae x] w (by omega) aC (by omega) (by omega) rfl rfl (fun _=>rfl) (fun a ha=>by cases ha) hvc hv1).mono ?_
  rintro e w' ⟨rfl,rfl⟩
  exact⟨_,rfl,oj w B x 0 hB,((Fr.refl _ w).drew).alloc _,.inr rfl⟩
 ·rw[Nat.mul_one]at hcur
  have hsome:∀j,j<cap->(w.cell? (ak g (0+j))).isSome=true:=fun j hj=>by
   rw[Nat.zero_add,cell_of_row w g j _ _ (0,0) hgg,Array.getElem?_eq_getElem (by omega)]
   rfl
  have hfz:∀j,w.frozen? ⟨g,j,none⟩=false:=fun j=>by simp[World.frozen?,hgg]
  by_cases hne:l=[]
  ·subst hne
   by_cases hc0:cap=0
   ·subst hc0
    refine(Any2.slices_Insert_int_end_grow Tryz.insInt (some (ak g 0)) 0 0 vb 0 1 1 [] [ae x] w (by omega) aC (by omega) (by omega) rfl rfl (fun h=>by cases h) (fun a ha j v hj=>by simp at hj) hvc hv1).mono ?_
    rintro e w' ⟨rfl,rfl⟩
    exact⟨_,rfl,oj w B x 0 hB,((Fr.refl _ w).drew).alloc _,.inr rfl⟩
   ·refine(Any2.slices_Insert_int_end_room Tryz.insInt g 0 0 cap vb 0 1 1 [ae x] w (by omega) (by omega) (by unfold maxLen at hcap;omega) rfl (fun j hj=>by simpa using hsome j (by omega)) (fun j hj=>hfz _) hvc hv1).mono ?_
    rintro e w' ⟨rfl,rfl⟩
    refine⟨_,rfl,?_,(bX (b:=g) (S:=(·=g)) (.inl rfl) _ _ _ (Fr.refl _ w)).weak (fun k hk=>by rw[hk];rfl),.inl rfl⟩
    refine pC (l:=[x]) hg (bO _ _ _ _ hgg) (by simp;omega) hcap (by rw[dm];exact hcur) (fun j hj=>?_)
    have hj0:j=0:=by simpa using hj
    subst hj0
    rw[eQ _ _ _ _ (by simp;omega)]
    simp
  ·have hpos:0<l.length:=List.length_pos_iff.2 hne
   have hcl:∀(j:Nat) v,(l.map (Value.int .i64))[j]?=some v->w.cell? (ak g (0+j))=some v:=fun j v hj=>by
    have hjl:j<l.length:=by simpa using(aq hj).1
    rw[lO,Nat.mul_one]at htk
    rw[Nat.zero_add,cell_of_row w g j _ _ (0,0) hgg]
    have e1:=congrArg (fun z=>z[j]?) htk
    simp only[List.getElem?_take,if_pos hjl]at e1
    rw[<-hj,<-e1]
    simp
   have h1c:∀v∈l.map (Value.int .i64),v.oneCell'=true:=fun v hv=>by
    obtain⟨y,_,rfl⟩:=List.mem_map.1 hv
    rfl
   by_cases hroom:l.length+1<=cap
   ·refine(Any2.slices_Insert_int_shift Tryz.insInt g 0 l.length cap 0 vb 0 1 1 (l.map (Value.int .i64)) [ae x] w hpos (by omega) hroom (by unfold maxLen at hcap;omega) (fun e=>hvb (by rw[e];rfl)) (by rw[List.length_map]) rfl hcl (fun j hj=>hsome j (by omega)) (fun j _=>hfz _) hvc h1c hv1
     3 3 1 cap (by simp[World.shape?,hv]) (by simp[World.shape?,hgg,hcur]) (by omega) (by simp[World.frozen?,hv]) (by simp[World.frozen?,hv])).mono ?_
    rintro e w' ⟨rfl,rfl⟩
    refine⟨_,rfl,?_,(bX (b:=g) (S:=(·=g)) (.inl rfl) _ _ _ (bX (b:=g) (S:=(·=g)) (.inl rfl) _ _ _ ((Fr.refl _ w).drew))).weak (fun k hk=>by rw[hk];rfl),.inl rfl⟩
    refine pC (l:=x::l) hg (bO _ _ _ _ (bO _ _ _ _ (show w.drew.heap[g]?=_ from hgg))) (by simpa using hroom) hcap (by rw[dm,dm];exact hcur) (fun j hj=>?_)
    rw[eQ _ _ _ _ (by rw[dm];simp;omega),eQ _ _ _ _ (by simp;omega)]
    simp only[List.length_cons]at hj
    rcases Nat.eq_zero_or_pos j with rfl|hj0
    ·simp
    ·rw[if_neg (by simp;omega),if_pos (by simp;omega)]
     obtain⟨j,rfl⟩:∃i,j=i+1:=⟨j-1,by omega⟩
     simp
   ·refine(Any2.slices_Insert_int_grow Tryz.insInt g 0 l.length cap 0 vb 0 1 1 (l.map (Value.int .i64)) [ae x] w hpos (by omega) hn (by omega) (by omega) (by rw[List.length_map]) rfl hcl hvc h1c hv1).mono ?_
    rintro e w' ⟨rfl,rfl⟩
    have h1:=grownCap_ge w (l.length+1) cap 3
    have h2:=grownCap_le_maxLen w (l.length+1) cap 3 (by unfold maxLen;omega)
    refine⟨_,rfl,?_,bX (.inr aC) _ _ _ ((bX (.inr aC) _ _ _ ((((Fr.refl _ w).alloc _).drew))).drew),.inr rfl⟩
    rw[show Tryz.insInt_ren.t 3=3 from rfl]
    generalize grownCap w (l.length+1) cap 3=gc at*
    refine pC (l:=x::l) hB (bO _ _ _ _ (show(World.drew _).heap[w.heap.size]?=_ from bO _ _ _ _ (show(World.drew _).heap[w.heap.size]?=_ from heap_alloc_new w _))) (by simpa using h1) h2 (by rw[dm,dm,Array.size_append,Array.size_append,eh,eh];simp;omega) (fun j hj=>?_)
    rw[eQ _ _ _ _ (by rw[dm,Array.size_append,Array.size_append,eh,eh];simp;omega),eQ _ _ _ _ (by rw[Array.size_append,Array.size_append,eh,eh];simp;omega)]
    simp only[List.length_cons]at hj
    rcases Nat.eq_zero_or_pos j with rfl|hj0
    ·simp
    ·rw[if_pos (by simp;omega)]
     obtain⟨j,rfl⟩:∃i,j=i+1:=⟨j-1,by omega⟩
     simp
open Go.RowKit Go.Maps
def sQ (n:Int):Value:=ae n
def fP (n:Int):Prop:= -9223372036854775808<=n/\n<=9223372036854775807
theorem FL {a:Int} (h:fP a):(Lit.int .i64 a).wf=true:=by
 have e1:IntKind.i64.min= -9223372036854775808:=by decide
 have e2:IntKind.i64.max=9223372036854775807:=by decide
 simp only[Lit.wf,Bool.and_eq_true,e1,e2]
 exact⟨decide_eq_true h.1,decide_eq_true h.2⟩
theorem Fd:KE prog 2 sQ fP:=
 ⟨int_keyed underlying2,fun _ hk=>⟨_,keyOf_int_mk underlying2 (FL hk)⟩,fun a b h=>by simpa[sQ]using h⟩
theorem vw {l:List (Int×Int)} {k n:Int} (h:∀x∈l,fP x.1) (hk:fP k):∀x∈cL l k n,fP x.1:=fun x hx=>by
 unfold cL at hx
 split at hx
 ·obtain⟨y,hy,e⟩:=List.mem_map.1 hx
  split at e
  ·rw[<-e];exact hk
  ·rw[<-e];exact h y hy
 ·rcases List.mem_append.1 hx with hx|hx
  ·exact h x hx
  ·rw[List.mem_singleton]at hx
   rw[hx];exact hk
structure M6 (u:World) (b:Nat) (l:List (Int×Int)):Prop where
 map:aW u b sQ sQ l
 ok:∀x∈l,fP x.1
theorem tF (w:World):(Instr.makeMap 116 none).run prog w=.ok (.map (some w.heap.size)) (w.alloc (.map #[] 0)):=by
 simp[Instr.makeMap,Result.andThen]
theorem map_some (w:World) (b:Nat):(binOp .neq 116 (.map (some b)) (.map none)).run prog w=.ok (.bool true) w:=by kernel_rfl
theorem qs (w:World):(Instr.makeMap 81 none).run prog w=.ok (.map (some w.heap.size)) (w.alloc (.map #[] 0)):=by
 simp[Instr.makeMap,Result.andThen]
section
variable {u u':World} {b:Nat} {l:List (Int×Int)}
theorem M6.lt (h:M6 u b l):b<u.heap.size:=h.map.lt
theorem M6.keep (h:M6 u b l) (hb:u'.heap[b]?=u.heap[b]?):M6 u' b l:=⟨h.map.keep hb,h.ok⟩
theorem M6.later (h:M6 u b l) (hb:aE u u'):M6 u' b l:=h.keep (hb.block _ h.lt)
theorem M6.fr {S:Nat->Prop} (h:M6 u b l) (hf:Fr S u u') (hS:¬S b):M6 u' b l:=h.keep (hf.block _ h.lt hS)
theorem M6.made (w:World):M6 (w.alloc (.map #[] 0)) w.heap.size []:=⟨aW.made w,fun x hx=>by cases hx⟩
theorem M6.look (h:M6 u b l) (k:Int) (hk:fP k):(Instr.lookup 116 (.map (some b)) (ae k) true).run prog u=.ok (.tuple #[ae ((aP l k).getD 0),.bool (aP l k).isSome]) u:=by
 have:=h.map.lookup (t:=116) Fd underlying116 (z:=ae 0) (fun u=>by kernel_rfl) h.ok (k:=k) hk true
 simp only[if_true]at this
 rw[show((aP l k).map sQ).getD (ae 0)=ae ((aP l k).getD 0)by cases aP l k<;>rfl]at this
 exact this
theorem M6.look2 (h:M6 u b l) (k:Int) (hk:fP k):(Instr.lookup 81 (.map (some b)) (ae k) true).run prog u=.ok (.tuple #[ae ((aP l k).getD 0),.bool (aP l k).isSome]) u:=by
 have:=h.map.lookup (t:=81) Fd underlying81 (z:=ae 0) (fun u=>by kernel_rfl) h.ok (k:=k) hk true
 simp only[if_true]at this
 rw[show((aP l k).map sQ).getD (ae 0)=ae ((aP l k).getD 0)by cases aP l k<;>rfl]at this
 exact this
theorem M6.miss (h:M6 u b []) (k:Int) (hk:fP k):(Instr.lookup 116 (.map (some b)) (ae k) true).run prog u=.ok (.tuple #[ae 0,.bool false]) u:=h.look k hk
theorem M6.hit (h:M6 u b l) (k:Int) (hk:fP k) {a:Int} (hg:aP l k=some a):(Instr.lookup 116 (.map (some b)) (ae k) true).run prog u=.ok (.tuple #[ae a,.bool true]) u:=by
 rw[h.look k hk,hg]
 rfl
theorem M6.lack (h:M6 u b l) (k:Int) (hk:fP k) (hg:aP l k=none):(Instr.lookup 116 (.map (some b)) (ae k) true).run prog u=.ok (.tuple #[ae 0,.bool false]) u:=by
 rw[h.look k hk,hg]
 rfl
theorem M6.put (h:M6 u b l) (k:Int) (hk:fP k) (n:Int):∃w',(Instr.mapUpdate 116 (.map (some b)) (ae k) (ae n)).run prog u=.ok () w'/\M6 w' b (cL l k n)/\u.grownBy w' (some b)/\w'.heap.size=u.heap.size:=by
 obtain⟨w',h1,h2,h3,h4⟩:=aW.update (P:=prog) (t:=116) Fd underlying116 h.map h.ok (k:=k) hk n
 exact⟨w',h1,⟨h2,vw h.ok hk⟩,h3,h4⟩
theorem M6.put2 (h:M6 u b l) (k:Int) (hk:fP k) (n:Int):∃w',(Instr.mapUpdate 81 (.map (some b)) (ae k) (ae n)).run prog u=.ok () w'/\M6 w' b (cL l k n)/\u.grownBy w' (some b)/\w'.heap.size=u.heap.size:=by
 obtain⟨w',h1,h2,h3,h4⟩:=aW.update (P:=prog) (t:=81) Fd underlying81 h.map h.ok (k:=k) hk n
 exact⟨w',h1,⟨h2,vw h.ok hk⟩,h3,h4⟩
end
end
section
open Go.RowKit Go.Maps
abbrev PK:=List UInt8×Int
def pk (k:PK):Value:=.agg #[af k.1,ae k.2]
def ez (k:PK):Prop:=k.1.length<=maxLen/\(-9223372036854775808<=k.2/\k.2<=9223372036854775807)
theorem zB (a b:PK) (h:pk a=pk b):a=b:=by
 obtain⟨a1,a2⟩:=a
 obtain⟨b1,b2⟩:=b
 simp[pk]at h
 rw[h.1,h.2]
theorem rT:laidOutB prog=true:=by kernel_rfl
theorem oR:prog.cellsOf 3=1:=by kernel_rfl
theorem pm:prog.cellsOf 9=1:=by kernel_rfl
theorem Dt {t:TypeId} (hrow:t<prog.types.size) (law:WideMaps.KeyLaw prog t) (his:prog.keyType t=true) (hc:prog.cellsOf t=2)
 (hf:∃f g,prog.underlying t=some (.struct #[f,g])/\f.type=9/\g.type=3/\f.offset=0/\g.offset=1/\(f.name != "_")=true/\(g.name != "_")=true):KE prog t pk ez:=by
 refine⟨Keyed.of_law law,fun k h=>?_,zB⟩
 obtain⟨f,g,hu,f1,g1,f2,g2,f3,g3⟩:=hf
 obtain⟨m,hm⟩:∃m,prog.types.size=m+1:=⟨prog.types.size-1,(Nat.succ_pred_eq_of_pos (Nat.lt_of_le_of_lt (Nat.zero_le _) hrow)).symm⟩
 have hw:(Lit.int .i64 k.2).wf=true:=FL h.2
 have h3:=h.1
 unfold keyOf
 simp only[hu]
 rw[if_pos (by simp[his,pk,Value.formed,hu,hc]),hm]
 refine⟨.string (keyBytes [.string k.1,.int .i64 k.2]),?_⟩
 unfold Program.keyLits
 simp only[hu,pk,Value.cells]
 rw[if_pos ⟨by rw[hc];rfl,by simp[f3,g3]⟩]
 simp only[List.mapM_cons,List.mapM_nil,f1,g1,f2,g2,oR,pm]
 simp[Program.keyLits,underlying3,underlying9,hw,ByteArray.size,h3]
theorem Ep:KE prog 334 pk ez:=
 have h:(334:TypeId)<prog.types.size:=of_decide_eq_true (by kernel_rfl)
 Dt h (deep_law_laid rT (m:=2) (by omega) h (by kernel_rfl) (by kernel_rfl)) (by kernel_rfl) (by kernel_rfl) ⟨_,_,underlying334,rfl,rfl,rfl,rfl,by decide,by decide⟩
theorem EK:KE prog 174 pk ez:=
 have h:(174:TypeId)<prog.types.size:=of_decide_eq_true (by kernel_rfl)
 Dt h (deep_law_laid rT (m:=2) (by omega) h (by kernel_rfl) (by kernel_rfl)) (by kernel_rfl) (by kernel_rfl) ⟨_,_,underlying174,rfl,rfl,rfl,rfl,by decide,by decide⟩
structure n7 (w u:World) (b:Nat) {κ ν:Type} [DecidableEq κ] (ek:κ->Value) (ev:ν->Value) (okk:κ->Prop) (l:List (κ×ν)):Prop where
 below:aE w u
 map:aW u b ek ev l
 ok:∀x∈l,okk x.1
 le:w.heap.size<=b
theorem AA {κ ν:Type} [DecidableEq κ] {okk:κ->Prop} {l:List (κ×ν)} {k:κ} {n:ν} (h:∀x∈l,okk x.1) (hk:okk k):∀x∈cL l k n,okk x.1:=fun x hx=>by
 unfold cL at hx
 split at hx
 ·obtain⟨y,hy,e⟩:=List.mem_map.1 hx
  split at e
  ·rw[<-e];exact hk
  ·rw[<-e];exact h y hy
 ·rcases List.mem_append.1 hx with hx|hx
  ·exact h x hx
  ·rw[List.mem_singleton]at hx
   rw[hx];exact hk
section
variable {P:Program} {κ ν:Type} [DecidableEq κ] {ek:κ->Value} {ev:ν->Value} {okk:κ->Prop} {w u:World} {b:Nat} {l:List (κ×ν)}
theorem n7.made (hw:aE w u):n7 w (u.alloc (.map #[] 0)) u.heap.size ek ev okk ([]:List (κ×ν)):=
 ⟨hw.alloc hw.size _,aW.made u,(fun x hx=>by cases hx),hw.size⟩
theorem n7.put {t kt et:TypeId} (K:KE P kt ek okk) (ht:P.underlying t=some (.map kt et)) (h:n7 w u b ek ev okk l) {k:κ} (hk:okk k) (v:ν):
 ∃u',(Instr.mapUpdate t (.map (some b)) (ek k) (ev v)).run P u=.ok () u'/\n7 w u' b ek ev okk (cL l k v)/\u'.heap.size=u.heap.size:=by
 obtain⟨u',h1,h2,h3,h4⟩:=aW.update K ht h.map h.ok hk v
 exact⟨u',h1,⟨⟨h3.os.trans h.below.os,h3.tape.trans h.below.tape,h3.output.trans h.below.output,Nat.le_trans h.below.size h3.size,
  fun i hi=>(h3.block i (Nat.lt_of_lt_of_le hi h.below.size) (fun e=>by cases e;exact absurd h.le (Nat.not_le.2 hi))).trans (h.below.block i hi)⟩,h2,AA h.ok hk,h.le⟩,h4⟩
end
end
section
open Go.RowKit Go.Maps
def Fj (s:List UInt8):Value:=af s
def DR (s:List UInt8):Prop:=s.length<=1000000
theorem Dh:KE prog 9 Fj DR:=
 ⟨string_keyed underlying9,fun k hk=>⟨_,Go.WideMaps.keyOf_string_mk underlying9 (by
   unfold DR at hk
   show k.toArray.size<=maxLen
   unfold maxLen
   simp
   omega)⟩,
  fun a b h=>by
   simp only[Fj,Value.string.injEq,ByteArray.mk.injEq]at h
   simpa using h⟩
open Go.Maps
structure PS where
 cs:List Sc
 fr:List (Int×Nat)
mutual
def aV:Tm->PS->Nat×PS
 | .mk k n s l,p=>
  if k=1 then
   match aP p.fr n with
   |some a=>(a,p)
   |none=>(p.cs.length,⟨p.cs++[⟨1,0,[],[],none⟩],p.fr++[(n,p.cs.length)]⟩)
  else if k=4 then
   (p.cs.length,⟨(bW l ⟨p.cs++[⟨4,0,s,[],none⟩],p.fr⟩).2.cs.set p.cs.length ⟨4,0,s,(bW l ⟨p.cs++[⟨4,0,s,[],none⟩],p.fr⟩).1,none⟩,(bW l ⟨p.cs++[⟨4,0,s,[],none⟩],p.fr⟩).2.fr⟩)
  else(p.cs.length,⟨p.cs++[⟨k,n,s,[],none⟩],p.fr⟩)
def bW:List Tm->PS->List Nat×PS
 |[],p=>([],p)
 |t::r,p=>((aV t p).1::(bW r (aV t p).2).1,(bW r (aV t p).2).2)
end
structure jp (p q:PS) (T T':Nat->Tm):Prop where
 len:p.cs.length<=q.cs.length
 old:∀i,i<p.cs.length->q.cs[i]?=p.cs[i]?/\T' i=T i
 new:∀(i:Nat) c,p.cs.length<=i->q.cs[i]?=some c->c.to=none/\(∀a∈c.args,a<q.cs.length)/\(c.k=1->∃n,(n,i)∈q.fr)/\(c.k≠1->T' i=.mk c.k c.n c.s (c.args.map T'))
 fr:∀x∈p.fr,x∈q.fr
structure yu (p:PS) (T:Nat->Tm):Prop where
 at':∀x∈p.fr,x.2<p.cs.length/\T x.2=.mk 1 x.1 [] []
 one:∀x∈p.fr,∀y∈p.fr,x.1=y.1->x.2=y.2
theorem jp.refl (p:PS) (T:Nat->Tm):jp p p T T:=⟨aC,fun _ _=>⟨rfl,rfl⟩,fun i c hi hc=>absurd (aq hc).1 (by omega),fun _ h=>h⟩
theorem jp.trans {p q r:PS} {T T' T'':Nat->Tm} (h:jp p q T T') (h':jp q r T' T'') (hT:∀(i:Nat) c,p.cs.length<=i->q.cs[i]?=some c->∀a∈c.args,a<q.cs.length):jp p r T T'':=by
 refine⟨Nat.le_trans h.len h'.len,fun i hi=>⟨(h'.old i (Nat.lt_of_lt_of_le hi h.len)).1.trans (h.old i hi).1,(h'.old i (Nat.lt_of_lt_of_le hi h.len)).2.trans (h.old i hi).2⟩,fun i c hi hc=>?_,fun x hx=>h'.fr x (h.fr x hx)⟩
 by_cases hq:i<q.cs.length
 ·obtain⟨h1,h2⟩:=h'.old i hq
  rw[h1]at hc
  obtain⟨g1,g2,g3,g4⟩:=h.new i c hi hc
  refine⟨g1,fun a ha=>Nat.lt_of_lt_of_le (g2 a ha) h'.len,fun e=>(g3 e).imp fun n hn=>h'.fr _ hn,fun e=>?_⟩
  rw[h2,g4 e]
  congr 1
  exact List.map_congr_left fun a ha=>((h'.old a (hT i c hi hc a ha)).2).symm
 ·exact h'.new i c (by omega) hc
theorem eY {k n:Int} {s:List UInt8} {l:List Tm} (h:(Tm.mk k n s l).may=true):∀t∈l,t.may=true:=by
 rw[Tm.may,Bool.and_eq_true]at h
 have:∀l:List Tm,Tm.mays l=true->∀t∈l,t.may=true:=by
  intro l
  induction l with
  |nil=>intro _ t ht;cases ht
  |cons a r ih=>
   intro h t ht
   rw[Tm.mays,Bool.and_eq_true]at h
   rcases List.mem_cons.1 ht with rfl|ht
   ·exact h.1
   ·exact ih h.2 t ht
 exact this l h.2
theorem eX {k n:Int} {s:List UInt8} {l:List Tm} (h:(Tm.mk k n s l).may=true):(k=1->s=[]/\l=[])/\(k≠4->l=[])/\(k=4->n=0):=by
 rw[Tm.may,Bool.and_eq_true]at h
 have h1:=h.1
 unfold eR at h1
 refine⟨fun e=>?_,fun e=>?_,fun e=>?_⟩
 ·rw[if_pos e]at h1
  have:=of_decide_eq_true h1
  exact⟨this.2.1,List.length_eq_zero_iff.1 this.2.2⟩
 ·split at h1
  ·exact List.length_eq_zero_iff.1 (of_decide_eq_true h1).2.2
  ·split at h1
   ·exact List.length_eq_zero_iff.1 (of_decide_eq_true h1).2
   ·split at h1
    ·exact List.length_eq_zero_iff.1 (of_decide_eq_true h1).2.2
    ·first
      |cases h1
      |(rw[if_neg e]at h1;cases h1)
 ·subst e
  rw[if_neg (by decide),if_neg (by decide),if_neg (by decide),if_pos rfl]at h1
  exact(of_decide_eq_true h1).1
mutual
theorem jX:∀(t:Tm) (p:PS) (T:Nat->Tm),yu p T->t.may=true→
 ∃T',jp p (aV t p).2 T T'/\yu (aV t p).2 T'/\(aV t p).1<(aV t p).2.cs.length/\T' (aV t p).1=t
 | .mk k n s l,p,T,hF,hm=>by
  obtain⟨m1,m2,m3⟩:=eX hm
  by_cases h1:k=1
  ·subst h1
   obtain⟨rfl,rfl⟩:=m1 rfl
   cases hg:aP p.fr n with
   |some a=>
    have e:aV (.mk 1 n [] []) p=(a,p):=by rw[aV,if_pos rfl,hg]
    rw[e]
    have hmem:(n,a)∈p.fr:=dA hg
    obtain⟨h2,h3⟩:=hF.at' _ hmem
    exact⟨T,jp.refl p T,hF,h2,h3⟩
   |none=>
    have e:aV (.mk 1 n [] []) p=(p.cs.length,⟨p.cs++[⟨1,0,[],[],none⟩],p.fr++[(n,p.cs.length)]⟩):=by rw[aV,if_pos rfl,hg]
    rw[e]
    refine⟨fun i=>if i=p.cs.length then .mk 1 n [] []else T i,⟨by simp,fun i hi=>⟨List.getElem?_append_left hi,if_neg (by omega)⟩,fun i c hi hc=>?_,fun x hx=>List.mem_append_left _ hx⟩,⟨fun x hx=>?_,fun x hx y hy exy=>?_⟩,by simp,if_pos rfl⟩
    ·rw[List.getElem?_append_right hi]at hc
     have hz:i-p.cs.length=0:=by have:=(aq hc).1;simpa using this
     rw[hz]at hc
     injection hc with hc
     subst hc
     refine⟨rfl,fun a ha=>(by cases ha),fun _=>⟨n,?_⟩,fun e=>absurd rfl e⟩
     have:i=p.cs.length:=by omega
     rw[this]
     exact List.mem_append_right _ (List.mem_singleton.2 rfl)
    ·rcases List.mem_append.1 hx with hx|hx
     ·obtain⟨h2,h3⟩:=hF.at' x hx
      exact⟨by simp only[List.length_append,List.length_singleton];omega,by rw[if_neg (by omega)];exact h3⟩
     ·rw[List.mem_singleton]at hx
      subst hx
      exact⟨by simp,if_pos rfl⟩
    ·have hno:∀z∈p.fr,z.1≠n:=fun z hz e=>by
      exact dr hg z hz e
     rcases List.mem_append.1 hx with hx|hx
     ·rcases List.mem_append.1 hy with hy|hy
      ·exact hF.one x hx y hy exy
      ·rw[List.mem_singleton]at hy
       subst hy
       exact absurd exy (hno x hx)
     ·rw[List.mem_singleton]at hx
      subst hx
      rcases List.mem_append.1 hy with hy|hy
      ·exact absurd exy.symm (hno y hy)
      ·rw[List.mem_singleton]at hy
       subst hy
       rfl
  ·by_cases h4:k=4
   ·subst h4
    obtain rfl:=m3 rfl
    let p1:PS:=⟨p.cs++[⟨4,0,s,[],none⟩],p.fr⟩
    have e:aV (.mk 4 0 s l) p=(p.cs.length,⟨(bW l p1).2.cs.set p.cs.length ⟨4,0,s,(bW l p1).1,none⟩,(bW l p1).2.fr⟩):=by rw[aV,if_neg h1,if_pos rfl]
    have hF1:yu p1 (fun i=>if i=p.cs.length then .mk 4 0 s l else T i):=⟨fun x hx=>by
     obtain⟨h2,h3⟩:=hF.at' x hx
     exact⟨by show x.2<(p.cs++[_]).length;rw[List.length_append];omega,by rw[if_neg (by omega)];exact h3⟩,hF.one⟩
    obtain⟨T',hP,hF',ha,hT⟩:=uy l p1 (fun i=>if i=p.cs.length then .mk 4 0 s l else T i) hF1 (eY hm)
    have hl1:p1.cs.length=p.cs.length+1:=by show(p.cs++[_]).length=_;simp
    have hlen:=hP.len
    rw[hl1]at hlen
    have hat:T' p.cs.length=.mk 4 0 s l:=by
     rw[(hP.old p.cs.length (by omega)).2]
     exact if_pos rfl
    rw[e]
    refine⟨T',⟨by simp only[List.length_set];omega,fun i hi=>⟨?_,?_⟩,fun i c hi hc=>?_,fun x hx=>hP.fr x hx⟩,⟨fun x hx=>?_,hF'.one⟩,by simp only[List.length_set];omega,hat⟩
    ·simp only
     rw[List.getElem?_set_ne (by omega),(hP.old i (by omega)).1]
     exact List.getElem?_append_left hi
    ·rw[(hP.old i (by omega)).2]
     exact if_neg (by omega)
    ·simp only at hc⊢
     by_cases ei:i=p.cs.length
     ·subst ei
      rw[List.getElem?_set_self (by omega)]at hc
      injection hc with hc
      subst hc
      refine⟨rfl,fun a haa=>by rw[List.length_set];exact ha a haa,fun e=>absurd (show(4:Int)=1 from e) (by decide),fun _=>?_⟩
      rw[hat,hT]
     ·rw[List.getElem?_set_ne (Ne.symm ei)]at hc
      obtain⟨g1,g2,g3,g4⟩:=hP.new i c (by omega) hc
      exact⟨g1,fun a haa=>by rw[List.length_set];exact g2 a haa,g3,g4⟩
    ·obtain⟨h2,h3⟩:=hF'.at' x hx
     exact⟨by simp only[List.length_set];exact h2,h3⟩
   ·obtain rfl:=m2 h4
    have e:aV (.mk k n s []) p=(p.cs.length,⟨p.cs++[⟨k,n,s,[],none⟩],p.fr⟩):=by rw[aV,if_neg h1,if_neg h4]
    rw[e]
    refine⟨fun i=>if i=p.cs.length then .mk k n s []else T i,⟨by simp,fun i hi=>⟨List.getElem?_append_left hi,if_neg (by omega)⟩,fun i c hi hc=>?_,fun x hx=>hx⟩,⟨fun x hx=>?_,hF.one⟩,by simp,if_pos rfl⟩
    ·rw[List.getElem?_append_right hi]at hc
     have hz:i-p.cs.length=0:=by have:=(aq hc).1;simpa using this
     rw[hz]at hc
     injection hc with hc
     subst hc
     exact⟨rfl,fun a ha=>(by cases ha),fun e=>absurd e h1,fun _=>if_pos (by omega)⟩
    ·obtain⟨h2,h3⟩:=hF.at' x hx
     exact⟨by simp only[List.length_append,List.length_singleton];omega,by rw[if_neg (by omega)];exact h3⟩
theorem uy:∀(l:List Tm) (p:PS) (T:Nat->Tm),yu p T->(∀t∈l,t.may=true)→
 ∃T',jp p (bW l p).2 T T'/\yu (bW l p).2 T'/\(∀a∈(bW l p).1,a<(bW l p).2.cs.length)/\(bW l p).1.map T'=l
 |[],p,T,hF,_=>⟨T,by rw[bW];exact jp.refl p T,by rw[bW];exact hF,by rw[bW];exact fun a ha=>(by cases ha),by rw[bW];rfl⟩
 |t::r,p,T,hF,hm=>by
  obtain⟨T1,hP1,hF1,ha1,hT1⟩:=jX t p T hF (hm t (List.mem_cons_self ..))
  obtain⟨T2,hP2,hF2,ha2,hT2⟩:=uy r (aV t p).2 T1 hF1 fun x hx=>hm x (List.mem_cons_of_mem _ hx)
  rw[bW]
  refine⟨T2,hP1.trans hP2 fun i c hi hc=>(hP1.new i c hi hc).2.1,hF2,fun a ha=>?_,?_⟩
  ·rcases List.mem_cons.1 ha with rfl|ha
   ·exact Nat.lt_of_lt_of_le ha1 hP2.len
   ·exact ha2 a ha
  ·rw[List.map_cons,hT2,(hP2.old _ ha1).2,hT1]
end
theorem xw (t:Tm) (hm:t.may=true):∃T,Dq (aV t ⟨[],[]⟩).2.cs T/\T (aV t ⟨[],[]⟩).1=t/\(aV t ⟨[],[]⟩).1<(aV t ⟨[],[]⟩).2.cs.length/\(∀(i:Nat) c,(aV t ⟨[],[]⟩).2.cs[i]?=some c->c.to=none/\∀a∈c.args,a<(aV t ⟨[],[]⟩).2.cs.length):=by
 obtain⟨T,hP,hF,h1,h2⟩:=jX t ⟨[],[]⟩ (fun _=>.mk 0 0 [] []) ⟨fun x hx=>(by cases hx),fun x hx=>(by cases hx)⟩ hm
 refine⟨T,⟨fun i c hc hk=>?_,fun i j c d hc hd hk hk' he=>?_,fun i c hc hk=>(hP.new i c (Nat.zero_le _) hc).2.2.2 hk,fun i c hc ht=>absurd (hP.new i c (Nat.zero_le _) hc).1 ht⟩,h2,h1,fun i c hc=>⟨(hP.new i c (Nat.zero_le _) hc).1,(hP.new i c (Nat.zero_le _) hc).2.1⟩⟩
 ·obtain⟨n,hn⟩:=(hP.new i c (Nat.zero_le _) hc).2.2.1 hk
  rw[(hF.at' _ hn).2]
  rfl
 ·obtain⟨n,hn⟩:=(hP.new i c (Nat.zero_le _) hc).2.2.1 hk
  obtain⟨m,hm'⟩:=(hP.new j d (Nat.zero_le _) hd).2.2.1 hk'
  have e1:=(hF.at' _ hn).2
  have e2:=(hF.at' _ hm').2
  simp only at e1 e2
  rw[e1,e2]at he
  injection he with _ he
  exact hF.one _ hn _ hm' he
end
end Go.Proofs.YtigeofkllldilaaGreatDoor
