import Derived.Test.YtigeofkllldilaaGreatDoorJM00
import Derived.DeepKeys4
set_option maxHeartbeats 32000000
set_option maxRecDepth 100000
set_option linter.unusedSectionVars false
open Go.Proofs.Tryz
namespace Go.Proofs.YtigeofkllldilaaGreatDoor
section
open Go.RowKit Go.Maps
open Go.MapKept (Stamped)
section
variable {κ ν:Type} [DecidableEq κ]
def aP (l:List (κ×ν)) (k:κ):Option ν:=(l.find? (fun x=>decide (x.1=k))).map (·.2)
def cL (l:List (κ×ν)) (k:κ) (v:ν):List (κ×ν):=
 if(aP l k).isSome then l.map (fun x=>if x.1=k then(k,v)else x)else l++[(k,v)]
def CE (l:List (κ×ν)) (k:κ):List (κ×ν):=l.filter (fun x=>decide (x.1≠k))
theorem iY {l:List (κ×ν)} {k:κ} (h:∀x∈l,x.1≠k):aP l k=none:=by
 unfold aP
 rw[List.find?_eq_none.2]
 ·rfl
 ·intro x hx;simpa using h x hx
theorem ie {l:List (κ×ν)} {k:κ} {v:ν} (hd:(l.map (·.1)).Nodup) (h:(k,v)∈l):aP l k=some v:=by
 induction l with
 |nil=>cases h
 |cons y r ih=>
  simp only[List.map_cons,List.nodup_cons]at hd
  rcases List.mem_cons.1 h with rfl|h
  ·simp[aP]
  ·have:y.1≠k:=fun e=>hd.1 (by rw[e];exact List.mem_map.2 ⟨_,h,rfl⟩)
   have:=ih hd.2 h
   simp only[aP]at this⊢
   simp[*]
theorem dA {l:List (κ×ν)} {k:κ} {v:ν} (h:aP l k=some v):(k,v)∈l:=by
 unfold aP at h
 obtain⟨x,hx,rfl⟩:=Option.map_eq_some_iff.1 h
 have h1:=List.mem_of_find?_eq_some hx
 have h2:=List.find?_some hx
 simp at h2
 subst h2
 exact h1
theorem dr {l:List (κ×ν)} {k:κ} (h:aP l k=none):∀x∈l,x.1≠k:=by
 intro x hx e
 unfold aP at h
 simp only[Option.map_eq_none_iff,List.find?_eq_none]at h
 exact h x hx (by simpa using e)
end
structure KE (P:Program) (kt:TypeId) {κ:Type} (ek:κ->Value) (okk:κ->Prop):Prop where
 keyed:Keyed P kt
 lit:∀k,okk k->∃l,keyOf P kt (ek k)=some l
 inj:∀a b,ek a=ek b->a=b
structure aW (w:World) (b:Nat) {κ ν:Type} (ek:κ->Value) (ev:ν->Value) (l:List (κ×ν)):Prop where
 blk:∃es clock,w.heap[b]?=some (.map es clock)/\es.toList.map (fun e=>(e.key,e.val))=l.map (fun x=>(ek x.1,ev x.2))/\Stamped es clock
 nodup:(l.map (·.1)).Nodup
section
variable {P:Program} {w w':World} {kt et t ty:TypeId} {κ ν:Type} {ek:κ->Value} {ev:ν->Value} {okk:κ->Prop} {l:List (κ×ν)} {b:Nat}
theorem aW.lt (h:aW w b ek ev l):b<w.heap.size:=by
 obtain⟨es,clock,hb,_⟩:=h.blk
 exact(ap hb).1
theorem aW.keep (h:aW w b ek ev l) (hb:w'.heap[b]?=w.heap[b]?):aW w' b ek ev l:=
 ⟨by rw[hb];exact h.blk,h.nodup⟩
theorem aW.alloc (h:aW w b ek ev l) (o:Obj):aW (w.alloc o) b ek ev l:=h.keep (Below.heap_alloc w o b h.lt)
theorem aW.drew (h:aW w b ek ev l):aW w.drew b ek ev l:=h.keep rfl
theorem aW.below {B:Nat} (h:aW w b ek ev l) (hb:Below B w w') (hB:b<B):aW w' b ek ev l:=h.keep (hb.block b hB)
theorem aW.setCell (h:aW w b ek ev l) {p:Addr} (hp:b≠p.block) (u:Value):aW (w.setCell p u) b ek ev l:=h.keep (Below.heap_setCell w p u b hp)
theorem aW.made (w:World):aW (w.alloc (.map #[] 0)) w.heap.size ek ev ([]:List (κ×ν)):=
 ⟨⟨#[],0,heap_alloc_new w _,rfl,MapKept.stamped_empty 0⟩,by simp⟩
theorem mA {es:Array MapEntry} (h:es.toList.map (fun e=>(e.key,e.val))=l.map (fun x=>(ek x.1,ev x.2))) {j:Nat} {e:MapEntry} (hj:es.toList[j]?=some e):
 ∃x,l[j]?=some x/\e.key=ek x.1/\e.val=ev x.2:=by
 have:=congrArg (fun z=>z[j]?) h
 simp only[List.getElem?_map,hj,Option.map_some]at this
 cases hx:l[j]? with
 |none=>rw[hx]at this;cases this
 |some x=>
  rw[hx]at this
  simp only[Option.map_some,Option.some.injEq,Prod.mk.injEq]at this
  exact⟨x,rfl,this.1,this.2⟩
theorem aW.len (ht:P.underlying t=some (.map kt et)) (h:aW w b ek ev l):(Builtin.len_ #[t] ty #[.map (some b)]).run P w=.ok (goInt l.length) w:=by
 obtain⟨es,clock,hb,hl,hs⟩:=h.blk
 have hg:=MapKept.run_getObj_map (P:=P) hb
 have e:es.size=l.length:=by simpa using congrArg List.length hl
 simp[Builtin.len_,run_underlying ht,hg,e,Result.andThen]
theorem fC (w:World) (b:Nat) (o:Obj):w.grownBy {w with heap:=w.heap.setIfInBounds b o} (some b):=
 ⟨rfl,rfl,rfl,by simp,fun k _ hk=>by
  have:b≠k:=fun e=>hk (by rw[e])
  simp[this]⟩
variable[DecidableEq κ]
theorem aW.found (K:KE P kt ek okk) (hok:∀x∈l,okk x.1) {es:Array MapEntry} (hl:es.toList.map (fun e=>(e.key,e.val))=l.map (fun x=>(ek x.1,ev x.2))) (hd:(l.map (·.1)).Nodup) (w:World) {k:κ} (hk:okk k):
 ((Instr.findKey kt (ek k) es.toList).run P w=.ok none w/\(∀e∈es.toList,e.key≠ek k)/\aP l k=none)∨
 ∃j e x,(Instr.findKey kt (ek k) es.toList).run P w=.ok (some (j,e.val)) w/\es.toList[j]?=some e/\e.key=ek k/\l[j]?=some x/\x.1=k/\e.val=ev x.2/\aP l k=some x.2:=by
 obtain⟨lk,hlk⟩:=K.lit k hk
 have hkeys:∀e∈es.toList,∃l,keyOf P kt e.key=some l:=by
  intro e he
  obtain⟨j,hj⟩:=List.getElem?_of_mem he
  obtain⟨x,hx,h1,_⟩:=mA hl hj
  rw[h1]
  exact K.lit _ (hok _ (List.mem_of_getElem? hx))
 rcases K.keyed.find w hlk es.toList hkeys with⟨h1,h2⟩|⟨j,e,h1,h2,h3⟩
 ·refine .inl ⟨h1,h2,iY ?_⟩
  intro x hx e
  obtain⟨j,hj⟩:=List.getElem?_of_mem hx
  have:=congrArg (fun z=>z[j]?) hl
  simp only[List.getElem?_map,hj,Option.map_some]at this
  cases he:es.toList[j]? with
  |none=>rw[he]at this;cases this
  |some y=>
   rw[he]at this
   simp only[Option.map_some,Option.some.injEq,Prod.mk.injEq]at this
   exact h2 y (List.mem_of_getElem? he) (by rw[this.1,e])
 ·obtain⟨x,hx,h4,h5⟩:=mA hl h2
  have hxk:x.1=k:=K.inj _ _ (h4.symm.trans h3)
  refine .inr ⟨j,e,x,h1,h2,h3,hx,hxk,h5,ie hd ?_⟩
  rw[<-hxk]
  exact List.mem_of_getElem? hx
theorem aW.lookup (K:KE P kt ek okk) (ht:P.underlying t=some (.map kt et)) {z:Value} (hz:∀u:World,(zeroValue et).run P u=.ok z u) (h:aW w b ek ev l) (hok:∀x∈l,okk x.1) {k:κ} (hk:okk k) (c:Bool):
 (Instr.lookup t (.map (some b)) (ek k) c).run P w=.ok (if c then .tuple #[((aP l k).map ev).getD z,.bool (aP l k).isSome]else((aP l k).map ev).getD z) w:=by
 obtain⟨es,clock,hb,hl,hs⟩:=h.blk
 obtain⟨lk,hlk⟩:=K.lit k hk
 have hg:=MapKept.run_getObj_map (P:=P) hb
 have hc:=K.keyed.check w es.isEmpty hlk
 rcases aW.found K hok hl h.nodup w hk with⟨h1,_,h3⟩|⟨j,e,x,h1,_,_,_,_,h5,h6⟩
 ·cases c<;>simp[Instr.lookup,run_underlying ht,hg,hc,h1,hz,h3,Result.andThen]
 ·cases c<;>simp[Instr.lookup,run_underlying ht,hg,hc,h1,h5,h6,Result.andThen]
theorem wT (l:List (κ×ν)) (k:κ) (v:ν):(cL l k v).map (·.1)=if(aP l k).isSome then l.map (·.1)else l.map (·.1)++[k]:=by
 unfold cL
 split
 ·rw[List.map_map]
  refine List.map_congr_left fun x _=>?_
  simp only[Function.comp_apply]
  split
  ·rename_i h;exact h.symm
  ·rfl
 ·simp
theorem nR {l:List (κ×ν)} (hd:(l.map (·.1)).Nodup) (k:κ) (v:ν):((cL l k v).map (·.1)).Nodup:=by
 rw[wT]
 split
 ·exact hd
 ·rename_i h
  have hn:aP l k=none:=by simpa using h
  refine List.nodup_append.2 ⟨hd,by simp,?_⟩
  intro a ha c hc
  simp only[List.mem_singleton]at hc
  subst hc
  obtain⟨x,hx,rfl⟩:=List.mem_map.1 ha
  exact dr hn x hx
theorem aW.update (K:KE P kt ek okk) (ht:P.underlying t=some (.map kt et)) (h:aW w b ek ev l) (hok:∀x∈l,okk x.1) {k:κ} (hk:okk k) (v:ν):
 ∃w',(Instr.mapUpdate t (.map (some b)) (ek k) (ev v)).run P w=.ok () w'/\aW w' b ek ev (cL l k v)/\w.grownBy w' (some b)/\w'.heap.size=w.heap.size:=by
 obtain⟨es,clock,hb,hl,hs⟩:=h.blk
 obtain⟨lk,hlk⟩:=K.lit k hk
 have hg:=MapKept.run_getObj_map (P:=P) hb
 have hc:=K.keyed.check w false hlk
 have hlt:=h.lt
 rcases aW.found K hok hl h.nodup w hk with⟨h1,h2,h3⟩|⟨j,e,x,h1,h2,h4,hx,hxk,h5,h6⟩
 ·refine⟨{w with heap:=w.heap.setIfInBounds b (.map (es.push {key:=ek k,val:=ev v,born:=clock}) (clock+1))},?_,⟨⟨es.push {key:=ek k,val:=ev v,born:=clock},clock+1,by simp[hlt],?_,MapKept.stamped_push hs (fun x hx=>h2 x hx)⟩,nR h.nodup k v⟩,fC _ _ _,by simp⟩
  ·simp[Instr.mapUpdate,run_underlying ht,hg,hc,h1,MapKept.run_setObj_map _ hb,Result.andThen]
  ·simp[cL,h3,hl]
 ·have hst:=K.keyed.stays w hlk
  have hes:es[j]?=some e:=by simpa using h2
  refine⟨{w with heap:=w.heap.setIfInBounds b (.map (es.modify j fun e=> {e with key:=ek k,val:=ev v}) clock)},?_,⟨⟨es.modify j fun e=> {e with key:=ek k,val:=ev v},clock,by simp[hlt],?_,MapKept.stamped_modify hs j _ (fun _ _=>rfl) (fun e' _ he'=>?_)⟩,nR h.nodup k v⟩,fC _ _ _,by simp⟩
  ·simp[Instr.mapUpdate,run_underlying ht,hg,hc,h1,hes,h4,hst,MapKept.run_setObj_map _ hb,Result.andThen]
  ·have hu:cL l k v=l.modify j (fun _=>(k,v)):=by
    unfold cL
    rw[if_pos (by simp[h6])]
    apply List.ext_getElem?
    intro i
    rw[List.getElem?_modify,List.getElem?_map]
    by_cases hij:j=i
    ·subst hij;simp[hx,hxk]
    ·cases hi:l[i]? with
     |none=>rfl
     |some y=>
      have hne:y.1≠k:=by
       intro e1
       have hnd:=h.nodup
       unfold List.Nodup at hnd
       rw[List.pairwise_iff_getElem]at hnd
       obtain⟨hil,hiy⟩:=aq hi
       obtain⟨hjl,hjx⟩:=aq hx
       rcases Nat.lt_or_gt_of_ne hij with hlt'|hlt'
       ·exact hnd j i (by simpa using hjl) (by simpa using hil) hlt' (by simp[hiy,hjx,e1,hxk])
       ·exact hnd i j (by simpa using hil) (by simpa using hjl) hlt' (by simp[hiy,hjx,e1,hxk])
      simp[hne,hij]
   rw[hu]
   simp only[Array.toList_modify]
   apply List.ext_getElem?
   intro i
   have hli:=congrArg (fun z=>z[i]?) hl
   simp only[List.getElem?_map]at hli
   simp only[List.getElem?_map,List.getElem?_modify]
   by_cases hij:j=i
   ·subst hij
    simp[hes,hx]
   ·cases hi:es.toList[i]?<;>cases hi':l[i]?<;>rw[hi,hi']at hli<;>simp_all
  ·rw[hes]at he'
   cases he'
   exact h4.symm
theorem dV {α β:Type} (f:α->β) (l:List α) (i:Nat):(l.eraseIdx i).map f=(l.map f).eraseIdx i:=by
 induction l generalizing i with
 |nil=>rfl
 |cons a r ih=>cases i with
  |zero=>rfl
  |succ i=>simp[ih]
theorem jK {l:List (κ×ν)} (hd:(l.map (·.1)).Nodup) {j:Nat} {x:κ×ν} (hx:l[j]?=some x):CE l x.1=l.eraseIdx j:=by
 induction l generalizing j with
 |nil=>simp at hx
 |cons y r ih=>
  simp only[List.map_cons,List.nodup_cons]at hd
  cases j with
  |zero=>
   simp at hx
   subst hx
   have:∀z∈r,z.1≠y.1:=fun z hz e=>hd.1 (by rw[<-e];exact List.mem_map.2 ⟨_,hz,rfl⟩)
   unfold CE
   rw[List.filter_cons_of_neg (by simp)]
   rw[List.filter_eq_self.2 (by intro z hz;simpa using this z hz)]
   rfl
  |succ j=>
   simp at hx
   have hne:y.1≠x.1:=fun e=>hd.1 (by rw[e];exact List.mem_map.2 ⟨_,List.mem_of_getElem? hx,rfl⟩)
   have:=ih hd.2 hx
   unfold CE at this⊢
   rw[List.filter_cons_of_pos (by simpa using hne),this]
   rfl
end
end
section
open Go.RowKit Go.Maps
def aR (u:World) (t:TypeId) (b:Nat):Prop:=∃cs,u.heap[b]?=some (.cells cs t (0,0))
theorem aR.ne {u:World} {t t':TypeId} {b b':Nat} (h:aR u t b) (h':aR u t' b') (hn:t≠t'):b≠b':=by
 rintro rfl
 obtain⟨c,h⟩:=h
 obtain⟨c',h'⟩:=h'
 rw[h]at h'
 injection h' with h'
 injection h' with _ h'
 exact hn h'
theorem aR.keep {u u':World} {t:TypeId} {b:Nat} (h:aR u t b) (hb:u'.heap[b]?=u.heap[b]?):aR u' t b:=by
 obtain⟨c,h⟩:=h
 exact⟨c,hb.trans h⟩
theorem aR.lt {u:World} {t:TypeId} {b:Nat} (h:aR u t b):b<u.heap.size:=by
 obtain⟨c,h⟩:=h
 exact(ap h).1
theorem aS.ty {α:Type} {w:World} {B sz:Nat} {e:TypeId} {enc:α->List Value} {v:Value} {l:List α} (h:aS w B e sz enc v l) {g:Nat} (hg:v.ownBlock=some g):aR w e g:=by
 rcases h.own.2 with⟨rfl,_⟩|⟨g',cap,cur,rfl,_,hgg,_⟩
 ·cases hg
 ·injection hg with hg
  subst hg
  exact⟨cur,hgg⟩
theorem aW.ne {κ ν:Type} {u:World} {b b':Nat} {ek:κ->Value} {ev:ν->Value} {l:List (κ×ν)} {t:TypeId} (h:aW u b ek ev l) (h':aR u t b'):b≠b':=by
 rintro rfl
 obtain⟨es,clock,h1,_⟩:=h.blk
 obtain⟨c,h2⟩:=h'
 rw[h1]at h2
 cases h2
open Go.RowKit
inductive aI (w:World) (S:Nat->Prop):TV->Tm->Prop
 |mk (x:TV) (args:List Tm) (xs:List TV) (h1:xs.length=x.len) (h2:args.length=x.len) (h3:x.s.length<=maxLen)
   (hc:∀(i:Nat) (y:TV),xs[i]?=some y->∃b off,x.A=some (ak b off)/\S b/\∀(j:Nat) u,(aJ y)[j]?=some u->w.cell? (ak b (off+i*4+j))=some u)
   (ht:∀(i:Nat) (y:TV) (t:Tm),xs[i]?=some y->args[i]?=some t->aI w S y t):aI w S x (.mk x.k x.n x.s args)
section
variable {w w':World} {S S':Nat->Prop} {x:TV} {t:Tm}
theorem aI.keep (h:aI w S x t) (hS:∀b,S b->S' b) (hb:∀b,S b->w'.heap[b]?=w.heap[b]?):aI w' S' x t:=by
 induction h with
 |mk x args xs h1 h2 h3 hc ht ih=>
  refine .mk x args xs h1 h2 h3 (fun i y hy=>?_) ih
  obtain⟨b,off,e1,e2,e3⟩:=hc i y hy
  exact⟨b,off,e1,hS b e2,fun j u hu=>(World.cell?_of_block (a:=⟨b,off+i*4+j,none⟩) (hb b e2)).trans (e3 j u hu)⟩
theorem aI.at (h:aI w S x t) {B:Nat} (hS:∀b,S b->b<B):aO w B x t:=by
 induction h with
 |mk x args xs h1 h2 h3 hc ht ih=>
  refine .mk x args xs h1 h2 h3 (fun i y hy=>?_) ih
  obtain⟨b,off,e1,e2,e3⟩:=hc i y hy
  exact⟨b,off,e1,hS b e2,e3⟩
theorem aI.leaf (w:World) (S:Nat->Prop) (k n:Int) (s:List UInt8) (A:Option Addr) (c:Nat) (hs:s.length<=maxLen):aI w S ⟨k,n,s,A,0,c⟩ (.mk k n s []):=
 .mk ⟨k,n,s,A,0,c⟩ [] [] rfl rfl hs (fun i y h=>by simp at h) (fun i y t h=>by simp at h)
def ct (w:World) (S:Nat->Prop) (xs:List TV) (l:List Tm):Prop:=xs.length=l.length/\∀(i:Nat) (y:TV) (t:Tm),xs[i]?=some y->l[i]?=some t->aI w S y t
theorem ct.nil (w:World) (S:Nat->Prop):ct w S [] []:=⟨rfl,fun i y t h=>by simp at h⟩
theorem ct.keep {xs:List TV} {l:List Tm} (h:ct w S xs l) (hS:∀b,S b->S' b) (hb:∀b,S b->w'.heap[b]?=w.heap[b]?):ct w' S' xs l:=
 ⟨h.1,fun i y t h1 h2=>(h.2 i y t h1 h2).keep hS hb⟩
theorem ct.snoc {xs:List TV} {l:List Tm} (h:ct w S xs l) (hx:aI w S x t):ct w S (xs++[x]) (l++[t]):=by
 refine⟨by rw[List.length_append,List.length_append,h.1];rfl,fun i y u h1 h2=>?_⟩
 by_cases hi:i<xs.length
 ·rw[List.getElem?_append_left hi]at h1
  rw[List.getElem?_append_left (by rw[<-h.1];exact hi)]at h2
  exact h.2 i y u h1 h2
 ·have hi2:i=xs.length:=by
   have:=(aq h1).1
   simp at this
   omega
  subst hi2
  rw[List.getElem?_append_right aC,Nat.sub_self]at h1
  rw[h.1,List.getElem?_append_right aC,Nat.sub_self]at h2
  have e1:x=y:=by simpa using h1
  have e2:t=u:=by simpa using h2
  subst e1 e2
  exact hx
theorem ct.comp {B:Nat} {v:Value} {xs:List TV} {l:List Tm} {A:Option Addr} {n c:Nat} (h:ct w S xs l) (hr:aS w B 27 4 aJ v xs) (hv:v=.slice A n c) (hS:∀g,v.ownBlock=some g->S g) (s:List UInt8) (hs:s.length<=maxLen) (k m:Int):
 aI w S ⟨k,m,s,A,n,c⟩ (.mk k m s l):=by
 subst hv
 have hlen:n=xs.length:=hr.len
 refine .mk ⟨k,m,s,A,n,c⟩ l xs hlen.symm (by rw[<-h.1,hlen]) hs (fun i y hy=>?_) h.2
 obtain⟨g,cap,e1,_,_,_,hc⟩:=hr.cells bh (by rintro rfl;cases hy)
 injection e1 with e1 e2 e3
 refine⟨g,0,e1,hS g (by rw[e1];rfl),fun j u hu=>?_⟩
 rw[Nat.zero_add]
 exact(hc i y hy j u hu).1
theorem ct.block {xs:List TV} {l:List Tm} {g:Nat} (h:ct w S xs l) (hg:w.heap[g]?=some (.cells (xs.flatMap aJ).toArray 27 (0,0))) (hS:S g) (s:List UInt8) (hs:s.length<=maxLen) (k m:Int) (c:Nat):
 aI w S ⟨k,m,s,some (ak g 0),xs.length,c⟩ (.mk k m s l):=by
 refine .mk ⟨k,m,s,some (ak g 0),xs.length,c⟩ l xs rfl h.1.symm hs (fun i y hy=>⟨g,0,rfl,hS,fun j u hu=>?_⟩) h.2
 rw[Nat.zero_add,cell_of_row w g (i*4+j) _ _ (0,0) hg]
 have:=dU bh xs i j y u hy hu
 simpa using this
end
end
end Go.Proofs.YtigeofkllldilaaGreatDoor
